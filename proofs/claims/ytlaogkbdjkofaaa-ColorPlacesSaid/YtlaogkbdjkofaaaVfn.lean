/- Functions in virtual code, as they come in. No program. -/
import Derived.Test.YtlaogkbdjkofaaaOpens
import Derived.Test.YtlaogkbdjkofaaaHeadW
import Derived.Test.YtlaogkbdjkofaaaBlk
import Derived.Test.YtlaogkbdjkofaaaTimingB
import Derived.SizedLaws
namespace Go.Proofs.Ytlaogkbdjkofaaa
open Go.RowKit
set_option linter.unusedVariables false

/-- an instruction: its numbers, its slice of arguments, and what lies in it -/
structure VI where
  (op d a b n : Int) (sa : Option Addr) (sn sc : Nat) (args : List Int)
def viC (x : VI) : List Value := [.int .i64 x.op, .int .i64 x.d, .int .i64 x.a, .int .i64 x.b, .int .i64 x.n, .slice x.sa x.sn x.sc]
theorem viC_len (x : VI) : (viC x).length = 6 := rfl
structure VI.Ok (w : World) (x : VI) : Prop where
  came : Came w x.sa x.sn x.sc 1 (x.args.map intCells)
  reach : x.sn * 8 ≤ 140737488351232
  op : I64 x.op
  d : I64 x.d
  a : I64 x.a
  b : I64 x.b
  n : I64 x.n
  args : ∀ z ∈ x.args, I64 z
/-- a block's end -/
structure VE where
  (kind op a b n : Int) (sa : Option Addr) (sn sc : Nat) (to : List Int)
def veC (x : VE) : List Value := [.int .i64 x.kind, .int .i64 x.op, .int .i64 x.a, .int .i64 x.b, .int .i64 x.n, .slice x.sa x.sn x.sc]
structure VE.Ok (w : World) (x : VE) : Prop where
  came : Came w x.sa x.sn x.sc 1 (x.to.map intCells)
  reach : x.sn * 8 ≤ 140737488351232
  kind : I64 x.kind
  op : I64 x.op
  a : I64 x.a
  b : I64 x.b
  n : I64 x.n
  to : ∀ z ∈ x.to, I64 z
/-- a block -/
structure VB where
  (sa : Option Addr) (sn sc : Nat) (ins : List VI) (e : VE)
def vbC (x : VB) : List Value := .slice x.sa x.sn x.sc :: veC x.e
theorem vbC_len (x : VB) : (vbC x).length = 7 := rfl
structure VB.Ok (w : World) (x : VB) : Prop where
  came : Came w x.sa x.sn x.sc 6 (x.ins.map viC)
  reach : x.sn * 48 ≤ 140737488351232
  ins : ∀ z ∈ x.ins, z.Ok w
  e : x.e.Ok w
/-- a function -/
structure VF where
  (name regs : Int) (pa : Option Addr) (pn pc : Nat) (params : List Int) (sa : Option Addr) (sn sc : Nat) (blocks : List VB)
def VF.v (f : VF) : Value := .agg #[.int .i64 f.name, .slice f.pa f.pn f.pc, .int .i64 f.regs, .slice f.sa f.sn f.sc]
structure VF.Ok (w : World) (f : VF) : Prop where
  pcame : Came w f.pa f.pn f.pc 1 (f.params.map intCells)
  preach : f.pn * 8 ≤ 140737488351232
  par : ∀ z ∈ f.params, I64 z
  name : I64 f.name
  regs : I64 f.regs
  came : Came w f.sa f.sn f.sc 7 (f.blocks.map vbC)
  reach : f.sn * 56 ≤ 140737488351232
  blocks : ∀ z ∈ f.blocks, z.Ok w
section
variable {w w' : World}
theorem VI.Ok.below {x : VI} (h : x.Ok w) (hb : Below w.heap.size w w') : x.Ok w' := ⟨h.came.below hb, h.reach, h.op, h.d, h.a, h.b, h.n, h.args⟩
theorem VE.Ok.below {x : VE} (h : x.Ok w) (hb : Below w.heap.size w w') : x.Ok w' := ⟨h.came.below hb, h.reach, h.kind, h.op, h.a, h.b, h.n, h.to⟩
theorem VB.Ok.below {x : VB} (h : x.Ok w) (hb : Below w.heap.size w w') : x.Ok w' := ⟨h.came.below hb, h.reach, fun z hz => (h.ins z hz).below hb, h.e.below hb⟩
theorem VF.Ok.below {f : VF} (h : f.Ok w) (hb : Below w.heap.size w w') : f.Ok w' := ⟨h.pcame.below hb, h.preach, h.par, h.name, h.regs, h.came.below hb, h.reach, fun z hz => (h.blocks z hz).below hb⟩
theorem VI.Ok.len {x : VI} (h : x.Ok w) : x.args.length = x.sn := by simpa using h.came.count
theorem VE.Ok.len {x : VE} (h : x.Ok w) : x.to.length = x.sn := by simpa using h.came.count
theorem VB.Ok.len {x : VB} (h : x.Ok w) : x.ins.length = x.sn := by simpa using h.came.count
theorem VF.Ok.len {f : VF} (h : f.Ok w) : f.blocks.length = f.sn := by simpa using h.came.count
theorem VF.Ok.plen {f : VF} (h : f.Ok w) : f.params.length = f.pn := by simpa using h.pcame.count
/-- where the rows' cells lie -/
theorem came_vis {a : Option Addr} {n c : Nat} {l : List VI} (h : Came w a n c 6 (l.map viC)) (h0 : 0 < n) :
    ∃ g off, a = some ⟨g, off, none⟩ ∧ g < w.heap.size ∧ ∀ i (hi : i < l.length), w.cell? ⟨g, off + i * 6, none⟩ = some (.int .i64 l[i].op) ∧ w.cell? ⟨g, off + i * 6 + 1, none⟩ = some (.int .i64 l[i].d) ∧ w.cell? ⟨g, off + i * 6 + 2, none⟩ = some (.int .i64 l[i].a) ∧
      w.cell? ⟨g, off + i * 6 + 3, none⟩ = some (.int .i64 l[i].b) ∧ w.cell? ⟨g, off + i * 6 + 4, none⟩ = some (.int .i64 l[i].n) ∧ w.cell? ⟨g, off + i * 6 + 5, none⟩ = some (.slice l[i].sa l[i].sn l[i].sc) := by
  obtain ⟨g, off, ha, hlt, hc⟩ := h.cells h0 (by omega)
  refine ⟨g, off, ha, hlt, fun i hi => ?_⟩
  have hv : (l.map viC)[i]? = some (viC l[i]) := by rw [List.getElem?_map, List.getElem?_eq_getElem hi]; rfl
  have H := hc i _ hv
  exact ⟨H 0 (by omega), H 1 (by omega), H 2 (by omega), H 3 (by omega), H 4 (by omega), H 5 (by omega)⟩
theorem came_vbs {a : Option Addr} {n c : Nat} {l : List VB} (h : Came w a n c 7 (l.map vbC)) (h0 : 0 < n) :
    ∃ g off, a = some ⟨g, off, none⟩ ∧ g < w.heap.size ∧ ∀ i (hi : i < l.length), w.cell? ⟨g, off + i * 7, none⟩ = some (.slice l[i].sa l[i].sn l[i].sc) ∧ w.cell? ⟨g, off + i * 7 + 1, none⟩ = some (.int .i64 l[i].e.kind) ∧ w.cell? ⟨g, off + i * 7 + 2, none⟩ = some (.int .i64 l[i].e.op) ∧
      w.cell? ⟨g, off + i * 7 + 3, none⟩ = some (.int .i64 l[i].e.a) ∧ w.cell? ⟨g, off + i * 7 + 4, none⟩ = some (.int .i64 l[i].e.b) ∧ w.cell? ⟨g, off + i * 7 + 5, none⟩ = some (.int .i64 l[i].e.n) ∧ w.cell? ⟨g, off + i * 7 + 6, none⟩ = some (.slice l[i].e.sa l[i].e.sn l[i].e.sc) := by
  obtain ⟨g, off, ha, hlt, hc⟩ := h.cells h0 (by omega)
  refine ⟨g, off, ha, hlt, fun i hi => ?_⟩
  have hv : (l.map vbC)[i]? = some (vbC l[i]) := by rw [List.getElem?_map, List.getElem?_eq_getElem hi]; rfl
  have H := hc i _ hv
  exact ⟨H 0 (by omega), H 1 (by omega), H 2 (by omega), H 3 (by omega), H 4 (by omega), H 5 (by omega), H 6 (by omega)⟩
end
def viV (x : VI) : Value := .agg #[.int .i64 x.op, .int .i64 x.d, .int .i64 x.a, .int .i64 x.b, .int .i64 x.n, .slice x.sa x.sn x.sc]
def veV (x : VE) : Value := .agg #[.int .i64 x.kind, .int .i64 x.op, .int .i64 x.a, .int .i64 x.b, .int .i64 x.n, .slice x.sa x.sn x.sc]
def vbV (x : VB) : Value := .agg #[.slice x.sa x.sn x.sc, veV x.e]

/-- what an instruction defines, what it uses, what the end of a block uses -/
def defV (x : VI) : Int := if x.op = 13 ∨ x.op = 23 then 0 else x.d
def usesV (x : VI) : List Int := nz (x.a :: x.b :: x.args)
def endV (x : VE) : List Int := nz [x.a, x.b]
/-- a fresh row of integers -/
def VList (rs : List Int) (w : World) (e : Ending) (w' : World) : Prop :=
  ∃ v, e = .returned v ∧ w'.ownsRow w.heap.size 3 1 v rs.length (rs.map (Value.int .i64)) ∧ Below w.heap.size w w'
end Go.Proofs.Ytlaogkbdjkofaaa
