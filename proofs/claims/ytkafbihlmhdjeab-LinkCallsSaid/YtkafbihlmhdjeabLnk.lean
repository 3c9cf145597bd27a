/- Functions before they are linked, as they come in. No program. -/
import Derived.Test.YtkafbihlmhdjeabOpens
import Derived.Test.YtkafbihlmhdjeabHeadW
import Derived.Test.YtkafbihlmhdjeabBlk
import Derived.Test.YtkafbihlmhdjeabItemT
import Derived.Test.YtkafbihlmhdjeabOwn
namespace Go.Proofs.Ytkafbihlmhdjeab
open Go.RowKit
set_option linter.unusedVariables false

/-- a reference -/
structure LC where
  (item fn : Int)
def lcC (x : LC) : List Value := [.int .i64 x.item, .int .i64 x.fn]
/-- a stack map -/
structure LM where
  (item : Int) (after : Bool) (sa : Option Addr) (sn sc : Nat) (slots : List Int) (regs : Int)
def lmC (x : LM) : List Value := [.int .i64 x.item, .bool x.after, .slice x.sa x.sn x.sc, .int .i64 x.regs]
def lmV (x : LM) : Value := .agg #[.int .i64 x.item, .bool x.after, .slice x.sa x.sn x.sc, .int .i64 x.regs]
structure LM.Ok (w : World) (x : LM) : Prop where
  came : Came w x.sa x.sn x.sc 1 (x.slots.map intCells)
  reach : x.sn * 8 ≤ 140737488351232
  item : I64 x.item
  regs : I64 x.regs
  slots : ∀ z ∈ x.slots, I64 z
/-- a function -/
structure LF where
  (name : Int) (ia : Option Addr) (il ic : Nat) (its : List Item) (ca : Option Addr) (cl cc : Nat) (calls : List LC) (ma : Option Addr) (ml mc : Nat) (maps : List LM) (size : Int)
def lfC (f : LF) : List Value := [.int .i64 f.name, .slice f.ia f.il f.ic, .slice f.ca f.cl f.cc, .slice f.ma f.ml f.mc, .int .i64 f.size]
def LF.v (f : LF) : Value := .agg #[.int .i64 f.name, .slice f.ia f.il f.ic, .slice f.ca f.cl f.cc, .slice f.ma f.ml f.mc, .int .i64 f.size]
theorem lfC_len (x : LF) : (lfC x).length = 5 := rfl
structure LF.Ok (w : World) (f : LF) : Prop where
  icame : Came w f.ia f.il f.ic 6 (f.its.map itemCells)
  ireach : f.il * 48 ≤ 140737488351232
  ccame : Came w f.ca f.cl f.cc 2 (f.calls.map lcC)
  creach : f.cl * 16 ≤ 140737488351232
  mcame : Came w f.ma f.ml f.mc 4 (f.maps.map lmC)
  mreach : f.ml * 40 ≤ 140737488351232
  maps : ∀ z ∈ f.maps, z.Ok w
  name : I64 f.name
  size : I64 f.size
  its : ∀ z ∈ f.its, I64 z.op ∧ I64 z.d ∧ I64 z.a ∧ I64 z.b ∧ I64 z.n ∧ I64 z.tg
  calls : ∀ z ∈ f.calls, I64 z.item ∧ I64 z.fn
section
variable {w w' : World}
theorem LM.Ok.below {x : LM} (h : x.Ok w) (hb : Below w.heap.size w w') : x.Ok w' := ⟨h.came.below hb, h.reach, h.item, h.regs, h.slots⟩
theorem LF.Ok.below {f : LF} (h : f.Ok w) (hb : Below w.heap.size w w') : f.Ok w' := ⟨h.icame.below hb, h.ireach, h.ccame.below hb, h.creach, h.mcame.below hb, h.mreach, fun z hz => (h.maps z hz).below hb, h.name, h.size, h.its, h.calls⟩
theorem LM.Ok.len {x : LM} (h : x.Ok w) : x.slots.length = x.sn := by simpa using h.came.count
theorem LF.Ok.ilen {f : LF} (h : f.Ok w) : f.its.length = f.il := by simpa using h.icame.count
theorem LF.Ok.clen {f : LF} (h : f.Ok w) : f.calls.length = f.cl := by simpa using h.ccame.count
theorem LF.Ok.mlen {f : LF} (h : f.Ok w) : f.maps.length = f.ml := by simpa using h.mcame.count
/-- the functions of a list -/
structure Lnk (w : World) (a : Option Addr) (n c : Nat) (l : List LF) : Prop where
  came : Came w a n c 5 (l.map lfC)
  ok : ∀ f ∈ l, f.Ok w
theorem Lnk.below {a : Option Addr} {n c : Nat} {l : List LF} (h : Lnk w a n c l) (hb : Below w.heap.size w w') : Lnk w' a n c l := ⟨h.came.below hb, fun f hf => (h.ok f hf).below hb⟩
theorem Lnk.len {a : Option Addr} {n c : Nat} {l : List LF} (h : Lnk w a n c l) : l.length = n := by simpa using h.came.count
/-- the cells of a function of the list -/
structure LfAt (w : World) (g o : Nat) (f : LF) : Prop where
  c0 : w.cell? ⟨g, o, none⟩ = some (.int .i64 f.name)
  c1 : w.cell? ⟨g, o + 1, none⟩ = some (.slice f.ia f.il f.ic)
  c2 : w.cell? ⟨g, o + 2, none⟩ = some (.slice f.ca f.cl f.cc)
  c3 : w.cell? ⟨g, o + 3, none⟩ = some (.slice f.ma f.ml f.mc)
  c4 : w.cell? ⟨g, o + 4, none⟩ = some (.int .i64 f.size)
theorem LfAt.later {g o B : Nat} {f : LF} (h : LfAt w g o f) (hb : Below B w w') (hB : g < B) : LfAt w' g o f :=
  ⟨(hb.cell (by exact hB)).trans h.c0, (hb.cell (by exact hB)).trans h.c1, (hb.cell (by exact hB)).trans h.c2, (hb.cell (by exact hB)).trans h.c3, (hb.cell (by exact hB)).trans h.c4⟩
theorem came_lfs {a : Option Addr} {n c : Nat} {l : List LF} (h : Came w a n c 5 (l.map lfC)) (h0 : 0 < n) :
    ∃ g off, a = some ⟨g, off, none⟩ ∧ g < w.heap.size ∧ ∀ i (hi : i < l.length), LfAt w g (off + i * 5) l[i] := by
  obtain ⟨g, off, ha, hlt, hc⟩ := h.cells h0 (by omega)
  refine ⟨g, off, ha, hlt, fun i hi => ?_⟩
  have hv : (l.map lfC)[i]? = some (lfC l[i]) := by rw [List.getElem?_map, List.getElem?_eq_getElem hi]; rfl
  have H := hc i _ hv
  exact ⟨H 0 (by omega), H 1 (by omega), H 2 (by omega), H 3 (by omega), H 4 (by omega)⟩
theorem came_lcs {a : Option Addr} {n c : Nat} {l : List LC} (h : Came w a n c 2 (l.map lcC)) (h0 : 0 < n) :
    ∃ g off, a = some ⟨g, off, none⟩ ∧ g < w.heap.size ∧ ∀ i (hi : i < l.length), w.cell? ⟨g, off + i * 2, none⟩ = some (.int .i64 l[i].item) ∧ w.cell? ⟨g, off + i * 2 + 1, none⟩ = some (.int .i64 l[i].fn) := by
  obtain ⟨g, off, ha, hlt, hc⟩ := h.cells h0 (by omega)
  refine ⟨g, off, ha, hlt, fun i hi => ?_⟩
  have hv : (l.map lcC)[i]? = some (lcC l[i]) := by rw [List.getElem?_map, List.getElem?_eq_getElem hi]; rfl
  have H := hc i _ hv
  exact ⟨H 0 (by omega), H 1 (by omega)⟩
theorem came_lms {a : Option Addr} {n c : Nat} {l : List LM} (h : Came w a n c 4 (l.map lmC)) (h0 : 0 < n) :
    ∃ g off, a = some ⟨g, off, none⟩ ∧ g < w.heap.size ∧ ∀ i (hi : i < l.length), w.cell? ⟨g, off + i * 4, none⟩ = some (.int .i64 l[i].item) ∧ w.cell? ⟨g, off + i * 4 + 1, none⟩ = some (.bool l[i].after) ∧
      w.cell? ⟨g, off + i * 4 + 2, none⟩ = some (.slice l[i].sa l[i].sn l[i].sc) ∧ w.cell? ⟨g, off + i * 4 + 3, none⟩ = some (.int .i64 l[i].regs) := by
  obtain ⟨g, off, ha, hlt, hc⟩ := h.cells h0 (by omega)
  refine ⟨g, off, ha, hlt, fun i hi => ?_⟩
  have hv : (l.map lmC)[i]? = some (lmC l[i]) := by rw [List.getElem?_map, List.getElem?_eq_getElem hi]; rfl
  have H := hc i _ hv
  exact ⟨H 0 (by omega), H 1 (by omega), H 2 (by omega), H 3 (by omega)⟩
end
end Go.Proofs.Ytkafbihlmhdjeab
