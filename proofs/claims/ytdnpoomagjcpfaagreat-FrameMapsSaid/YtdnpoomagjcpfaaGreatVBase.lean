/- Functions in virtual code, as they come in. No program. slices.DeleteFunc at rows of integers, where what is deleted is zero. What an instruction in virtual code defines and uses: the program's functions and the reference's. The members that an instruction in virtual code uses: tile's shapeOf and the reference's letters. The errors of an instruction and of a block's end, as functions; tile's 'in'. -/
import Derived.Test.YtdnpoomagjcpfaaGreatBase
import Derived.Test.YtdnpoomagjcpfaaGreatTimRef
import Derived.SizedLaws
import Derived.Lib.SliceRun
import Derived.Laws.AppendOwnNone
import Derived.Deep.Onto
namespace Go.Proofs.YtdnpoomagjcpfaaGreat
open Go.RowKit
set_option linter.unusedVariables false
set_option linter.unusedSimpArgs false

section
/-- an instruction: its numbers, its slice of arguments, and what lies in it -/
structure VI where
 (op d a b n : Int) (sa : Option Addr) (sn sc : Nat) (args : List Int)
def viC (x : VI) : List Value := [.int .i64 x.op, .int .i64 x.d, .int .i64 x.a, .int .i64 x.b, .int .i64 x.n, .slice x.sa x.sn x.sc]
theorem viC_len (x : VI) : (viC x).length = 6 := rfl
structure VI.Ok (w : World) (x : VI) : Prop where
 came : Came w x.sa x.sn x.sc 1 (x.args.map intCells)
 reach : x.sn * 8 ≤ 140737488351232
 op : I64 x.op
 d : I64 x.d
 a : I64 x.a
 b : I64 x.b
 n : I64 x.n
 args : ∀ z ∈ x.args, I64 z
/-- a block's end -/
structure VE where
 (kind op a b n : Int) (sa : Option Addr) (sn sc : Nat) (to : List Int)
def veC (x : VE) : List Value := [.int .i64 x.kind, .int .i64 x.op, .int .i64 x.a, .int .i64 x.b, .int .i64 x.n, .slice x.sa x.sn x.sc]
structure VE.Ok (w : World) (x : VE) : Prop where
 came : Came w x.sa x.sn x.sc 1 (x.to.map intCells)
 reach : x.sn * 8 ≤ 140737488351232
 kind : I64 x.kind
 op : I64 x.op
 a : I64 x.a
 b : I64 x.b
 n : I64 x.n
 to : ∀ z ∈ x.to, I64 z
/-- a block -/
structure VB where
 (sa : Option Addr) (sn sc : Nat) (ins : List VI) (e : VE)
def vbC (x : VB) : List Value := .slice x.sa x.sn x.sc :: veC x.e
theorem vbC_len (x : VB) : (vbC x).length = 7 := rfl
structure VB.Ok (w : World) (x : VB) : Prop where
 came : Came w x.sa x.sn x.sc 6 (x.ins.map viC)
 reach : x.sn * 48 ≤ 140737488351232
 ins : ∀ z ∈ x.ins, z.Ok w
 e : x.e.Ok w
/-- a function -/
structure VF where
 (name regs : Int) (pa : Option Addr) (pn pc : Nat) (params : List Int) (sa : Option Addr) (sn sc : Nat) (blocks : List VB)
def VF.v (f : VF) : Value := .agg #[.int .i64 f.name, .slice f.pa f.pn f.pc, .int .i64 f.regs, .slice f.sa f.sn f.sc]
structure VF.Ok (w : World) (f : VF) : Prop where
 pcame : Came w f.pa f.pn f.pc 1 (f.params.map intCells)
 preach : f.pn * 8 ≤ 140737488351232
 par : ∀ z ∈ f.params, I64 z
 name : I64 f.name
 regs : I64 f.regs
 came : Came w f.sa f.sn f.sc 7 (f.blocks.map vbC)
 reach : f.sn * 56 ≤ 140737488351232
 blocks : ∀ z ∈ f.blocks, z.Ok w
section
variable {w w' : World}
theorem VI.Ok.below {x : VI} (h : x.Ok w) (hb : Below w.heap.size w w') : x.Ok w' := ⟨h.came.below hb, h.reach, h.op, h.d, h.a, h.b, h.n, h.args⟩
theorem VE.Ok.below {x : VE} (h : x.Ok w) (hb : Below w.heap.size w w') : x.Ok w' := ⟨h.came.below hb, h.reach, h.kind, h.op, h.a, h.b, h.n, h.to⟩
theorem VB.Ok.below {x : VB} (h : x.Ok w) (hb : Below w.heap.size w w') : x.Ok w' := ⟨h.came.below hb, h.reach, fun z hz => (h.ins z hz).below hb, h.e.below hb⟩
theorem VF.Ok.below {f : VF} (h : f.Ok w) (hb : Below w.heap.size w w') : f.Ok w' := ⟨h.pcame.below hb, h.preach, h.par, h.name, h.regs, h.came.below hb, h.reach, fun z hz => (h.blocks z hz).below hb⟩
theorem VI.Ok.len {x : VI} (h : x.Ok w) : x.args.length = x.sn := by simpa using h.came.count
theorem VE.Ok.len {x : VE} (h : x.Ok w) : x.to.length = x.sn := by simpa using h.came.count
theorem VB.Ok.len {x : VB} (h : x.Ok w) : x.ins.length = x.sn := by simpa using h.came.count
theorem VF.Ok.len {f : VF} (h : f.Ok w) : f.blocks.length = f.sn := by simpa using h.came.count
theorem VF.Ok.plen {f : VF} (h : f.Ok w) : f.params.length = f.pn := by simpa using h.pcame.count
/-- where the rows' cells lie -/
theorem came_vis {a : Option Addr} {n c : Nat} {l : List VI} (h : Came w a n c 6 (l.map viC)) (h0 : 0 < n) :
  ∃ g off, a = some ⟨g, off, none⟩ ∧ g < w.heap.size ∧ ∀ i (hi : i < l.length), w.cell? ⟨g, off + i * 6, none⟩ = some (.int .i64 l[i].op) ∧ w.cell? ⟨g, off + i * 6 + 1, none⟩ = some (.int .i64 l[i].d) ∧ w.cell? ⟨g, off + i * 6 + 2, none⟩ = some (.int .i64 l[i].a) ∧
   w.cell? ⟨g, off + i * 6 + 3, none⟩ = some (.int .i64 l[i].b) ∧ w.cell? ⟨g, off + i * 6 + 4, none⟩ = some (.int .i64 l[i].n) ∧ w.cell? ⟨g, off + i * 6 + 5, none⟩ = some (.slice l[i].sa l[i].sn l[i].sc) := by
 obtain ⟨g, off, ha, hlt, hc⟩ := h.cells h0 (by omega)
 refine ⟨g, off, ha, hlt, fun i hi => ?_⟩
 have hv : (l.map viC)[i]? = some (viC l[i]) := by rw [List.getElem?_map, List.getElem?_eq_getElem hi]; rfl
 have H := hc i _ hv
 exact ⟨H 0 (by omega), H 1 (by omega), H 2 (by omega), H 3 (by omega), H 4 (by omega), H 5 (by omega)⟩
theorem came_vbs {a : Option Addr} {n c : Nat} {l : List VB} (h : Came w a n c 7 (l.map vbC)) (h0 : 0 < n) :
  ∃ g off, a = some ⟨g, off, none⟩ ∧ g < w.heap.size ∧ ∀ i (hi : i < l.length), w.cell? ⟨g, off + i * 7, none⟩ = some (.slice l[i].sa l[i].sn l[i].sc) ∧ w.cell? ⟨g, off + i * 7 + 1, none⟩ = some (.int .i64 l[i].e.kind) ∧ w.cell? ⟨g, off + i * 7 + 2, none⟩ = some (.int .i64 l[i].e.op) ∧
   w.cell? ⟨g, off + i * 7 + 3, none⟩ = some (.int .i64 l[i].e.a) ∧ w.cell? ⟨g, off + i * 7 + 4, none⟩ = some (.int .i64 l[i].e.b) ∧ w.cell? ⟨g, off + i * 7 + 5, none⟩ = some (.int .i64 l[i].e.n) ∧ w.cell? ⟨g, off + i * 7 + 6, none⟩ = some (.slice l[i].e.sa l[i].e.sn l[i].e.sc) := by
 obtain ⟨g, off, ha, hlt, hc⟩ := h.cells h0 (by omega)
 refine ⟨g, off, ha, hlt, fun i hi => ?_⟩
 have hv : (l.map vbC)[i]? = some (vbC l[i]) := by rw [List.getElem?_map, List.getElem?_eq_getElem hi]; rfl
 have H := hc i _ hv
 exact ⟨H 0 (by omega), H 1 (by omega), H 2 (by omega), H 3 (by omega), H 4 (by omega), H 5 (by omega), H 6 (by omega)⟩
end
def viV (x : VI) : Value := .agg #[.int .i64 x.op, .int .i64 x.d, .int .i64 x.a, .int .i64 x.b, .int .i64 x.n, .slice x.sa x.sn x.sc]
def veV (x : VE) : Value := .agg #[.int .i64 x.kind, .int .i64 x.op, .int .i64 x.a, .int .i64 x.b, .int .i64 x.n, .slice x.sa x.sn x.sc]
def vbV (x : VB) : Value := .agg #[.slice x.sa x.sn x.sc, veV x.e]

/-- what an instruction defines, what it uses, what the end of a block uses -/
def defV (x : VI) : Int := if x.op = 13 ∨ x.op = 23 then 0 else x.d
def usesV (x : VI) : List Int := nz (x.a :: x.b :: x.args)
def endV (x : VE) : List Int := nz [x.a, x.b]
/-- a fresh row of integers -/
def VList (rs : List Int) (w : World) (e : Ending) (w' : World) : Prop :=
 ∃ v, e = .returned v ∧ w'.ownsRow w.heap.size 3 1 v rs.length (rs.map (Value.int .i64)) ∧ Below w.heap.size w w'
end

section
/-- the first zero of a row -/
def zIx : List Int → Nat
 | [] => 0
 | x :: r => if x = 0 then 0 else zIx r + 1
theorem zIx_le : ∀ l : List Int, zIx l ≤ l.length
 | [] => Nat.le_refl _
 | x :: r => by
  unfold zIx
  have := zIx_le r
  split
  ·simp
  ·simp; omega
theorem zIx_nz : ∀ (l : List Int) (j : Nat), j < zIx l → (l.getD j 0 == 0) = false
 | [], j, h => by simp [zIx] at h
 | x :: r, 0, h => by
  unfold zIx at h
  split at h
  ·omega
  ·simpa
 | x :: r, j + 1, h => by
  unfold zIx at h
  split at h
  ·omega
  ·simpa using zIx_nz r j (by omega)
theorem zIx_z : ∀ (l : List Int), zIx l < l.length → l.getD (zIx l) 0 = 0
 | [], h => by simp at h
 | x :: r, h => by
  unfold zIx at h ⊢
  split
  ·simpa
  ·rename_i hx
   rw [if_neg hx] at h
   simpa using zIx_z r (by simpa using h)
theorem zIx_is (l : List Int) (k : Nat) (hk : k < l.length) (hz : l.getD k 0 = 0) (hn : ∀ j, j < k → (l.getD j 0 == 0) = false) : zIx l = k := by
 rcases Nat.lt_trichotomy (zIx l) k with h | h | h
 ·have h1 := hn _ h
  rw [zIx_z l (by omega)] at h1
  simp at h1
 ·exact h
 ·have := zIx_nz l k h
  rw [hz] at this
  simp at this
theorem zIx_none (l : List Int) (hn : ∀ j, j < l.length → (l.getD j 0 == 0) = false) : zIx l = l.length := by
 rcases Nat.lt_or_ge (zIx l) l.length with h | h
 ·have h1 := hn _ h
  rw [zIx_z l h] at h1
  simp at h1
 ·have := zIx_le l; omega
theorem nz_take_zIx (l : List Int) : ∀ k, k ≤ zIx l → nz (l.take k) = l.take k := fun k hk => by
 unfold nz
 rw [List.filter_eq_self]
 intro x hx
 obtain ⟨i, hi, rfl⟩ := List.getElem_of_mem hx
 have hi2 : i < k ∧ i < l.length := by rw [List.length_take] at hi; omega
 have := zIx_nz l i (by omega)
 rw [List.getD_eq_getElem?_getD, List.getElem?_eq_getElem hi2.2] at this
 simpa [bne] using this
theorem nz_snoc (l : List Int) (x : Int) : nz (l ++ [x]) = if x = 0 then nz l else nz l ++ [x] := by
 unfold nz
 rw [List.filter_append]
 by_cases h : x = 0 <;> simp [h]
def ixZ (zs : List Int) (n : Nat) : Int := if zIx zs < n then (zIx zs : Int) else -1
def NixPost (c : Int) (w : World) (e : Ending) (w' : World) : Prop := e = .returned (.int .i64 c) ∧ w = w'
theorem came_owns_ints {w : World} {base : Nat} {e : TypeId} {a : Option Addr} {n c m : Nat} {l : List Int} (h : w.ownsRow base e 1 (.slice a n c) m (l.map (Value.int .i64))) : Came w a n c 1 (l.map intCells) :=
 (came_of_owns (E := intCells) (fun z => ⟨_, rfl⟩) (by exact h)).2
def DelPost (zs : List Int) (base : Nat) (v : Value) (w : World) (e : Ending) (w' : World) : Prop :=
 ∃ v', e = .returned v' ∧ w'.ownsRow base 3 1 v' (nz zs).length ((nz zs).map (Value.int .i64)) ∧ w.grownBy w' v.ownBlock
/-- where the loop stands: i elements are kept of the first j -/
def DelSt (zs : List Int) (base g n c : Nat) (w wr : World) (i j : Nat) : Prop :=
 i < j ∧ j ≤ n ∧ (nz (zs.take j)).length = i ∧ ∃ ys : List Int, ys.length = n ∧ wr.ownsRow base 3 1 (.slice (some ⟨g, 0, none⟩) n c) n (ys.map (Value.int .i64)) ∧ ys.take i = nz (zs.take j) ∧ (∀ k, j ≤ k → ys[k]? = zs[k]?) ∧ w.grownBy wr (some g)
theorem grownTrans {w w' w'' : World} {r : Option Nat} (h : w.grownBy w' r) (k : w'.grownBy w'' r) : w.grownBy w'' r :=
 ⟨k.os.trans h.os, k.tape.trans h.tape, k.output.trans h.output, Nat.le_trans h.size k.size, fun x hx hne => (k.block x (Nat.lt_of_lt_of_le hx h.size) hne).trans (h.block x hx hne)⟩
theorem Tryz.zeroZ3 (w : World) : (zeroValue 3).run Tryz.prog w = .ok (.int .i64 0) w := by kernel_rfl
/-- the beginning of an own row, where what lies behind has been overwritten -/
theorem ownsCut {w : World} {base g n c i : Nat} {e : TypeId} {l : List Value} (h : w.ownsRow base e 1 (.slice (some ⟨g, 0, none⟩) n c) n l) (hi : i ≤ n) {ys : List Int} (hl : (ys.map (Value.int .i64)).length = n) (vs : List Value) (hy : l = ys.map (Value.int .i64) := by rfl) :
  (w.setCells g i vs).ownsRow base e 1 (.slice (some ⟨g, 0, none⟩) i c) i ((ys.take i).map (Value.int .i64)) := by
 subst hy
 obtain ⟨_, h2⟩ := h
 rcases h2 with ⟨h0, _⟩ | ⟨g', cap', cur, hv, hg, hh, hn, hcap, hsz, htake⟩
 ·cases h0
 ·cases hv
  have hln : ys.length = n := by simpa using hl
  obtain ⟨cur', k1, k2, k3⟩ := setCells_heap g e vs i w cur hh
  refine ⟨by simp; omega, .inr ⟨g, c, cur', rfl, hg, k1, by omega, hcap, by omega, ?_⟩⟩
  apply List.ext_getElem?
  intro j
  by_cases hj : j < i
  ·have h3 : (cur.toList.take (n * 1))[j]? = (ys.map (Value.int .i64))[j]? := by rw [htake]
   rw [List.getElem?_take_of_lt (by omega)] at h3
   rw [List.getElem?_take_of_lt (by omega), Array.getElem?_toList, k3 j (by omega), if_neg (by omega), List.map_take, List.getElem?_take_of_lt hj, ← h3, Array.getElem?_toList]
  ·rw [List.getElem?_eq_none (by rw [List.length_take]; omega), List.getElem?_eq_none (by simp; omega)]
theorem is_zero_Uses (x : Int) (w : World) : Calls Tryz.prog 77 #[.int .i64 x] w fun e w' => e = .returned (.bool (x == 0)) ∧ w = w' := by
 go_enter Tryz.func77, Tryz.ntmps77
 go_wp2
 go_ret
 exact ⟨rfl, rfl⟩

set_option maxHeartbeats 1000000 in
theorem ixf_Uses (w : World) (a : Option Addr) (n c : Nat) (zs : List Int) (h : Came w a n c 1 (zs.map intCells)) :
  Calls Tryz.prog 93 #[.slice a n c, .func (.func 77) #[] #[]] w (NixPost (ixZ zs n) w) := by
 have hl : zs.length = n := by simpa using h.count
 have hn := h.le
 have hm := h.max
 have HC : Hid (∀ k, k < n → ∃ g off, a = some ⟨g, off, none⟩ ∧ g < w.heap.size ∧ w.cell? ⟨g, off + k, none⟩ = some (.int .i64 (zs.getD k 0))) := fun k hk => by
  obtain ⟨g, off, ha, hlt, hc⟩ := h.ints (by omega)
  refine ⟨g, off, ha, hlt, ?_⟩
  rw [hc k (by omega)]
  simp [List.getD_eq_getElem?_getD, show k < zs.length by omega]
 have HL := Lib.hid hl
 clear h hl
 go_enter Tryz.func93, Tryz.ntmps93
 go_wp2
 go_loopw [5, 8] (fun _ u wr => ∃ k : Nat, k ≤ n ∧ u = .int .i64 (k : Int) ∧ wr = w ∧ ∀ j, j < k → (zs.getD j 0 == 0) = false) (fun _ u _ => n - (intOf u).toNat)
 case atStart => exact ⟨0, Nat.zero_le _, rfl, rfl, fun j hj => absurd hj (Nat.not_lt_zero _)⟩
 case round =>
  obtain ⟨k, hk, rfl, rfl, hno⟩ := hrel
  have HNO := Lib.hid hno
  clear hno
  by_cases hlt : k < n
  ·obtain ⟨g, off, rfl, hg, hc⟩ := HC.out k hlt
   obtain ⟨x, hx⟩ : ∃ x, x = zs.getD k 0 := ⟨_, rfl⟩
   rw [← hx] at hc
   have HX := Lib.hid hx
   have hcall := is_zero_Uses x
   clear hx
   cases hq : (x == 0)
   ·rw [hq] at hcall
    have HQ := Lib.hid hq
    clear hq
    go_wp2_with (go_at_call 77; refine (hcall _).mono ?_; rintro e w' ⟨rfl, rfl⟩)
    go_roundw
    case rel =>
     refine ⟨k + 1, by omega, by go_num, trivial, fun j hj => ?_⟩
     by_cases e : j = k
     ·rw [e, ← HX.out]; exact HQ.out
     ·exact HNO.out j (by omega)
    case measure => simp [intOf]; omega
   ·rw [hq] at hcall
    have HQ : Hid (zIx zs = k) := zIx_is zs k (by have := HL.out; omega) (by rw [← HX.out]; exact eq_of_beq hq) HNO.out
    clear hq
    go_wp2_with (go_at_call 77; refine (hcall _).mono ?_; rintro e w' ⟨rfl, rfl⟩)
    go_ret
    exact ⟨ret_int (by unfold ixZ; rw [HQ.out, if_pos hlt]), rfl⟩
  ·have HQ : Hid (zIx zs = n) := by
    show zIx zs = n
    rw [zIx_none zs fun j hj => HNO.out j (by have := HL.out; omega)]
    exact HL.out
   go_wp2
   go_ret
   exact ⟨ret_int (by unfold ixZ; rw [HQ.out, if_neg (by omega)]), rfl⟩

set_option maxRecDepth 100000 in
set_option maxHeartbeats 1000000 in
theorem del_Uses (w : World) (base : Nat) (v : Value) (zs : List Int) (h : w.ownsRow base 3 1 v zs.length (zs.map (Value.int .i64))) (hb : zs.length ≤ 9223372036854775807) :
  Calls Tryz.prog 75 #[v, .func (.func 77) #[] #[]] w (DelPost zs base v w) := by
 obtain ⟨a, c, rfl⟩ := ownG_shape h
 obtain ⟨n, hn⟩ : ∃ n, n = zs.length := ⟨_, rfl⟩
 rw [← hn] at h hb ⊢
 have HIX := Lib.hid (ixf_Uses w a n c zs (came_owns_ints h))
 have hzl := zIx_le zs
 have HN := Lib.hid hn
 have HO := Lib.hid h
 by_cases hz : zIx zs < n
 ·obtain ⟨z, hze⟩ : ∃ z, z = zIx zs := ⟨_, rfl⟩
  have hix : ixZ zs n = (z : Int) := by rw [hze]; exact if_pos hz
  rw [hix] at HIX
  rw [← hze] at hz hzl
  obtain ⟨g, cap, hv, hg1, hg2, hg3, hg4⟩ := ownG_has h (by omega)
  injection hv with e1 e2 e3
  subst e1 e3
  have hcap : c ≤ 9223372036854775807 := by unfold maxLen at hg4; omega
  have HZ : Hid (nz (zs.take (z + 1)) = zs.take z ∧ (zs.take z).length = z) := by
   refine ⟨?_, by simp; omega⟩
   rw [List.take_succ_eq_append_getElem (by omega), nz_snoc]
   have h0 := zIx_z zs (by omega)
   rw [← hze, List.getD_eq_getElem?_getD, List.getElem?_eq_getElem (by omega : z < zs.length)] at h0
   rw [if_pos (by simpa using h0), hze]
   exact nz_take_zIx zs _ (Nat.le_refl _)
  have hz9 : ((z : Int) == -1) = false := beq_eq_false_iff_ne.2 (by omega)
  clear h hze hn hix
  go_enter Tryz.func75, Tryz.ntmps75
  go_wp2_with (go_at_call 93; refine HIX.out.mono ?_; rintro e w' ⟨rfl, rfl⟩)
  have HI : Hid (DelSt zs base g n c w w z (z + 1)) := ⟨by omega, by omega, by rw [HZ.out.1]; exact HZ.out.2, zs, HN.out.symm, HO.out, by rw [HZ.out.1], fun j hj => rfl, ⟨rfl, rfl, rfl, Nat.le_refl _, fun _ _ _ => rfl⟩⟩
  clear HIX
  go_wp2_with fail
  go_loopw [5, 6, 7] (fun u5 u6 u7 wr => ∃ i j : Nat, u5 = .int .i64 (i : Int) ∧ u6 = .int .i64 (j : Int) ∧ DelSt zs base g n c w wr i j) (fun _ u _ _ => n - (intOf u).toNat)
  case atStart => exact ⟨z, z + 1, rfl, by go_num, HI.out⟩
  case round =>
   clear HI
   obtain ⟨i, j, rfl, rfl, s1, s2, s3, ys, s4, s5, s6, s7, s8⟩ := hrel
   have H1 := Lib.hid s3
   have H2 := Lib.hid s5
   have H3 := Lib.hid s6
   have H4 := Lib.hid s7
   have H5 := Lib.hid s8
   have H6 := Lib.hid s4
   by_cases hj : j < n
   ·have cj := s5.cellAt j (by omega)
    have fi := s5.frozenAt i
    have ci := s5.cellAt i (by omega)
    rw [List.getElem?_map, s7 j (Nat.le_refl _), List.getElem?_eq_getElem (by have := HN.out; omega)] at cj
    rw [List.getElem?_map, List.getElem?_eq_getElem (by omega)] at ci
    obtain ⟨x, hx⟩ : ∃ x, x = zs[j]'(by have := HN.out; omega) := ⟨_, rfl⟩
    simp only [Option.map_some] at cj ci
    rw [← hx] at cj
    obtain ⟨y, hy⟩ : ∃ y, y = ys[i]'(by omega) := ⟨_, rfl⟩
    rw [← hy] at ci
    clear hy
    have hg : g < wr.heap.size := (s5.lt g rfl).2
    have HX : Hid (zs.take (j + 1) = zs.take j ++ [x]) := by rw [hx]; exact List.take_succ_eq_append_getElem _
    have HST := Lib.hid (s5.stored i (.int .i64 x))
    have hcall := is_zero_Uses x
    clear s3 s4 s5 s6 s7 s8 hx
    cases hq : (x == 0)
    ·rw [hq] at hcall
     have HQ := Lib.hid hq
     clear hq
     go_wp2_with (go_at_call 77; refine (hcall _).mono ?_; rintro e w' ⟨rfl, rfl⟩)
     go_roundw
     case rel =>
      have hx0 : x ≠ 0 := by have := HQ.out; simpa using this
      refine ⟨i + 1, j + 1, by go_num, by go_num, by omega, by omega, ?_, ys.set i x, by rw [List.length_set]; exact H6.out, by rw [List.map_set]; exact HST.out.1, ?_, fun k hk => ?_, ?_⟩
      ·rw [HX.out, nz_snoc, if_neg hx0, List.length_append, H1.out]; rfl
      ·rw [HX.out, nz_snoc, if_neg hx0, List.take_set, List.take_succ_eq_append_getElem (by have := H6.out; omega), H3.out, List.set_append_right _ _ (by rw [H1.out]; exact Nat.le_refl _), H1.out]
       simp
      ·rw [List.getElem?_set_ne (by omega)]
       exact H4.out k (by omega)
      ·exact grownTrans H5.out HST.out.2
     case measure => simp [intOf]; omega
    ·rw [hq] at hcall
     have HQ := Lib.hid hq
     clear hq
     go_wp2_with (go_at_call 77; refine (hcall _).mono ?_; rintro e w' ⟨rfl, rfl⟩)
     go_roundw
     case rel =>
      have hx0 : x = 0 := by have := HQ.out; simpa using this
      exact ⟨i, j + 1, by go_num, by go_num, by omega, by omega, by rw [HX.out, nz_snoc, if_pos hx0]; exact H1.out, ys, H6.out, H2.out, by rw [HX.out, nz_snoc, if_pos hx0]; exact H3.out, fun k hk => H4.out k (by omega), H5.out⟩
     case measure => simp [intOf]; omega
   ·obtain rfl : j = n := by omega
    have hclr := fun ty => Lib.run_clear_slice (P := Tryz.prog) wr 22 3 ty (.int .i64 0) Tryz.underlying22 (Tryz.zeroZ3) rfl rfl g i (j - i) (c - i) (by omega) (fun k hk => by rw [s5.cellAt (i + k) (by omega), List.getElem?_map, List.getElem?_eq_getElem (by omega)]; rfl) (fun k hk => s5.frozenAt (i + k))
    have HCL := Lib.hid hclr
    have HG := Lib.hid (grownTrans s8 (setCells_grown g (List.replicate (j - i) (Value.int .i64 0)) i wr))
    have HR : Hid ((wr.setCells g i (List.replicate (j - i) (Value.int .i64 0))).ownsRow base 3 1 (.slice (some ⟨g, 0, none⟩) i c) i ((nz zs).map (Value.int .i64)) ∧ i = (nz zs).length) := by
     have hnz : nz zs = ys.take i := by rw [s6, HN.out, List.take_length]
     refine ⟨?_, by rw [hnz, List.length_take]; omega⟩
     rw [hnz]
     exact ownsCut s5 (by omega) (by rw [List.length_map]; exact s4) _
    have hif : (if c = i then some ⟨g, 0, none⟩ else some ⟨g, i, none⟩ : Option Addr) = some ⟨g, i, none⟩ := if_neg (by omega)
    clear hclr s3 s4 s5 s6 s7 s8 s2
    have hc0 := HCL.out 0
    go_wp2
    go_ret
    exact ⟨_, rfl, by rw [← HR.out.2]; exact HR.out.1, HG.out⟩
 ·have hix : ixZ zs n = -1 := if_neg hz
  rw [hix] at HIX
  have hall : Hid (nz zs = zs) := by
   have := nz_take_zIx zs (zs.length) (by omega)
   rwa [List.take_length] at this
  clear h hn hix
  go_enter Tryz.func75, Tryz.ntmps75
  go_wp2_with (go_at_call 93; refine HIX.out.mono ?_; rintro e w' ⟨rfl, rfl⟩)
  go_ret
  refine ⟨_, rfl, ?_, ⟨rfl, rfl, rfl, Nat.le_refl _, fun _ _ _ => rfl⟩⟩
  rw [hall.out, ← HN.out]
  exact HO.out

theorem is_zero_EndUses (x : Int) (w : World) : Calls Tryz.prog 76 #[.int .i64 x] w fun e w' => e = .returned (.bool (x == 0)) ∧ w = w' := by
 go_enter Tryz.func76, Tryz.ntmps76
 go_wp2
 go_ret
 exact ⟨rfl, rfl⟩

set_option maxHeartbeats 1000000 in
theorem ixf_EndUses (w : World) (a : Option Addr) (n c : Nat) (zs : List Int) (h : Came w a n c 1 (zs.map intCells)) :
  Calls Tryz.prog 93 #[.slice a n c, .func (.func 76) #[] #[]] w (NixPost (ixZ zs n) w) := by
 have hl : zs.length = n := by simpa using h.count
 have hn := h.le
 have hm := h.max
 have HC : Hid (∀ k, k < n → ∃ g off, a = some ⟨g, off, none⟩ ∧ g < w.heap.size ∧ w.cell? ⟨g, off + k, none⟩ = some (.int .i64 (zs.getD k 0))) := fun k hk => by
  obtain ⟨g, off, ha, hlt, hc⟩ := h.ints (by omega)
  refine ⟨g, off, ha, hlt, ?_⟩
  rw [hc k (by omega)]
  simp [List.getD_eq_getElem?_getD, show k < zs.length by omega]
 have HL := Lib.hid hl
 clear h hl
 go_enter Tryz.func93, Tryz.ntmps93
 go_wp2
 go_loopw [5, 8] (fun _ u wr => ∃ k : Nat, k ≤ n ∧ u = .int .i64 (k : Int) ∧ wr = w ∧ ∀ j, j < k → (zs.getD j 0 == 0) = false) (fun _ u _ => n - (intOf u).toNat)
 case atStart => exact ⟨0, Nat.zero_le _, rfl, rfl, fun j hj => absurd hj (Nat.not_lt_zero _)⟩
 case round =>
  obtain ⟨k, hk, rfl, rfl, hno⟩ := hrel
  have HNO := Lib.hid hno
  clear hno
  by_cases hlt : k < n
  ·obtain ⟨g, off, rfl, hg, hc⟩ := HC.out k hlt
   obtain ⟨x, hx⟩ : ∃ x, x = zs.getD k 0 := ⟨_, rfl⟩
   rw [← hx] at hc
   have HX := Lib.hid hx
   have hcall := is_zero_EndUses x
   clear hx
   cases hq : (x == 0)
   ·rw [hq] at hcall
    have HQ := Lib.hid hq
    clear hq
    go_wp2_with (go_at_call 76; refine (hcall _).mono ?_; rintro e w' ⟨rfl, rfl⟩)
    go_roundw
    case rel =>
     refine ⟨k + 1, by omega, by go_num, trivial, fun j hj => ?_⟩
     by_cases e : j = k
     ·rw [e, ← HX.out]; exact HQ.out
     ·exact HNO.out j (by omega)
    case measure => simp [intOf]; omega
   ·rw [hq] at hcall
    have HQ : Hid (zIx zs = k) := zIx_is zs k (by have := HL.out; omega) (by rw [← HX.out]; exact eq_of_beq hq) HNO.out
    clear hq
    go_wp2_with (go_at_call 76; refine (hcall _).mono ?_; rintro e w' ⟨rfl, rfl⟩)
    go_ret
    exact ⟨ret_int (by unfold ixZ; rw [HQ.out, if_pos hlt]), rfl⟩
  ·have HQ : Hid (zIx zs = n) := by
    show zIx zs = n
    rw [zIx_none zs fun j hj => HNO.out j (by have := HL.out; omega)]
    exact HL.out
   go_wp2
   go_ret
   exact ⟨ret_int (by unfold ixZ; rw [HQ.out, if_neg (by omega)]), rfl⟩

set_option maxRecDepth 100000 in
set_option maxHeartbeats 1000000 in
theorem del_EndUses (w : World) (base : Nat) (v : Value) (zs : List Int) (h : w.ownsRow base 3 1 v zs.length (zs.map (Value.int .i64))) (hb : zs.length ≤ 9223372036854775807) :
  Calls Tryz.prog 75 #[v, .func (.func 76) #[] #[]] w (DelPost zs base v w) := by
 obtain ⟨a, c, rfl⟩ := ownG_shape h
 obtain ⟨n, hn⟩ : ∃ n, n = zs.length := ⟨_, rfl⟩
 rw [← hn] at h hb ⊢
 have HIX := Lib.hid (ixf_EndUses w a n c zs (came_owns_ints h))
 have hzl := zIx_le zs
 have HN := Lib.hid hn
 have HO := Lib.hid h
 by_cases hz : zIx zs < n
 ·obtain ⟨z, hze⟩ : ∃ z, z = zIx zs := ⟨_, rfl⟩
  have hix : ixZ zs n = (z : Int) := by rw [hze]; exact if_pos hz
  rw [hix] at HIX
  rw [← hze] at hz hzl
  obtain ⟨g, cap, hv, hg1, hg2, hg3, hg4⟩ := ownG_has h (by omega)
  injection hv with e1 e2 e3
  subst e1 e3
  have hcap : c ≤ 9223372036854775807 := by unfold maxLen at hg4; omega
  have HZ : Hid (nz (zs.take (z + 1)) = zs.take z ∧ (zs.take z).length = z) := by
   refine ⟨?_, by simp; omega⟩
   rw [List.take_succ_eq_append_getElem (by omega), nz_snoc]
   have h0 := zIx_z zs (by omega)
   rw [← hze, List.getD_eq_getElem?_getD, List.getElem?_eq_getElem (by omega : z < zs.length)] at h0
   rw [if_pos (by simpa using h0), hze]
   exact nz_take_zIx zs _ (Nat.le_refl _)
  have hz9 : ((z : Int) == -1) = false := beq_eq_false_iff_ne.2 (by omega)
  clear h hze hn hix
  go_enter Tryz.func75, Tryz.ntmps75
  go_wp2_with (go_at_call 93; refine HIX.out.mono ?_; rintro e w' ⟨rfl, rfl⟩)
  have HI : Hid (DelSt zs base g n c w w z (z + 1)) := ⟨by omega, by omega, by rw [HZ.out.1]; exact HZ.out.2, zs, HN.out.symm, HO.out, by rw [HZ.out.1], fun j hj => rfl, ⟨rfl, rfl, rfl, Nat.le_refl _, fun _ _ _ => rfl⟩⟩
  clear HIX
  go_wp2_with fail
  go_loopw [5, 6, 7] (fun u5 u6 u7 wr => ∃ i j : Nat, u5 = .int .i64 (i : Int) ∧ u6 = .int .i64 (j : Int) ∧ DelSt zs base g n c w wr i j) (fun _ u _ _ => n - (intOf u).toNat)
  case atStart => exact ⟨z, z + 1, rfl, by go_num, HI.out⟩
  case round =>
   clear HI
   obtain ⟨i, j, rfl, rfl, s1, s2, s3, ys, s4, s5, s6, s7, s8⟩ := hrel
   have H1 := Lib.hid s3
   have H2 := Lib.hid s5
   have H3 := Lib.hid s6
   have H4 := Lib.hid s7
   have H5 := Lib.hid s8
   have H6 := Lib.hid s4
   by_cases hj : j < n
   ·have cj := s5.cellAt j (by omega)
    have fi := s5.frozenAt i
    have ci := s5.cellAt i (by omega)
    rw [List.getElem?_map, s7 j (Nat.le_refl _), List.getElem?_eq_getElem (by have := HN.out; omega)] at cj
    rw [List.getElem?_map, List.getElem?_eq_getElem (by omega)] at ci
    obtain ⟨x, hx⟩ : ∃ x, x = zs[j]'(by have := HN.out; omega) := ⟨_, rfl⟩
    simp only [Option.map_some] at cj ci
    rw [← hx] at cj
    obtain ⟨y, hy⟩ : ∃ y, y = ys[i]'(by omega) := ⟨_, rfl⟩
    rw [← hy] at ci
    clear hy
    have hg : g < wr.heap.size := (s5.lt g rfl).2
    have HX : Hid (zs.take (j + 1) = zs.take j ++ [x]) := by rw [hx]; exact List.take_succ_eq_append_getElem _
    have HST := Lib.hid (s5.stored i (.int .i64 x))
    have hcall := is_zero_EndUses x
    clear s3 s4 s5 s6 s7 s8 hx
    cases hq : (x == 0)
    ·rw [hq] at hcall
     have HQ := Lib.hid hq
     clear hq
     go_wp2_with (go_at_call 76; refine (hcall _).mono ?_; rintro e w' ⟨rfl, rfl⟩)
     go_roundw
     case rel =>
      have hx0 : x ≠ 0 := by have := HQ.out; simpa using this
      refine ⟨i + 1, j + 1, by go_num, by go_num, by omega, by omega, ?_, ys.set i x, by rw [List.length_set]; exact H6.out, by rw [List.map_set]; exact HST.out.1, ?_, fun k hk => ?_, ?_⟩
      ·rw [HX.out, nz_snoc, if_neg hx0, List.length_append, H1.out]; rfl
      ·rw [HX.out, nz_snoc, if_neg hx0, List.take_set, List.take_succ_eq_append_getElem (by have := H6.out; omega), H3.out, List.set_append_right _ _ (by rw [H1.out]; exact Nat.le_refl _), H1.out]
       simp
      ·rw [List.getElem?_set_ne (by omega)]
       exact H4.out k (by omega)
      ·exact grownTrans H5.out HST.out.2
     case measure => simp [intOf]; omega
    ·rw [hq] at hcall
     have HQ := Lib.hid hq
     clear hq
     go_wp2_with (go_at_call 76; refine (hcall _).mono ?_; rintro e w' ⟨rfl, rfl⟩)
     go_roundw
     case rel =>
      have hx0 : x = 0 := by have := HQ.out; simpa using this
      exact ⟨i, j + 1, by go_num, by go_num, by omega, by omega, by rw [HX.out, nz_snoc, if_pos hx0]; exact H1.out, ys, H6.out, H2.out, by rw [HX.out, nz_snoc, if_pos hx0]; exact H3.out, fun k hk => H4.out k (by omega), H5.out⟩
     case measure => simp [intOf]; omega
   ·obtain rfl : j = n := by omega
    have hclr := fun ty => Lib.run_clear_slice (P := Tryz.prog) wr 22 3 ty (.int .i64 0) Tryz.underlying22 (Tryz.zeroZ3) rfl rfl g i (j - i) (c - i) (by omega) (fun k hk => by rw [s5.cellAt (i + k) (by omega), List.getElem?_map, List.getElem?_eq_getElem (by omega)]; rfl) (fun k hk => s5.frozenAt (i + k))
    have HCL := Lib.hid hclr
    have HG := Lib.hid (grownTrans s8 (setCells_grown g (List.replicate (j - i) (Value.int .i64 0)) i wr))
    have HR : Hid ((wr.setCells g i (List.replicate (j - i) (Value.int .i64 0))).ownsRow base 3 1 (.slice (some ⟨g, 0, none⟩) i c) i ((nz zs).map (Value.int .i64)) ∧ i = (nz zs).length) := by
     have hnz : nz zs = ys.take i := by rw [s6, HN.out, List.take_length]
     refine ⟨?_, by rw [hnz, List.length_take]; omega⟩
     rw [hnz]
     exact ownsCut s5 (by omega) (by rw [List.length_map]; exact s4) _
    have hif : (if c = i then some ⟨g, 0, none⟩ else some ⟨g, i, none⟩ : Option Addr) = some ⟨g, i, none⟩ := if_neg (by omega)
    clear hclr s3 s4 s5 s6 s7 s8 s2
    have hc0 := HCL.out 0
    go_wp2
    go_ret
    exact ⟨_, rfl, by rw [← HR.out.2]; exact HR.out.1, HG.out⟩
 ·have hix : ixZ zs n = -1 := if_neg hz
  rw [hix] at HIX
  have hall : Hid (nz zs = zs) := by
   have := nz_take_zIx zs (zs.length) (by omega)
   rwa [List.take_length] at this
  clear h hn hix
  go_enter Tryz.func75, Tryz.ntmps75
  go_wp2_with (go_at_call 93; refine HIX.out.mono ?_; rintro e w' ⟨rfl, rfl⟩)
  go_ret
  refine ⟨_, rfl, ?_, ⟨rfl, rfl, rfl, Nat.le_refl _, fun _ _ _ => rfl⟩⟩
  rw [hall.out, ← HN.out]
  exact HO.out
end

section
theorem Tryz.infoV3 : (Tryz.prog.info? 3).map (fun i => (i.zero, i.size, i.bytes)) = some (some (.int .i64 0), 1, 8) := by kernel_rfl
theorem info_partsV {t : TypeId} {z : Option Value} {s b : Nat} (h : (Tryz.prog.info? t).map (fun i => (i.zero, i.size, i.bytes)) = some (z, s, b)) : ∃ i, Tryz.prog.info? t = some i ∧ i.zero = z ∧ i.size = s ∧ i.bytes = b := by
 cases hi : Tryz.prog.info? t with
 | none => rw [hi] at h; cases h
 | some i => rw [hi] at h; simp only [Option.map_some, Option.some.injEq, Prod.mk.injEq] at h; exact ⟨i, rfl, h⟩
set_option maxRecDepth 100000 in
/-- a slice that came in, put behind a row of the call's own -/
theorem run_app (w : World) (ty : TypeId) (v : Value) (base n : Nat) (xs : List Int) (h : w.ownsRow base 3 1 v n (xs.map (Value.int .i64))) (a : Option Addr) (m c : Nat) (ys : List Int) (hc : Came w a m c 1 (ys.map intCells)) (hb : (n + m) * 8 ≤ 140737488355328) (hbase : base ≤ w.heap.size) :
  ∃ v' w', (Builtin.append_ #[22, 22] ty #[v, .slice a m c]).run Tryz.prog w = .ok v' w' ∧ w'.ownsRow base 3 1 v' (n + m) ((xs ++ ys).map (Value.int .i64)) ∧ w.grownBy w' v.ownBlock := by
 obtain ⟨i, hi, hz, hs, hby⟩ := info_partsV Tryz.infoV3
 have hl : ys.length = m := by simpa using hc.count
 cases a with
 | none =>
  obtain ⟨rfl, rfl⟩ := hc.nil rfl
  obtain rfl : ys = [] := List.eq_nil_of_length_eq_zero hl
  exact ⟨v, w, run_append_owned_none (P := Tryz.prog) (w := w) base 22 ty 3 i 1 Tryz.underlying22 hi v n _ h, by simpa using h, ⟨rfl, rfl, rfl, Nat.le_refl _, fun _ _ _ => rfl⟩⟩
 | some ad =>
  have hnews : ∀ j u, (ys.map (Value.int .i64))[j]? = some u → w.cell? (ad.add j) = some u := fun j u hu => by
   rw [List.getElem?_map] at hu
   cases hy : ys[j]? with
   | none => rw [hy] at hu; cases hu
   | some y =>
    rw [hy] at hu
    obtain ⟨hj, rfl⟩ := List.getElem?_eq_some_iff.1 hy
    obtain ⟨g, off, ha, _, hcc⟩ := hc.ints (by omega)
    injection ha with ha
    subst ha
    rw [Addr.add_lit, hcc j hj]
    exact hu
  have hm9 : n + m ≤ maxLen := by unfold maxLen; omega
  obtain ⟨v', w', e1, e2, e3, _⟩ := run_append_own (P := Tryz.prog) w base 22 ty 3 i (.int .i64 0) 1 8 Tryz.underlying22 hi hz hs hby rfl (by decide) v n _ h ad m c (ys.map (Value.int .i64)) (by simpa using hl) hnews (by intro u hu; obtain ⟨z, _, rfl⟩ := List.mem_map.1 hu; rfl) hm9 hb hbase
  exact ⟨v', w', e1, by rw [List.map_append]; exact e2, e3⟩
theorem belowOf {w w' : World} {base B : Nat} {r : Option Nat} (h : w.grownBy w' r) (hr : ∀ g, r = some g → B ≤ g) (hb : B ≤ w.heap.size) : Below B w w' :=
 ⟨h.os, h.tape, h.output, h.size, fun k hk => h.block k (Nat.lt_of_lt_of_le hk hb) fun e => by have := hr k e.symm; omega⟩

theorem def_any (x : VI) (w : World) : Calls Tryz.prog 43 #[viV x] w (IntPost (defV x) w) := by
 unfold viV
 by_cases h1 : x.op = 13
 ·have e : defV x = 0 := by unfold defV; rw [if_pos (.inl h1)]
  rw [e, h1]
  go_enter Tryz.func43, Tryz.ntmps43
  go_wp2
  go_ret
  exact ⟨rfl, (Below.refl _ _).alloc (Nat.le_refl _) _⟩
 ·by_cases h2 : x.op = 23
  ·have e : defV x = 0 := by unfold defV; rw [if_pos (.inr h2)]
   rw [e, h2]
   go_enter Tryz.func43, Tryz.ntmps43
   go_wp2
   go_ret
   exact ⟨rfl, (Below.refl _ _).alloc (Nat.le_refl _) _⟩
  ·have e : defV x = x.d := by unfold defV; rw [if_neg (by omega)]
   have b1 : (x.op == 13) = false := by simpa using h1
   have b2 : (x.op == 23) = false := by simpa using h2
   rw [e]
   clear h1 h2 e
   go_enter Tryz.func43, Tryz.ntmps43
   go_wp2
   go_ret
   exact ⟨rfl, (Below.refl _ _).alloc (Nat.le_refl _) _⟩
theorem insDef_any (x : VI) (w : World) : Calls Tryz.prog 11 #[viV x] w (IntPost (defV x) w) := by
 unfold viV
 by_cases h1 : x.op = 13
 ·have e : defV x = 0 := by unfold defV; rw [if_pos (.inl h1)]
  rw [e, h1]
  go_enter Tryz.func11, Tryz.ntmps11
  go_wp2
  go_ret
  exact ⟨rfl, (Below.refl _ _).alloc (Nat.le_refl _) _⟩
 ·by_cases h2 : x.op = 23
  ·have e : defV x = 0 := by unfold defV; rw [if_pos (.inr h2)]
   rw [e, h2]
   go_enter Tryz.func11, Tryz.ntmps11
   go_wp2
   go_ret
   exact ⟨rfl, (Below.refl _ _).alloc (Nat.le_refl _) _⟩
  ·have e : defV x = x.d := by unfold defV; rw [if_neg (by omega)]
   have b1 : (x.op == 13) = false := by simpa using h1
   have b2 : (x.op == 23) = false := by simpa using h2
   rw [e]
   clear h1 h2 e
   go_enter Tryz.func11, Tryz.ntmps11
   go_wp2
   go_ret
   exact ⟨rfl, (Below.refl _ _).alloc (Nat.le_refl _) _⟩

/-- the row of two numbers and the arguments -/
theorem app_two (w : World) (o : Obj) (a b : Int) (x : VI) (hx : x.Ok w) (ty : TypeId) :
  ∃ v' w', (Builtin.append_ #[22, 22] ty #[.slice (some ⟨w.heap.size + 1, 0, none⟩) 2 2, .slice x.sa x.sn x.sc]).run Tryz.prog ((w.alloc o).alloc (.cells #[.int .i64 a, .int .i64 b] 3)) = .ok v' w' ∧
   w'.ownsRow (w.heap.size + 1) 3 1 v' (a :: b :: x.args).length ((a :: b :: x.args).map (Value.int .i64)) ∧ Below w.heap.size w w' ∧ w.heap.size + 1 + 1 ≤ w'.heap.size := by
 have h1 := World.ownsRow_lit (base := w.heap.size + 1) (e := 3) (size := 1) (w.alloc o) #[.int .i64 a, .int .i64 b] 2 (by simp) (by decide) rfl
 have hb1 : Below w.heap.size w ((w.alloc o).alloc (.cells #[.int .i64 a, .int .i64 b] 3)) := ((Below.refl _ w).alloc (Nat.le_refl _) _).alloc (by simp) _
 rw [World.size_alloc] at h1
 obtain ⟨v', w', e1, e2, e3⟩ := run_app _ ty _ (w.heap.size + 1) 2 [a, b] h1 x.sa x.sn x.sc x.args (hx.came.below hb1) (by have := hx.reach; omega) (by simp)
 refine ⟨v', w', e1, ?_, hb1.trans (belowOf (base := 0) e3 (fun g hg => ?_) (by simp; omega)), ?_⟩
 ·have hl : (a :: b :: x.args).length = 2 + x.sn := by have := hx.len; simp; omega
  rw [hl]; exact e2
 ·have : g = w.heap.size + 1 := by simpa [Value.ownBlock] using hg.symm
  omega
 ·have := e3.size; simpa using this

set_option maxRecDepth 100000 in
set_option maxHeartbeats 1000000 in
theorem uses_any (x : VI) (w : World) (hx : x.Ok w) : Calls Tryz.prog 46 #[viV x] w (VList (usesV x) w) := by
 obtain ⟨v1, w1, hrun, hown, hbel, hsz⟩ := app_two w (.cells #[.int .i64 x.op, .int .i64 x.d, .int .i64 x.a, .int .i64 x.b, .int .i64 x.n, .slice x.sa x.sn x.sc] 48) x.a x.b x hx 22
 have hlen : (x.a :: x.b :: x.args).length ≤ 9223372036854775807 := by have := hx.len; have := hx.reach; simp; omega
 have HD := Lib.hid (del_Uses w1 (w.heap.size + 1) v1 _ hown hlen)
 have HB := Lib.hid hbel
 have HO := Lib.hid hown
 have HRUN := Lib.hid hrun
 clear hown hbel hlen hx hrun
 unfold viV
 go_enter Tryz.func46, Tryz.ntmps46
 go_wp2_with (refine wpList_of_wp _ rfl (fun K Q' hk => wp_append_eq _ _ _ 22 22 rfl _ _ rfl rfl HRUN.out hk) ?_)
 refine HD.out.mono ?_
 rintro e w2 ⟨v2, rfl, h1, h2⟩
 have H1 := Lib.hid h1
 have HB2 := Lib.hid (HB.out.trans (belowOf (base := 0) h2 (fun g hg => by have := (HO.out.lt g hg).1; omega) HB.out.size))
 clear h1 h2
 go_wp2_with fail
 go_ret
 exact ⟨_, rfl, H1.out.mono (by omega), HB2.out⟩
set_option maxRecDepth 100000 in
set_option maxHeartbeats 1000000 in
theorem endUses_any (x : VE) (w : World) (hx : x.Ok w) : Calls Tryz.prog 42 #[veV x] w (VList (endV x) w) := by
 have h1 := World.ownsRow_lit (base := w.heap.size) (e := 3) (size := 1) (w.alloc (.cells #[.int .i64 x.kind, .int .i64 x.op, .int .i64 x.a, .int .i64 x.b, .int .i64 x.n, .slice x.sa x.sn x.sc] 44)) #[.int .i64 x.a, .int .i64 x.b] 2 (by simp) (by decide) rfl
 rw [World.size_alloc] at h1
 have hb1 := ((Below.refl w.heap.size w).alloc (Nat.le_refl _) (.cells #[.int .i64 x.kind, .int .i64 x.op, .int .i64 x.a, .int .i64 x.b, .int .i64 x.n, .slice x.sa x.sn x.sc] 44)).alloc (by simp) (.cells #[.int .i64 x.a, .int .i64 x.b] 3)
 have HD := Lib.hid (del_EndUses _ w.heap.size _ [x.a, x.b] h1 (by simp))
 have HB := Lib.hid hb1
 have HO := Lib.hid h1
 clear h1 hb1 hx
 unfold veV
 go_enter Tryz.func42, Tryz.ntmps42
 go_wp2_with fail
 refine HD.out.mono ?_
 rintro e w2 ⟨v2, rfl, h1, h2⟩
 have H1 := Lib.hid h1
 have HB2 := Lib.hid (HB.out.trans (belowOf (base := 0) h2 (fun g hg => (HO.out.lt g hg).1) HB.out.size))
 clear h1 h2
 go_wp2_with fail
 go_ret
 exact ⟨_, rfl, H1.out, HB2.out⟩
theorem came_one (w : World) (v : Int) : Came (w.alloc (.cells #[.int .i64 v] 3)) (some ⟨w.heap.size, 0, none⟩) 1 1 1 ([v].map intCells) := by
 refine ⟨rfl, Nat.le_refl _, by omega, fun h => by simp at h, fun x hx => by simp at hx; subst hx; rfl, fun h0 h1 => ⟨w.heap.size, 0, rfl, by simp, fun i x hx j hj => ?_⟩⟩
 have hb := Blk.new w [.int .i64 v] 3
 have hi : i = 0 := by
  rcases i with _ | i
  ·rfl
  ·simp at hx
 subst hi
 have hx2 : x = [.int .i64 v] := by simpa [intCells] using hx.symm
 subst hx2
 have hj0 : j = 0 := by omega
 subst hj0
 exact hb.cell 0
set_option maxRecDepth 100000 in
set_option maxHeartbeats 1000000 in
theorem insUses_any (x : VI) (w : World) (hx : x.Ok w) : Calls Tryz.prog 31 #[viV x] w (VList (usesV x) w) := by
 obtain ⟨v1, w1, hrun, hown, hbel, hsz⟩ := app_two w (.cells #[.int .i64 x.op, .int .i64 x.d, .int .i64 x.a, .int .i64 x.b, .int .i64 x.n, .slice x.sa x.sn x.sc] 48) x.a x.b x hx 22
 obtain ⟨zs, hzs⟩ : ∃ zs, zs = x.a :: x.b :: x.args := ⟨_, rfl⟩
 have hu : usesV x = nz zs := by rw [hzs]; rfl
 have hlen : zs.length * 8 ≤ 140737488351232 + 16 := by have := hx.len; have := hx.reach; rw [hzs]; simp; omega
 rw [hu]
 rw [← hzs] at hown
 obtain ⟨m, hm⟩ : ∃ m, m = zs.length := ⟨_, rfl⟩
 rw [← hm] at hown hlen
 have HM := Lib.hid hm
 obtain ⟨a1, c1, rfl⟩ := ownG_shape hown
 have HR := Lib.hid hrun
 have HO := Lib.hid hown
 have HB := Lib.hid hbel
 clear hown hbel hrun hx hu hzs hm
 unfold viV
 go_enter Tryz.func31, Tryz.ntmps31
 go_wp2_with (refine wpList_of_wp _ rfl (fun K Q' hk => wp_append_eq _ _ _ 22 22 rfl _ _ rfl rfl HR.out hk) ?_)
 clear HR
 go_loopw [3, 15] (fun u3 u15 wr => ∃ k : Nat, k ≤ m ∧ u15 = .int .i64 (k : Int) ∧ wr.ownsRow w1.heap.size 3 1 u3 (nz (zs.take k)).length ((nz (zs.take k)).map (Value.int .i64)) ∧ Below w1.heap.size w1 wr) (fun _ u _ => m - (intOf u).toNat)
 case atStart => exact ⟨0, Nat.zero_le _, rfl, World.ownsRow_nil _ _ _ _, Below.refl _ _⟩
 case round =>
  obtain ⟨k, hk, rfl, ho, hb⟩ := hrel
  obtain ⟨a3, c3, rfl⟩ := ownG_shape ho
  have HO3 := Lib.hid ho
  have HB3 := Lib.hid hb
  by_cases hlt : k < m
  ·obtain ⟨g, cap, hv, hg1, hg2, hg3, hg4⟩ := ownG_has HO.out (by omega)
   injection hv with e1 e2 e3
   subst e1 e3
   have ck := HO.out.cellAt k (by omega)
   rw [List.getElem?_map, List.getElem?_eq_getElem (by have := HM.out; omega)] at ck
   simp only [Option.map_some] at ck
   obtain ⟨r, hr⟩ : ∃ r, r = zs[k]'(by have := HM.out; omega) := ⟨_, rfl⟩
   rw [← hr] at ck
   have HT : Hid (zs.take (k + 1) = zs.take k ++ [r]) := by rw [hr]; exact List.take_succ_eq_append_getElem _
   have ck2 := (hb.cell (p := ⟨g, k, none⟩) hg2).trans ck
   clear ck hr
   by_cases hz : r = 0
   ·subst hz
    clear ho hb
    go_wp2_with fail
    go_roundw
    case rel => exact ⟨k + 1, by omega, by go_num, by rw [HT.out, nz_snoc, if_pos rfl]; exact HO3.out, HB3.out⟩
    case measure => simp [intOf]; omega
   ·have hz9 : (r == 0) = false := by simpa using hz
    have hlit := came_one wr r
    have hl9 : (nz (zs.take k)).length ≤ m := by
     have h1 : (nz (zs.take k)).length ≤ (zs.take k).length := List.length_filter_le _ _
     rw [List.length_take] at h1; omega
    obtain ⟨v4, w4, hrun, ho4, hg4⟩ := run_app _ 22 _ w1.heap.size _ _ (HO3.out.alloc (.cells #[.int .i64 r] 3)) _ 1 1 [r] hlit (by omega) (by have := HB3.out.size; simp; omega)
    have HR4 := Lib.hid hrun
    have HO4 : Hid (w4.ownsRow w1.heap.size 3 1 v4 (nz (zs.take (k + 1))).length ((nz (zs.take (k + 1))).map (Value.int .i64))) := by
     rw [HT.out, nz_snoc, if_neg hz, List.length_append]; exact ho4
    have HB4 := Lib.hid ((HB3.out.alloc HB3.out.size (.cells #[.int .i64 r] 3)).trans (belowOf (base := 0) (B := w1.heap.size) hg4 (fun q hq => (HO3.out.lt q hq).1) (by have := HB3.out.size; simp; omega)))
    clear ho hb hrun ho4 hg4 hlit
    go_wp2_with (refine wpList_of_wp _ rfl (fun K Q' hk => wp_append_eq _ _ _ 22 22 rfl _ _ rfl rfl HR4.out hk) ?_)
    go_roundw
    case rel => exact ⟨k + 1, by omega, by go_num, HO4.out, HB4.out⟩
    case measure => simp [intOf]; omega
  ·clear ho hb
   have HF : Hid (zs.take k = zs) := List.take_of_length_le (by have := HM.out; omega)
   have HO5 : Hid (wr.ownsRow w.heap.size 3 1 (.slice a3 (nz (zs.take k)).length c3) (nz zs).length ((nz zs).map (Value.int .i64))) := by
    rw [HF.out] at HO3 ⊢
    exact HO3.out.mono (by have := HB.out.size; omega)
   go_wp2_with fail
   go_ret
   exact ⟨_, rfl, HO5.out, HB.out.trans (HB3.out.mono HB.out.size)⟩
end

section
structure Sh where
 (d a b n l : Bool)
def Sh.cells (s : Sh) : Array Value := #[.bool s.d, .bool s.a, .bool s.b, .bool s.n, .bool s.l]
def shV (op : Int) : Sh :=
 if (1 ≤ op ∧ op ≤ 7) ∨ op = 15 then ⟨true, true, true, false, false⟩ else if (8 ≤ op ∧ op ≤ 10) ∨ op = 12 then ⟨true, true, false, true, false⟩
 else if op = 11 ∨ op = 103 then ⟨true, false, false, true, false⟩ else if op = 13 then ⟨false, true, true, true, false⟩ else if op = 14 then ⟨true, false, true, true, false⟩
 else if op = 23 then ⟨false, true, false, false, false⟩ else if op = 100 then ⟨true, true, false, false, false⟩ else if op = 101 then ⟨true, false, false, true, true⟩
 else if op = 102 then ⟨true, true, false, false, true⟩ else ⟨false, false, false, false, false⟩
def shIs (op : Int) : Bool := decide ((1 ≤ op ∧ op ≤ 15) ∨ op = 23 ∨ (100 ≤ op ∧ op ≤ 103))
theorem sh_ops {op : Int} (h : shIs op = true) : op = 1 ∨ op = 2 ∨ op = 3 ∨ op = 4 ∨ op = 5 ∨ op = 6 ∨ op = 7 ∨ op = 8 ∨ op = 9 ∨ op = 10 ∨ op = 11 ∨ op = 12 ∨ op = 13 ∨ op = 14 ∨ op = 15 ∨ op = 23 ∨ op = 100 ∨ op = 101 ∨ op = 102 ∨ op = 103 := by
 unfold shIs at h
 have := of_decide_eq_true h
 omega
theorem sh_shapes {op : Int} (h : shIs op = true) : shV op = ⟨true, true, true, false, false⟩ ∨ shV op = ⟨true, true, false, true, false⟩ ∨ shV op = ⟨true, false, false, true, false⟩ ∨ shV op = ⟨false, true, true, true, false⟩ ∨ shV op = ⟨true, false, true, true, false⟩ ∨
  shV op = ⟨false, true, false, false, false⟩ ∨ shV op = ⟨true, true, false, false, false⟩ ∨ shV op = ⟨true, false, false, true, true⟩ ∨ shV op = ⟨true, true, false, false, true⟩ := by
 rcases sh_ops h with rfl | rfl | rfl | rfl | rfl | rfl | rfl | rfl | rfl | rfl | rfl | rfl | rfl | rfl | rfl | rfl | rfl | rfl | rfl | rfl <;> simp [shV]
def ShPost (op : Int) (w : World) (e : Ending) (w' : World) : Prop := e = .returned (.tuple #[.agg (shV op).cells, .bool (shIs op)]) ∧ w' = w.alloc (.cells (shV op).cells 129)

set_option maxRecDepth 100000 in
set_option maxHeartbeats 4000000 in
theorem shape_any (op : Int) (w : World) : Calls Tryz.prog 72 #[.int .i64 op] w (ShPost op w) := by
 by_cases h : shIs op = true
 ·rcases sh_ops h with rfl | rfl | rfl | rfl | rfl | rfl | rfl | rfl | rfl | rfl | rfl | rfl | rfl | rfl | rfl | rfl | rfl | rfl | rfl | rfl
  all_goals
   clear h
   go_enter Tryz.func72, Tryz.ntmps72
   go_wp2
   exact bodyPost_ret (v := .tuple #[.agg (shV _).cells, .bool (shIs _)]) (by simp [results, Tryz.results72, go_sem, shV, shIs, Sh.cells]) rfl ⟨rfl, rfl⟩
 ·have hn : ¬ ((1 ≤ op ∧ op ≤ 15) ∨ op = 23 ∨ (100 ≤ op ∧ op ≤ 103)) := fun hh => h (decide_eq_true hh)
  have e1 : shV op = ⟨false, false, false, false, false⟩ := by
   unfold shV
   rw [if_neg (by omega), if_neg (by omega), if_neg (by omega), if_neg (by omega), if_neg (by omega), if_neg (by omega), if_neg (by omega), if_neg (by omega), if_neg (by omega)]
  have e2 : shIs op = false := by simpa using h
  have E : ∀ k : Int, (1 ≤ k ∧ k ≤ 15) ∨ k = 23 ∨ (100 ≤ k ∧ k ≤ 103) → (op == k) = false := fun k hk => beq_eq_false_iff_ne.2 (fun e => hn (e ▸ hk))
  have b1 := E 1 (by omega)
  have b2 := E 2 (by omega)
  have b3 := E 3 (by omega)
  have b4 := E 4 (by omega)
  have b5 := E 5 (by omega)
  have b6 := E 6 (by omega)
  have b7 := E 7 (by omega)
  have b8 := E 8 (by omega)
  have b9 := E 9 (by omega)
  have b10 := E 10 (by omega)
  have b11 := E 11 (by omega)
  have b12 := E 12 (by omega)
  have b13 := E 13 (by omega)
  have b14 := E 14 (by omega)
  have b15 := E 15 (by omega)
  have b16 := E 23 (by omega)
  have b17 := E 100 (by omega)
  have b18 := E 101 (by omega)
  have b19 := E 102 (by omega)
  have b20 := E 103 (by omega)
  have HE1 := Lib.hid e1
  have HE2 := Lib.hid e2
  clear E hn h e1 e2
  go_enter Tryz.func72, Tryz.ntmps72
  go_wp2
  refine bodyPost_ret (v := .tuple #[.agg (Sh.cells ⟨false, false, false, false, false⟩), .bool false]) (by simp [results, Tryz.results72, go_sem, Sh.cells]) rfl ?_
  unfold ShPost
  rw [HE1.out, HE2.out]
  exact ⟨rfl, rfl⟩

/-- the reference's letters -/
def letV (op : Int) : ByteArray :=
 if op = 100 then ⟨#[68, 65]⟩ else if op = 101 then ⟨#[68, 78, 76]⟩ else if op = 102 then ⟨#[68, 65, 76]⟩ else if op = 103 then ⟨#[68, 78]⟩ else if op = 23 then ⟨#[65]⟩ else if 1 ≤ op ∧ op ≤ 15 then memS op.toNat else ⟨#[45]⟩
theorem let_has {op : Int} (h : shIs op = true) : hasB (letV op).data.toList 68 = (shV op).d ∧ hasB (letV op).data.toList 65 = (shV op).a ∧ hasB (letV op).data.toList 66 = (shV op).b ∧ hasB (letV op).data.toList 78 = (shV op).n ∧ hasB (letV op).data.toList 76 = (shV op).l ∧ (letV op).size ≤ 1000 ∧ (letV op == ⟨#[45]⟩) = false := by
 rcases sh_ops h with rfl | rfl | rfl | rfl | rfl | rfl | rfl | rfl | rfl | rfl | rfl | rfl | rfl | rfl | rfl | rfl | rfl | rfl | rfl | rfl <;> decide
def LetPost (op : Int) (w : World) (e : Ending) (w' : World) : Prop := e = .returned (.string (letV op)) ∧ Below w.heap.size w w'
set_option maxRecDepth 100000 in
set_option maxHeartbeats 4000000 in
theorem letters_any (op : Int) (w : World) : Calls Tryz.prog 34 #[.int .i64 op] w (LetPost op w) := by
 by_cases h0 : op = 23 ∨ op = 100 ∨ op = 101 ∨ op = 102 ∨ op = 103
 ·rcases h0 with rfl | rfl | rfl | rfl | rfl
  all_goals
   go_enter Tryz.func34, Tryz.ntmps34
   go_wp2
   go_ret
   exact ⟨by simp [letV], Below.refl _ _⟩
 ·have E : ∀ k : Int, k = 23 ∨ (100 ≤ k ∧ k ≤ 103) → (op == k) = false := fun k hk => beq_eq_false_iff_ne.2 (fun e => by omega)
  have b16 := E 23 (by omega)
  have b17 := E 100 (by omega)
  have b18 := E 101 (by omega)
  have b19 := E 102 (by omega)
  have b20 := E 103 (by omega)
  by_cases h1 : 1 ≤ op ∧ op ≤ 15
  ·have he : letV op = memS op.toNat := by unfold letV; rw [if_neg (by omega), if_neg (by omega), if_neg (by omega), if_neg (by omega), if_neg (by omega), if_pos h1]
   obtain ⟨k, rfl⟩ := Int.eq_ofNat_of_zero_le (show 0 ≤ op by omega)
   have hk : k < 25 := by omega
   have hcell := mem_cell k hk
   have b0 : (0 : Int) ≤ (k : Int) := by omega
   have b1 : (k : Int) < 25 := by omega
   have b2 : (1 : Int) ≤ (k : Int) := h1.1
   have b3 : (k : Int) ≤ 15 := h1.2
   have HE := Lib.hid he
   have hsz : memArr.size = 25 := rfl
   clear E h0 he h1
   go_enter Tryz.func34, Tryz.ntmps34
   go_wp2_with (go_at_call 70; refine (members_any _).mono ?_; rintro e w' ⟨rfl, rfl⟩)
   go_ret
   exact ⟨by
    rw [HE.out]
    have h9 : memArr[k]'(by omega) = .string (memS k) := by have h8 := hcell; rw [Array.getElem?_eq_getElem (by omega)] at h8; exact Option.some.inj h8
    exact congrArg Ending.returned h9, (Below.refl _ _).alloc (Nat.le_refl _) _⟩
  ·have he : letV op = ⟨#[45]⟩ := by unfold letV; rw [if_neg (by omega), if_neg (by omega), if_neg (by omega), if_neg (by omega), if_neg (by omega), if_neg h1]
   have HE := Lib.hid he
   by_cases h2 : 1 ≤ op
   ·have h3 : ¬ op ≤ 15 := by omega
    clear E h0 he h1
    go_enter Tryz.func34, Tryz.ntmps34
    go_wp2
    go_ret
    exact ⟨by rw [HE.out]; rfl, Below.refl _ _⟩
   ·clear E h0 he h1
    go_enter Tryz.func34, Tryz.ntmps34
    go_wp2
    go_ret
    exact ⟨by rw [HE.out]; rfl, Below.refl _ _⟩
end

section
def formV (s : Sh) (x : VI) : Bool := (!s.d && x.d != 0) || (!s.a && x.a != 0) || (!s.b && x.b != 0) || (!s.n && x.n != 0) || (!s.l && decide (0 < (x.sn : Int)))
def lim31V (x : VI) : Bool := inB x.n (-2147483648) 2147483647
def limV (x : VI) : Bool := (decide (6 < (x.sn : Int)) || !inB x.n (-2147483648) 2147483647) || ((x.op == 101 || x.op == 103) && !inB x.n 0 255) || ((x.op == 9 || x.op == 10) && !inB x.n 0 31) || (x.op == 14 && !inB x.n 0 4095)
def namesV (regs : Int) (l : List Int) : Bool := l.all fun r => inB r 0 (regs - 1)
/-- the error of an instruction -/
def badI (x : VI) (regs : Int) : Int :=
 if shIs x.op = false then 1 else if formV (shV x.op) x = true then 3 else if limV x = true then 4 else if namesV regs (x.d :: x.a :: x.b :: x.args) = false then 6 else 0

set_option maxHeartbeats 400000 in
theorem tin_any (n l h : Int) (w : World) : Calls Tryz.prog 36 #[.int .i64 n, .int .i64 l, .int .i64 h] w fun e w' => e = .returned (.bool (inB n l h)) ∧ w = w' := by
 go_enter Tryz.func36, Tryz.ntmps36
 by_cases h1 : l ≤ n
 ·by_cases h2 : n ≤ h
  ·go_wp2
   go_ret
   exact ⟨ret_bool (inB_true.2 ⟨h1, h2⟩).symm, rfl⟩
  ·go_wp2
   go_ret
   exact ⟨ret_bool (inB_false.2 (.inr (by omega))).symm, rfl⟩
 ·go_wp2
  go_ret
  exact ⟨ret_bool (inB_false.2 (.inl (by omega))).symm, rfl⟩

/-- the row of three numbers and the arguments -/
theorem app_three (w : World) (a b d : Int) (sa : Option Addr) (sn sc : Nat) (args : List Int) (hx : Came w sa sn sc 1 (args.map intCells)) (hr : sn * 8 ≤ 140737488351232) (ty : TypeId) :
  ∃ v' w', (Builtin.append_ #[22, 22] ty #[.slice (some ⟨w.heap.size, 0, none⟩) 3 3, .slice sa sn sc]).run Tryz.prog (w.alloc (.cells #[.int .i64 a, .int .i64 b, .int .i64 d] 3)) = .ok v' w' ∧
   w'.ownsRow w.heap.size 3 1 v' (a :: b :: d :: args).length ((a :: b :: d :: args).map (Value.int .i64)) ∧ Below w.heap.size w w' := by
 have h1 := World.ownsRow_lit (base := w.heap.size) (e := 3) (size := 1) w #[.int .i64 a, .int .i64 b, .int .i64 d] 3 (by simp) (by decide) rfl
 have hb1 : Below w.heap.size w (w.alloc (.cells #[.int .i64 a, .int .i64 b, .int .i64 d] 3)) := (Below.refl _ w).alloc (Nat.le_refl _) _
 obtain ⟨v', w', e1, e2, e3⟩ := run_app _ ty _ w.heap.size 3 [a, b, d] h1 sa sn sc args (hx.below hb1) (by omega) (by simp)
 refine ⟨v', w', e1, ?_, hb1.trans (belowOf (base := 0) e3 (fun g hg => ?_) (by simp))⟩
 ·have hl : (a :: b :: d :: args).length = 3 + sn := by have h9 : args.length = sn := (by simpa using hx.count); simp; omega
  rw [hl]; exact e2
 ·have : g = w.heap.size := by simpa [Value.ownBlock] using hg.symm
  omega

def endMany (kind : Int) : Int := if kind == 1 then 1 else if kind == 2 then 2 else 0
def endOk (x : VE) : Bool :=
 if x.kind == 0 then (x.op == 0 && x.b == 0) && x.n == 0
 else if x.kind == 1 then ((x.op == 0 && x.a == 0) && x.b == 0) && x.n == 0
 else if x.kind == 2 then ((x.op == 16 || x.op == 17) || x.op == 18) && x.n == 0
 else ((x.op == 0 && x.a == 0) && x.b == 0) && inB x.n 1 6
def toV (blocks : Int) (l : List Int) : Bool := l.all fun r => inB r 1 (blocks - 1)
/-- the error of the end of a block -/
def badE (x : VE) (regs blocks : Int) : Int :=
 if ¬ (0 ≤ x.kind ∧ x.kind ≤ 3) then 1 else if endOk x = false ∨ (x.sn : Int) ≠ endMany x.kind then 3 else if inB x.a 0 (regs - 1) = false ∨ inB x.b 0 (regs - 1) = false then 6 else if toV blocks x.to = false then 4 else 0
end
end Go.Proofs.YtdnpoomagjcpfaaGreat
