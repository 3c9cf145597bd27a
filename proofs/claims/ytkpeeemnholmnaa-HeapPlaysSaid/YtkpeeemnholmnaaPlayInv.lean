/- HeapPlays: what holds at each round. -/
import Derived.Test.YtkpeeemnholmnaaPlayMem
import Derived.Test.YtkpeeemnholmnaaShowsW
namespace Go.Proofs.Ytkpeeemnholmnaa
open Go.RowKit
set_option linter.unusedVariables false

/-- one cell stays -/
def KeepC (a : Addr) (w w' : World) : Prop := w'.cell? a = w.cell? a
instance (a : Addr) : PreR (KeepC a) := ⟨fun w => rfl, fun h k => Eq.trans k h⟩
theorem MS.ovG {B : Nat} {w : World} {p mb G : Nat} {rv ov gr zv : Value} {S : HS} {os : List Ob} {rs : List Nat} {zs : List Int} {c : Nat → Nat} (h : MS B w p mb G rv ov gr zv S os rs zs c) : ov.ownBlock ≠ some G ∧ gr.ownBlock ≠ some G := by
  refine ⟨fun e => ?_, fun e => ?_⟩
  · have := h.c4 G e; have := h.c2; omega
  · have := h.c5 G e; have := h.c2; omega
structure PlayC (B : Nat) (w0 : World) (p mb G n : Nat) (zv : Value) (w : World) (rv ov gr : Value) (S : HS) (l1 l2 : List Nat) (os : List Ob) (rs : List Nat) (zs : List Int) (L : Nat → Prop) (ψ : Nat → Nat) (c : Nat → Nat) : Prop where
  ms : MS B w p mb G rv ov gr zv S os rs zs c
  hi : HInv S l1 l2
  rp : Rep S l1 l2 os rs zs L ψ
  on : os.length ≤ n
  rn : rs.length ≤ n
  be : Below B w0 w
def PlayE (B : Nat) (w0 : World) (p mb G n : Nat) (zv : Value) (w : World) : Prop := ∃ rv ov gr S l1 l2 os rs zs L ψ c, PlayC B w0 p mb G n zv w rv ov gr S l1 l2 os rs zs L ψ c
theorem PlayE.more {B : Nat} {w0 : World} {p mb G n n' : Nat} {zv : Value} {w : World} (h : PlayE B w0 p mb G n zv w) (hn : n ≤ n') : PlayE B w0 p mb G n' zv w := by
  obtain ⟨rv, ov, gr, S, l1, l2, os, rs, zs, L, ψ, c, h⟩ := h
  exact ⟨rv, ov, gr, S, l1, l2, os, rs, zs, L, ψ, c, h.ms, h.hi, h.rp, Nat.le_trans h.on hn, Nat.le_trans h.rn hn, h.be⟩
theorem PlayE.later {B : Nat} {w0 : World} {p mb G n : Nat} {zv : Value} {w w' : World} (h : PlayE B w0 p mb G n zv w) (hb : Below w.heap.size w w') : PlayE B w0 p mb G n zv w' := by
  obtain ⟨rv, ov, gr, S, l1, l2, os, rs, zs, L, ψ, c, h⟩ := h
  exact ⟨rv, ov, gr, S, l1, l2, os, rs, zs, L, ψ, c, h.ms.later hb, h.hi, h.rp, h.on, h.rn, h.be.trans (hb.mono h.ms.hB)⟩
theorem intV_cells (zs : List Int) : zs.map intV = (zs.map intCells).map fun l => l.headD undef := by
  rw [List.map_map]; rfl

/-- at the start -/
theorem PlayE.start {w0 w : World} {B p mb : Nat} {S : HS} (hs : HeapSt w p mb (.slice none 0 0) S) (hi : HInv S [] []) (hp : B ≤ p) (hm : B ≤ mb) (hb : Below B w0 w) (hB : B ≤ w.heap.size) :
    PlayE B w0 p mb w.heap.size 0 (.slice none 0 0) (w.alloc (.cells #[.slice none 0 0, .slice none 0 0] 32)) := by
  have hlp := hs.st.lt
  have hlm := hs.mm.lt
  have hne := hs.d1
  refine ⟨.slice none 0 0, .slice none 0 0, .slice none 0 0, S, [], [], [], [], [], fun _ => False, id, fun k => if k = p then 0 else if k = mb then 1 else if k = w.heap.size then 2 else 7, ?_, hi, Rep.none _ _ _, Nat.le_refl _, Nat.le_refl _, hb.alloc hB _⟩
  refine ⟨hs.later ((Below.refl _ _).alloc (Nat.le_refl _) _), ⟨Blk.new w [.slice none 0 0, .slice none 0 0] _, World.ownsRow_nil _ _ _ _, (fun o ho => by cases ho), IRow.nil _⟩, IRow.nil _, if_pos rfl, ?_, ?_, fun g hg => (by cases hg), fun g hg => (by cases hg), fun g hg => (by cases hg), fun g hg => (by cases hg), fun i o ho => (by cases ho), fun k hk => ?_, by simp; omega⟩
  · show (if mb = p then 0 else if mb = mb then 1 else if mb = w.heap.size then 2 else 7) = 1
    rw [if_neg (fun e => hne e.symm), if_pos rfl]
  · show (if w.heap.size = p then 0 else if w.heap.size = mb then 1 else if w.heap.size = w.heap.size then 2 else 7) = 2
    rw [if_neg (by omega), if_neg (by omega), if_pos rfl]
  · show (if k = p then 0 else if k = mb then 1 else if k = w.heap.size then 2 else 7) = 7
    rw [if_neg (by omega), if_neg (by omega), if_neg (by omega)]

section
variable {B : Nat} {w0 : World} {p mb G n : Nat} {zv : Value} {w w' : World} {rv rv' ov gr : Value} {S S' : HS} {l1 l2 l1' l2' : List Nat} {os : List Ob} {rs : List Nat} {zs : List Int} {L : Nat → Prop} {ψ : Nat → Nat} {c : Nat → Nat}
theorem PlayC.pack (h : PlayC B w0 p mb G n zv w rv ov gr S l1 l2 os rs zs L ψ c) : PlayE B w0 p mb G n zv w := ⟨rv, ov, gr, S, l1, l2, os, rs, zs, L, ψ, c, h⟩
theorem PlayC.later (h : PlayC B w0 p mb G n zv w rv ov gr S l1 l2 os rs zs L ψ c) (hb : Below w.heap.size w w') : PlayC B w0 p mb G n zv w' rv ov gr S l1 l2 os rs zs L ψ c :=
  ⟨h.ms.later hb, h.hi, h.rp, h.on, h.rn, h.be.trans (hb.mono h.ms.hB)⟩
/-- an object has been allocated -/
theorem PlayC.alloc (h : PlayC B w0 p mb G n zv w rv ov gr S l1 l2 os rs zs L ψ c) {t s wd : Nat} (ht : t ≤ 258) (hs : s ≤ 5) (hw : wd ≤ 500) (hr : RoomB S s = true) (hst : HeapSt w' p mb rv (S.alloc t s (2 * (wd : Int) + 1))) (hstep : HStep p mb rv rv w w') :
    Below B w0 w' ∧ ∃ l1' l2' c', MS B w' p mb G rv ov gr zv (S.alloc t s (2 * (wd : Int) + 1)) os rs zs c' ∧ HInv (S.alloc t s (2 * (wd : Int) + 1)) l1' l2' ∧
      ∃ L' ψ', ∀ fv, Rep (S.alloc t s (2 * (wd : Int) + 1)) l1' l2' (os ++ [(⟨(t : Int), fv, List.replicate s ⟨(wd : Int), -1⟩⟩ : Ob)]) (rs ++ [os.length]) (zs ++ [2 * (S.at_ s : Int)]) L' ψ' := by
  obtain ⟨l1', l2', h1, h2, h3⟩ := h.hi.allocOdd (t := t) (s := s) (f := 2 * (wd : Int) + 1) ht (by omega) hr (by omega) (by omega)
  obtain ⟨hh1, hh2, hh3, hh4⟩ := hdr_is t s ht (by omega)
  refine ⟨h.be.trans (h.ms.bHeap hstep), l1', l2', _, h.ms.heap hst hstep, h1, fun k => L k ∨ k = os.length, fun k => if k = os.length then S.at_ s else ψ k, fun fv => ?_⟩
  have hk : Rep (S.alloc t s (2 * (wd : Int) + 1)) l1' l2' os rs zs L ψ := h.rp.keep fun j hj => ⟨(h3 j hj).1, (h3 j hj).2.2⟩
  refine hk.add h2 (fun k hl => (h3 _ (h.rp.mem k hl)).2.1) ?_ fun u f hf => ?_
  · rw [alloc_hdr, hh3, hh2]
    simp
  · have hf : (List.replicate s (⟨(wd : Int), -1⟩ : Fld))[u]? = some f := hf
    have hu : u < s := by have := (List.getElem?_eq_some_iff.1 hf).1; simpa using this
    rw [List.getElem?_replicate, if_pos hu] at hf
    injection hf with hf
    subst hf
    exact ⟨by show (-1 : Int) < 0; omega, alloc_field ⟨by omega, by omega⟩⟩
/-- a word of an object has been stored -/
theorem PlayC.stored (h : PlayC B w0 p mb G n zv w rv ov gr S l1 l2 os rs zs L ψ c) {k q t : Nat} {o : Ob} {rem' : List Nat} (hk : L k) (hq : L q) (ho : os[k]? = some o) (ht : t < o.fs.length) (hst : HeapSt w' p mb rv' (S.upd (ψ k + t + 1) (2 * (ψ q : Int)) rem')) (hi' : HInv (S.upd (ψ k + t + 1) (2 * (ψ q : Int)) rem') l1 l2) (hstep : HStep p mb rv rv' w w') {g : Nat} (hg : o.fv.ownBlock = some g) :
    PlayE B w0 p mb G n zv ((w'.setCell ⟨g, t * 2, none⟩ (.int .i64 0)).setCell ⟨g, t * 2 + 1, none⟩ (.int .i64 (q : Int))) := by
  have hm := h.ms.heap hst hstep
  refine ⟨rv', ov, gr, _, l1, l2, _, rs, zs, L, ψ, _, ⟨hm.field ho ht hg (q : Int), hi', h.rp.store h.hi hk hq ho ht, by rw [List.length_set]; exact h.on, h.rn, ?_⟩⟩
  exact (h.be.trans (h.ms.bHeap hstep)).trans (hm.bField ho hg _ _ _ _)
/-- a collection -/
theorem PlayC.coll (h : PlayC B w0 p mb G n zv w rv ov gr S l1 l2 os rs zs L ψ c) {v' : Value} {R l2' : List Nat} {φ : Nat → Nat} (hown : w'.ownsRow w.heap.size 3 1 v' zs.length (zs.map fun z => Value.int .i64 (fv φ z))) (hst : HeapSt w' p mb (.slice none 0 0) S') (hc : Coll S S' l1 l2 l2' R φ)
    (hr : ∀ v ∈ zs, ∀ j : Nat, 0 < j → v = 2 * (j : Int) → j ∈ R) (hstep : HStep p mb rv (.slice none 0 0) w w') : PlayE B w0 p mb G n v' w' := by
  have hz : IRow w' v' (zs.map (fv φ)) := IRow.owns (n := zs.length) (base := w.heap.size) (by rw [List.map_map]; exact hown)
  exact ⟨.slice none 0 0, ov, gr, S', [], l2', os, rs, zs.map (fv φ), _, _, _, ⟨h.ms.collect hst hstep hz fun g hg => (hown.lt g hg).1, hc.inv, h.rp.coll h.hi hc hr, h.on, h.rn, h.be.trans (h.ms.bHeap hstep)⟩⟩
/-- a major collection that did not fit -/
theorem PlayC.full (h : PlayC B w0 p mb G n zv w rv ov gr S l1 l2 os rs zs L ψ c) {m' : Nat → Int} (hst : HeapSt w' p mb rv { S with m := m' }) (hm : ∀ i, (i < S.to_ ∨ S.to_ + S.half ≤ i) → m' i = S.m i) (hstep : HStep p mb rv rv w w') : PlayE B w0 p mb G n zv w' := by
  obtain ⟨h1, h2⟩ := h.hi.half2 hm
  exact ⟨rv, ov, gr, _, l1, l2, os, rs, zs, L, ψ, _, ⟨h.ms.heap hst hstep, h1, h.rp.keep fun j hj => ⟨hj, h2 j hj⟩, h.on, h.rn, h.be.trans (h.ms.bHeap hstep)⟩⟩
/-- the new object's number and its place are put behind the roots -/
theorem push_ints {rs : List Nat} {k : Nat} : intL (rs ++ [k]) = intL rs ++ [(k : Int)] := by simp [intL]
theorem intL_len (rs : List Nat) : (intL rs).length = rs.length := by simp [intL]
theorem intL_take (rs : List Nat) (k : Nat) : intL (rs.take k) = (intL rs).take k := by simp [intL]
theorem intL_drop (rs : List Nat) (k : Nat) : intL (rs.drop k) = (intL rs).drop k := by simp [intL]
theorem intL_append (a b : List Nat) : intL (a ++ b) = intL a ++ intL b := by simp [intL]
theorem getD_of {α : Type} {l : List α} {i : Nat} (h : i < l.length) (d : α) : l[i] = l.getD i d := by simp [List.getD_eq_getElem?_getD, h]
theorem MS.rootAt (h : MS B w p mb G rv ov gr zv S os rs zs c) (h0 : 0 < rs.length) : ∃ gg gc, gr = .slice (some ⟨gg, 0, none⟩) rs.length gc ∧ rs.length ≤ gc ∧ gg < w.heap.size ∧ ∀ i, i < rs.length → w.cell? ⟨gg, i, none⟩ = some (.int .i64 (rs.getD i 0 : Int)) := by
  obtain ⟨gg, gc, hv, h1, h2, _⟩ := h.gm.rr.form (by rw [intL_len]; exact h0)
  rw [intL_len] at hv h2
  refine ⟨gg, gc, hv, h2, h1, fun i hi => ?_⟩
  have := h.gm.rr.word (g := gg) (by rw [hv]; rfl) (i := i) (by rw [intL_len]; exact hi)
  rw [this]
  have e : (intL rs)[i]'(by rw [intL_len]; exact hi) = (rs[i] : Int) := by simp [intL]
  rw [e, getD_of hi 0]
theorem MS.zAt (h : MS B w p mb G rv ov gr zv S os rs zs c) (h0 : 0 < zs.length) : ∃ gg gc, zv = .slice (some ⟨gg, 0, none⟩) zs.length gc ∧ zs.length ≤ gc ∧ gg < w.heap.size ∧ ∀ i, i < zs.length → w.cell? ⟨gg, i, none⟩ = some (.int .i64 (zs.getD i 0)) := by
  obtain ⟨gg, gc, hv, h1, h2, _⟩ := h.zr.form h0
  refine ⟨gg, gc, hv, h2, h1, fun i hi => ?_⟩
  rw [h.zr.word (g := gg) (by rw [hv]; rfl) (i := i) hi, getD_of hi 0]
theorem MS.objAt (h : MS B w p mb G rv ov gr zv S os rs zs c) {k : Nat} {o : Ob} (ho : os[k]? = some o) : ∃ go oc, ov = .slice (some ⟨go, 0, none⟩) os.length oc ∧ os.length ≤ oc ∧ go < w.heap.size ∧ w.cell? ⟨go, k * 2 + 1, none⟩ = some o.fv := by
  obtain ⟨hk, rfl⟩ := List.getElem?_eq_some_iff.1 ho
  obtain ⟨go, oc, hv, _, h1, h2, _⟩ := ownG_has h.gm.ob (by omega)
  refine ⟨go, oc, hv, h2, h1, ?_⟩
  have e := flatN_get oC_len os k 1 hk (by omega)
  have e2 : (oC os[k])[1]? = some os[k].fv := rfl
  rw [e2] at e
  have := h.gm.ob.cells (g := go) (by rw [hv]; rfl) _ _ e
  rw [Addr.add_lit] at this
  simpa using this
theorem MS.fldAt (h : MS B w p mb G rv ov gr zv S os rs zs c) {k : Nat} {o : Ob} (ho : os[k]? = some o) : ∃ fa fc, o.fv = .slice fa o.fs.length fc ∧ o.fs.length ≤ fc ∧ (0 < o.fs.length → ∃ g, fa = some ⟨g, 0, none⟩ ∧ o.fv.ownBlock = some g ∧ g < w.heap.size ∧ ∀ j, j < o.fs.length * 2 → (∃ u, w.cell? ⟨g, j, none⟩ = some u) ∧ w.frozen? ⟨g, j, none⟩ = false) := by
  have hf := h.gm.fl o (idx_mem ho)
  rcases hf.2 with ⟨hv, h0⟩ | ⟨g, cap, cur, hv, _, h2, h3, h4, h5, h6⟩
  · exact ⟨none, 0, by rw [hv, h0], by omega, fun h => by omega⟩
  · refine ⟨some ⟨g, 0, none⟩, cap, hv, h3, fun h0 => ⟨g, rfl, by rw [hv]; rfl, lt_of_block h2, fun j hj => ?_⟩⟩
    have hjc : j < cur.size := by rw [h5]; have := Nat.mul_le_mul_right 2 h3; omega
    refine ⟨⟨cur[j], ?_⟩, ?_⟩
    · rw [cell_of_row w g j cur _ _ h2]; simp [hjc]
    · simp [World.frozen?, h2]
theorem PlayC.rootOf (h : PlayC B w0 p mb G n zv w rv ov gr S l1 l2 os rs zs L ψ c) {k : Nat} (hk : k < zs.length) : L (rs.getD k 0) ∧ zs.getD k 0 = 2 * (ψ (rs.getD k 0) : Int) ∧ rs.getD k 0 < os.length ∧ ψ (rs.getD k 0) ∈ l1 ++ l2 ∧ 0 < ψ (rs.getD k 0) ∧ ψ (rs.getD k 0) ≤ 65536 := by
  obtain ⟨h1, h2⟩ := h.rp.root k (by rw [← h.rp.len]; exact hk)
  have h3 := h.rp.pos h.hi h1
  have := h.hi.ok.n
  exact ⟨h1, h2, h.rp.lt _ h1, h.rp.mem _ h1, by omega, by omega⟩
theorem MS.objCell {go m oc : Nat} (h : MS B w p mb G rv (.slice (some ⟨go, 0, none⟩) m oc) gr zv S os rs zs c) {k : Nat} {o : Ob} (ho : os[k]? = some o) : w.cell? ⟨go, k * 2 + 1, none⟩ = some o.fv := by
  obtain ⟨go', oc', e, _, _, h2⟩ := h.objAt ho
  injection e with e _ _
  injection e with e
  injection e with e _ _
  rw [e]; exact h2
theorem MS.rootCell {gg m gc : Nat} (h : MS B w p mb G rv ov (.slice (some ⟨gg, 0, none⟩) m gc) zv S os rs zs c) {i : Nat} (hi : i < rs.length) : w.cell? ⟨gg, i, none⟩ = some (.int .i64 (rs.getD i 0 : Int)) := by
  obtain ⟨gg', gc', e, _, _, h2⟩ := h.rootAt (by omega)
  injection e with e _ _
  injection e with e
  injection e with e _ _
  rw [e]; exact h2 i hi
theorem MS.zCell {gg m gc : Nat} (h : MS B w p mb G rv ov gr (.slice (some ⟨gg, 0, none⟩) m gc) S os rs zs c) {i : Nat} (hi : i < zs.length) : w.cell? ⟨gg, i, none⟩ = some (.int .i64 (zs.getD i 0)) := by
  obtain ⟨gg', gc', e, _, _, h2⟩ := h.zAt (by omega)
  injection e with e _ _
  injection e with e
  injection e with e _ _
  rw [e]; exact h2 i hi
theorem MS.fldCell {g m fc : Nat} (h : MS B w p mb G rv ov gr zv S os rs zs c) {k : Nat} {o : Ob} (ho : os[k]? = some o) (hv : o.fv = .slice (some ⟨g, 0, none⟩) m fc) {j : Nat} (hj : j < o.fs.length * 2) : (∃ u, w.cell? ⟨g, j, none⟩ = some u) ∧ w.frozen? ⟨g, j, none⟩ = false := by
  obtain ⟨fa, fc', e, _, h2⟩ := h.fldAt ho
  obtain ⟨g', e2, _, _, h3⟩ := h2 (by omega)
  rw [hv, e2] at e
  injection e with e _ _
  injection e with e
  injection e with e _ _
  rw [e]; exact h3 j hj
theorem MS.zForm {za : Option Addr} {m zc : Nat} (h : MS B w p mb G rv ov gr (.slice za m zc) S os rs zs c) (h0 : 0 < zs.length) : ∃ gz, za = some ⟨gz, 0, none⟩ ∧ gz < w.heap.size := by
  obtain ⟨gg', gc', e, _, h1, h2⟩ := h.zAt h0
  injection e with e _ _
  exact ⟨gg', e, h1⟩
end
/-- the whole heap stays -/
def KeepH (w w' : World) : Prop := w'.heap = w.heap
instance : PreR KeepH := ⟨fun w => rfl, fun h k => Eq.trans k h⟩
theorem KeepH.cell {w : World} {a : Addr} {v : Value} (h : w.cell? a = some v) (x : AfterR KeepH w) : x.world.cell? a = some v := by
  rw [← h]; exact World.cell?_of_block (by rw [x.rel])
/-- what a collection answers -/
def CollPost (B : Nat) (w0 : World) (p mb G n : Nat) (zv : Value) (e : Ending) (w' : World) : Prop :=
  (e = .returned (.tuple #[.slice none 0 0, .int .i64 16]) ∧ PlayE B w0 p mb G n zv w') ∨ ∃ za m zc, e = .returned (.tuple #[.slice za m zc, .int .i64 0]) ∧ PlayE B w0 p mb G n (.slice za m zc) w'
section
variable {B : Nat} {w0 : World} {p mb G n : Nat} {zv : Value} {w w' : World} {rv rv' ov gr : Value} {S S' : HS} {l1 l2 l1' l2' : List Nat} {os : List Ob} {rs : List Nat} {zs : List Int} {L : Nat → Prop} {ψ : Nat → Nat} {c : Nat → Nat}
theorem PlayC.apart {za : Option Addr} {m zc : Nat} (h : PlayC B w0 p mb G n (.slice za m zc) w rv ov gr S l1 l2 os rs zs L ψ c) : m = zs.length ∧ ∀ b o, 0 < m → za = some ⟨b, o, none⟩ → b ≠ p ∧ b ≠ mb ∧ rv.ownBlock ≠ some b := by
  have hm := h.ms.zr.came.1
  refine ⟨hm, fun b o h0 e => ?_⟩
  obtain ⟨gz, e2, _⟩ := h.ms.zForm (by omega)
  rw [e] at e2
  injection e2 with e2
  injection e2 with e2 e3 _
  subst e2 e3
  have h6 := h.ms.c6 b (by rw [e]; rfl)
  refine ⟨fun e => ?_, fun e => ?_, fun e => ?_⟩
  · have := h.ms.c0; rw [e] at h6; omega
  · have := h.ms.c1; rw [e] at h6; omega
  · have := h.ms.c3 b e; omega
theorem PlayC.minor {za : Option Addr} {m zc : Nat} (h : PlayC B w0 p mb G n (.slice za m zc) w rv ov gr S l1 l2 os rs zs L ψ c) (hn : n ≤ 1000) :
    Calls Try.prog 14 #[.pointer (some ⟨p, 0, none⟩), .slice za m zc] w (CollPost B w0 p mb G n (.slice za m zc)) := by
  obtain ⟨hm, hag⟩ := h.apart
  have hl := h.rp.len
  have hr := h.rn
  refine (minor_ok w p mb rv S l1 l2 h.ms.hs h.hi za m zc zs h.ms.zr.came.2 (by omega) hag h.rp.words.1).mono ?_
  rintro e w' (⟨_, rfl, k, rfl⟩ | ⟨v', S', φ, R, l2', rfl, hown, hst, hc, hr, hstep⟩)
  · exact .inl ⟨rfl, (h.later (below_drewN_self _ _ k)).pack⟩
  · have hE := h.coll hown hst hc hr hstep
    obtain ⟨a, cc, rfl, _⟩ := (IRow.owns (n := zs.length) (base := w.heap.size) (zs := zs.map (fv φ)) (by rw [List.map_map]; exact hown)).shape
    exact .inr ⟨_, _, _, rfl, hE⟩
theorem PlayC.major {za : Option Addr} {m zc : Nat} (h : PlayC B w0 p mb G n (.slice za m zc) w rv ov gr S l1 l2 os rs zs L ψ c) (hn : n ≤ 1000) :
    Calls Try.prog 15 #[.pointer (some ⟨p, 0, none⟩), .slice za m zc] w (CollPost B w0 p mb G n (.slice za m zc)) := by
  obtain ⟨hm, hag⟩ := h.apart
  have hl := h.rp.len
  have hr := h.rn
  refine (major_ok w p mb rv S l1 l2 (l1 ++ l2) h.ms.hs h.hi za m zc zs h.ms.zr.came.2 (by omega) hag (fun j hj => hj) h.hi.closed h.rp.words.2).mono ?_
  rintro e w' (⟨_, rfl, ⟨m', hst, hm'⟩, hstep⟩ | ⟨v', S', φ, R, l2', rfl, hown, hst, hc, hr, hstep, _⟩)
  · exact .inl ⟨rfl, h.full hst hm' hstep⟩
  · have hE := h.coll hown hst hc hr hstep
    obtain ⟨a, cc, rfl, _⟩ := (IRow.owns (n := zs.length) (base := w.heap.size) (zs := zs.map (fv φ)) (by rw [List.map_map]; exact hown)).shape
    exact .inr ⟨_, _, _, rfl, hE⟩
end
end Go.Proofs.Ytkpeeemnholmnaa
