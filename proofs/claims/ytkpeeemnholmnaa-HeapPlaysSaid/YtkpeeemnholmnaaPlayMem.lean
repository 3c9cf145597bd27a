/- HeapPlays: all the memory of the law: the heap, the graph, the roots, apart from each other (each block has a class), and what each step of the law makes of it. No function of the program. -/
import Derived.Test.YtkpeeemnholmnaaGraphAdd
import Derived.Test.YtkpeeemnholmnaaPlayRep
namespace Go.Proofs.Ytkpeeemnholmnaa
open Go.RowKit
set_option linter.unusedVariables false

def tagC (c : Nat → Nat) (v : Value) (t : Nat) : Prop := ∀ g, v.ownBlock = some g → c g = t
/-- new blocks are of class t -/
def retC (c : Nat → Nat) (n t k : Nat) : Nat := if k < n then c k else t
theorem tagC.ret {c : Nat → Nat} {v : Value} {t n t' : Nat} (h : tagC c v t) (hl : ∀ g, v.ownBlock = some g → g < n) : tagC (retC c n t') v t := fun g hg => by
  unfold retC; rw [if_pos (hl g hg)]; exact h g hg
theorem tagC.grown {c : Nat → Nat} {v v' : Value} {t n : Nat} (h : tagC c v t) (hl : ∀ g, v.ownBlock = some g → g < n) (hv : ∀ g, v'.ownBlock = some g → v.ownBlock = some g ∨ n ≤ g) : tagC (retC c n t) v' t := fun g hg => by
  unfold retC
  rcases hv g hg with e | e
  · rw [if_pos (hl g e)]; exact h g e
  · rw [if_neg (by omega)]

structure MS (B : Nat) (w : World) (p mb G : Nat) (rv ov gr zv : Value) (S : HS) (os : List Ob) (rs : List Nat) (zs : List Int) (c : Nat → Nat) : Prop where
  hs : HeapSt w p mb rv S
  gm : GM w G ov gr os rs
  zr : IRow w zv zs
  c0 : c p = 0
  c1 : c mb = 1
  c2 : c G = 2
  c3 : tagC c rv 3
  c4 : tagC c ov 4
  c5 : tagC c gr 5
  c6 : tagC c zv 6
  c7 : ∀ i o, os[i]? = some o → tagC c o.fv (8 + i)
  old : ∀ k, k < B → c k = 7
  hB : B ≤ w.heap.size

theorem mem_idx {α : Type} {l : List α} {x : α} (h : x ∈ l) : ∃ i : Nat, l[i]? = some x := by
  obtain ⟨i, hi, e⟩ := List.getElem_of_mem h
  exact ⟨i, by rw [List.getElem?_eq_getElem hi, e]⟩
theorem idx_mem {α : Type} {l : List α} {x : α} {i : Nat} (h : l[i]? = some x) : x ∈ l := by
  obtain ⟨hi, e⟩ := List.getElem?_eq_some_iff.1 h
  rw [← e]; exact List.getElem_mem hi

section
variable {B : Nat} {w w' : World} {p mb G : Nat} {rv ov gr zv rv' gr' zv' : Value} {S S' : HS} {os : List Ob} {rs rs' : List Nat} {zs zs' : List Int} {c : Nat → Nat}
theorem MS.lrv (h : MS B w p mb G rv ov gr zv S os rs zs c) : ∀ g, rv.ownBlock = some g → g < w.heap.size := fun g hg => (h.hs.rr.lt g hg).2
theorem MS.lov (h : MS B w p mb G rv ov gr zv S os rs zs c) : ∀ g, ov.ownBlock = some g → g < w.heap.size := fun g hg => (h.gm.ob.lt g hg).2
theorem MS.lgr (h : MS B w p mb G rv ov gr zv S os rs zs c) : ∀ g, gr.ownBlock = some g → g < w.heap.size := h.gm.rr.lt
theorem MS.lzv (h : MS B w p mb G rv ov gr zv S os rs zs c) : ∀ g, zv.ownBlock = some g → g < w.heap.size := h.zr.lt
theorem MS.lfv (h : MS B w p mb G rv ov gr zv S os rs zs c) {i : Nat} {o : Ob} (ho : os[i]? = some o) : ∀ g, o.fv.ownBlock = some g → g < w.heap.size := fun g hg => ((h.gm.fl o (idx_mem ho)).lt g hg).2
theorem MS.kHeap (h : MS B w p mb G rv ov gr zv S os rs zs c) (K : ∀ k, k < w.heap.size → c k = 0 ∨ c k = 1 ∨ c k = 3 → w'.heap[k]? = w.heap[k]?) : HeapSt w' p mb rv S :=
  ⟨h.hs.st.of_heap (K p h.hs.st.lt (.inl h.c0)), h.hs.mm.of_heap (K mb h.hs.mm.lt (.inr (.inl h.c1))), ownG_kept h.hs.rr fun g hg => K g (h.lrv g hg) (.inr (.inr (h.c3 g hg))), h.hs.d1, h.hs.d2, h.hs.d3⟩
theorem MS.kFl (h : MS B w p mb G rv ov gr zv S os rs zs c) (K : ∀ k, k < w.heap.size → 8 ≤ c k → w'.heap[k]? = w.heap[k]?) : ∀ o ∈ os, w'.ownsRow 0 37 2 o.fv o.fs.length (o.fs.flatMap fC) := fun o ho => by
  obtain ⟨i, hi⟩ := mem_idx ho
  exact ownG_kept (h.gm.fl o ho) fun g hg => K g (h.lfv hi g hg) (by rw [h.c7 i o hi g hg]; omega)
theorem MS.kGM (h : MS B w p mb G rv ov gr zv S os rs zs c) (K : ∀ k, k < w.heap.size → c k = 2 ∨ c k = 4 ∨ c k = 5 ∨ 8 ≤ c k → w'.heap[k]? = w.heap[k]?) : GM w' G ov gr os rs :=
  ⟨h.gm.bx.of_heap (K G h.gm.bx.lt (.inl h.c2)), ownG_kept h.gm.ob fun g hg => K g (h.lov g hg) (.inr (.inl (h.c4 g hg))), h.kFl fun k hk e => K k hk (.inr (.inr (.inr e))), h.gm.rr.kept fun g hg => K g (h.lgr g hg) (.inr (.inr (.inl (h.c5 g hg))))⟩
theorem MS.kZr (h : MS B w p mb G rv ov gr zv S os rs zs c) (K : ∀ k, k < w.heap.size → c k = 6 → w'.heap[k]? = w.heap[k]?) : IRow w' zv zs := h.zr.kept fun g hg => K g (h.lzv g hg) (h.c6 g hg)

theorem MS.later (h : MS B w p mb G rv ov gr zv S os rs zs c) (hb : Below w.heap.size w w') : MS B w' p mb G rv ov gr zv S os rs zs c :=
  ⟨h.kHeap fun k hk _ => hb.block k hk, h.kGM fun k hk _ => hb.block k hk, h.kZr fun k hk _ => hb.block k hk, h.c0, h.c1, h.c2, h.c3, h.c4, h.c5, h.c6, h.c7, h.old, Nat.le_trans h.hB hb.size⟩
theorem MS.hkeep (h : MS B w p mb G rv ov gr zv S os rs zs c) (hst : HStep p mb rv rv' w w') : ∀ k, k < w.heap.size → c k ≠ 0 → c k ≠ 1 → c k ≠ 3 → w'.heap[k]? = w.heap[k]? := fun k hk h0 h1 h3 =>
  hst.block k hk (fun e => h0 (by rw [e]; exact h.c0)) (fun e => h1 (by rw [e]; exact h.c1)) (fun e => h3 (h.c3 k e))
theorem retC_lt {c : Nat → Nat} {n t k : Nat} (h : k < n) : retC c n t k = c k := if_pos h
theorem MS.bHeap (h : MS B w p mb G rv ov gr zv S os rs zs c) (hst : HStep p mb rv rv' w w') : Below B w w' :=
  ⟨hst.os, hst.tape, hst.output, hst.size, fun k hk => h.hkeep hst k (Nat.lt_of_lt_of_le hk h.hB) (by rw [h.old k hk]; omega) (by rw [h.old k hk]; omega) (by rw [h.old k hk]; omega)⟩
theorem MS.bZ (h : MS B w p mb G rv ov gr zv S os rs zs c) (hg : w.grownBy w' zv.ownBlock) : Below B w w' :=
  ⟨hg.os, hg.tape, hg.output, hg.size, fun k hk => hg.block k (Nat.lt_of_lt_of_le hk h.hB) fun e => by have := h.c6 k e.symm; have := h.old k hk; omega⟩
theorem MS.bG (h : MS B w p mb G rv ov gr zv S os rs zs c) (hg : w.grownBy w' gr.ownBlock) (v : Value) : Below B w (w'.setCell ⟨G, 1, none⟩ v) := by
  refine Below.setCell ⟨hg.os, hg.tape, hg.output, hg.size, fun k hk => hg.block k (Nat.lt_of_lt_of_le hk h.hB) fun e => by have := h.c5 k e.symm; have := h.old k hk; omega⟩ ?_ v
  show B ≤ G
  rcases Nat.lt_or_ge G B with e | e
  · have := h.old G e; have := h.c2; omega
  · exact e
theorem MS.bAdd (h : MS B w p mb G rv ov gr zv S os rs zs c) {t : Int} {s : Nat} {f : Fld} {e : Ending} (ha : AddPost G ov gr os t s f w e w') : Below B w w' := by
  obtain ⟨ov', fv, rfl, hb, ho, hf, ho2, h1, h2, h3, h4, h5⟩ := ha
  exact ⟨h1, h2, h3, h4, fun k hk => h5 k (Nat.lt_of_lt_of_le hk h.hB) (fun e => by have := h.old k hk; have := h.c2; rw [e] at *; omega) (fun e => by have := h.old k hk; have := h.c4 k e; omega)⟩
theorem MS.bField (h : MS B w p mb G rv ov gr zv S os rs zs c) {k : Nat} {o : Ob} (ho : os[k]? = some o) {g : Nat} (hg : o.fv.ownBlock = some g) (i j : Nat) (u v : Value) : Below B w ((w.setCell ⟨g, i, none⟩ u).setCell ⟨g, j, none⟩ v) := by
  have hgB : B ≤ g := by
    rcases Nat.lt_or_ge g B with e | e
    · have := h.old g e; have := h.c7 k o ho g hg; omega
    · exact e
  exact ((Below.refl B w).setCell (p := ⟨g, i, none⟩) hgB u).setCell (p := ⟨g, j, none⟩) hgB v
/-- a step of the heap -/
theorem MS.heap (h : MS B w p mb G rv ov gr zv S os rs zs c) (hs' : HeapSt w' p mb rv' S') (hst : HStep p mb rv rv' w w') : MS B w' p mb G rv' ov gr zv S' os rs zs (retC c w.heap.size 3) :=
  ⟨hs', h.kGM fun k hk e => h.hkeep hst k hk (by omega) (by omega) (by omega), h.kZr fun k hk e => h.hkeep hst k hk (by omega) (by omega) (by omega),
    (retC_lt h.hs.st.lt).trans h.c0, (retC_lt h.hs.mm.lt).trans h.c1, (retC_lt h.gm.bx.lt).trans h.c2, h.c3.grown h.lrv hst.row, h.c4.ret h.lov, h.c5.ret h.lgr, h.c6.ret h.lzv, fun i o ho => (h.c7 i o ho).ret (h.lfv ho), fun k hk => (retC_lt (Nat.lt_of_lt_of_le hk h.hB)).trans (h.old k hk), Nat.le_trans h.hB hst.size⟩
/-- a collection: the roots lie in a new row -/
theorem MS.collect (h : MS B w p mb G rv ov gr zv S os rs zs c) (hs' : HeapSt w' p mb (.slice none 0 0) S') (hst : HStep p mb rv (.slice none 0 0) w w') (hz : IRow w' zv' zs') (hzb : ∀ g, zv'.ownBlock = some g → w.heap.size ≤ g) : MS B w' p mb G (.slice none 0 0) ov gr zv' S' os rs zs' (retC c w.heap.size 6) :=
  ⟨hs', h.kGM fun k hk e => h.hkeep hst k hk (by omega) (by omega) (by omega), hz,
    (retC_lt h.hs.st.lt).trans h.c0, (retC_lt h.hs.mm.lt).trans h.c1, (retC_lt h.gm.bx.lt).trans h.c2, (fun g hg => by cases hg), h.c4.ret h.lov, h.c5.ret h.lgr, h.c6.grown h.lzv fun g hg => .inr (hzb g hg), fun i o ho => (h.c7 i o ho).ret (h.lfv ho), fun k hk => (retC_lt (Nat.lt_of_lt_of_le hk h.hB)).trans (h.old k hk), Nat.le_trans h.hB hst.size⟩
/-- the law's roots are another row -/
theorem MS.setZ (h : MS B w p mb G rv ov gr zv S os rs zs c) (hg : w.grownBy w' zv.ownBlock) (hz : IRow w' zv' zs') (hzb : ∀ g, zv'.ownBlock = some g → zv.ownBlock = some g ∨ w.heap.size ≤ g) : MS B w' p mb G rv ov gr zv' S os rs zs' (retC c w.heap.size 6) := by
  have K : ∀ k, k < w.heap.size → c k ≠ 6 → w'.heap[k]? = w.heap[k]? := fun k hk hne => hg.block k hk fun e => hne (h.c6 k e.symm)
  exact ⟨h.kHeap fun k hk e => K k hk (by omega), h.kGM fun k hk e => K k hk (by omega), hz,
    (retC_lt h.hs.st.lt).trans h.c0, (retC_lt h.hs.mm.lt).trans h.c1, (retC_lt h.gm.bx.lt).trans h.c2, h.c3.ret h.lrv, h.c4.ret h.lov, h.c5.ret h.lgr, h.c6.grown h.lzv hzb, fun i o ho => (h.c7 i o ho).ret (h.lfv ho), fun k hk => (retC_lt (Nat.lt_of_lt_of_le hk h.hB)).trans (h.old k hk), Nat.le_trans h.hB hg.size⟩
/-- the graph's roots are another row -/
theorem MS.setG (h : MS B w p mb G rv ov gr zv S os rs zs c) (hg : w.grownBy w' gr.ownBlock) (hz : IRow w' gr' (intL rs')) (hzb : ∀ g, gr'.ownBlock = some g → gr.ownBlock = some g ∨ w.heap.size ≤ g) : MS B (w'.setCell ⟨G, 1, none⟩ gr') p mb G rv ov gr' zv S os rs' zs (retC c w.heap.size 5) := by
  have K : ∀ k, k < w.heap.size → c k ≠ 5 → c k ≠ 2 → (w'.setCell ⟨G, 1, none⟩ gr').heap[k]? = w.heap[k]? := fun k hk hne h2 => (Below.heap_setCell _ _ _ _ (fun e => h2 (by rw [e]; exact h.c2))).trans (hg.block k hk fun e => hne (h.c5 k e.symm))
  have hGn : gr'.ownBlock ≠ some G := fun e => by
    rcases hzb G e with e2 | e2
    · have := h.c5 G e2; have := h.c2; omega
    · have := h.gm.bx.lt; omega
  have hb9 : Blk w' G 32 [ov, gr] := h.gm.bx.of_heap (hg.block G h.gm.bx.lt fun e => by have := h.c5 G e.symm; have := h.c2; omega)
  refine ⟨h.kHeap fun k hk e => K k hk (by omega) (by omega), ⟨hb9.set 1 gr', ownG_kept h.gm.ob fun g hg => K g (h.lov g hg) (by rw [h.c4 g hg]; omega) (by rw [h.c4 g hg]; omega), h.kFl fun k hk e => K k hk (by omega) (by omega), hz.kept fun g hg => Below.heap_setCell _ _ _ _ (fun e => hGn (by rw [hg, e]))⟩, h.kZr fun k hk e => K k hk (by omega) (by omega),
    (retC_lt h.hs.st.lt).trans h.c0, (retC_lt h.hs.mm.lt).trans h.c1, (retC_lt h.gm.bx.lt).trans h.c2, h.c3.ret h.lrv, h.c4.ret h.lov, h.c5.grown h.lgr hzb, h.c6.ret h.lzv, fun i o ho => (h.c7 i o ho).ret (h.lfv ho), fun k hk => (retC_lt (Nat.lt_of_lt_of_le hk h.hB)).trans (h.old k hk), by have := hg.size; have := h.hB; simp; omega⟩
/-- Add -/
theorem MS.add (h : MS B w p mb G rv ov gr zv S os rs zs c) {t : Int} {s : Nat} {f : Fld} {e : Ending} (ha : AddPost G ov gr os t s f w e w') : e = .returned (.int .i64 (os.length : Int)) ∧ w'.cell? ⟨G, 1, none⟩ = w.cell? ⟨G, 1, none⟩ ∧
    ∃ ov' fv c', MS B w' p mb G rv ov' gr zv S (os ++ [(⟨t, fv, List.replicate s f⟩ : Ob)]) rs zs c' := by
  obtain ⟨ov', fv, rfl, hb, ho, hf, ho2, h1, h2, h3, h4, h5⟩ := ha
  have K : ∀ k, k < w.heap.size → c k ≠ 2 → c k ≠ 4 → w'.heap[k]? = w.heap[k]? := fun k hk hne hn4 => h5 k hk (fun e => hne (by rw [e]; exact h.c2)) (fun e => hn4 (h.c4 k e))
  have hfl : ∀ g, fv.ownBlock = some g → w.heap.size ≤ g := fun g hg => (hf.lt g hg).1
  have hret : ∀ k, k < w.heap.size → (if k < w.heap.size then c k else if fv.ownBlock = some k then 8 + os.length else 4) = c k := fun k hk => if_pos hk
  have tret : ∀ (v : Value) (t : Nat), tagC c v t → (∀ g, v.ownBlock = some g → g < w.heap.size) → tagC (fun k => if k < w.heap.size then c k else if fv.ownBlock = some k then 8 + os.length else 4) v t := fun v t ht hl g hg => (hret g (hl g hg)).trans (ht g hg)
  refine ⟨rfl, ?_, ov', fv, fun k => if k < w.heap.size then c k else if fv.ownBlock = some k then 8 + os.length else 4, ⟨h.kHeap fun k hk e => K k hk (by omega) (by omega), ⟨hb, ?_, fun o hm => ?_, h.gm.rr.kept fun g hg => K g (h.lgr g hg) (by rw [h.c5 g hg]; omega) (by rw [h.c5 g hg]; omega)⟩, h.kZr fun k hk e => K k hk (by omega) (by omega), (hret p h.hs.st.lt).trans h.c0, (hret mb h.hs.mm.lt).trans h.c1, (hret G h.gm.bx.lt).trans h.c2, tret _ _ h.c3 h.lrv, fun g hg => ?_, tret _ _ h.c5 h.lgr, tret _ _ h.c6 h.lzv, fun i o hi g hg => ?_, fun k hk => (hret k (Nat.lt_of_lt_of_le hk h.hB)).trans (h.old k hk), Nat.le_trans h.hB h4⟩⟩
  · rw [hb.cell 1, h.gm.bx.cell 1]; rfl
  · rw [List.length_append]; exact ho
  · rcases List.mem_append.1 hm with hm | hm
    · exact (h.kFl (w' := w') fun k hk e => K k hk (by omega) (by omega)) o hm
    · have e : o = ⟨t, fv, List.replicate s f⟩ := by simpa using hm
      rw [e]
      simp only [List.length_replicate]
      exact ownG_base hf (Nat.zero_le _)
  · obtain ⟨h6, h7, h8⟩ := ho2 g hg
    show (if g < w.heap.size then c g else if fv.ownBlock = some g then 8 + os.length else 4) = 4
    rcases h6 with h6 | h6
    · rw [hret g (h.lov g h6)]; exact h.c4 g h6
    · rw [if_neg (by omega), if_neg h7]
  · show (if g < w.heap.size then c g else if fv.ownBlock = some g then 8 + os.length else 4) = 8 + i
    by_cases hlt : i < os.length
    · rw [List.getElem?_append_left hlt] at hi
      rw [hret g (h.lfv hi g hg)]
      exact h.c7 i o hi g hg
    · have hi9 : i < (os ++ [(⟨t, fv, List.replicate s f⟩ : Ob)]).length := (List.getElem?_eq_some_iff.1 hi).1
      have hil : i = os.length := by simp at hi9; omega
      subst hil
      rw [List.getElem?_concat_length] at hi
      injection hi with hi
      subst hi
      have := hfl g hg
      rw [if_neg (by omega), if_pos hg]
theorem came_ownG {α : Type} {E : α → List Value} {k n cap base : Nat} {e : TypeId} (hk : ∀ x, (E x).length = k) {a : Option Addr} {l : List α} (h : w.ownsRow base e k (.slice a n cap) n (l.flatMap E)) (hl : l.length = n) : Came w a n cap k (l.map E) := by
  rcases h.2 with ⟨hv, rfl⟩ | ⟨g, c, cur, hv, h1, h2, h3, h4, h5, h6⟩
  · injection hv with e1 e2 e3
    subst e1 e3
    have : l = [] := List.eq_nil_of_length_eq_zero hl
    subst this
    exact ⟨rfl, Nat.le_refl _, by omega, fun _ => ⟨rfl, rfl⟩, fun v hv => by simp at hv, fun h => by omega⟩
  · injection hv with e1 e2 e3
    subst e1 e3
    refine ⟨by simp [hl], h3, by unfold maxLen at h4; omega, fun h => by simp at h, fun v hv => ?_, fun h0 _ => ⟨g, 0, rfl, lt_of_block h2, fun i v hv j hj => ?_⟩⟩
    · obtain ⟨z, _, rfl⟩ := List.mem_map.1 hv; exact hk z
    · rw [List.getElem?_map] at hv
      cases hz : l[i]? with
      | none => rw [hz] at hv; cases hv
      | some z =>
        rw [hz] at hv
        have hv : E z = v := by simpa using hv
        subst hv
        obtain ⟨hi, rfl⟩ := List.getElem?_eq_some_iff.1 hz
        have e1 := flatN_get hk l i j hi hj
        have hjl : j < (E l[i]).length := by rw [hk]; exact hj
        rw [List.getElem?_eq_getElem hjl] at e1 ⊢
        have := h.cells (g := g) rfl _ _ e1
        rw [Addr.add_lit] at this
        simpa using this
theorem GM.reads (h : GM w G ov gr os rs) : GRead w G os rs := by
  obtain ⟨oa, oc, rfl⟩ := ownG_shape h.ob
  obtain ⟨ra, rc, rfl, h1, h2⟩ := h.rr.shape
  have hl : (intL rs).length = rs.length := by simp [intL]
  refine ⟨⟨oa, oc, ra, rc, h.bx.cell 0, (h.bx.cell 1).trans (by rw [hl]; rfl), came_ownG oC_len h.ob rfl, by have := h.rr.came.2; rw [hl] at this; exact this⟩, fun o ho => ?_, h.bx.lt⟩
  obtain ⟨fa, fc, hf⟩ := ownG_shape (h.fl o ho)
  have := h.fl o ho
  rw [hf] at this
  exact ⟨fa, fc, hf, came_ownG fC_len this rfl⟩
/-- a field of an object is written -/
theorem MS.field (h : MS B w p mb G rv ov gr zv S os rs zs c) {k t : Nat} {o : Ob} (ho : os[k]? = some o) (ht : t < o.fs.length) {g : Nat} (hg : o.fv.ownBlock = some g) (q : Int) :
    MS B ((w.setCell ⟨g, t * 2, none⟩ (.int .i64 0)).setCell ⟨g, t * 2 + 1, none⟩ (.int .i64 q)) p mb G rv ov gr zv S (os.set k ⟨o.tag, o.fv, o.fs.set t ⟨0, q⟩⟩) rs zs c := by
  have hcg := h.c7 k o ho g hg
  have K : ∀ x, c x ≠ 8 + k → ((w.setCell ⟨g, t * 2, none⟩ (.int .i64 0)).setCell ⟨g, t * 2 + 1, none⟩ (.int .i64 q)).heap[x]? = w.heap[x]? := fun x hx => by
    have hne : x ≠ g := fun e => hx (by rw [e]; exact hcg)
    exact (Below.heap_setCell _ _ _ _ hne).trans (Below.heap_setCell _ _ _ _ hne)
  have hkl : k < os.length := (List.getElem?_eq_some_iff.1 ho).1
  have hom := idx_mem ho
  refine ⟨h.kHeap fun x hx e => K x (by omega), ⟨h.gm.bx.of_heap (K G (by have := h.c2; omega)), ?_, fun x hx => ?_, h.gm.rr.kept fun x hx => K x (by rw [h.c5 x hx]; omega)⟩, h.kZr fun x hx e => K x (by omega), h.c0, h.c1, h.c2, h.c3, h.c4, h.c5, h.c6, fun i x hi => ?_, h.old, by simpa using h.hB⟩
  · rw [List.length_set]
    have e1 : (os.set k ⟨o.tag, o.fv, o.fs.set t ⟨0, q⟩⟩).flatMap oC = os.flatMap oC := by
      obtain ⟨_, rfl⟩ := List.getElem?_eq_some_iff.1 ho
      have : (os.set k ⟨os[k].tag, os[k].fv, os[k].fs.set t ⟨0, q⟩⟩).map oC = os.map oC := by
        apply List.ext_getElem?
        intro i
        rw [List.getElem?_map, List.getElem?_map]
        by_cases e : k = i
        · subst e
          rw [List.getElem?_set_self hkl, List.getElem?_eq_getElem hkl]
          rfl
        · rw [List.getElem?_set_ne e]
      rw [List.flatMap_def, List.flatMap_def, this]
    rw [e1]
    exact ownG_kept h.gm.ob fun x hx => K x (by rw [h.c4 x hx]; omega)
  · obtain ⟨i, hi⟩ := mem_idx hx
    by_cases e : k = i
    · subst e
      rw [List.getElem?_set_self hkl] at hi
      injection hi with hi
      subst hi
      show World.ownsRow _ 0 _ 2 o.fv (o.fs.set t ⟨0, q⟩).length ((o.fs.set t ⟨0, q⟩).flatMap fC)
      have hf := h.gm.fl o hom
      obtain ⟨g', cap, hv, _, hgl, _, _⟩ := ownG_has hf (by omega)
      have : g' = g := by rw [hv] at hg; simpa [Value.ownBlock] using hg
      subst this
      rw [hv] at hf ⊢
      have h1 := (hf.stored (t * 2) (.int .i64 0)).1
      rw [show t * 2 = t * 2 + 0 by omega, flatN_set fC_len o.fs t 0 (.int .i64 0) ⟨0, o.fs[t].ref⟩ ht (by omega) rfl] at h1
      have h2 := (h1.stored (t * 2 + 1) (.int .i64 q)).1
      rw [flatN_set fC_len (o.fs.set t ⟨0, o.fs[t].ref⟩) t 1 (.int .i64 q) ⟨0, q⟩ (by rw [List.length_set]; exact ht) (by omega) (by rw [List.getElem_set_self]; rfl), List.set_set] at h2
      rw [List.length_set]
      exact h2
    · rw [List.getElem?_set_ne e] at hi
      refine ownG_kept (h.gm.fl x (idx_mem hi)) fun y hy => K y ?_
      rw [h.c7 i x hi y hy]; omega
  · by_cases e : k = i
    · subst e
      rw [List.getElem?_set_self hkl] at hi
      injection hi with hi
      subst hi
      exact h.c7 k o ho
    · rw [List.getElem?_set_ne e] at hi
      exact h.c7 i x hi
end
end Go.Proofs.Ytkpeeemnholmnaa
