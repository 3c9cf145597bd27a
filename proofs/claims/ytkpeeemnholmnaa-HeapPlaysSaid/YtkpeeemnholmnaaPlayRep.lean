/- HeapPlays: what the roots represent is kept by an allocation, a store, a collection, a root's removal. No function of the program. -/
import Derived.Test.YtkpeeemnholmnaaShowRep
import Derived.Test.YtkpeeemnholmnaaHeapStG
import Derived.Test.YtkpeeemnholmnaaGcMj
namespace Go.Proofs.Ytkpeeemnholmnaa
open Go.RowKit
set_option linter.unusedVariables false

section
variable {S S' : HS} {l1 l2 l1' l2' : List Nat} {os : List Ob} {rs : List Nat} {zs : List Int} {L : Nat → Prop} {ψ : Nat → Nat}
theorem Rep.none (S : HS) (l1 l2 : List Nat) : Rep S l1 l2 [] [] [] (fun _ => False) id :=
  ⟨rfl, fun i hi => by simp at hi, fun k hk => hk.elim, fun k hk => hk.elim, fun k hk => hk.elim, fun k hk => hk.elim, fun i j hi => hi.elim⟩
theorem Rep.pos (h : Rep S l1 l2 os rs zs L ψ) (hi : HInv S l1 l2) {k : Nat} (hk : L k) : 1 ≤ ψ k ∧ ψ k + hsize (S.m (ψ k)) < S.n := by
  have := hi.wf.mem hi.ok _ (h.mem k hk)
  have := hi.ok.st
  omega
/-- the same objects, with the same words -/
theorem Rep.keep (h : Rep S l1 l2 os rs zs L ψ) (hm : ∀ j ∈ l1 ++ l2, j ∈ l1' ++ l2' ∧ ∀ k, j ≤ k → k ≤ j + hsize (S.m j) → S'.m k = S.m k) : Rep S' l1' l2' os rs zs L ψ := by
  refine ⟨h.len, h.root, h.lt, fun k hk => (hm _ (h.mem k hk)).1, fun k hk o ho => ?_, fun k hk o ho t f ht => ?_, h.inj⟩
  · rw [(hm _ (h.mem k hk)).2 _ (Nat.le_refl _) (by omega)]; exact h.tag k hk o ho
  · have hs := (h.tag k hk o ho).2
    have ht2 : t < o.fs.length := (List.getElem?_eq_some_iff.1 ht).1
    rw [(hm _ (h.mem k hk)).2 (ψ k + t + 1) (by omega) (by omega)]
    exact h.fld k hk o ho t f ht
theorem Rep.add (h : Rep S l1 l2 os rs zs L ψ) {o : Ob} {a : Nat} (ha : a ∈ l1 ++ l2) (hne : ∀ k, L k → ψ k ≠ a) (ht : o.tag = S.m a / 8192 ∧ o.fs.length = hsize (S.m a)) (hf : ∀ t f, o.fs[t]? = some f → f.ref < 0 ∧ S.m (a + t + 1) = 2 * f.word + 1) :
    Rep S l1 l2 (os ++ [o]) (rs ++ [os.length]) (zs ++ [2 * (a : Int)]) (fun k => L k ∨ k = os.length) (fun k => if k = os.length then a else ψ k) := by
  have e1 : ∀ k, L k → (if k = os.length then a else ψ k) = ψ k := fun k hk => if_neg (by have := h.lt k hk; omega)
  have e2 : ∀ k, L k → (os ++ [o])[k]? = os[k]? := fun k hk => List.getElem?_append_left (h.lt k hk)
  have e3 : (os ++ [o])[os.length]? = some o := by simp
  refine ⟨by simp [h.len], fun i hi2 => ?_, fun k hk => ?_, fun k hk => ?_, fun k hk x hx => ?_, fun k hk x hx t f hxt => ?_, fun i j hi2 hj e => ?_⟩
  · by_cases e : i < rs.length
    · have h1 := h.root i e
      rw [List.getD_eq_getElem?_getD] at h1 ⊢
      rw [List.getD_eq_getElem?_getD] at h1 ⊢
      rw [List.getElem?_append_left e, List.getElem?_append_left (by rw [h.len]; exact e)]
      exact ⟨.inl h1.1, by rw [e1 _ h1.1]; exact h1.2⟩
    · have : i = rs.length := by simp at hi2; omega
      subst this
      rw [List.getD_eq_getElem?_getD, List.getD_eq_getElem?_getD, List.getElem?_concat_length]
      rw [← h.len, List.getElem?_concat_length]
      simp
  · simp only [List.length_append, List.length_singleton]
    rcases hk with hk | hk
    · have := h.lt k hk; omega
    · omega
  · show (if k = os.length then a else ψ k) ∈ l1 ++ l2
    rcases hk with hk | hk
    · rw [e1 k hk]; exact h.mem k hk
    · rw [if_pos hk]; exact ha
  · show x.tag = S.m (if k = os.length then a else ψ k) / 8192 ∧ x.fs.length = hsize (S.m (if k = os.length then a else ψ k))
    rcases hk with hk | hk
    · rw [e1 k hk]; rw [e2 k hk] at hx; exact h.tag k hk x hx
    · subst hk
      rw [e3] at hx; injection hx with hx; subst hx
      rw [if_pos rfl]; exact ht
  · show (f.ref < 0 ∧ S.m ((if k = os.length then a else ψ k) + t + 1) = 2 * f.word + 1) ∨ ∃ q : Nat, f.ref = (q : Int) ∧ (L q ∨ q = os.length) ∧ S.m ((if k = os.length then a else ψ k) + t + 1) = 2 * ((if q = os.length then a else ψ q : Nat) : Int)
    rcases hk with hk | hk
    · rw [e1 k hk]; rw [e2 k hk] at hx
      rcases h.fld k hk x hx t f hxt with h1 | ⟨q, h1, h2, h3⟩
      · exact .inl h1
      · exact .inr ⟨q, h1, .inl h2, by rw [e1 q h2]; exact h3⟩
    · subst hk
      rw [e3] at hx; injection hx with hx; subst hx
      rw [if_pos rfl]; exact .inl (hf t f hxt)
  · have e : (if i = os.length then a else ψ i) = (if j = os.length then a else ψ j) := e
    rcases hi2 with hi2 | hi2 <;> rcases hj with hj | hj
    · rw [e1 i hi2, e1 j hj] at e; exact h.inj i j hi2 hj e
    · rw [e1 i hi2, if_pos hj] at e; exact absurd e (hne i hi2)
    · rw [e1 j hj, if_pos hi2] at e; exact absurd e.symm (hne j hj)
    · rw [hi2, hj]
theorem Rep.store (h : Rep S l1 l2 os rs zs L ψ) (hi : HInv S l1 l2) {k q t : Nat} {o : Ob} {rem' : List Nat} (hk : L k) (hq : L q) (ho : os[k]? = some o) (ht : t < o.fs.length) :
    Rep (S.upd (ψ k + t + 1) (2 * (ψ q : Int)) rem') l1 l2 (os.set k ⟨o.tag, o.fv, o.fs.set t ⟨0, (q : Int)⟩⟩) rs zs L ψ := by
  have hs := (h.tag k hk o ho).2
  have em : ∀ j, (S.upd (ψ k + t + 1) (2 * (ψ q : Int)) rem').m j = if j = ψ k + t + 1 then 2 * (ψ q : Int) else S.m j := fun j => rfl
  have ehd : ∀ i, L i → (S.upd (ψ k + t + 1) (2 * (ψ q : Int)) rem').m (ψ i) = S.m (ψ i) := fun i hl => by
    rw [em, if_neg]
    intro e
    rcases Nat.decEq (ψ i) (ψ k) with hne | he
    · have := hi.apart (h.mem i hl) (h.mem k hk) hne; omega
    · omega
  have hkl := h.lt k hk
  refine ⟨h.len, h.root, fun i hl => by rw [List.length_set]; exact h.lt i hl, h.mem, fun i hl x hx => ?_, fun i hl x hx u f hf => ?_, h.inj⟩
  · rw [ehd i hl]
    by_cases e : k = i
    · subst e
      rw [List.getElem?_set_self hkl] at hx
      injection hx with hx
      subst hx
      have := h.tag k hk o ho
      exact ⟨this.1, by rw [List.length_set]; exact this.2⟩
    · rw [List.getElem?_set_ne e] at hx
      exact h.tag i hl x hx
  · rw [em]
    by_cases e : k = i
    · subst e
      rw [List.getElem?_set_self hkl] at hx
      injection hx with hx
      subst hx
      have hf : (o.fs.set t ⟨0, (q : Int)⟩)[u]? = some f := hf
      by_cases e2 : t = u
      · subst e2
        rw [List.getElem?_set_self ht] at hf
        injection hf with hf
        subst hf
        rw [if_pos rfl]
        exact .inr ⟨q, rfl, hq, rfl⟩
      · rw [List.getElem?_set_ne e2] at hf
        rw [if_neg (by omega)]
        exact h.fld k hk o ho u f hf
    · rw [List.getElem?_set_ne e] at hx
      have hxs := (h.tag i hl x hx).2
      have hu : u < x.fs.length := (List.getElem?_eq_some_iff.1 hf).1
      rw [if_neg]
      · exact h.fld i hl x hx u f hf
      · intro e3
        have hne : ψ i ≠ ψ k := fun e4 => e (h.inj i k hl hk e4).symm
        have := hi.apart (h.mem i hl) (h.mem k hk) hne
        omega
theorem Rep.coll (h : Rep S l1 l2 os rs zs L ψ) (hi : HInv S l1 l2) {R : List Nat} {φ : Nat → Nat} (hc : Coll S S' l1 l2 l2' R φ) (hr : ∀ v ∈ zs, ∀ j : Nat, 0 < j → v = 2 * (j : Int) → j ∈ R) :
    Rep S' [] l2' os rs (zs.map (fv φ)) (fun k => L k ∧ ψ k ∈ R) (fun k => φ (ψ k)) := by
  have hp := fun k (hk : L k) => (h.pos hi hk).1
  refine ⟨by simp [h.len], fun i hi2 => ?_, fun k hk => h.lt k hk.1, fun k hk => by simpa using hc.mem _ hk.2, fun k hk o ho => ?_, fun k hk o ho t f hf => ?_, fun i j hi2 hj e => h.inj i j hi2.1 hj.1 (hc.inj _ hi2.2 _ hj.2 e)⟩
  · obtain ⟨h1, h2⟩ := h.root i hi2
    have hlt : i < zs.length := by rw [h.len]; exact hi2
    have e2 : zs.getD i 0 = zs[i] := by simp [List.getD_eq_getElem?_getD, hlt]
    have hin : ψ (rs.getD i 0) ∈ R := hr zs[i] (List.getElem_mem hlt) _ (hp _ h1) (by rw [← e2]; exact h2)
    refine ⟨⟨h1, hin⟩, ?_⟩
    have e3 : (zs.map (fv φ)).getD i 0 = fv φ zs[i] := by simp [List.getD_eq_getElem?_getD, hlt]
    rw [e3, ← e2, h2, fv_ptr (hp _ h1)]
  · rw [hc.hdr hi hk.2]; exact h.tag k hk.1 o ho
  · have hs := (h.tag k hk.1 o ho).2
    have ht : t < o.fs.length := (List.getElem?_eq_some_iff.1 hf).1
    have hw := hc.word _ hk.2 (t + 1) (by omega)
    rw [show φ (ψ k) + (t + 1) = φ (ψ k) + t + 1 by omega, show ψ k + (t + 1) = ψ k + t + 1 by omega] at hw
    rw [hw]
    rcases h.fld k hk.1 o ho t f hf with ⟨h1, h2⟩ | ⟨q, h1, h2, h3⟩
    · left
      rw [h2, fv_odd (by omega)]
      exact ⟨h1, rfl⟩
    · right
      refine ⟨q, h1, ⟨h2, ?_⟩, ?_⟩
      · exact hc.cl _ hk.2 (t + 1) (by omega) (by omega) _ (hp q h2) (by rw [show ψ k + (t + 1) = ψ k + t + 1 by omega]; exact h3)
      · rw [h3, fv_ptr (hp q h2)]
theorem getD_erase {α : Type} (l : List α) (k i : Nat) (d : α) : (l.take k ++ l.drop (k + 1)).getD i d = if i < k then l.getD i d else l.getD (i + 1) d := by
  rw [← List.eraseIdx_eq_take_drop_succ, List.getD_eq_getElem?_getD, List.getElem?_eraseIdx, List.getD_eq_getElem?_getD, List.getD_eq_getElem?_getD]
  split <;> rfl
theorem Rep.drop (h : Rep S l1 l2 os rs zs L ψ) {k : Nat} (hk : k < rs.length) : Rep S l1 l2 os (rs.take k ++ rs.drop (k + 1)) (zs.take k ++ zs.drop (k + 1)) L ψ := by
  refine ⟨?_, fun i hi2 => ?_, h.lt, h.mem, h.tag, h.fld, h.inj⟩
  · have := h.len
    simp; omega
  · rw [getD_erase, getD_erase]
    have : i + 1 < rs.length := by simp at hi2; omega
    split
    · exact h.root i (by omega)
    · exact h.root (i + 1) (by omega)
/-- the other half of the old generation may be written -/
theorem HInv.half2 (hi : HInv S l1 l2) {m' : Nat → Int} (hm : ∀ i, (i < S.to_ ∨ S.to_ + S.half ≤ i) → m' i = S.m i) : HInv { S with m := m' } l1 l2 ∧ ∀ j ∈ l1 ++ l2, ∀ k, j ≤ k → k ≤ j + hsize (S.m j) → m' k = S.m k := by
  obtain ⟨a1, a2, a3, a4, a5, a6, a7, a8⟩ := hi.ok
  have hto : S.nursery ≤ S.to_ ∧ (S.to_ + S.half ≤ S.from_ ∨ S.from_ + S.half ≤ S.to_) := by
    unfold HS.to_
    rcases hi.half with e | e
    · rw [if_pos e]; omega
    · by_cases e2 : S.from_ = S.nursery
      · rw [if_pos e2]; omega
      · rw [if_neg e2]; omega
  have hkeep : ∀ j ∈ l1 ++ l2, ∀ k, j ≤ k → k ≤ j + hsize (S.m j) → m' k = S.m k := fun j hj k h1 h2 => by
    refine hm k ?_
    rcases List.mem_append.1 hj with h | h
    · have := hi.wf.y.mem j h; omega
    · have := hi.wf.o.mem j h; omega
  have hh : ∀ j ∈ l1 ++ l2, m' j = S.m j := fun j hj => hkeep j hj j (Nat.le_refl _) (by omega)
  refine ⟨⟨⟨a1, a2, a3, a4, a5, a6, a7, a8⟩, ⟨hi.wf.y.hdrs fun i h => hh i (List.mem_append_left _ h), hi.wf.o.hdrs fun i h => hh i (List.mem_append_right _ h), fun i h j h1 h2 => ?_⟩, hi.half, fun x hx => ?_, hi.rnd, fun i h j h1 h2 h3 => ?_, fun i h j h1 h2 => ?_⟩, hkeep⟩
  · have h2 : j ≤ i + hsize (m' i) := h2
    rw [hh i h] at h2
    show m' j % 2 = 1 ∨ ∃ q : Nat, (q = 0 ∨ q ∈ l1 ++ l2) ∧ m' j = 2 * (q : Int)
    rw [hkeep i h j (by omega) h2]
    exact hi.wf.f i h j h1 h2
  · obtain ⟨q, h1, h2, h3⟩ := hi.rem x hx
    exact ⟨q, h1, h2, by show x ≤ q + hsize (m' q); rw [hh q (List.mem_append_right _ h1)]; exact h3⟩
  · have h2 : j ≤ i + hsize (m' i) := h2
    rw [hh i (List.mem_append_right _ h)] at h2
    have h3 : youngB S.nursery (m' j) = true := h3
    rw [hkeep i (List.mem_append_right _ h) j (by omega) h2] at h3
    exact hi.yng i h j h1 h2 h3
  · have h2 : j ≤ i + hsize (m' i) := h2
    rw [hh i h] at h2
    show -2147483648 ≤ m' j ∧ m' j ≤ 2147483647
    rw [hkeep i h j (by omega) h2]
    exact hi.wd i h j h1 h2
theorem HInv.closed (hi : HInv S l1 l2) : ∀ j ∈ l1 ++ l2, ∀ t, 1 ≤ t → t ≤ hsize (S.m j) → ∀ k : Nat, 0 < k → S.m (j + t) = 2 * (k : Int) → k ∈ l1 ++ l2 := fun j hj t h1 h2 k h3 h4 => by
  rcases hi.wf.f j hj (j + t) (by omega) (by omega) with h | ⟨q, h5, h6⟩
  · omega
  · have : q = k := by omega
    subst this
    rcases h5 with h5 | h5
    · omega
    · exact h5
theorem Rep.words (h : Rep S l1 l2 os rs zs L ψ) : (∀ v ∈ zs, WordV (l1 ++ l2) v) ∧ ∀ v ∈ zs, GoodM (l1 ++ l2) v := by
  have key : ∀ v ∈ zs, ∃ j ∈ l1 ++ l2, v = 2 * (j : Int) := fun v hv => by
    obtain ⟨i, hi2, rfl⟩ := List.getElem_of_mem hv
    obtain ⟨h1, h2⟩ := h.root i (by rw [← h.len]; exact hi2)
    have e2 : zs.getD i 0 = zs[i] := by simp [List.getD_eq_getElem?_getD, hi2]
    exact ⟨_, h.mem _ h1, by rw [← e2]; exact h2⟩
  exact ⟨fun v hv => .inr (.inr (key v hv)), fun v hv => .inr (.inr (key v hv))⟩
end
end Go.Proofs.Ytkpeeemnholmnaa
