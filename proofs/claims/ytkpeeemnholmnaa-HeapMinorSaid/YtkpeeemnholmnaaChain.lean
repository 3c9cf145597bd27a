/- Chains of objects: plain facts. No function of the program. -/
import Derived.Test.YtkpeeemnholmnaaHeapAl
namespace Go.Proofs.Ytkpeeemnholmnaa
set_option linter.unusedVariables false

/-- a chain of objects of sz words with the tag 1, all of each one's fields the next -/
def ChainV (m : Nat → Int) (sz : Nat) : List Nat → Int → Prop
  | [], v => v = 1
  | j :: r, v => v = 2 * (j : Int) ∧ 0 < j ∧ m j = hdr 1 sz ∧ ∃ u, (∀ t, 1 ≤ t → t ≤ sz → m (j + t) = u) ∧ ChainV m sz r u
section
variable {m m' : Nat → Int} {sz : Nat}
theorem ChainV.det (hs : 1 ≤ sz) {c c' : List Nat} {v : Int} (h : ChainV m sz c v) (k : ChainV m sz c' v) : c = c' := by
  induction c generalizing c' v with
  | nil =>
    cases c' with
    | nil => rfl
    | cons j r => have h1 : v = 1 := h; have h2 := k.1; omega
  | cons j r ih =>
    cases c' with
    | nil => have h1 : v = 1 := k; have h2 := h.1; omega
    | cons j' r' =>
      obtain ⟨h1, h2, h3, u, h4, h5⟩ := h
      obtain ⟨k1, k2, k3, u', k4, k5⟩ := k
      obtain rfl : j = j' := by omega
      obtain rfl : u = u' := (h4 1 (by omega) hs).symm.trans (k4 1 (by omega) hs)
      rw [ih h5 k5]
theorem ChainV.tail {c : List Nat} {v : Int} (h : ChainV m sz c v) {j : Nat} (hj : j ∈ c) : ∃ r, ChainV m sz (j :: r) (2 * (j : Int)) ∧ (j :: r).length ≤ c.length := by
  induction c generalizing v with
  | nil => cases hj
  | cons a r ih =>
    rcases List.mem_cons.1 hj with rfl | hj
    · exact ⟨r, ⟨rfl, h.2⟩, Nat.le_refl _⟩
    · obtain ⟨h1, h2, h3, u, h4, h5⟩ := h
      obtain ⟨r', h6, h7⟩ := ih h5 hj
      exact ⟨r', h6, by simp only [List.length_cons] at h7 ⊢; omega⟩
theorem ChainV.nodup (hs : 1 ≤ sz) {c : List Nat} {v : Int} (h : ChainV m sz c v) : c.Nodup := by
  induction c generalizing v with
  | nil => exact List.nodup_nil
  | cons a r ih =>
    have h0 := h
    obtain ⟨h1, h2, h3, u, h4, h5⟩ := h
    refine List.nodup_cons.2 ⟨fun ha => ?_, ih h5⟩
    obtain ⟨r', h6, h7⟩ := h5.tail ha
    rw [h1] at h0
    have := h0.det hs h6
    rw [← this] at h7
    simp only [List.length_cons] at h7
    omega
theorem ChainV.congr {c : List Nat} {v : Int} (h : ChainV m sz c v) (e : ∀ j ∈ c, ∀ t, t ≤ sz → m' (j + t) = m (j + t)) : ChainV m' sz c v := by
  induction c generalizing v with
  | nil => exact h
  | cons a r ih =>
    obtain ⟨h1, h2, h3, u, h4, h5⟩ := h
    have e0 := e a List.mem_cons_self 0 (Nat.zero_le _)
    rw [Nat.add_zero] at e0
    exact ⟨h1, h2, by rw [e0]; exact h3, u, fun t ht1 ht2 => by rw [e a List.mem_cons_self t ht2]; exact h4 t ht1 ht2, ih h5 fun j hj => e j (List.mem_cons_of_mem _ hj)⟩
theorem ChainV.val {c : List Nat} {v : Int} (h : ChainV m sz c v) : v = 1 ∨ ∃ j ∈ c, 0 < j ∧ v = 2 * (j : Int) := by
  cases c with
  | nil => exact .inl h
  | cons a r => exact .inr ⟨a, List.mem_cons_self, h.2.1, h.1⟩
theorem ChainV.hd {c : List Nat} {v : Int} (h : ChainV m sz c v) : ∀ j ∈ c, m j = hdr 1 sz ∧ 0 < j := by
  induction c generalizing v with
  | nil => intro j hj; cases hj
  | cons a r ih =>
    obtain ⟨h1, h2, h3, u, h4, h5⟩ := h
    intro j hj
    rcases List.mem_cons.1 hj with rfl | hj
    · exact ⟨h3, h2⟩
    · exact ih h5 j hj
theorem ChainV.fld {c : List Nat} {v : Int} (h : ChainV m sz c v) : ∀ j ∈ c, ∀ t, 1 ≤ t → t ≤ sz → m (j + t) = 1 ∨ ∃ k ∈ c, m (j + t) = 2 * (k : Int) := by
  induction c generalizing v with
  | nil => intro j hj; cases hj
  | cons a r ih =>
    obtain ⟨h1, h2, h3, u, h4, h5⟩ := h
    intro j hj t ht1 ht2
    rcases List.mem_cons.1 hj with rfl | hj
    · rw [h4 t ht1 ht2]
      rcases h5.val with h | ⟨k, hk, _, h⟩
      · exact .inl h
      · exact .inr ⟨k, List.mem_cons_of_mem _ hk, h⟩
    · rcases ih h5 j hj t ht1 ht2 with h | ⟨k, hk, h⟩
      · exact .inl h
      · exact .inr ⟨k, List.mem_cons_of_mem _ hk, h⟩
theorem chain_tot (hz : sz ≤ 4095) {c : List Nat} (h : ∀ j ∈ c, m j = hdr 1 sz) : tot m c = c.length * (sz + 1) := by
  induction c with
  | nil => simp [tot]
  | cons a r ih =>
    show osz m a + tot m r = _
    rw [ih fun j hj => h j (List.mem_cons_of_mem _ hj), List.length_cons, Nat.add_mul]
    have : osz m a = sz + 1 := by unfold osz; rw [h a List.mem_cons_self, (hdr_is 1 sz (by omega) hz).2.1]
    omega
end
/-- the heap holds a chain -/
structure CI (S : HS) (l1 l2 cs : List Nat) (sz : Nat) (v : Int) : Prop where
  inv : HInv S l1 l2
  ch : ChainV S.m sz cs v
  sub : ∀ j ∈ cs, j ∈ l1 ++ l2
  s : 1 ≤ sz ∧ sz ≤ 3
  len : cs.length ≤ 15
  room : 60 ≤ S.half
section
variable {S S' : HS} {l1 l2 l2' cs R : List Nat} {sz : Nat} {v : Int} {φ : Nat → Nat}
theorem CI.hsize (h : CI S l1 l2 cs sz v) {j : Nat} (hj : j ∈ cs) : hsize (S.m j) = sz := by
  rw [(h.ch.hd j hj).1]; exact (hdr_is 1 sz (by omega) (by have := h.s; omega)).2.1
theorem CI.word (h : CI S l1 l2 cs sz v) : WordV (l1 ++ l2) v ∧ GoodM cs v ∧ -2147483648 ≤ v ∧ v ≤ 2147483647 := by
  rcases h.ch.val with e | ⟨j, hj, h1, e⟩
  · exact ⟨.inl ⟨by omega, by omega, by omega⟩, .inl ⟨by omega, by omega, by omega⟩, by omega, by omega⟩
  · have := h.inv.pos (h.sub j hj)
    exact ⟨.inr (.inr ⟨j, h.sub j hj, e⟩), .inr (.inr ⟨j, hj, e⟩), by omega, by omega⟩
theorem CI.closed (h : CI S l1 l2 cs sz v) : ∀ j ∈ cs, ∀ t, 1 ≤ t → t ≤ Go.Proofs.Ytkpeeemnholmnaa.hsize (S.m j) → ∀ k : Nat, 0 < k → S.m (j + t) = 2 * (k : Int) → k ∈ cs := by
  intro j hj t h1 h2 k h3 h4
  rw [h.hsize hj] at h2
  rcases h.ch.fld j hj t h1 h2 with e | ⟨k', hk, e⟩
  · omega
  · obtain rfl : k = k' := by omega
    exact hk
theorem CI.tot (h : CI S l1 l2 cs sz v) : tot S.m cs = cs.length * (sz + 1) ∧ tot S.m cs ≤ 60 := by
  have e := chain_tot (m := S.m) (sz := sz) (by have := h.s; omega) (fun j hj => (h.ch.hd j hj).1)
  refine ⟨e, ?_⟩
  rw [e]
  have h1 := h.len
  have h2 := h.s
  calc cs.length * (sz + 1) ≤ 15 * (sz + 1) := Nat.mul_le_mul_right _ h1
    _ ≤ 60 := by omega
theorem reach_chain (hi : HInv S l1 l2) (h : Coll S S' l1 l2 l2' R φ) (hs : 1 ≤ sz ∧ sz ≤ 3) {c : List Nat} {v : Int} (hc : ChainV S.m sz c v) (hsub : ∀ j ∈ c, j ∈ l1 ++ l2) (hr : ∀ j : Nat, 0 < j → v = 2 * (j : Int) → j ∈ R) : ∀ j ∈ c, j ∈ R := by
  induction c generalizing v with
  | nil => intro j hj; cases hj
  | cons a r ih =>
    obtain ⟨h1, h2, h3, u, h4, h5⟩ := hc
    have ha := hr a h2 h1
    intro j hj
    rcases List.mem_cons.1 hj with rfl | hj
    · exact ha
    · refine ih h5 (fun j hj => hsub j (List.mem_cons_of_mem _ hj)) (fun k hk e => ?_) j hj
      refine h.cl a ha 1 (Nat.le_refl _) (by rw [h3, (hdr_is 1 sz (by omega) (by omega)).2.1]; exact hs.1) k hk ?_
      rw [h4 1 (Nat.le_refl _) hs.1]; exact e
theorem coll_chain (hi : HInv S l1 l2) (h : Coll S S' l1 l2 l2' R φ) (hs : 1 ≤ sz ∧ sz ≤ 3) {c : List Nat} {v : Int} (hc : ChainV S.m sz c v) (hr : ∀ j ∈ c, j ∈ R) : ChainV S'.m sz (c.map φ) (fv φ v) := by
  induction c generalizing v with
  | nil =>
    have h1 : v = 1 := hc
    subst h1
    show fv φ 1 = 1
    exact fv_odd (by omega)
  | cons a r ih =>
    obtain ⟨h1, h2, h3, u, h4, h5⟩ := hc
    have ha := hr a List.mem_cons_self
    have e := h.hdr hi ha
    refine ⟨by rw [h1, fv_ptr h2], (h.inv.pos (by simpa using h.mem a ha)).1, by rw [e, h3], fv φ u, fun t ht1 ht2 => ?_, ih h5 fun j hj => hr j (List.mem_cons_of_mem _ hj)⟩
    rw [h.word a ha t (by rw [h3, (hdr_is 1 sz (by omega) (by omega)).2.1]; exact ht2), h4 t ht1 ht2]
theorem CI.coll (h : CI S l1 l2 cs sz v) (hc : Coll S S' l1 l2 l2' R φ) (hr : ∀ j : Nat, 0 < j → v = 2 * (j : Int) → j ∈ R) : CI S' [] l2' (cs.map φ) sz (fv φ v) := by
  have h1 := reach_chain h.inv hc h.s h.ch h.sub hr
  refine ⟨hc.inv, coll_chain h.inv hc h.s h.ch h1, fun j hj => ?_, h.s, by rw [List.length_map]; exact h.len, by rw [hc.cfg.2.2.2.1]; exact h.room⟩
  obtain ⟨k, hk, rfl⟩ := List.mem_map.1 hj
  simpa using hc.mem k (h1 k hk)
/-- any young object -/
theorem CI.alloc (h : CI S l1 l2 cs sz v) {t s : Nat} {f : Int} (ht : t ≤ 258) (hs : s ≤ 4095) (hb : ¬ (S.nursery - 1 < s + 1)) (hr : RoomB S s = true) (hf : WordV (l1 ++ l2) f) (hfb : -2147483648 ≤ f ∧ f ≤ 2147483647) :
    CI (S.alloc t s f) (l1 ++ [S.young]) l2 cs sz v := by
  refine ⟨h.inv.allocY ht hs hb hr hf hfb, h.ch.congr fun j hj t ht => ?_, fun j hj => ?_, h.s, h.len, h.room⟩
  · exact alloc_other (h.inv.away hb hr (h.sub j hj) (by omega) (by rw [h.hsize hj]; omega))
  · have := h.sub j hj
    simp only [List.mem_append] at this ⊢
    rcases this with h | h <;> simp [h]
/-- an object of the chain more -/
theorem CI.allocNext (h : CI S l1 l2 cs sz v) (hl : cs.length < 15) (hb : ¬ (S.nursery - 1 < sz + 1)) (hr : RoomB S sz = true) :
    CI (S.alloc 1 sz v) (l1 ++ [S.young]) l2 (S.young :: cs) sz (2 * (S.young : Int)) := by
  have hs := h.s
  obtain ⟨w1, w2, w3⟩ := h.word
  have h1 := h.alloc (t := 1) (s := sz) (f := v) (by omega) (by omega) hb hr w1 w3
  have ea := at_young hb
  have hy := h.inv.ok.yo
  refine ⟨h1.inv, ⟨rfl, by omega, by rw [← ea]; exact alloc_hdr, v, fun t ht1 ht2 => alloc_field (by rw [ea]; omega), h1.ch⟩, fun j hj => ?_, hs, by simp only [List.length_cons]; omega, h.room⟩
  rcases List.mem_cons.1 hj with rfl | hj
  · simp
  · exact h1.sub j hj
theorem CI.new {S : HS} (hi : HInv S [] []) (hs : 1 ≤ sz ∧ sz ≤ 3) (hh : 60 ≤ S.half) : CI S [] [] [] sz 1 :=
  ⟨hi, rfl, (fun j hj => by cases hj), hs, by simp, hh⟩
end
end Go.Proofs.Ytkpeeemnholmnaa
