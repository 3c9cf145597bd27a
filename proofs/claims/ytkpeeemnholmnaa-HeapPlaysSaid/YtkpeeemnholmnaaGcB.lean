/- What a collection makes of a heap: plain facts. No function of the program. -/
import Derived.Test.YtkpeeemnholmnaaGc
namespace Go.Proofs.Ytkpeeemnholmnaa
set_option linter.unusedVariables false
set_option linter.unusedSimpArgs false

theorem Tiles.hdrs {m m' : Nat → Int} {a b : Nat} {l : List Nat} (h : Tiles m a b l) (e : ∀ i ∈ l, m' i = m i) : Tiles m' a b l := by
  induction h with
  | nil => exact .nil _
  | cons a b l h1 ht ih =>
    have ea := e a List.mem_cons_self
    refine .cons a b l (by rw [ea]; exact h1) ?_
    rw [ea]
    exact ih fun i hi => e i (List.mem_cons_of_mem _ hi)
theorem Tiles.app {m : Nat → Int} {a b c : Nat} {l r : List Nat} (h : Tiles m a b l) (k : Tiles m b c r) : Tiles m a c (l ++ r) := by
  induction h with
  | nil => exact k
  | cons a b l h1 ht ih => exact .cons _ _ _ h1 (ih k)
theorem Tiles.total {m : Nat → Int} {a b : Nat} {l : List Nat} (h : Tiles m a b l) : a + tot m l = b := by
  induction h with
  | nil => rfl
  | cons a b l h1 ht ih =>
    show a + (osz m a + tot m l) = b
    unfold osz
    omega
theorem Tiles.nodup {m : Nat → Int} {a b : Nat} {l : List Nat} (h : Tiles m a b l) : l.Nodup := h.sorted.imp (fun h e => by omega)
theorem Tiles.copies {m0 m' : Nat → Int} {b : Nat} {cp : List Nat} (hn : cp.Nodup) (hh : ∀ j ∈ cp, isHdr (m0 j)) (he : ∀ j ∈ cp, m' (addrC m0 b cp j) = m0 j) : Tiles m' b (b + tot m0 cp) (cp.map (addrC m0 b cp)) := by
  induction cp generalizing b with
  | nil => exact .nil _
  | cons k r ih =>
    obtain ⟨hk, hr⟩ := List.nodup_cons.1 hn
    have ek : addrC m0 b (k :: r) k = b := by unfold addrC; rw [if_pos rfl]
    have er : ∀ j ∈ r, addrC m0 b (k :: r) j = addrC m0 (b + osz m0 k) r j := fun j hj => by
      have : j ≠ k := fun e => hk (by rw [← e]; exact hj)
      rw [addrC, if_neg this]
    have hb := he k List.mem_cons_self
    rw [ek] at hb
    have h1 := ih (b := b + osz m0 k) hr (fun j hj => hh j (List.mem_cons_of_mem _ hj)) (fun j hj => by rw [← er j hj]; exact he j (List.mem_cons_of_mem _ hj))
    rw [List.map_cons, ek, List.map_congr_left er]
    refine .cons _ _ _ (by rw [hb]; exact hh k List.mem_cons_self) ?_
    rw [hb]
    have e : b + tot m0 (k :: r) = b + osz m0 k + tot m0 r := by show b + (osz m0 k + tot m0 r) = _; omega
    rw [e]
    have e2 : b + hsize (m0 k) + 1 = b + osz m0 k := by unfold osz; omega
    rw [e2]
    exact h1

/-- a well-formed heap, with all that its collector relies on -/
structure HInv (S : HS) (l1 l2 : List Nat) : Prop where
  ok : S.Ok
  wf : WF S l1 l2
  half : S.from_ = S.nursery ∨ S.from_ = S.nursery + S.half
  rem : ∀ k ∈ S.rem, ∃ o ∈ l2, o < k ∧ k ≤ o + hsize (S.m o)
  rnd : S.rem.Nodup
  yng : ∀ o ∈ l2, ∀ k, o < k → k ≤ o + hsize (S.m o) → youngB S.nursery (S.m k) = true → k ∈ S.rem
  wd : ∀ o ∈ l1 ++ l2, ∀ k, o < k → k ≤ o + hsize (S.m o) → -2147483648 ≤ S.m k ∧ S.m k ≤ 2147483647

/-- a word behind the objects' moving -/
def fv (φ : Nat → Nat) (v : Int) : Int := if v % 2 = 0 ∧ 0 < v then 2 * (φ (v / 2).toNat : Int) else v
def phiC (m0 : Nat → Int) (b : Nat) (cp : List Nat) (j : Nat) : Nat := if j ∈ cp then addrC m0 b cp j else j
theorem fv_odd {φ : Nat → Nat} {v : Int} (h : v % 2 = 1) : fv φ v = v := by unfold fv; rw [if_neg (by omega)]
theorem fv_ptr {φ : Nat → Nat} {j : Nat} (h : 0 < j) : fv φ (2 * (j : Int)) = 2 * (φ j : Int) := by
  unfold fv
  have : (2 * (j : Int) / 2).toNat = j := by omega
  rw [if_pos (by omega), this]
theorem fv_zero {φ : Nat → Nat} : fv φ 0 = 0 := by unfold fv; rw [if_neg (by omega)]
theorem fwdC_fv {m0 : Nat → Int} {b : Nat} {cp : List Nat} {v : Int} : fwdC m0 b cp v = fv (phiC m0 b cp) v := by
  unfold fwdC fv phiC
  by_cases h1 : v % 2 = 0 ∧ 0 < v
  · rw [if_pos h1]
    by_cases h2 : (v / 2).toNat ∈ cp
    · rw [if_pos ⟨h1.1, h1.2, h2⟩, if_pos h2]
    · rw [if_neg (fun h => h2 h.2.2), if_neg h2]; omega
  · rw [if_neg h1, if_neg (fun h => h1 ⟨h.1, h.2.1⟩)]

/-- what a collection has done: the objects R have moved by φ; the heap is S' now -/
structure Coll (S S' : HS) (l1 l2 l2' R : List Nat) (φ : Nat → Nat) : Prop where
  inv : HInv S' [] l2'
  young : S'.young = 1
  cfg : S'.n = S.n ∧ S'.stack = S.stack ∧ S'.nursery = S.nursery ∧ S'.half = S.half ∧ S'.rem = []
  sub : ∀ j ∈ R, j ∈ l1 ++ l2
  mem : ∀ j ∈ R, φ j ∈ l2'
  inj : ∀ i ∈ R, ∀ j ∈ R, φ i = φ j → i = j
  word : ∀ j ∈ R, ∀ t, t ≤ hsize (S.m j) → S'.m (φ j + t) = fv φ (S.m (j + t))
  cl : ∀ j ∈ R, ∀ t, 1 ≤ t → t ≤ hsize (S.m j) → ∀ k : Nat, 0 < k → S.m (j + t) = 2 * (k : Int) → k ∈ R
theorem Coll.hdr {S S' : HS} {l1 l2 l2' R : List Nat} {φ : Nat → Nat} (h : Coll S S' l1 l2 l2' R φ) (hi : HInv S l1 l2) {j : Nat} (hj : j ∈ R) : S'.m (φ j) = S.m j := by
  have h1 := h.word j hj 0 (Nat.zero_le _)
  rw [Nat.add_zero, Nat.add_zero] at h1
  rw [h1, fv_odd]
  exact (hi.wf.mem hi.ok j (h.sub j hj)).2.2.1
/-- how a heap's words come out of a collection: the common part -/
theorem coll_of {S : HS} {l1 l2 : List Nat} (hi : HInv S l1 l2) {Src : List Nat} {b L : Nat} {cp : List Nat} {d : Nat → Bool} (hg : Gc S.m Src b L cp d) (S' : HS) (l0 : List Nat) (hm : S'.m = memC S.m b cp d)
    (hcfg : S'.n = S.n ∧ S'.stack = S.stack ∧ S'.nursery = S.nursery ∧ S'.half = S.half ∧ S'.rem = []) (hy : S'.young = 1)
    (hsrc : ∀ j ∈ Src, j ∈ l1 ++ l2) (hold : S'.old = b + tot S.m cp) (hhalf : S'.from_ = S'.nursery ∨ S'.from_ = S'.nursery + S'.half) (hlim : L ≤ S'.from_ + S'.half)
    (hf : ∀ j ∈ cp, ∀ t, 1 ≤ t → t < osz S.m j → d (addrC S.m b cp j + t) = true)
    (h0 : ∀ j ∈ l0, j ∈ l2 ∧ j ∉ cp ∧ j + osz S.m j ≤ b) (ht : Tiles S.m S'.from_ b l0)
    (hl0 : ∀ j ∈ l0, ∀ t, 1 ≤ t → t < osz S.m j → (d (j + t) = true ∨ ∀ k ∈ cp, S.m (j + t) ≠ 2 * (k : Int)))
    (hcl : ∀ j ∈ cp ++ l0, ∀ t, 1 ≤ t → t < osz S.m j → ∀ k : Nat, 0 < k → S.m (j + t) = 2 * (k : Int) → k ∈ cp ++ l0) :
    Coll S S' l1 l2 (l0 ++ cp.map (addrC S.m b cp)) (cp ++ l0) (phiC S.m b cp) := by
  have hw := fun j (hj : j ∈ l1 ++ l2) => hi.wf.mem hi.ok j hj
  have hcpl : ∀ j ∈ cp, j ∈ l1 ++ l2 := fun j hj => hsrc j (hg.sub j hj)
  have hsub : ∀ j ∈ cp ++ l0, j ∈ l1 ++ l2 := fun j hj => by
    rcases List.mem_append.1 hj with h | h
    · exact hcpl j h
    · exact List.mem_append_right _ (h0 j h).1
  have hp1 : ∀ j ∈ cp, phiC S.m b cp j = addrC S.m b cp j := fun j hj => by unfold phiC; rw [if_pos hj]
  have hp0 : ∀ j ∈ l0, phiC S.m b cp j = j := fun j hj => by unfold phiC; rw [if_neg (h0 j hj).2.1]
  have hmem : ∀ j ∈ cp ++ l0, phiC S.m b cp j ∈ l0 ++ cp.map (addrC S.m b cp) := fun j hj => by
    rcases List.mem_append.1 hj with h | h
    · rw [hp1 j h]; exact List.mem_append_right _ (List.mem_map.2 ⟨j, h, rfl⟩)
    · rw [hp0 j h]; exact List.mem_append_left _ h
  have hword : ∀ j ∈ cp ++ l0, ∀ t, t ≤ hsize (S.m j) → S'.m (phiC S.m b cp j + t) = fv (phiC S.m b cp) (S.m (j + t)) := fun j hj t htt => by
    rw [hm]
    have hodd := (hw j (hsub j hj)).2.2.1
    rcases List.mem_append.1 hj with h | h
    · rw [hp1 j h]
      have hr := hg.copied h (t := t) (by unfold osz; omega)
      by_cases h9 : t = 0
      · subst h9
        rw [Nat.add_zero] at hr ⊢
        rw [Nat.add_zero] at hr ⊢
        rw [fv_odd hodd]
        unfold memC
        rw [hr]
        split
        · exact fwdC_odd hodd
        · rfl
      · unfold memC
        rw [if_pos (hf j h t (by omega) (by unfold osz; omega)), hr, fwdC_fv]
    · rw [hp0 j h]
      have hlt := (h0 j h).2.2
      have hr : rawC S.m b cp (j + t) = S.m (j + t) := rawC_out (.inl (by unfold osz at hlt; omega))
      unfold memC
      rw [hr]
      split
      · exact fwdC_fv
      · rename_i hd
        by_cases h9 : t = 0
        · subst h9; rw [Nat.add_zero, fv_odd hodd]
        · rcases hl0 j h t (by omega) (by unfold osz; omega) with h8 | h8
          · exact absurd h8 hd
          · rw [← fwdC_fv, fwdC_not fun k hk _ => h8 k hk]
  have hhdr : ∀ j ∈ cp ++ l0, S'.m (phiC S.m b cp j) = S.m j := fun j hj => by
    have h1 := hword j hj 0 (Nat.zero_le _)
    rw [Nat.add_zero, Nat.add_zero] at h1
    rw [h1, fv_odd (hw j (hsub j hj)).2.2.1]
  have hT : Tiles S'.m S'.from_ S'.old (l0 ++ cp.map (addrC S.m b cp)) := by
    rw [hold]
    refine (ht.hdrs fun i hi2 => ?_).app (Tiles.copies hg.nd (fun j hj => (hw j (hcpl j hj)).2.2) fun j hj => ?_)
    · have := hhdr i (List.mem_append_right _ hi2)
      rwa [hp0 i hi2] at this
    · have := hhdr j (List.mem_append_left _ hj)
      rwa [hp1 j hj] at this
  have hmem' : ∀ i ∈ l0 ++ cp.map (addrC S.m b cp), ∃ j ∈ cp ++ l0, i = phiC S.m b cp j := fun i hi2 => by
    rcases List.mem_append.1 hi2 with h | h
    · exact ⟨i, List.mem_append_right _ h, (hp0 i h).symm⟩
    · obtain ⟨j, hj, rfl⟩ := List.mem_map.1 h
      exact ⟨j, List.mem_append_left _ hj, (hp1 j hj).symm⟩
  have hfl : ∀ i ∈ l0 ++ cp.map (addrC S.m b cp), ∀ k, i < k → k ≤ i + hsize (S'.m i) → S'.m k % 2 = 1 ∨ ∃ j : Nat, (j = 0 ∨ j ∈ l0 ++ cp.map (addrC S.m b cp)) ∧ S'.m k = 2 * (j : Int) := by
    intro i hi2 k h1 h2
    obtain ⟨j, hj, rfl⟩ := hmem' i hi2
    rw [hhdr j hj] at h2
    obtain ⟨t, rfl⟩ : ∃ t, k = phiC S.m b cp j + t := ⟨k - phiC S.m b cp j, by omega⟩
    rw [hword j hj t (by omega)]
    rcases hi.wf.f j (hsub j hj) (j + t) (by omega) (by omega) with h3 | ⟨q, h3, h4⟩
    · left; rw [fv_odd h3]; exact h3
    · right
      rw [h4]
      rcases Nat.eq_zero_or_pos q with h5 | h5
      · subst h5; exact ⟨0, .inl rfl, fv_zero⟩
      · exact ⟨_, .inr (hmem q (hcl j hj t (by omega) (by unfold osz; omega) q h5 h4)), fv_ptr h5⟩
  obtain ⟨c1, c2, c3, c4, c5⟩ := hcfg
  obtain ⟨⟨o1, o2⟩, o3, o4, ⟨o5, o6⟩, o7, ⟨o8, o9⟩, o10, o11⟩ := hi.ok
  have hTle := hT.le
  have hlm := hg.lim
  have hnu : S'.nursery ≤ S'.from_ := by omega
  refine ⟨⟨⟨by rw [c1]; exact ⟨o1, o2⟩, by rw [c1, c2]; exact o3, by rw [c3]; exact o4, by rw [hy, c3]; omega, hnu, ⟨hTle, by omega⟩, by rw [c2]; omega, by rw [c2, c3, c4]; exact o11⟩,
      ⟨by rw [hy]; exact .nil _, hT, by simpa using hfl⟩, hhalf, (fun k hk => by rw [c5] at hk; cases hk), (by rw [c5]; exact List.nodup_nil), fun o ho k h1 h2 h3 => ?_, fun o ho k h1 h2 => ?_⟩, hy, ⟨c1, c2, c3, c4, c5⟩, hsub, hmem, fun i hi2 j hj e => ?_, hword, fun j hj t h1 h2 k h3 h4 => hcl j hj t h1 (by unfold osz; omega) k h3 h4⟩
  · exfalso
    obtain ⟨g1, g2, g3⟩ := youngB_true.1 h3
    rcases hfl o ho k h1 h2 with h5 | ⟨q, h5, h6⟩
    · omega
    · rcases h5 with rfl | h5
      · omega
      · have := (hT.mem q h5).1
        omega
  · simp only [List.nil_append] at ho
    obtain ⟨j, hj, rfl⟩ := hmem' o ho
    rw [hhdr j hj] at h2
    obtain ⟨t, rfl⟩ : ∃ t, k = phiC S.m b cp j + t := ⟨k - phiC S.m b cp j, by omega⟩
    have hb := hi.wd j (hsub j hj) (j + t) (by omega) (by omega)
    rw [hword j hj t (by omega)]
    rcases hi.wf.f j (hsub j hj) (j + t) (by omega) (by omega) with h3 | ⟨q, h3, h4⟩
    · rw [fv_odd h3]; exact hb
    · rw [h4]
      rcases Nat.eq_zero_or_pos q with h5 | h5
      · subst h5; simp [fv]
      · rw [fv_ptr h5]
        have := (hT.mem _ (hmem q (hcl j hj t (by omega) (by unfold osz; omega) q h5 h4))).2.1
        omega
  · rcases List.mem_append.1 hi2 with h | h <;> rcases List.mem_append.1 hj with h' | h'
    · rw [hp1 i h, hp1 j h'] at e; exact addrC_inj h h' e
    · rw [hp1 i h, hp0 j h'] at e
      have := (addrC_bd (m0 := S.m) (b := b) h).1
      have := (h0 j h').2.2
      have := osz_pos (m0 := S.m) j
      omega
    · rw [hp0 i h, hp1 j h'] at e
      have := (addrC_bd (m0 := S.m) (b := b) h').1
      have := (h0 i h).2.2
      have := osz_pos (m0 := S.m) i
      omega
    · rw [hp0 i h, hp0 j h'] at e; exact e
end Go.Proofs.Ytkpeeemnholmnaa
