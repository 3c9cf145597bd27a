/- On a thin graph each register that is in the order gets a register. No program. -/
import Derived.Test.YtlcnbihfpjhffaaColThin
import Derived.Test.YtlcnbihfpjhffaaColPlace
namespace Go.Proofs.Ytlcnbihfpjhffaa
open Go.RowKit
set_option linter.unusedVariables false
set_option linter.unusedSimpArgs false

theorem sub_lenC : ∀ (l m : List Int), l.Pairwise (fun x y => x ≠ y) → (∀ x ∈ l, x ∈ m) → l.length ≤ m.length
 | [], _, _, _ => Nat.zero_le _
 | x :: l, m, hp, hs => by
  have hp := List.pairwise_cons.1 hp
  have h1 := hs x (List.mem_cons_self ..)
  have h2 := sub_lenC l (m.erase x) hp.2 fun y hy => (List.mem_erase_of_ne (fun e => hp.1 y hy e.symm)).2 (hs y (List.mem_cons_of_mem _ hy))
  rw [List.length_erase_of_mem h1] at h2
  have := List.length_pos_of_mem h1
  rw [List.length_cons]
  omega
theorem RegRun.few {n k : Nat} {X : Nat → Nat → Bool} {l : List Nat} {R : Nat → Int} (h : RegRun n X k l R) :
  (∀ (p q : List Nat) (b : Nat), l.reverse = p ++ b :: q → ∃ lf : Nat → Bool, dgN n X lf b < k ∧ ∀ r ∈ q, lf r = true) → ∀ r ∈ l, 1 ≤ R r := by
 induction h with
 | nil => exact fun _ r hr => by cases hr
 | snoc l R r m hrun hr hm ih =>
  intro hf x hx
  obtain ⟨lf, h1, h2⟩ := hf [] l.reverse r (by simp)
  have hmk : m ≤ k := Nat.le_of_not_lt fun hlt => by
   have h3 := sub_lenC ((List.range k).map fun v => ((v + 1 : Nat) : Int)) (((List.range n).filter fun s => X r s && lf s).map R) (by
    rw [List.pairwise_map]
    exact (List.nodup_range (n := k)).imp fun h e => h (by omega)) (fun z hz => by
    obtain ⟨v, hv, rfl⟩ := List.mem_map.1 hz
    have hv2 := List.mem_range.1 hv
    obtain ⟨s, h4, h5, h6⟩ := hm.2.2 (v + 1) (by omega) (by omega)
    refine List.mem_map.2 ⟨s, List.mem_filter.2 ⟨List.mem_range.2 h4, ?_⟩, h6⟩
    have h7 : s ∈ l := hrun.mem s (by omega)
    simp [h5, h2 s (List.mem_reverse.2 h7)])
   have h8 : dgN n X lf r = ((List.range n).filter fun s => X r s && lf s).length := rfl
   simp at h3
   omega
  have hm1 := hm.1
  dsimp only
  by_cases e : x = r
  ·rw [if_pos ⟨e, hmk⟩]; omega
  ·rw [if_neg fun h => e h.1]
   refine ih (fun p q b e2 => hf (r :: p) q b (by rw [List.reverse_append, e2]; rfl)) x ?_
   rcases List.mem_append.1 hx with h9 | h9
   ·exact h9
   ·exact absurd (List.mem_singleton.1 h9) e
theorem KS.join_thin {n k a b : Nat} {SL : Nat → Bool} {s : KS} (hk : 0 < k) (hd : ∀ r, s.X r r = false) (h : ThinK n k SL s.X) (h1 : ¬ s.skip SL a b) (h2 : ¬ s.many k n SL a b) : ThinK n k SL (s.join n a b).X ∧ ∀ r, (s.join n a b).X r r = false := by
 have hab : a ≠ b := fun e => h1 (.inl e)
 have hx : ∀ i j, (s.join n a b).X i j = true ↔ joinK a b n s.X i j = true ∧ ¬ ((i = b ∧ j < n) ∨ (i < n ∧ j = b)) := fun i j => dropK_iff i j n
 have hj := fun i j => joinK_iff hab (hd b) i j n
 have hdiag : ∀ r, (s.join n a b).X r r = false := fun r => Bool.eq_false_iff.2 fun h9 => by
  rcases (hj r r).1 ((hx r r).1 h9).1 with h8 | ⟨q, _, _, h7, _, _, h6⟩
  ·rw [hd r] at h8; cases h8
  ·rcases h6 with ⟨e1, e2⟩ | ⟨e1, e2⟩
   ·exact h7 (e1.symm.trans e2)
   ·exact h7 (e2.symm.trans e1)
 refine ⟨ThinK.step (a := a) (b := b) (J := joinK a b n s.X) h hk (fun q hq => Bool.eq_false_iff.2 fun h9 => ((hx b q).1 h9).2 (.inl ⟨rfl, hq⟩)) (fun p q h9 => ((hx p q).1 h9).1) (fun p q e1 e2 e3 e4 h9 => ?_) (hdiag a) ?_, hdiag⟩
 ·rcases (hj p q).1 ((hx p q).1 h9).1 with h8 | ⟨_, _, _, _, _, _, h6⟩
  ·exact h8
  ·rcases h6 with ⟨e5, _⟩ | ⟨_, e5⟩
   ·exact absurd e5 e1
   ·exact absurd e5 e2
 ·by_cases e : SL a = true
  ·exact .inl e
  ·exact .inr (Nat.lt_of_not_le fun h9 => h2 ⟨h9, by simpa using e⟩)
theorem coalK_thin {n k : Nat} {SL : Nat → Bool} (hk : 0 < k) : ∀ (ms : List (Int × Int)) (s : KS), (∀ r, s.X r r = false) → ThinK n k SL s.X → ThinK n k SL (coalK k n SL ms s).X
 | [], s, _, h => h
 | m :: ms, s, hd, h => by
  show ThinK n k SL (coalK k n SL ms (stepK k n SL s m)).X
  unfold stepK
  split
  ·exact coalK_thin hk ms s hd h
  ·rename_i h1
   split
   ·exact coalK_thin hk ms s hd h
   ·rename_i h2
    obtain ⟨h3, h4⟩ := KS.join_thin hk hd h h1 h2
    exact coalK_thin hk ms _ h4 h3
end Go.Proofs.Ytlcnbihfpjhffaa
