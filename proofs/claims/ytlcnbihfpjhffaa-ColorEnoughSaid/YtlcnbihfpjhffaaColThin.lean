/- Briggs: a graph of which every set of nodes holds one with few neighbours stays such when two nodes become one. No program. -/
import Derived.Test.YtlcnbihfpjhffaaColLaw
namespace Go.Proofs.Ytlcnbihfpjhffaa
open Go.RowKit
set_option linter.unusedVariables false
set_option linter.unusedSimpArgs false

/-- every set of nodes (none of which is kept) holds one with fewer than k neighbours in it -/
def ThinK (n k : Nat) (SL : Nat → Bool) (X : Nat → Nat → Bool) : Prop := ∀ S : Nat → Bool, (∃ r, S r = true) → (∀ r, S r = true → r < n ∧ SL r = false) → ∃ r, S r = true ∧ dgN n X S r < k
theorem dgN_le {n : Nat} {X Y : Nat → Nat → Bool} {S : Nat → Bool} {r : Nat} (h : ∀ s, s < n → S s = true → X r s = true → Y r s = true) : dgN n X S r ≤ dgN n Y S r := cntY_mono fun s hs hx => by
 simp only [Bool.and_eq_true] at hx ⊢
 exact ⟨h s hs hx.2 hx.1, hx.2⟩
theorem dgN_deg {n : Nat} {X : Nat → Nat → Bool} {S : Nat → Bool} {r : Nat} : dgN n X S r ≤ cntY n (X r) := cntY_mono fun s hs hx => by
 simp only [Bool.and_eq_true] at hx
 exact hx.1
theorem ThinK.of_deg {n k : Nat} {SL : Nat → Bool} {X : Nat → Nat → Bool} (h : ∀ r, r < n → cntY n (X r) < k) : ThinK n k SL X := fun S ⟨r, hs⟩ hS => ⟨r, hs, Nat.lt_of_le_of_lt dgN_deg (h r (hS r hs).1)⟩
theorem ThinK.step {n k a b : Nat} {SL : Nat → Bool} {X X' J : Nat → Nat → Bool} (h : ThinK n k SL X) (hk : 0 < k)
  (hb : ∀ q, q < n → X' b q = false) (hsub : ∀ p q, X' p q = true → J p q = true) (hsame : ∀ p q, p ≠ a → q ≠ a → p ≠ b → q ≠ b → X' p q = true → X p q = true) (hdiag : X' a a = false)
  (hm : SL a = true ∨ cntY n (fun m => J a m && decide (k ≤ cntY n (J m))) < k) : ThinK n k SL X' := by
 intro S hne hS
 by_cases e1 : S b = true
 ·refine ⟨b, e1, ?_⟩
  have h1 : dgN n X' S b ≤ cntY n (fun _ => false) := cntY_mono fun s hs hx => by simp [hb s hs] at hx
  have h0 : cntY n (fun _ => false) = 0 := by unfold cntY; simp
  omega
 by_cases e2 : S a = true
 ·by_cases e3 : ∃ r, r ≠ a ∧ S r = true ∧ dgN n X' S r < k
  ·obtain ⟨r, _, h2, h3⟩ := e3; exact ⟨r, h2, h3⟩
  ·refine ⟨a, e2, ?_⟩
   rcases hm with hm | hm
   ·rw [(hS a e2).2] at hm; cases hm
   ·refine Nat.lt_of_le_of_lt (cntY_mono fun s hs hx => ?_) hm
    simp only [Bool.and_eq_true] at hx
    have hsa : s ≠ a := fun e => by rw [e, hdiag] at hx; cases hx.1
    have h9 : k ≤ dgN n X' S s := Nat.le_of_not_lt fun hlt => e3 ⟨s, hsa, hx.2, hlt⟩
    simp only [Bool.and_eq_true, decide_eq_true_eq]
    exact ⟨hsub _ _ hx.1, Nat.le_trans h9 (Nat.le_trans (dgN_le (Y := J) fun t _ _ ht => hsub _ _ ht) dgN_deg)⟩
 ·obtain ⟨r, h2, h3⟩ := h S hne hS
  refine ⟨r, h2, Nat.lt_of_le_of_lt (dgN_le fun s _ hx2 hx => ?_) h3⟩
  exact hsame r s (fun e => e2 (by rw [← e]; exact h2)) (fun e => e2 (by rw [← e]; exact hx2)) (fun e => e1 (by rw [← e]; exact h2)) (fun e => e1 (by rw [← e]; exact hx2)) hx
/-- on a thin graph each register that is taken has few neighbours among those left -/
theorem ElimP.few {n k : Nat} {SL : Nat → Bool} {X : Nat → Nat → Bool} {left0 left : Nat → Bool} {l : List Nat} (ht : ThinK n k SL X) (h0 : ∀ r, r < n → left0 r = true → SL r = false) (h : ElimP n X k left0 l left) :
  (∀ r, left r = true → left0 r = true) ∧ ∀ (p q : List Nat) (b : Nat), l = p ++ b :: q → ∃ lf : Nat → Bool, dgN n X lf b < k ∧ (∀ r ∈ q, lf r = true) ∧ ∀ r, left r = true → lf r = true := by
 induction h with
 | nil => exact ⟨fun r h => h, fun p q b e => by simp at e⟩
 | snoc l left b hrun hb hl hmin ih =>
  obtain ⟨ih1, ih2⟩ := ih
  have hsub : ∀ r, (if r = b then false else left r) = true → left r = true := fun r hr => by
   by_cases e : r = b
   ·rw [if_pos e] at hr; cases hr
   ·rw [if_neg e] at hr; exact hr
  refine ⟨fun r hr => ih1 r (hsub r hr), fun p q c e => ?_⟩
  rcases List.eq_nil_or_concat q with e1 | ⟨q', d, e1⟩
  ·subst e1
   obtain ⟨e2, e3⟩ := List.append_inj' e rfl
   injection e3 with e3
   subst e3
   obtain ⟨r, h1, h2⟩ := ht (fun q => left q && decide (q < n)) ⟨b, by simp [hl, hb]⟩ fun r hr => by
    simp at hr
    exact ⟨hr.2, h0 r hr.2 (ih1 r hr.1)⟩
   simp at h1
   have h3 : dgN n X left r = dgN n X (fun q => left q && decide (q < n)) r := cntY_congr fun q hq => by simp [hq]
   exact ⟨left, hmin ⟨r, h1.2, h1.1, by rw [h3]; exact h2⟩, fun r hr => (by cases hr), hsub⟩
  ·rw [List.concat_eq_append] at e1
   subst e1
   have e4 : l ++ [b] = (p ++ c :: q') ++ [d] := by rw [e]; simp
   obtain ⟨e2, e3⟩ := List.append_inj' e4 rfl
   injection e3 with e3
   subst e3
   obtain ⟨lf, h1, h2, h3⟩ := ih2 p q' c e2
   refine ⟨lf, h1, fun r hr => ?_, fun r hr => h3 r (hsub r hr)⟩
   rcases List.mem_append.1 hr with h4 | h4
   ·exact h2 r h4
   ·rw [List.mem_singleton.1 h4]; exact h3 b hl
end Go.Proofs.Ytlcnbihfpjhffaa
