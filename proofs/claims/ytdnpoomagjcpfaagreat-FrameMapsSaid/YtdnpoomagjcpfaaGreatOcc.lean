/- What is used in a block or live there occurs. -/
import Derived.Test.YtdnpoomagjcpfaaGreatColLaw
namespace Go.Proofs.YtdnpoomagjcpfaaGreat
open Go.RowKit
set_option linter.unusedVariables false
set_option linter.unusedSimpArgs false

theorem foldF_use (r : Nat) : ∀ (l : List VI) (g : Nat → Bool), l.foldr insF g r = true → (∃ x ∈ l, (r : Int) ∈ usesV x) ∨ g r = true
 | [], g, h => .inr h
 | x :: l, g, h => by
  have h1 : (if (r : Int) ∈ usesV x then true else if (r : Int) = defV x then false else (l.foldr insF g) r) = true := h
  by_cases e : (r : Int) ∈ usesV x
  ·exact .inl ⟨x, List.mem_cons_self, e⟩
  ·rw [if_neg e] at h1
   split at h1
   ·cases h1
   ·exact (foldF_use r l g h1).imp (fun ⟨y, hy, h2⟩ => ⟨y, List.mem_cons_of_mem _ hy, h2⟩) id
theorem gen_occ {f : VF} {nb i q r : Nat} (hi : i < nb) (h : genAt (f.blk i) q r = true) : OccB f nb r := by
 rcases foldF_use r _ _ h with ⟨x, hx, hu⟩ | hg
 ·obtain ⟨k, hk⟩ := List.getElem?_of_mem (List.mem_of_mem_drop hx)
  exact ⟨i, hi, .inl ⟨k, x, hk, .inr hu⟩⟩
 ·refine ⟨i, hi, .inr ?_⟩
  by_cases e : (r : Int) ∈ endV (f.blk i).e
  ·exact e
  ·rw [if_neg e] at hg; cases hg
theorem live_occ {f : VF} {nb : Nat} (ht : TosV f nb) {i r : Nat} (h : LiveI f i r) : i < nb → OccB f nb r := by
 have h0 := h.pos
 induction h with
 | here i r hg => exact fun hi => gen_occ hi (q := 0) (by rw [genAt_zero h0]; exact hg)
 | step i t r _ h2 _ ih =>
  intro hi
  have := ht i hi _ h2
  exact ih h0 (by omega)
theorem aliveP_occ {f : VF} {nb : Nat} (ht : TosV f nb) {i q r : Nat} (hi : i < nb) (h : AliveP f i q r) : OccB f nb r := by
 rcases h with h | ⟨_, t, h1, h2⟩
 ·exact gen_occ hi h
 ·have := ht i hi _ h1
  exact live_occ ht h2 (by omega)
end Go.Proofs.YtdnpoomagjcpfaaGreat
