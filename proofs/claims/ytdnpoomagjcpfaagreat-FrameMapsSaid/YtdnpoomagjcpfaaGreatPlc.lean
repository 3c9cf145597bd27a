/- Allocations of the required form. -/
import Derived.Test.YtdnpoomagjcpfaaGreatAllocP
import Derived.Test.YtdnpoomagjcpfaaGreatOcc
namespace Go.Proofs.YtdnpoomagjcpfaaGreat
open Go.RowKit
set_option linter.unusedVariables false
set_option linter.unusedSimpArgs false

/-- an allocation of the required form -/
structure PlacedA (f : VF) (n nb : Nat) (k : Int) (a : AL) : Prop where
 err : allocE f a = 0
 spot : ∀ r, r < n → (plc 100 a r ≠ 0 ↔ 1 ≤ r ∧ OccP f nb r)
 le : ∀ r, r < n → a.reg.getD r 0 ≤ k
 kept : ∀ r, 1 ≤ r → r < n → KeptP f nb r → 0 ≤ a.slot.getD r (-1)
 apart : ∀ x y, 1 ≤ x ∧ x < n → 1 ≤ y ∧ y < n → x ≠ y → ClashP f nb x y → plc 100 a x ≠ 0 → plc 100 a x ≠ plc 100 a y
theorem pairsE_okC {k : Int} : ∀ (rs ss : List Int), (∀ i (h : i < rs.length) (h' : i < ss.length), (rs[i] = -1 ∨ (1 ≤ rs[i] ∧ rs[i] ≤ 10)) ∧ (-1 ≤ ss[i] ∧ ss[i] < k) ∧ ¬ (0 < rs[i] ∧ 0 ≤ ss[i])) → pairsE k rs ss = 0
 | [], _, _ => by unfold pairsE; rfl
 | _ :: _, [], _ => by unfold pairsE; rfl
 | r :: rs, s :: ss, h => by
  obtain ⟨h1, h2, h3⟩ := h 0 (by simp) (by simp)
  simp only [List.getElem_cons_zero] at h1 h2 h3
  unfold pairsE
  rw [if_neg (by omega), if_neg h3]
  exact pairsE_okC rs ss fun i hi hi' => h (i + 1) (by simp; omega) (by simp; omega)
theorem map_getD (n : Nat) (g : Nat → Int) (d : Int) {r : Nat} (hr : r < n) : ((List.range n).map g).getD r d = g r := by
 rw [List.getD_eq_getElem?_getD, List.getElem?_map, List.getElem?_range hr]
 rfl
end Go.Proofs.YtdnpoomagjcpfaaGreat
