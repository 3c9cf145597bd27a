/- The reference's Delay and IsStraight. -/
import Derived.Test.YtgcbdndfobiphabTimeA
import Derived.Test.YtgcbdndfobiphabCycles
namespace Go.Proofs.Ytgcbdndfobiphab
open Go.RowKit
set_option linter.unusedVariables false
set_option linter.unusedSimpArgs false

theorem lat_cell (k : Nat) (h : k < 25) : ([.int .i64 1, .int .i64 1, .int .i64 1, .int .i64 3, .int .i64 8, .int .i64 8, .int .i64 1, .int .i64 1, .int .i64 1, .int .i64 1, .int .i64 1, .int .i64 1, .int .i64 3, .int .i64 1, .int .i64 4, .int .i64 4, .int .i64 1, .int .i64 1, .int .i64 1, .int .i64 1, .int .i64 1, .int .i64 1, .int .i64 1, .int .i64 1, .int .i64 1] : List Value)[k]'(by simpa using h) = .int .i64 (latOf (k : Int) : Int) := by
  rcases (show k = 0 ∨ k = 1 ∨ k = 2 ∨ k = 3 ∨ k = 4 ∨ k = 5 ∨ k = 6 ∨ k = 7 ∨ k = 8 ∨ k = 9 ∨ k = 10 ∨ k = 11 ∨ k = 12 ∨ k = 13 ∨ k = 14 ∨ k = 15 ∨ k = 16 ∨ k = 17 ∨ k = 18 ∨ k = 19 ∨ k = 20 ∨ k = 21 ∨ k = 22 ∨ k = 23 ∨ k = 24 by omega) with rfl | rfl | rfl | rfl | rfl | rfl | rfl | rfl | rfl | rfl | rfl | rfl | rfl | rfl | rfl | rfl | rfl | rfl | rfl | rfl | rfl | rfl | rfl | rfl | rfl <;> rfl

set_option maxHeartbeats 1000000 in
theorem delay_any (op : Int) (w : World) : Calls Try.prog 6 #[.int .i64 op] w fun e w' => e = .returned (.int .i64 (latOf op : Int)) ∧ Below w.heap.size w w' := by
  by_cases h0 : op < 0
  · have HR : Hid (latOf op = 1) := by unfold Hid latOf; rw [if_neg (by omega), if_neg (by omega), if_neg (by omega)]
    go_enter Try.func6, Try.ntmps6
    go_wp2
    go_ret
    exact ⟨ret_int (by rw [HR.out]; rfl), (Below.refl _ _).alloc (Nat.le_refl _) _⟩
  · by_cases h1 : 25 ≤ op
    · have HR : Hid (latOf op = 1) := by unfold Hid latOf; rw [if_neg (by omega), if_neg (by omega), if_neg (by omega)]
      have z1 : decide (25 ≤ op) = true := decide_eq_true h1
      have z0 : decide (op < 0) = false := decide_eq_false h0
      go_enter Try.func6, Try.ntmps6
      go_wp2
      go_ret
      exact ⟨ret_int (by rw [HR.out]; rfl), (Below.refl _ _).alloc (Nat.le_refl _) _⟩
    · obtain ⟨k, rfl⟩ := Int.eq_ofNat_of_zero_le (show 0 ≤ op by omega)
      have hk : k < 25 := by omega
      have hcell := lat_cell k hk
      have z1 : decide (25 ≤ (k : Int)) = false := decide_eq_false h1
      have b0 : (0 : Int) ≤ (k : Int) := by omega
      have b1 : (k : Int) < 25 := by omega
      clear h0 h1
      go_enter Try.func6, Try.ntmps6
      go_wp2
      go_ret
      exact ⟨rfl, (Below.refl _ _).alloc (Nat.le_refl _) _⟩

set_option maxHeartbeats 1000000 in
theorem isStraight_any (op : Int) (w : World) : Calls Try.prog 13 #[.int .i64 op] w fun e w' => e = .returned (.bool (strB op)) ∧ w = w' := by
  have hs : strB op = (decide (0 < op) && decide (op < 16) || op == 23) := by
    unfold strB; rw [Bool.decide_and]
    rw [show decide (1 ≤ op) = decide (0 < op) from decide_eq_decide.2 (by omega), show decide (op ≤ 15) = decide (op < 16) from decide_eq_decide.2 (by omega)]
  obtain ⟨r, hr⟩ : ∃ r, r = strB op := ⟨_, rfl⟩
  rw [← hr] at hs ⊢
  have HS := Lib.hid hs
  clear hs hr
  cases h1 : decide (0 < op) <;> cases h2 : decide (op < 16) <;> cases h3 : (op == 23)
  all_goals
    rw [h1, h2, h3] at HS
    go_enter Try.func13, Try.ntmps13
    go_wp2
    go_ret
    exact ⟨ret_bool (by rw [HS.out]; rfl), rfl⟩
end Go.Proofs.Ytgcbdndfobiphab
