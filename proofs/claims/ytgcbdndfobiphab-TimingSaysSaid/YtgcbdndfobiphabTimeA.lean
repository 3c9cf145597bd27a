/- The contracts of timing's Latency and divides, and of slices.Contains at []int. -/
import Derived.Test.YtgcbdndfobiphabHeadW
import Derived.Test.YtgcbdndfobiphabOpens
import Derived.BigQuiet
import Derived.Deep.QuietTactic
namespace Go.Proofs.Ytgcbdndfobiphab
open Go.RowKit
set_option linter.unusedVariables false
set_option linter.unusedSimpArgs false

def latOf (op : Int) : Nat := if op = 3 ∨ op = 12 then 3 else if op = 14 ∨ op = 15 then 4 else if op = 4 ∨ op = 5 then 8 else 1
def divB (op : Int) : Bool := op == 4 || op == 5
theorem latOf_bd (op : Int) : 1 ≤ latOf op ∧ latOf op ≤ 8 := by unfold latOf; repeat (first | split | omega)

set_option maxHeartbeats 1000000 in
theorem latency_any (op : Int) (w : World) : Calls Try.prog 5 #[.int .i64 op] w fun e w' => e = .returned (.int .i64 (latOf op : Int)) ∧ w = w' := by
  have H : Hid (latOf op = if op = 3 ∨ op = 12 then 3 else if op = 14 ∨ op = 15 then 4 else if op = 4 ∨ op = 5 then 8 else 1) := rfl
  obtain ⟨r, hr⟩ : ∃ r, r = latOf op := ⟨_, rfl⟩
  rw [← hr] at H ⊢
  clear hr
  by_cases h1 : op = 3
  · have z : (op == 3) = true := by simp [h1]
    have HR : Hid (r = 3) := by unfold Hid; rw [H.out, if_pos (.inl h1)]
    clear h1
    go_enter Try.func5, Try.ntmps5
    go_wp2
    go_ret
    exact ⟨ret_int (by rw [HR.out]; rfl), rfl⟩
  · have z1 : (op == 3) = false := by simp [h1]
    by_cases h2 : op = 12
    · have z : (op == 12) = true := by simp [h2]
      have HR : Hid (r = 3) := by unfold Hid; rw [H.out, if_pos (.inr h2)]
      clear h1 h2
      go_enter Try.func5, Try.ntmps5
      go_wp2
      go_ret
      exact ⟨ret_int (by rw [HR.out]; rfl), rfl⟩
    · have z2 : (op == 12) = false := by simp [h2]
      by_cases h3 : op = 14
      · have z : (op == 14) = true := by simp [h3]
        have HR : Hid (r = 4) := by unfold Hid; rw [H.out, if_neg (by omega), if_pos (.inl h3)]
        clear h1 h2 h3
        go_enter Try.func5, Try.ntmps5
        go_wp2
        go_ret
        exact ⟨ret_int (by rw [HR.out]; rfl), rfl⟩
      · have z3 : (op == 14) = false := by simp [h3]
        by_cases h4 : op = 15
        · have z : (op == 15) = true := by simp [h4]
          have HR : Hid (r = 4) := by unfold Hid; rw [H.out, if_neg (by omega), if_pos (.inr h4)]
          clear h1 h2 h3 h4
          go_enter Try.func5, Try.ntmps5
          go_wp2
          go_ret
          exact ⟨ret_int (by rw [HR.out]; rfl), rfl⟩
        · have z4 : (op == 15) = false := by simp [h4]
          by_cases h5 : op = 4
          · have z : (op == 4) = true := by simp [h5]
            have HR : Hid (r = 8) := by unfold Hid; rw [H.out, if_neg (by omega), if_neg (by omega), if_pos (.inl h5)]
            clear h1 h2 h3 h4 h5
            go_enter Try.func5, Try.ntmps5
            go_wp2
            go_ret
            exact ⟨ret_int (by rw [HR.out]; rfl), rfl⟩
          · have z5 : (op == 4) = false := by simp [h5]
            by_cases h6 : op = 5
            · have z : (op == 5) = true := by simp [h6]
              have HR : Hid (r = 8) := by unfold Hid; rw [H.out, if_neg (by omega), if_neg (by omega), if_pos (.inr h6)]
              clear h1 h2 h3 h4 h5 h6
              go_enter Try.func5, Try.ntmps5
              go_wp2
              go_ret
              exact ⟨ret_int (by rw [HR.out]; rfl), rfl⟩
            · have z6 : (op == 5) = false := by simp [h6]
              have HR : Hid (r = 1) := by unfold Hid; rw [H.out, if_neg (by omega), if_neg (by omega), if_neg (by omega)]
              clear h1 h2 h3 h4 h5 h6
              go_enter Try.func5, Try.ntmps5
              go_wp2
              go_ret
              exact ⟨ret_int (by rw [HR.out]; rfl), rfl⟩

theorem divides_any (op : Int) (w : World) : Calls Try.prog 27 #[.int .i64 op] w fun e w' => e = .returned (.bool (divB op)) ∧ w = w' := by
  have hs : (op == 4) = true ∨ ((op == 4) = false ∧ ((op == 5) = true ∨ (op == 5) = false)) := by
    cases (op == 4) <;> cases (op == 5) <;> simp
  rcases hs with h1 | ⟨h1, h2 | h2⟩
  all_goals
    have H : Hid (divB op = (op == 4 || op == 5)) := rfl
    go_enter Try.func27, Try.ntmps27
    go_wp2
    go_ret
    exact ⟨ret_bool (by rw [H.out]; simp [*]), rfl⟩
end Go.Proofs.Ytgcbdndfobiphab
