/- The contracts of the heap's Header, Split and in. -/
import Derived.Test.YtkpeeemnholmnaaHeadW
namespace Go.Proofs.Ytkpeeemnholmnaa
open Go.RowKit
set_option maxHeartbeats 400000 in
theorem header_any (t s : Int) (w : World) (ht : -1000000 ≤ t ∧ t ≤ 1000000) (hs : 0 ≤ s ∧ s ≤ 1000000) :
    Calls Try.prog 25 #[.int .i64 t, .int .i64 s] w fun e w' => e = .returned (.int .i64 ((t * 4096 + s) * 2 + 1)) ∧ w = w' := by
  go_enter Try.func25, Try.ntmps25
  go_wp2
  go_ret
  exact ⟨rfl, rfl⟩

set_option maxHeartbeats 400000 in
theorem in_any (n l h : Int) (w : World) :
    Calls Try.prog 23 #[.int .i64 n, .int .i64 l, .int .i64 h] w fun e w' => e = .returned (.bool (inB n l h)) ∧ w = w' := by
  by_cases h1 : l ≤ n
  · by_cases h2 : n ≤ h
    · have H : Hid (inB n l h = true) := inB_true.2 ⟨h1, h2⟩
      go_enter Try.func23, Try.ntmps23
      go_wp2
      go_ret
      exact ⟨ret_bool H.out.symm, rfl⟩
    · have H : Hid (inB n l h = false) := inB_false.2 (.inr (Int.not_le.1 h2))
      go_enter Try.func23, Try.ntmps23
      go_wp2
      go_ret
      exact ⟨ret_bool H.out.symm, rfl⟩
  · have H : Hid (inB n l h = false) := inB_false.2 (.inl (Int.not_le.1 h1))
    go_enter Try.func23, Try.ntmps23
    go_wp2
    go_ret
    exact ⟨ret_bool H.out.symm, rfl⟩

/-- what Split answers of 'is' -/
def splitIs (h : Int) : Bool := decide (h % 2 = 1) && inB (h / 8192) 0 258
theorem splitIs_true {h : Int} : splitIs h = true ↔ h % 2 = 1 ∧ 0 ≤ h / 8192 ∧ h / 8192 ≤ 258 := by simp [splitIs, inB_true]
theorem splitIs_false {h : Int} : splitIs h = false ↔ h % 2 = 0 ∨ h / 8192 < 0 ∨ 258 < h / 8192 := by
  rw [← Bool.not_eq_true, splitIs_true]; omega

set_option maxHeartbeats 400000 in
theorem split_any (h : Int) (w : World) :
    Calls Try.prog 32 #[.int .i64 h] w fun e w' => e = .returned (.tuple #[.int .i64 (h / 8192), .int .i64 (h / 2 % 4096), .bool (splitIs h)]) ∧ w = w' := by
  have e1 := and_1 h
  have e2 := and_4095 (h / 2)
  have e3 : h / 2 / 4096 = h / 8192 := by omega
  by_cases h1 : h % 2 = 1
  · have hb : (h % 2 == 1) = true := by simp [h1]
    have H : Hid (splitIs h = inB (h / 8192) 0 258) := by simp [Hid, splitIs, h1]
    clear h1
    go_enter Try.func32, Try.ntmps32
    go_wp2_with (go_at_call 23; refine (in_any _ _ _ _).mono ?_; rintro e w' ⟨rfl, rfl⟩)
    go_ret3
    exact ⟨by rw [H.out]; rfl, rfl⟩
  · have hb : (h % 2 == 1) = false := by simp [h1]
    have H : Hid (splitIs h = false) := by simp [Hid, splitIs, h1]
    clear h1
    go_enter Try.func32, Try.ntmps32
    go_wp2_with (go_at_call 23; refine (in_any _ _ _ _).mono ?_; rintro e w' ⟨rfl, rfl⟩)
    go_ret3
    exact ⟨by rw [H.out]; rfl, rfl⟩
end Go.Proofs.Ytkpeeemnholmnaa
