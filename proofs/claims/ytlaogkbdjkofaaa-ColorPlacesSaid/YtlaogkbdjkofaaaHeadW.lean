/- The contracts of the reference's Rest, modulo and Small. -/
import Derived.Test.YtlaogkbdjkofaaaRows
import Derived.Test.YtlaogkbdjkofaaaArith
import Derived.WalkKit
import Derived.WalkSpells
import Derived.WalkLawsBesides
import Derived.Lib.Hide
namespace Go.Proofs.Ytlaogkbdjkofaaa
open Go.RowKit

theorem ret_int {k : IntKind} {a b : Int} (h : a = b) : Ending.returned (.int k a) = .returned (.int k b) := by rw [h]
theorem ret_bool {a b : Bool} (h : a = b) : Ending.returned (.bool a) = .returned (.bool b) := by rw [h]

/-- what a call of Go's own small 'in' answers -/
def inB (n l h : Int) : Bool := decide (l ≤ n) && decide (n ≤ h)
theorem inB_true {n l h : Int} : inB n l h = true ↔ l ≤ n ∧ n ≤ h := by simp [inB]
theorem inB_false {n l h : Int} : inB n l h = false ↔ n < l ∨ h < n := by
  rw [← Bool.not_eq_true, inB_true]; omega

set_option maxHeartbeats 400000 in
theorem modulo_any (n m : Int) (w : World) (hm : 0 < m) (hm2 : m ≤ 1000000) :
    Calls Try.prog 80 #[.int .i64 n, .int .i64 m] w fun e w' => e = .returned (.int .i64 (n % m)) ∧ w = w' := by
  have h0 : (m == 0) = false := by simp; omega
  have h1 := tmod_bd n m hm
  have h2 := modulo_emod n m hm
  have H2 := Lib.hid h2; clear h2
  go_enter Try.func80, Try.ntmps80
  go_wp2
  · go_ret
    exact ⟨ret_int (by rw [H2.out, if_pos (by assumption)]), rfl⟩
  · go_ret
    exact ⟨ret_int (by rw [H2.out, if_neg (by omega)]), rfl⟩

set_option maxHeartbeats 400000 in
theorem rest_any (n m : Int) (w : World) (hm : 0 < m) (hm2 : m ≤ 1000000) :
    Calls Try.prog 33 #[.int .i64 n, .int .i64 m] w fun e w' => e = .returned (.int .i64 (n % m)) ∧ w = w' := by
  go_enter Try.func33, Try.ntmps33
  go_wp2_with (go_at_call 80; refine (modulo_any n m _ hm hm2).mono ?_; rintro e w' ⟨rfl, rfl⟩)
  go_ret
  exact ⟨rfl, rfl⟩

set_option maxHeartbeats 400000 in
theorem small_any (n : Int) (w : World) :
    Calls Try.prog 39 #[.int .i64 n] w fun e w' => e = .returned (.int .i64 (wrap32 n)) ∧ w = w' := by
  go_enter Try.func39, Try.ntmps39
  go_wp2
  go_ret
  exact ⟨ret_int (small_eq n), rfl⟩
end Go.Proofs.Ytlaogkbdjkofaaa
