/- The contracts of the reference's Rest, modulo and Small. -/
import Derived.Test.YtgcbdndfobiphabRows
import Derived.Test.YtgcbdndfobiphabArith
import Derived.WalkKit
import Derived.WalkSpells
import Derived.WalkLawsBesides
import Derived.Lib.Hide
namespace Go.Proofs.Ytgcbdndfobiphab
open Go.RowKit

theorem ret_int {k : IntKind} {a b : Int} (h : a = b) : Ending.returned (.int k a) = .returned (.int k b) := by rw [h]
theorem ret_bool {a b : Bool} (h : a = b) : Ending.returned (.bool a) = .returned (.bool b) := by rw [h]

/-- what a call of Go's own small 'in' answers -/
def inB (n l h : Int) : Bool := decide (l ≤ n) && decide (n ≤ h)
theorem inB_true {n l h : Int} : inB n l h = true ↔ l ≤ n ∧ n ≤ h := by simp [inB]
theorem inB_false {n l h : Int} : inB n l h = false ↔ n < l ∨ h < n := by
  rw [← Bool.not_eq_true, inB_true]; omega



end Go.Proofs.Ytgcbdndfobiphab
