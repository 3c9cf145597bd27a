/- The contracts of sched's barrier and memory, timing's Writes, Latency, Straight. -/
import Derived.Test.YtgcbdndfobiphabHeadW
import Derived.Test.YtgcbdndfobiphabBlk
namespace Go.Proofs.Ytgcbdndfobiphab
open Go.RowKit
set_option linter.unusedVariables false

def barrierB (op : Int) : Bool := op == 14 || op == 15 || op == 23 || op == 4 || op == 5
def memoryB (op : Int) : Bool := op == 12 || op == 13
/-- the register that an instruction writes -/
def wrOf (op d : Int) : Int := if op = 20 ∨ op = 21 then 15 else if op = 0 ∨ op = 13 ∨ op = 16 ∨ op = 17 ∨ op = 18 ∨ op = 19 ∨ op = 22 ∨ op = 23 ∨ op = 24 then 0 else d



theorem op_cases' {op : Int} (h : 0 ≤ op ∧ op ≤ 24) : op = 0 ∨ op = 1 ∨ op = 2 ∨ op = 3 ∨ op = 4 ∨ op = 5 ∨ op = 6 ∨ op = 7 ∨ op = 8 ∨ op = 9 ∨ op = 10 ∨ op = 11 ∨ op = 12 ∨ op = 13 ∨ op = 14 ∨ op = 15 ∨ op = 16 ∨ op = 17 ∨ op = 18 ∨ op = 19 ∨ op = 20 ∨ op = 21 ∨ op = 22 ∨ op = 23 ∨ op = 24 := by omega

set_option maxHeartbeats 4000000 in
theorem writes_any (op d a b n : Int) (w : World) :
    Calls Try.prog 7 #[.agg #[.int .i64 op, .int .i64 d, .int .i64 a, .int .i64 b, .int .i64 n]] w fun e w' => e = .returned (.int .i64 (wrOf op d)) ∧ w' = w.alloc (.cells #[.int .i64 op, .int .i64 d, .int .i64 a, .int .i64 b, .int .i64 n] 27) := by
  by_cases h : 0 ≤ op ∧ op ≤ 24
  · rcases op_cases' h with rfl | rfl | rfl | rfl | rfl | rfl | rfl | rfl | rfl | rfl | rfl | rfl | rfl | rfl | rfl | rfl | rfl | rfl | rfl | rfl | rfl | rfl | rfl | rfl | rfl
    all_goals
      clear h
      go_enter Try.func7, Try.ntmps7
      go_wp2
      go_ret
      exact ⟨rfl, rfl⟩
  · have H : Hid (wrOf op d = d) := by unfold Hid wrOf; rw [if_neg (by omega), if_neg (by omega)]
    have t0 : (op == 20) = false := beq_eq_false_iff_ne.2 (by omega)
    have t1 : (op == 21) = false := beq_eq_false_iff_ne.2 (by omega)
    have t2 : (op == 0) = false := beq_eq_false_iff_ne.2 (by omega)
    have t3 : (op == 13) = false := beq_eq_false_iff_ne.2 (by omega)
    have t4 : (op == 16) = false := beq_eq_false_iff_ne.2 (by omega)
    have t5 : (op == 17) = false := beq_eq_false_iff_ne.2 (by omega)
    have t6 : (op == 18) = false := beq_eq_false_iff_ne.2 (by omega)
    have t7 : (op == 19) = false := beq_eq_false_iff_ne.2 (by omega)
    have t8 : (op == 22) = false := beq_eq_false_iff_ne.2 (by omega)
    have t9 : (op == 23) = false := beq_eq_false_iff_ne.2 (by omega)
    have ta : (op == 24) = false := beq_eq_false_iff_ne.2 (by omega)
    clear h
    go_enter Try.func7, Try.ntmps7
    go_wp2
    go_ret
    exact ⟨by rw [H.out]; rfl, rfl⟩
end Go.Proofs.Ytgcbdndfobiphab
