/- The contracts of sched's barrier and memory, timing's Writes, Latency, Straight. -/
import Derived.Test.YtlaogkbdjkofaaaHeadW
import Derived.Test.YtlaogkbdjkofaaaBlk
namespace Go.Proofs.Ytlaogkbdjkofaaa
open Go.RowKit
set_option linter.unusedVariables false

def barrierB (op : Int) : Bool := op == 14 || op == 15 || op == 23 || op == 4 || op == 5
def memoryB (op : Int) : Bool := op == 12 || op == 13
/-- the register that an instruction writes -/
def wrOf (op d : Int) : Int := if op = 20 ∨ op = 21 then 15 else if op = 0 ∨ op = 13 ∨ op = 16 ∨ op = 17 ∨ op = 18 ∨ op = 19 ∨ op = 22 ∨ op = 23 ∨ op = 24 then 0 else d



theorem op_cases' {op : Int} (h : 0 ≤ op ∧ op ≤ 24) : op = 0 ∨ op = 1 ∨ op = 2 ∨ op = 3 ∨ op = 4 ∨ op = 5 ∨ op = 6 ∨ op = 7 ∨ op = 8 ∨ op = 9 ∨ op = 10 ∨ op = 11 ∨ op = 12 ∨ op = 13 ∨ op = 14 ∨ op = 15 ∨ op = 16 ∨ op = 17 ∨ op = 18 ∨ op = 19 ∨ op = 20 ∨ op = 21 ∨ op = 22 ∨ op = 23 ∨ op = 24 := by omega

end Go.Proofs.Ytlaogkbdjkofaaa
