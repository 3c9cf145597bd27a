/- The cells of an instruction in a box. No function of the program. -/
import Derived.Test.YtgcbdndfobiphabBlk
namespace Go.Proofs.Ytgcbdndfobiphab
open Go.RowKit
set_option linter.unusedVariables false

def opCells (op d a b n : Int) : List Value := [.int .i64 op, .int .i64 d, .int .i64 a, .int .i64 b, .int .i64 n]
def OpAt (w : World) (B : Nat) (op d a b n : Int) : Prop :=
  w.cell? ⟨B, 0, none⟩ = some (.int .i64 op) ∧ w.cell? ⟨B, 1, none⟩ = some (.int .i64 d) ∧ w.cell? ⟨B, 2, none⟩ = some (.int .i64 a) ∧ w.cell? ⟨B, 3, none⟩ = some (.int .i64 b) ∧ w.cell? ⟨B, 4, none⟩ = some (.int .i64 n)
theorem opAt_blk {w : World} {B : Nat} {t : TypeId} {op d a b n : Int} (h : Blk w B t (opCells op d a b n)) : OpAt w B op d a b n := ⟨h.cell 0, h.cell 1, h.cell 2, h.cell 3, h.cell 4⟩
end Go.Proofs.Ytgcbdndfobiphab
