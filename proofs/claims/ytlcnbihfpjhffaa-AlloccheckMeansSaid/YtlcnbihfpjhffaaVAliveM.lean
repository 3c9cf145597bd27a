/- The reference's search for a use: the law. And its 'among'. -/
import Derived.Test.YtlcnbihfpjhffaaVLv
namespace Go.Proofs.Ytlcnbihfpjhffaa
open Go.RowKit
set_option linter.unusedVariables false
set_option linter.unusedSimpArgs false

def genAt (b : VB) (q r : Nat) : Bool := (b.ins.drop q).foldr insF (fun r => if (r : Int) ∈ endV b.e then true else false) r
def thruAt (b : VB) (q r : Nat) : Bool := (b.ins.drop q).foldr insF (fun r => if (r : Int) ∈ endV b.e then true else true) r
theorem genAt_zero {b : VB} {r : Nat} (hr : r ≠ 0) : genAt b 0 r = genV b r := by
 unfold genAt genV blkF
 rw [if_neg hr, List.drop_zero]
/-- live at a place of a block -/
def AliveP (f : VF) (i q r : Nat) : Prop := genAt (f.blk i) q r = true ∨ (thruAt (f.blk i) q r = true ∧ ∃ t : Nat, (t : Int) ∈ (f.blk i).e.to ∧ LiveI f t r)


end Go.Proofs.Ytlcnbihfpjhffaa
