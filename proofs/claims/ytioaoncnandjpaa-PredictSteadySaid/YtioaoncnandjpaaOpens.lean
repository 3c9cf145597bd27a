/- What a law's walk is handed of its arguments: bounds of integers; rows of cells of a slice that came in. -/
import Derived.ProofKit
import Derived.OpenShut
import Derived.WalkKit
namespace Go.Proofs.Ytioaoncnandjpaa
open Go.ChangeShapes Go.WideShapes Go.ChangeAt Go.RowKit

theorem wf_bounds_i64 {n : Int} (h : (Lit.int .i64 n).wf = true) : -9223372036854775808 ≤ n ∧ n ≤ 9223372036854775807 := by
  simp [Lit.wf, IntKind.min, IntKind.max, IntKind.signed, IntKind.bits] at h
  omega
end Go.Proofs.Ytioaoncnandjpaa
