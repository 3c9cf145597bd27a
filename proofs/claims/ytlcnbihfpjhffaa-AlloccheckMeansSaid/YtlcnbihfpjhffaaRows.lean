/-
  No cell of these rows narrows 'for every input' (looked for: loops, veiled, ifaces, maps, wideKeys, modest, calm, conditions, laid).
  DERIVED. THE GIVEN ROWS OF THIS SEAT. 2 by the template 'for every input the law returns true; each argument reads behind the call as it read before'; 0 by the template 'total and deterministic' (their statements: YtlcnbihfpjhffaaTotals.lean).
  GIVEN WITH THE SEED: the statements are not yours to turn. If you find one false, say at which input.
  Laid BY PROGRAM, IN A SANDBOX (cutbox-rows.mjs): the forced cells as the released guide's own fill.sh prints them over the translation 07fd6d4b0673fba0… (all of the seat's roots in one cut). By AI agents, Wed Nov 11 2026. No macro, syntax, notation, axiom, sorry.
-/
import Derived.Test.YtlcnbihfpjhffaaChecked
import GoSem.Claim
import GoSem.ClaimJoined
import GoSem.ClaimMapViews
import Derived.JoinedTies
import Derived.KernelRfl
namespace Go.Proofs.Ytlcnbihfpjhffaa
/- THE CELL 'sum', in the pinned program and in every row, IS THE sha256 OF THE DUMP (.gsa) THAT YtlcnbihfpjhffaaProg.lean LOADS. Nothing in Lean hashes anything: it is a label: what it is worth is what the hold of that sum in a sandbox is worth. -/
noncomputable def Try.pinned : Pinned := { name := "ytlcnbihfpjhffaa", sum := "07fd6d4b0673fba0543017777b2513104a747cc5a2c447bf88348256735306c3", checked := Try.checked }
namespace Rows
def none {H : Type} : Left H := { results := [], args := [] }

/-- 'provenancekeep4.ColorEnough': WHATEVER THE INPUT: true; the input reads as it did. -/
def colorEnoughSpec : ChangeSpec := { name := "colorEnough", fn := fun _ => fun
  | [d] => { results := [.lit (.bool true)], args := [d] }
  | _ => none }
def colorEnoughRow : OpenClaim := { program := "ytlcnbihfpjhffaa", sum := "07fd6d4b0673fba0543017777b2513104a747cc5a2c447bf88348256735306c3", func := "provenance/provenancekeep4.ColorEnough", spec := "colorEnough", inPlace := ["slices.overlaps[provenance/linear.Range]"], unfollowed := true, recurses := true, apart := false }
def ColorEnoughSaid : Prop := colorEnoughRow.holds Try.pinned (OpenSpec.ofChange colorEnoughSpec)

/-- ITS FALSE NEIGHBOUR: 'it returns false'. Refute it at one input. -/
def colorEnoughWrong : ChangeSpec := { name := "colorEnough", fn := fun _ => fun
  | [d] => { results := [.lit (.bool false)], args := [d] }
  | _ => none }
def ColorEnoughWrongFalsely : Prop := colorEnoughRow.holds Try.pinned (OpenSpec.ofChange colorEnoughWrong)

/-- 'provenancekeep4.AlloccheckMeans': WHATEVER THE INPUT: true; the input reads as it did. -/
def alloccheckMeansSpec : ChangeSpec := { name := "alloccheckMeans", fn := fun _ => fun
  | [d1, d2, d3] => { results := [.lit (.bool true)], args := [d1, d2, d3] }
  | _ => none }
def alloccheckMeansRow : OpenClaim := { program := "ytlcnbihfpjhffaa", sum := "07fd6d4b0673fba0543017777b2513104a747cc5a2c447bf88348256735306c3", func := "provenance/provenancekeep4.AlloccheckMeans", spec := "alloccheckMeans", inPlace := ["slices.overlaps[provenance/linear.Range]"], unfollowed := true, recurses := true, apart := false }
def AlloccheckMeansSaid : Prop := alloccheckMeansRow.holds Try.pinned (OpenSpec.ofChange alloccheckMeansSpec)

/-- ITS FALSE NEIGHBOUR: 'it returns false'. Refute it at one input. -/
def alloccheckMeansWrong : ChangeSpec := { name := "alloccheckMeans", fn := fun _ => fun
  | [d1, d2, d3] => { results := [.lit (.bool false)], args := [d1, d2, d3] }
  | _ => none }
def AlloccheckMeansWrongFalsely : Prop := alloccheckMeansRow.holds Try.pinned (OpenSpec.ofChange alloccheckMeansWrong)

/- THE SECOND FORM. 'bulk': how many values and letters a reading holds, each counted each time it is reached (what is shared counts as often as it is met; a slice's spare places count too). A statement '..UptoSaid' is the law's where the arguments, and the package variables that the reading takes, are together of bulk at most 1048576: NARROWER than '..Said'. Prove '..Said' where nothing that the law and all that it calls make is longer than what came in: it says more and counts as full. Else prove '..UptoSaid'. A law counts once. -/
mutual
def uptoBulk {H : Type} : DataW H → Nat
  | .lit (.string bytes) => bytes.length + 1
  | .lit _ => 1
  | .nil => 1
  | .ptr d => uptoBulk d + 1
  | .slice elems spare => uptoBulkAll elems + uptoBulkAll spare + 1
  | .agg parts => uptoBulkAll parts + 1
  | .iface _ d => uptoBulk d + 1
  | .map entries => uptoBulkEntries entries + 1
  | .held _ => 1
def uptoBulkAll {H : Type} : List (DataW H) → Nat
  | [] => 0
  | d :: r => uptoBulk d + uptoBulkAll r
def uptoBulkEntries {H : Type} : List (Lit × DataW H) → Nat
  | [] => 0
  | x :: r => uptoBulkEntry x + uptoBulkEntries r
def uptoBulkEntry {H : Type} : Lit × DataW H → Nat
  | (.string bytes, d) => bytes.length + uptoBulk d + 1
  | (_, d) => uptoBulk d + 1
 end
def uptoSmall : (H : Type) → List (DataW H) → Bool := fun _ ds => decide (uptoBulkAll ds ≤ 1048576)
def OpenSpec.upto (s : _root_.Go.ChangeSpec) : _root_.Go.OpenSpec := { _root_.Go.OpenSpec.ofChange s with cond := some uptoSmall }

/-- 'provenancekeep4.ColorEnough', WHERE WHAT IT READS IS OF BULK AT MOST 1048576: true; the input reads as it did. -/
def colorEnoughUptoRow : OpenClaim := { program := "ytlcnbihfpjhffaa", sum := "07fd6d4b0673fba0543017777b2513104a747cc5a2c447bf88348256735306c3", func := "provenance/provenancekeep4.ColorEnough", spec := "colorEnough", inPlace := ["slices.overlaps[provenance/linear.Range]"], unfollowed := true, recurses := true, apart := false, narrowed := true }
def ColorEnoughUptoSaid : Prop := colorEnoughUptoRow.holds Try.pinned (OpenSpec.upto colorEnoughSpec)

/-- 'provenancekeep4.AlloccheckMeans', WHERE WHAT IT READS IS OF BULK AT MOST 1048576: true; the input reads as it did. -/
def alloccheckMeansUptoRow : OpenClaim := { program := "ytlcnbihfpjhffaa", sum := "07fd6d4b0673fba0543017777b2513104a747cc5a2c447bf88348256735306c3", func := "provenance/provenancekeep4.AlloccheckMeans", spec := "alloccheckMeans", inPlace := ["slices.overlaps[provenance/linear.Range]"], unfollowed := true, recurses := true, apart := false, narrowed := true }
def AlloccheckMeansUptoSaid : Prop := alloccheckMeansUptoRow.holds Try.pinned (OpenSpec.upto alloccheckMeansSpec)

end Rows
end Go.Proofs.Ytlcnbihfpjhffaa
