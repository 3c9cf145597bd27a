/-
  No cell of these rows narrows 'for every input' (looked for: loops, veiled, ifaces, maps, wideKeys, modest, calm, conditions, laid).
  DERIVED. THE GIVEN ROWS OF THIS SEAT. 4 by the template 'for every input the law returns true; each argument reads behind the call as it read before'; 0 by the template 'total and deterministic' (their statements: YtkafbihlmhdjeabTotals.lean).
  GIVEN WITH THE SEED: the statements are not yours to turn. If you find one false, say at which input.
  Laid BY PROGRAM, IN A SANDBOX (cutbox-rows.mjs): the forced cells as the released guide's own fill.sh prints them over the translation 0dfee4a9ea7b8779… (all of the seat's roots in one cut). By AI agents, Wed Nov 11 2026. No macro, syntax, notation, axiom, sorry.
-/
import Derived.Test.YtkafbihlmhdjeabChecked
import GoSem.Claim
import GoSem.ClaimJoined
import GoSem.ClaimMapViews
import Derived.JoinedTies
import Derived.KernelRfl
namespace Go.Proofs.Ytkafbihlmhdjeab
/- THE CELL 'sum', in the pinned program and in every row, IS THE sha256 OF THE DUMP (.gsa) THAT YtkafbihlmhdjeabProg.lean LOADS. Nothing in Lean hashes anything: it is a label: what it is worth is what the hold of that sum in a sandbox is worth. -/
noncomputable def Try.pinned : Pinned := { name := "ytkafbihlmhdjeab", sum := "0dfee4a9ea7b8779ef07709f1a0e6bbb5521fd7c8a1fa1700c652beda5880f0b", checked := Try.checked }
namespace Rows
def none {H : Type} : Left H := { results := [], args := [] }

/-- 'provenancelaw4.LinkMerges': WHATEVER THE INPUT: true; the input reads as it did. -/
def linkMergesSpec : ChangeSpec := { name := "linkMerges", fn := fun _ => fun
  | [d] => { results := [.lit (.bool true)], args := [d] }
  | _ => none }
def linkMergesRow : OpenClaim := { program := "ytkafbihlmhdjeab", sum := "0dfee4a9ea7b8779ef07709f1a0e6bbb5521fd7c8a1fa1700c652beda5880f0b", func := "provenance/provenancelaw4.LinkMerges", spec := "linkMerges", unfollowed := true, recurses := true, apart := false }
def LinkMergesSaid : Prop := linkMergesRow.holds Try.pinned (OpenSpec.ofChange linkMergesSpec)

/-- ITS FALSE NEIGHBOUR: 'it returns false'. Refute it at one input. -/
def linkMergesWrong : ChangeSpec := { name := "linkMerges", fn := fun _ => fun
  | [d] => { results := [.lit (.bool false)], args := [d] }
  | _ => none }
def LinkMergesWrongFalsely : Prop := linkMergesRow.holds Try.pinned (OpenSpec.ofChange linkMergesWrong)

/-- 'provenancelaw4.TimingSays': WHATEVER THE INPUT: true; the input reads as it did. -/
def timingSaysSpec : ChangeSpec := { name := "timingSays", fn := fun _ => fun
  | [d1, d2, d3] => { results := [.lit (.bool true)], args := [d1, d2, d3] }
  | _ => none }
def timingSaysRow : OpenClaim := { program := "ytkafbihlmhdjeab", sum := "0dfee4a9ea7b8779ef07709f1a0e6bbb5521fd7c8a1fa1700c652beda5880f0b", func := "provenance/provenancelaw4.TimingSays", spec := "timingSays", inPlace := ["slices.overlaps[int]"], unfollowed := true, recurses := true, apart := false }
def TimingSaysSaid : Prop := timingSaysRow.holds Try.pinned (OpenSpec.ofChange timingSaysSpec)

/-- ITS FALSE NEIGHBOUR: 'it returns false'. Refute it at one input. -/
def timingSaysWrong : ChangeSpec := { name := "timingSays", fn := fun _ => fun
  | [d1, d2, d3] => { results := [.lit (.bool false)], args := [d1, d2, d3] }
  | _ => none }
def TimingSaysWrongFalsely : Prop := timingSaysRow.holds Try.pinned (OpenSpec.ofChange timingSaysWrong)

/-- 'provenancekeep4.LinkAgain': WHATEVER THE INPUT: true; the input reads as it did. -/
def linkAgainSpec : ChangeSpec := { name := "linkAgain", fn := fun _ => fun
  | [d] => { results := [.lit (.bool true)], args := [d] }
  | _ => none }
def linkAgainRow : OpenClaim := { program := "ytkafbihlmhdjeab", sum := "0dfee4a9ea7b8779ef07709f1a0e6bbb5521fd7c8a1fa1700c652beda5880f0b", func := "provenance/provenancekeep4.LinkAgain", spec := "linkAgain", unfollowed := true, recurses := true, apart := false }
def LinkAgainSaid : Prop := linkAgainRow.holds Try.pinned (OpenSpec.ofChange linkAgainSpec)

/-- ITS FALSE NEIGHBOUR: 'it returns false'. Refute it at one input. -/
def linkAgainWrong : ChangeSpec := { name := "linkAgain", fn := fun _ => fun
  | [d] => { results := [.lit (.bool false)], args := [d] }
  | _ => none }
def LinkAgainWrongFalsely : Prop := linkAgainRow.holds Try.pinned (OpenSpec.ofChange linkAgainWrong)

/-- 'provenancekeep4.LinkCalls': WHATEVER THE INPUT: true; the input reads as it did. -/
def linkCallsSpec : ChangeSpec := { name := "linkCalls", fn := fun _ => fun
  | [d1, d2] => { results := [.lit (.bool true)], args := [d1, d2] }
  | _ => none }
def linkCallsRow : OpenClaim := { program := "ytkafbihlmhdjeab", sum := "0dfee4a9ea7b8779ef07709f1a0e6bbb5521fd7c8a1fa1700c652beda5880f0b", func := "provenance/provenancekeep4.LinkCalls", spec := "linkCalls", unfollowed := true, recurses := true, apart := false }
def LinkCallsSaid : Prop := linkCallsRow.holds Try.pinned (OpenSpec.ofChange linkCallsSpec)

/-- ITS FALSE NEIGHBOUR: 'it returns false'. Refute it at one input. -/
def linkCallsWrong : ChangeSpec := { name := "linkCalls", fn := fun _ => fun
  | [d1, d2] => { results := [.lit (.bool false)], args := [d1, d2] }
  | _ => none }
def LinkCallsWrongFalsely : Prop := linkCallsRow.holds Try.pinned (OpenSpec.ofChange linkCallsWrong)

/- THE SECOND FORM. 'bulk': how many values and letters a reading holds, each counted each time it is reached (what is shared counts as often as it is met; a slice's spare places count too). A statement '..UptoSaid' is the law's where the arguments, and the package variables that the reading takes, are together of bulk at most 1048576: NARROWER than '..Said'. Prove '..Said' where nothing that the law and all that it calls make is longer than what came in: it says more and counts as full. Else prove '..UptoSaid'. A law counts once. -/
mutual
def uptoBulk {H : Type} : DataW H → Nat
  | .lit (.string bytes) => bytes.length + 1
  | .lit _ => 1
  | .nil => 1
  | .ptr d => uptoBulk d + 1
  | .slice elems spare => uptoBulkAll elems + uptoBulkAll spare + 1
  | .agg parts => uptoBulkAll parts + 1
  | .iface _ d => uptoBulk d + 1
  | .map entries => uptoBulkEntries entries + 1
  | .held _ => 1
def uptoBulkAll {H : Type} : List (DataW H) → Nat
  | [] => 0
  | d :: r => uptoBulk d + uptoBulkAll r
def uptoBulkEntries {H : Type} : List (Lit × DataW H) → Nat
  | [] => 0
  | x :: r => uptoBulkEntry x + uptoBulkEntries r
def uptoBulkEntry {H : Type} : Lit × DataW H → Nat
  | (.string bytes, d) => bytes.length + uptoBulk d + 1
  | (_, d) => uptoBulk d + 1
 end
def uptoSmall : (H : Type) → List (DataW H) → Bool := fun _ ds => decide (uptoBulkAll ds ≤ 1048576)
def OpenSpec.upto (s : _root_.Go.ChangeSpec) : _root_.Go.OpenSpec := { _root_.Go.OpenSpec.ofChange s with cond := some uptoSmall }

/-- 'provenancelaw4.LinkMerges', WHERE WHAT IT READS IS OF BULK AT MOST 1048576: true; the input reads as it did. -/
def linkMergesUptoRow : OpenClaim := { program := "ytkafbihlmhdjeab", sum := "0dfee4a9ea7b8779ef07709f1a0e6bbb5521fd7c8a1fa1700c652beda5880f0b", func := "provenance/provenancelaw4.LinkMerges", spec := "linkMerges", unfollowed := true, recurses := true, apart := false, narrowed := true }
def LinkMergesUptoSaid : Prop := linkMergesUptoRow.holds Try.pinned (OpenSpec.upto linkMergesSpec)

/-- 'provenancelaw4.TimingSays', WHERE WHAT IT READS IS OF BULK AT MOST 1048576: true; the input reads as it did. -/
def timingSaysUptoRow : OpenClaim := { program := "ytkafbihlmhdjeab", sum := "0dfee4a9ea7b8779ef07709f1a0e6bbb5521fd7c8a1fa1700c652beda5880f0b", func := "provenance/provenancelaw4.TimingSays", spec := "timingSays", inPlace := ["slices.overlaps[int]"], unfollowed := true, recurses := true, apart := false, narrowed := true }
def TimingSaysUptoSaid : Prop := timingSaysUptoRow.holds Try.pinned (OpenSpec.upto timingSaysSpec)

/-- 'provenancekeep4.LinkAgain', WHERE WHAT IT READS IS OF BULK AT MOST 1048576: true; the input reads as it did. -/
def linkAgainUptoRow : OpenClaim := { program := "ytkafbihlmhdjeab", sum := "0dfee4a9ea7b8779ef07709f1a0e6bbb5521fd7c8a1fa1700c652beda5880f0b", func := "provenance/provenancekeep4.LinkAgain", spec := "linkAgain", unfollowed := true, recurses := true, apart := false, narrowed := true }
def LinkAgainUptoSaid : Prop := linkAgainUptoRow.holds Try.pinned (OpenSpec.upto linkAgainSpec)

/-- 'provenancekeep4.LinkCalls', WHERE WHAT IT READS IS OF BULK AT MOST 1048576: true; the input reads as it did. -/
def linkCallsUptoRow : OpenClaim := { program := "ytkafbihlmhdjeab", sum := "0dfee4a9ea7b8779ef07709f1a0e6bbb5521fd7c8a1fa1700c652beda5880f0b", func := "provenance/provenancekeep4.LinkCalls", spec := "linkCalls", unfollowed := true, recurses := true, apart := false, narrowed := true }
def LinkCallsUptoSaid : Prop := linkCallsUptoRow.holds Try.pinned (OpenSpec.upto linkCallsSpec)

end Rows
end Go.Proofs.Ytkafbihlmhdjeab
