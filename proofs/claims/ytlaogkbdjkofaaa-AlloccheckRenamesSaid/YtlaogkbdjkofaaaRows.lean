/-
  No cell of these rows narrows 'for every input' (looked for: loops, veiled, ifaces, maps, wideKeys, modest, calm, conditions, laid).
  DERIVED. THE GIVEN ROWS OF THIS SEAT. 10 by the template 'for every input the law returns true; each argument reads behind the call as it read before'; 0 by the template 'total and deterministic' (their statements: YtlaogkbdjkofaaaTotals.lean).
  GIVEN WITH THE SEED: the statements are not yours to turn. If you find one false, say at which input.
  Laid BY PROGRAM, IN A SANDBOX (cutbox-rows.mjs): the forced cells as the released guide's own fill.sh prints them over the translation 06b971e9b0eed3ab… (all of the seat's roots in one cut). By AI agents, Wed Nov 11 2026. No macro, syntax, notation, axiom, sorry.
-/
import Derived.Test.YtlaogkbdjkofaaaChecked
import GoSem.Claim
import GoSem.ClaimJoined
import GoSem.ClaimMapViews
import Derived.JoinedTies
import Derived.KernelRfl
namespace Go.Proofs.Ytlaogkbdjkofaaa
/- THE CELL 'sum', in the pinned program and in every row, IS THE sha256 OF THE DUMP (.gsa) THAT YtlaogkbdjkofaaaProg.lean LOADS. Nothing in Lean hashes anything: it is a label: what it is worth is what the hold of that sum in a sandbox is worth. -/
noncomputable def Try.pinned : Pinned := { name := "ytlaogkbdjkofaaa", sum := "06b971e9b0eed3ab8b46feb04d4c1aa68bd7edf902101eeab9ab3fac929d6196", checked := Try.checked }
namespace Rows
def none {H : Type} : Left H := { results := [], args := [] }

/-- 'provenancelaw4.AlloccheckSays': WHATEVER THE INPUT: true; the input reads as it did. -/
def alloccheckSaysSpec : ChangeSpec := { name := "alloccheckSays", fn := fun _ => fun
  | [d1, d2] => { results := [.lit (.bool true)], args := [d1, d2] }
  | _ => none }
def alloccheckSaysRow : OpenClaim := { program := "ytlaogkbdjkofaaa", sum := "06b971e9b0eed3ab8b46feb04d4c1aa68bd7edf902101eeab9ab3fac929d6196", func := "provenance/provenancelaw4.AlloccheckSays", spec := "alloccheckSays", unfollowed := true, recurses := true, apart := false }
def AlloccheckSaysSaid : Prop := alloccheckSaysRow.holds Try.pinned (OpenSpec.ofChange alloccheckSaysSpec)

/-- ITS FALSE NEIGHBOUR: 'it returns false'. Refute it at one input. -/
def alloccheckSaysWrong : ChangeSpec := { name := "alloccheckSays", fn := fun _ => fun
  | [d1, d2] => { results := [.lit (.bool false)], args := [d1, d2] }
  | _ => none }
def AlloccheckSaysWrongFalsely : Prop := alloccheckSaysRow.holds Try.pinned (OpenSpec.ofChange alloccheckSaysWrong)

/-- 'provenancelaw4.ColorInterferes': WHATEVER THE INPUT: true; the input reads as it did. -/
def colorInterferesSpec : ChangeSpec := { name := "colorInterferes", fn := fun _ => fun
  | [d] => { results := [.lit (.bool true)], args := [d] }
  | _ => none }
def colorInterferesRow : OpenClaim := { program := "ytlaogkbdjkofaaa", sum := "06b971e9b0eed3ab8b46feb04d4c1aa68bd7edf902101eeab9ab3fac929d6196", func := "provenance/provenancelaw4.ColorInterferes", spec := "colorInterferes", unfollowed := true, recurses := true, apart := false }
def ColorInterferesSaid : Prop := colorInterferesRow.holds Try.pinned (OpenSpec.ofChange colorInterferesSpec)

/-- ITS FALSE NEIGHBOUR: 'it returns false'. Refute it at one input. -/
def colorInterferesWrong : ChangeSpec := { name := "colorInterferes", fn := fun _ => fun
  | [d] => { results := [.lit (.bool false)], args := [d] }
  | _ => none }
def ColorInterferesWrongFalsely : Prop := colorInterferesRow.holds Try.pinned (OpenSpec.ofChange colorInterferesWrong)

/-- 'provenancelaw4.LinearRanges': WHATEVER THE INPUT: true; the input reads as it did. -/
def linearRangesSpec : ChangeSpec := { name := "linearRanges", fn := fun _ => fun
  | [d] => { results := [.lit (.bool true)], args := [d] }
  | _ => none }
def linearRangesRow : OpenClaim := { program := "ytlaogkbdjkofaaa", sum := "06b971e9b0eed3ab8b46feb04d4c1aa68bd7edf902101eeab9ab3fac929d6196", func := "provenance/provenancelaw4.LinearRanges", spec := "linearRanges", unfollowed := true, recurses := true, apart := false }
def LinearRangesSaid : Prop := linearRangesRow.holds Try.pinned (OpenSpec.ofChange linearRangesSpec)

/-- ITS FALSE NEIGHBOUR: 'it returns false'. Refute it at one input. -/
def linearRangesWrong : ChangeSpec := { name := "linearRanges", fn := fun _ => fun
  | [d] => { results := [.lit (.bool false)], args := [d] }
  | _ => none }
def LinearRangesWrongFalsely : Prop := linearRangesRow.holds Try.pinned (OpenSpec.ofChange linearRangesWrong)

/-- 'provenancelaw4.ColorPlaces': WHATEVER THE INPUT: true; the input reads as it did. -/
def colorPlacesSpec : ChangeSpec := { name := "colorPlaces", fn := fun _ => fun
  | [d1, d2] => { results := [.lit (.bool true)], args := [d1, d2] }
  | _ => none }
def colorPlacesRow : OpenClaim := { program := "ytlaogkbdjkofaaa", sum := "06b971e9b0eed3ab8b46feb04d4c1aa68bd7edf902101eeab9ab3fac929d6196", func := "provenance/provenancelaw4.ColorPlaces", spec := "colorPlaces", unfollowed := true, recurses := true, apart := false }
def ColorPlacesSaid : Prop := colorPlacesRow.holds Try.pinned (OpenSpec.ofChange colorPlacesSpec)

/-- ITS FALSE NEIGHBOUR: 'it returns false'. Refute it at one input. -/
def colorPlacesWrong : ChangeSpec := { name := "colorPlaces", fn := fun _ => fun
  | [d1, d2] => { results := [.lit (.bool false)], args := [d1, d2] }
  | _ => none }
def ColorPlacesWrongFalsely : Prop := colorPlacesRow.holds Try.pinned (OpenSpec.ofChange colorPlacesWrong)

/-- 'provenancelaw4.LinearPlaces': WHATEVER THE INPUT: true; the input reads as it did. -/
def linearPlacesSpec : ChangeSpec := { name := "linearPlaces", fn := fun _ => fun
  | [d1, d2] => { results := [.lit (.bool true)], args := [d1, d2] }
  | _ => none }
def linearPlacesRow : OpenClaim := { program := "ytlaogkbdjkofaaa", sum := "06b971e9b0eed3ab8b46feb04d4c1aa68bd7edf902101eeab9ab3fac929d6196", func := "provenance/provenancelaw4.LinearPlaces", spec := "linearPlaces", inPlace := ["slices.overlaps[provenance/linear.Range]"], unfollowed := true, recurses := true, apart := false }
def LinearPlacesSaid : Prop := linearPlacesRow.holds Try.pinned (OpenSpec.ofChange linearPlacesSpec)

/-- ITS FALSE NEIGHBOUR: 'it returns false'. Refute it at one input. -/
def linearPlacesWrong : ChangeSpec := { name := "linearPlaces", fn := fun _ => fun
  | [d1, d2] => { results := [.lit (.bool false)], args := [d1, d2] }
  | _ => none }
def LinearPlacesWrongFalsely : Prop := linearPlacesRow.holds Try.pinned (OpenSpec.ofChange linearPlacesWrong)

/-- 'provenancekeep4.LinearEnough': WHATEVER THE INPUT: true; the input reads as it did. -/
def linearEnoughSpec : ChangeSpec := { name := "linearEnough", fn := fun _ => fun
  | [d1, d2] => { results := [.lit (.bool true)], args := [d1, d2] }
  | _ => none }
def linearEnoughRow : OpenClaim := { program := "ytlaogkbdjkofaaa", sum := "06b971e9b0eed3ab8b46feb04d4c1aa68bd7edf902101eeab9ab3fac929d6196", func := "provenance/provenancekeep4.LinearEnough", spec := "linearEnough", inPlace := ["slices.overlaps[provenance/linear.Range]"], unfollowed := true, recurses := true, apart := false }
def LinearEnoughSaid : Prop := linearEnoughRow.holds Try.pinned (OpenSpec.ofChange linearEnoughSpec)

/-- ITS FALSE NEIGHBOUR: 'it returns false'. Refute it at one input. -/
def linearEnoughWrong : ChangeSpec := { name := "linearEnough", fn := fun _ => fun
  | [d1, d2] => { results := [.lit (.bool false)], args := [d1, d2] }
  | _ => none }
def LinearEnoughWrongFalsely : Prop := linearEnoughRow.holds Try.pinned (OpenSpec.ofChange linearEnoughWrong)

/-- 'provenancekeep4.ColorEnough': WHATEVER THE INPUT: true; the input reads as it did. -/
def colorEnoughSpec : ChangeSpec := { name := "colorEnough", fn := fun _ => fun
  | [d] => { results := [.lit (.bool true)], args := [d] }
  | _ => none }
def colorEnoughRow : OpenClaim := { program := "ytlaogkbdjkofaaa", sum := "06b971e9b0eed3ab8b46feb04d4c1aa68bd7edf902101eeab9ab3fac929d6196", func := "provenance/provenancekeep4.ColorEnough", spec := "colorEnough", inPlace := ["slices.overlaps[provenance/linear.Range]"], unfollowed := true, recurses := true, apart := false }
def ColorEnoughSaid : Prop := colorEnoughRow.holds Try.pinned (OpenSpec.ofChange colorEnoughSpec)

/-- ITS FALSE NEIGHBOUR: 'it returns false'. Refute it at one input. -/
def colorEnoughWrong : ChangeSpec := { name := "colorEnough", fn := fun _ => fun
  | [d] => { results := [.lit (.bool false)], args := [d] }
  | _ => none }
def ColorEnoughWrongFalsely : Prop := colorEnoughRow.holds Try.pinned (OpenSpec.ofChange colorEnoughWrong)

/-- 'provenancekeep4.AlloccheckAccepts': WHATEVER THE INPUT: true; the input reads as it did. -/
def alloccheckAcceptsSpec : ChangeSpec := { name := "alloccheckAccepts", fn := fun _ => fun
  | [d1, d2] => { results := [.lit (.bool true)], args := [d1, d2] }
  | _ => none }
def alloccheckAcceptsRow : OpenClaim := { program := "ytlaogkbdjkofaaa", sum := "06b971e9b0eed3ab8b46feb04d4c1aa68bd7edf902101eeab9ab3fac929d6196", func := "provenance/provenancekeep4.AlloccheckAccepts", spec := "alloccheckAccepts", inPlace := ["slices.overlaps[provenance/linear.Range]"], unfollowed := true, recurses := true, apart := false }
def AlloccheckAcceptsSaid : Prop := alloccheckAcceptsRow.holds Try.pinned (OpenSpec.ofChange alloccheckAcceptsSpec)

/-- ITS FALSE NEIGHBOUR: 'it returns false'. Refute it at one input. -/
def alloccheckAcceptsWrong : ChangeSpec := { name := "alloccheckAccepts", fn := fun _ => fun
  | [d1, d2] => { results := [.lit (.bool false)], args := [d1, d2] }
  | _ => none }
def AlloccheckAcceptsWrongFalsely : Prop := alloccheckAcceptsRow.holds Try.pinned (OpenSpec.ofChange alloccheckAcceptsWrong)

/-- 'provenancekeep4.AlloccheckRenames': WHATEVER THE INPUT: true; the input reads as it did. -/
def alloccheckRenamesSpec : ChangeSpec := { name := "alloccheckRenames", fn := fun _ => fun
  | [d1, d2, d3, d4] => { results := [.lit (.bool true)], args := [d1, d2, d3, d4] }
  | _ => none }
def alloccheckRenamesRow : OpenClaim := { program := "ytlaogkbdjkofaaa", sum := "06b971e9b0eed3ab8b46feb04d4c1aa68bd7edf902101eeab9ab3fac929d6196", func := "provenance/provenancekeep4.AlloccheckRenames", spec := "alloccheckRenames", inPlace := ["slices.overlaps[provenance/linear.Range]"], unfollowed := true, recurses := true, apart := false }
def AlloccheckRenamesSaid : Prop := alloccheckRenamesRow.holds Try.pinned (OpenSpec.ofChange alloccheckRenamesSpec)

/-- ITS FALSE NEIGHBOUR: 'it returns false'. Refute it at one input. -/
def alloccheckRenamesWrong : ChangeSpec := { name := "alloccheckRenames", fn := fun _ => fun
  | [d1, d2, d3, d4] => { results := [.lit (.bool false)], args := [d1, d2, d3, d4] }
  | _ => none }
def AlloccheckRenamesWrongFalsely : Prop := alloccheckRenamesRow.holds Try.pinned (OpenSpec.ofChange alloccheckRenamesWrong)

/-- 'provenancekeep4.AlloccheckMeans': WHATEVER THE INPUT: true; the input reads as it did. -/
def alloccheckMeansSpec : ChangeSpec := { name := "alloccheckMeans", fn := fun _ => fun
  | [d1, d2, d3] => { results := [.lit (.bool true)], args := [d1, d2, d3] }
  | _ => none }
def alloccheckMeansRow : OpenClaim := { program := "ytlaogkbdjkofaaa", sum := "06b971e9b0eed3ab8b46feb04d4c1aa68bd7edf902101eeab9ab3fac929d6196", func := "provenance/provenancekeep4.AlloccheckMeans", spec := "alloccheckMeans", inPlace := ["slices.overlaps[provenance/linear.Range]"], unfollowed := true, recurses := true, apart := false }
def AlloccheckMeansSaid : Prop := alloccheckMeansRow.holds Try.pinned (OpenSpec.ofChange alloccheckMeansSpec)

/-- ITS FALSE NEIGHBOUR: 'it returns false'. Refute it at one input. -/
def alloccheckMeansWrong : ChangeSpec := { name := "alloccheckMeans", fn := fun _ => fun
  | [d1, d2, d3] => { results := [.lit (.bool false)], args := [d1, d2, d3] }
  | _ => none }
def AlloccheckMeansWrongFalsely : Prop := alloccheckMeansRow.holds Try.pinned (OpenSpec.ofChange alloccheckMeansWrong)

/- THE SECOND FORM. 'bulk': how many values and letters a reading holds, each counted each time it is reached (what is shared counts as often as it is met; a slice's spare places count too). A statement '..UptoSaid' is the law's where the arguments, and the package variables that the reading takes, are together of bulk at most 1048576: NARROWER than '..Said'. Prove '..Said' where nothing that the law and all that it calls make is longer than what came in: it says more and counts as full. Else prove '..UptoSaid'. A law counts once. -/
mutual
def uptoBulk {H : Type} : DataW H → Nat
  | .lit (.string bytes) => bytes.length + 1
  | .lit _ => 1
  | .nil => 1
  | .ptr d => uptoBulk d + 1
  | .slice elems spare => uptoBulkAll elems + uptoBulkAll spare + 1
  | .agg parts => uptoBulkAll parts + 1
  | .iface _ d => uptoBulk d + 1
  | .map entries => uptoBulkEntries entries + 1
  | .held _ => 1
def uptoBulkAll {H : Type} : List (DataW H) → Nat
  | [] => 0
  | d :: r => uptoBulk d + uptoBulkAll r
def uptoBulkEntries {H : Type} : List (Lit × DataW H) → Nat
  | [] => 0
  | x :: r => uptoBulkEntry x + uptoBulkEntries r
def uptoBulkEntry {H : Type} : Lit × DataW H → Nat
  | (.string bytes, d) => bytes.length + uptoBulk d + 1
  | (_, d) => uptoBulk d + 1
 end
def uptoSmall : (H : Type) → List (DataW H) → Bool := fun _ ds => decide (uptoBulkAll ds ≤ 1048576)
def OpenSpec.upto (s : _root_.Go.ChangeSpec) : _root_.Go.OpenSpec := { _root_.Go.OpenSpec.ofChange s with cond := some uptoSmall }

/-- 'provenancelaw4.AlloccheckSays', WHERE WHAT IT READS IS OF BULK AT MOST 1048576: true; the input reads as it did. -/
def alloccheckSaysUptoRow : OpenClaim := { program := "ytlaogkbdjkofaaa", sum := "06b971e9b0eed3ab8b46feb04d4c1aa68bd7edf902101eeab9ab3fac929d6196", func := "provenance/provenancelaw4.AlloccheckSays", spec := "alloccheckSays", unfollowed := true, recurses := true, apart := false, narrowed := true }
def AlloccheckSaysUptoSaid : Prop := alloccheckSaysUptoRow.holds Try.pinned (OpenSpec.upto alloccheckSaysSpec)

/-- 'provenancelaw4.ColorInterferes', WHERE WHAT IT READS IS OF BULK AT MOST 1048576: true; the input reads as it did. -/
def colorInterferesUptoRow : OpenClaim := { program := "ytlaogkbdjkofaaa", sum := "06b971e9b0eed3ab8b46feb04d4c1aa68bd7edf902101eeab9ab3fac929d6196", func := "provenance/provenancelaw4.ColorInterferes", spec := "colorInterferes", unfollowed := true, recurses := true, apart := false, narrowed := true }
def ColorInterferesUptoSaid : Prop := colorInterferesUptoRow.holds Try.pinned (OpenSpec.upto colorInterferesSpec)

/-- 'provenancelaw4.LinearRanges', WHERE WHAT IT READS IS OF BULK AT MOST 1048576: true; the input reads as it did. -/
def linearRangesUptoRow : OpenClaim := { program := "ytlaogkbdjkofaaa", sum := "06b971e9b0eed3ab8b46feb04d4c1aa68bd7edf902101eeab9ab3fac929d6196", func := "provenance/provenancelaw4.LinearRanges", spec := "linearRanges", unfollowed := true, recurses := true, apart := false, narrowed := true }
def LinearRangesUptoSaid : Prop := linearRangesUptoRow.holds Try.pinned (OpenSpec.upto linearRangesSpec)

/-- 'provenancelaw4.ColorPlaces', WHERE WHAT IT READS IS OF BULK AT MOST 1048576: true; the input reads as it did. -/
def colorPlacesUptoRow : OpenClaim := { program := "ytlaogkbdjkofaaa", sum := "06b971e9b0eed3ab8b46feb04d4c1aa68bd7edf902101eeab9ab3fac929d6196", func := "provenance/provenancelaw4.ColorPlaces", spec := "colorPlaces", unfollowed := true, recurses := true, apart := false, narrowed := true }
def ColorPlacesUptoSaid : Prop := colorPlacesUptoRow.holds Try.pinned (OpenSpec.upto colorPlacesSpec)

/-- 'provenancelaw4.LinearPlaces', WHERE WHAT IT READS IS OF BULK AT MOST 1048576: true; the input reads as it did. -/
def linearPlacesUptoRow : OpenClaim := { program := "ytlaogkbdjkofaaa", sum := "06b971e9b0eed3ab8b46feb04d4c1aa68bd7edf902101eeab9ab3fac929d6196", func := "provenance/provenancelaw4.LinearPlaces", spec := "linearPlaces", inPlace := ["slices.overlaps[provenance/linear.Range]"], unfollowed := true, recurses := true, apart := false, narrowed := true }
def LinearPlacesUptoSaid : Prop := linearPlacesUptoRow.holds Try.pinned (OpenSpec.upto linearPlacesSpec)

/-- 'provenancekeep4.LinearEnough', WHERE WHAT IT READS IS OF BULK AT MOST 1048576: true; the input reads as it did. -/
def linearEnoughUptoRow : OpenClaim := { program := "ytlaogkbdjkofaaa", sum := "06b971e9b0eed3ab8b46feb04d4c1aa68bd7edf902101eeab9ab3fac929d6196", func := "provenance/provenancekeep4.LinearEnough", spec := "linearEnough", inPlace := ["slices.overlaps[provenance/linear.Range]"], unfollowed := true, recurses := true, apart := false, narrowed := true }
def LinearEnoughUptoSaid : Prop := linearEnoughUptoRow.holds Try.pinned (OpenSpec.upto linearEnoughSpec)

/-- 'provenancekeep4.ColorEnough', WHERE WHAT IT READS IS OF BULK AT MOST 1048576: true; the input reads as it did. -/
def colorEnoughUptoRow : OpenClaim := { program := "ytlaogkbdjkofaaa", sum := "06b971e9b0eed3ab8b46feb04d4c1aa68bd7edf902101eeab9ab3fac929d6196", func := "provenance/provenancekeep4.ColorEnough", spec := "colorEnough", inPlace := ["slices.overlaps[provenance/linear.Range]"], unfollowed := true, recurses := true, apart := false, narrowed := true }
def ColorEnoughUptoSaid : Prop := colorEnoughUptoRow.holds Try.pinned (OpenSpec.upto colorEnoughSpec)

/-- 'provenancekeep4.AlloccheckAccepts', WHERE WHAT IT READS IS OF BULK AT MOST 1048576: true; the input reads as it did. -/
def alloccheckAcceptsUptoRow : OpenClaim := { program := "ytlaogkbdjkofaaa", sum := "06b971e9b0eed3ab8b46feb04d4c1aa68bd7edf902101eeab9ab3fac929d6196", func := "provenance/provenancekeep4.AlloccheckAccepts", spec := "alloccheckAccepts", inPlace := ["slices.overlaps[provenance/linear.Range]"], unfollowed := true, recurses := true, apart := false, narrowed := true }
def AlloccheckAcceptsUptoSaid : Prop := alloccheckAcceptsUptoRow.holds Try.pinned (OpenSpec.upto alloccheckAcceptsSpec)

/-- 'provenancekeep4.AlloccheckRenames', WHERE WHAT IT READS IS OF BULK AT MOST 1048576: true; the input reads as it did. -/
def alloccheckRenamesUptoRow : OpenClaim := { program := "ytlaogkbdjkofaaa", sum := "06b971e9b0eed3ab8b46feb04d4c1aa68bd7edf902101eeab9ab3fac929d6196", func := "provenance/provenancekeep4.AlloccheckRenames", spec := "alloccheckRenames", inPlace := ["slices.overlaps[provenance/linear.Range]"], unfollowed := true, recurses := true, apart := false, narrowed := true }
def AlloccheckRenamesUptoSaid : Prop := alloccheckRenamesUptoRow.holds Try.pinned (OpenSpec.upto alloccheckRenamesSpec)

/-- 'provenancekeep4.AlloccheckMeans', WHERE WHAT IT READS IS OF BULK AT MOST 1048576: true; the input reads as it did. -/
def alloccheckMeansUptoRow : OpenClaim := { program := "ytlaogkbdjkofaaa", sum := "06b971e9b0eed3ab8b46feb04d4c1aa68bd7edf902101eeab9ab3fac929d6196", func := "provenance/provenancekeep4.AlloccheckMeans", spec := "alloccheckMeans", inPlace := ["slices.overlaps[provenance/linear.Range]"], unfollowed := true, recurses := true, apart := false, narrowed := true }
def AlloccheckMeansUptoSaid : Prop := alloccheckMeansUptoRow.holds Try.pinned (OpenSpec.upto alloccheckMeansSpec)

end Rows
end Go.Proofs.Ytlaogkbdjkofaaa
