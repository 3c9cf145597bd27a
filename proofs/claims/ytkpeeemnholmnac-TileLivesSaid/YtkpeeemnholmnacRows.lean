/-
  No cell of these rows narrows 'for every input' (looked for: loops, veiled, ifaces, maps, wideKeys, modest, calm, conditions, laid).
  DERIVED. THE GIVEN ROWS OF THIS SEAT. 4 by the template 'for every input the law returns true; each argument reads behind the call as it read before'; 0 by the template 'total and deterministic' (their statements: YtkpeeemnholmnacTotals.lean).
  GIVEN WITH THE SEED: the statements are not yours to turn. If you find one false, say at which input.
  Laid BY PROGRAM, IN A SANDBOX (cutbox-rows.mjs): the forced cells as the released guide's own fill.sh prints them over the translation 6ebbaae732b33803… (all of the seat's roots in one cut). By AI agents, Wed Nov 11 2026. No macro, syntax, notation, axiom, sorry.
-/
import Derived.Test.YtkpeeemnholmnacChecked
import GoSem.Claim
import GoSem.ClaimJoined
import GoSem.ClaimMapViews
import Derived.JoinedTies
import Derived.KernelRfl
namespace Go.Proofs.Ytkpeeemnholmnac
/- THE CELL 'sum', in the pinned program and in every row, IS THE sha256 OF THE DUMP (.gsa) THAT YtkpeeemnholmnacProg.lean LOADS. Nothing in Lean hashes anything: it is a label: what it is worth is what the hold of that sum in a sandbox is worth. -/
noncomputable def Try.pinned : Pinned := { name := "ytkpeeemnholmnac", sum := "6ebbaae732b3380300fccf5539272f8dc9c61d549a7861350b91f7adf5b96fb4", checked := Try.checked }
namespace Rows
def none {H : Type} : Left H := { results := [], args := [] }

/-- 'provenancelaw4.TimingSays': WHATEVER THE INPUT: true; the input reads as it did. -/
def timingSaysSpec : ChangeSpec := { name := "timingSays", fn := fun _ => fun
  | [d1, d2, d3] => { results := [.lit (.bool true)], args := [d1, d2, d3] }
  | _ => none }
def timingSaysRow : OpenClaim := { program := "ytkpeeemnholmnac", sum := "6ebbaae732b3380300fccf5539272f8dc9c61d549a7861350b91f7adf5b96fb4", func := "provenance/provenancelaw4.TimingSays", spec := "timingSays", inPlace := ["slices.overlaps[int]"], unfollowed := true, recurses := true, apart := false }
def TimingSaysSaid : Prop := timingSaysRow.holds Try.pinned (OpenSpec.ofChange timingSaysSpec)

/-- ITS FALSE NEIGHBOUR: 'it returns false'. Refute it at one input. -/
def timingSaysWrong : ChangeSpec := { name := "timingSays", fn := fun _ => fun
  | [d1, d2, d3] => { results := [.lit (.bool false)], args := [d1, d2, d3] }
  | _ => none }
def TimingSaysWrongFalsely : Prop := timingSaysRow.holds Try.pinned (OpenSpec.ofChange timingSaysWrong)

/-- 'provenancelaw4.TileChecks': WHATEVER THE INPUT: true; the input reads as it did. -/
def tileChecksSpec : ChangeSpec := { name := "tileChecks", fn := fun _ => fun
  | [d] => { results := [.lit (.bool true)], args := [d] }
  | _ => none }
def tileChecksRow : OpenClaim := { program := "ytkpeeemnholmnac", sum := "6ebbaae732b3380300fccf5539272f8dc9c61d549a7861350b91f7adf5b96fb4", func := "provenance/provenancelaw4.TileChecks", spec := "tileChecks", unfollowed := true, recurses := true, apart := false }
def TileChecksSaid : Prop := tileChecksRow.holds Try.pinned (OpenSpec.ofChange tileChecksSpec)

/-- ITS FALSE NEIGHBOUR: 'it returns false'. Refute it at one input. -/
def tileChecksWrong : ChangeSpec := { name := "tileChecks", fn := fun _ => fun
  | [d] => { results := [.lit (.bool false)], args := [d] }
  | _ => none }
def TileChecksWrongFalsely : Prop := tileChecksRow.holds Try.pinned (OpenSpec.ofChange tileChecksWrong)

/-- 'provenancelaw4.TileLives': WHATEVER THE INPUT: true; the input reads as it did. -/
def tileLivesSpec : ChangeSpec := { name := "tileLives", fn := fun _ => fun
  | [d] => { results := [.lit (.bool true)], args := [d] }
  | _ => none }
def tileLivesRow : OpenClaim := { program := "ytkpeeemnholmnac", sum := "6ebbaae732b3380300fccf5539272f8dc9c61d549a7861350b91f7adf5b96fb4", func := "provenance/provenancelaw4.TileLives", spec := "tileLives", unfollowed := true, recurses := true, apart := false }
def TileLivesSaid : Prop := tileLivesRow.holds Try.pinned (OpenSpec.ofChange tileLivesSpec)

/-- ITS FALSE NEIGHBOUR: 'it returns false'. Refute it at one input. -/
def tileLivesWrong : ChangeSpec := { name := "tileLives", fn := fun _ => fun
  | [d] => { results := [.lit (.bool false)], args := [d] }
  | _ => none }
def TileLivesWrongFalsely : Prop := tileLivesRow.holds Try.pinned (OpenSpec.ofChange tileLivesWrong)

/-- 'provenancelaw4.AlloccheckSays': WHATEVER THE INPUT: true; the input reads as it did. -/
def alloccheckSaysSpec : ChangeSpec := { name := "alloccheckSays", fn := fun _ => fun
  | [d1, d2] => { results := [.lit (.bool true)], args := [d1, d2] }
  | _ => none }
def alloccheckSaysRow : OpenClaim := { program := "ytkpeeemnholmnac", sum := "6ebbaae732b3380300fccf5539272f8dc9c61d549a7861350b91f7adf5b96fb4", func := "provenance/provenancelaw4.AlloccheckSays", spec := "alloccheckSays", unfollowed := true, recurses := true, apart := false }
def AlloccheckSaysSaid : Prop := alloccheckSaysRow.holds Try.pinned (OpenSpec.ofChange alloccheckSaysSpec)

/-- ITS FALSE NEIGHBOUR: 'it returns false'. Refute it at one input. -/
def alloccheckSaysWrong : ChangeSpec := { name := "alloccheckSays", fn := fun _ => fun
  | [d1, d2] => { results := [.lit (.bool false)], args := [d1, d2] }
  | _ => none }
def AlloccheckSaysWrongFalsely : Prop := alloccheckSaysRow.holds Try.pinned (OpenSpec.ofChange alloccheckSaysWrong)

/- THE SECOND FORM. 'bulk': how many values and letters a reading holds, each counted each time it is reached (what is shared counts as often as it is met; a slice's spare places count too). A statement '..UptoSaid' is the law's where the arguments, and the package variables that the reading takes, are together of bulk at most 1048576: NARROWER than '..Said'. Prove '..Said' where nothing that the law and all that it calls make is longer than what came in: it says more and counts as full. Else prove '..UptoSaid'. A law counts once. -/
mutual
def uptoBulk {H : Type} : DataW H → Nat
  | .lit (.string bytes) => bytes.length + 1
  | .lit _ => 1
  | .nil => 1
  | .ptr d => uptoBulk d + 1
  | .slice elems spare => uptoBulkAll elems + uptoBulkAll spare + 1
  | .agg parts => uptoBulkAll parts + 1
  | .iface _ d => uptoBulk d + 1
  | .map entries => uptoBulkEntries entries + 1
  | .held _ => 1
def uptoBulkAll {H : Type} : List (DataW H) → Nat
  | [] => 0
  | d :: r => uptoBulk d + uptoBulkAll r
def uptoBulkEntries {H : Type} : List (Lit × DataW H) → Nat
  | [] => 0
  | x :: r => uptoBulkEntry x + uptoBulkEntries r
def uptoBulkEntry {H : Type} : Lit × DataW H → Nat
  | (.string bytes, d) => bytes.length + uptoBulk d + 1
  | (_, d) => uptoBulk d + 1
 end
def uptoSmall : (H : Type) → List (DataW H) → Bool := fun _ ds => decide (uptoBulkAll ds ≤ 1048576)
def OpenSpec.upto (s : _root_.Go.ChangeSpec) : _root_.Go.OpenSpec := { _root_.Go.OpenSpec.ofChange s with cond := some uptoSmall }

/-- 'provenancelaw4.TimingSays', WHERE WHAT IT READS IS OF BULK AT MOST 1048576: true; the input reads as it did. -/
def timingSaysUptoRow : OpenClaim := { program := "ytkpeeemnholmnac", sum := "6ebbaae732b3380300fccf5539272f8dc9c61d549a7861350b91f7adf5b96fb4", func := "provenance/provenancelaw4.TimingSays", spec := "timingSays", inPlace := ["slices.overlaps[int]"], unfollowed := true, recurses := true, apart := false, narrowed := true }
def TimingSaysUptoSaid : Prop := timingSaysUptoRow.holds Try.pinned (OpenSpec.upto timingSaysSpec)

/-- 'provenancelaw4.TileChecks', WHERE WHAT IT READS IS OF BULK AT MOST 1048576: true; the input reads as it did. -/
def tileChecksUptoRow : OpenClaim := { program := "ytkpeeemnholmnac", sum := "6ebbaae732b3380300fccf5539272f8dc9c61d549a7861350b91f7adf5b96fb4", func := "provenance/provenancelaw4.TileChecks", spec := "tileChecks", unfollowed := true, recurses := true, apart := false, narrowed := true }
def TileChecksUptoSaid : Prop := tileChecksUptoRow.holds Try.pinned (OpenSpec.upto tileChecksSpec)

/-- 'provenancelaw4.TileLives', WHERE WHAT IT READS IS OF BULK AT MOST 1048576: true; the input reads as it did. -/
def tileLivesUptoRow : OpenClaim := { program := "ytkpeeemnholmnac", sum := "6ebbaae732b3380300fccf5539272f8dc9c61d549a7861350b91f7adf5b96fb4", func := "provenance/provenancelaw4.TileLives", spec := "tileLives", unfollowed := true, recurses := true, apart := false, narrowed := true }
def TileLivesUptoSaid : Prop := tileLivesUptoRow.holds Try.pinned (OpenSpec.upto tileLivesSpec)

/-- 'provenancelaw4.AlloccheckSays', WHERE WHAT IT READS IS OF BULK AT MOST 1048576: true; the input reads as it did. -/
def alloccheckSaysUptoRow : OpenClaim := { program := "ytkpeeemnholmnac", sum := "6ebbaae732b3380300fccf5539272f8dc9c61d549a7861350b91f7adf5b96fb4", func := "provenance/provenancelaw4.AlloccheckSays", spec := "alloccheckSays", unfollowed := true, recurses := true, apart := false, narrowed := true }
def AlloccheckSaysUptoSaid : Prop := alloccheckSaysUptoRow.holds Try.pinned (OpenSpec.upto alloccheckSaysSpec)

end Rows
end Go.Proofs.Ytkpeeemnholmnac
