/-
  No cell of these rows narrows 'for every input' (looked for: loops, veiled, ifaces, maps, wideKeys, modest, calm, conditions, laid).
  DERIVED. THE GIVEN ROWS OF THIS SEAT. 6 by the template 'for every input the law returns true; each argument reads behind the call as it read before'; 0 by the template 'total and deterministic' (their statements: YtnfgjcdiophphabTotals.lean).
  GIVEN WITH THE SEED: the statements are not yours to turn. If you find one false, say at which input.
  Laid BY PROGRAM, IN A SANDBOX (cutbox-rows.mjs): the forced cells as the released guide's own fill.sh prints them over the translation 8c583cf00e0cca1d… (all of the seat's roots in one cut). By AI agents, Wed Nov 11 2026. No macro, syntax, notation, axiom, sorry.
-/
import Derived.Test.YtnfgjcdiophphabChecked
import GoSem.Claim
import GoSem.ClaimJoined
import GoSem.ClaimMapViews
import Derived.JoinedTies
import Derived.KernelRfl
namespace Go.Proofs.Ytnfgjcdiophphab
/- THE CELL 'sum', in the pinned program and in every row, IS THE sha256 OF THE DUMP (.gsa) THAT YtnfgjcdiophphabProg.lean LOADS. Nothing in Lean hashes anything: it is a label: what it is worth is what the hold of that sum in a sandbox is worth. -/
noncomputable def Try.pinned : Pinned := { name := "ytnfgjcdiophphab", sum := "8c583cf00e0cca1dba7550d6ecf2798a6c4b307f7d1a4d8fa214c4084827674f", checked := Try.checked }
namespace Rows
def none {H : Type} : Left H := { results := [], args := [] }

/-- 'provenancelaw4.CachePlays': WHATEVER THE INPUT: true; the input reads as it did. -/
def cachePlaysSpec : ChangeSpec := { name := "cachePlays", fn := fun _ => fun
  | [d1, d2, d3, d4, d5] => { results := [.lit (.bool true)], args := [d1, d2, d3, d4, d5] }
  | _ => none }
def cachePlaysRow : OpenClaim := { program := "ytnfgjcdiophphab", sum := "8c583cf00e0cca1dba7550d6ecf2798a6c4b307f7d1a4d8fa214c4084827674f", func := "provenance/provenancelaw4.CachePlays", spec := "cachePlays", inPlace := ["slices.overlaps[provenance/api.CacheLine]"], unfollowed := true, recurses := true, apart := false }
def CachePlaysSaid : Prop := cachePlaysRow.holds Try.pinned (OpenSpec.ofChange cachePlaysSpec)

/-- ITS FALSE NEIGHBOUR: 'it returns false'. Refute it at one input. -/
def cachePlaysWrong : ChangeSpec := { name := "cachePlays", fn := fun _ => fun
  | [d1, d2, d3, d4, d5] => { results := [.lit (.bool false)], args := [d1, d2, d3, d4, d5] }
  | _ => none }
def CachePlaysWrongFalsely : Prop := cachePlaysRow.holds Try.pinned (OpenSpec.ofChange cachePlaysWrong)

/-- 'provenancelaw4.DebugSays': WHATEVER THE INPUT: true; the input reads as it did. -/
def debugSaysSpec : ChangeSpec := { name := "debugSays", fn := fun _ => fun
  | [d1, d2, d3] => { results := [.lit (.bool true)], args := [d1, d2, d3] }
  | _ => none }
def debugSaysRow : OpenClaim := { program := "ytnfgjcdiophphab", sum := "8c583cf00e0cca1dba7550d6ecf2798a6c4b307f7d1a4d8fa214c4084827674f", func := "provenance/provenancelaw4.DebugSays", spec := "debugSays", apart := false }
def DebugSaysSaid : Prop := debugSaysRow.holds Try.pinned (OpenSpec.ofChange debugSaysSpec)

/-- ITS FALSE NEIGHBOUR: 'it returns false'. Refute it at one input. -/
def debugSaysWrong : ChangeSpec := { name := "debugSays", fn := fun _ => fun
  | [d1, d2, d3] => { results := [.lit (.bool false)], args := [d1, d2, d3] }
  | _ => none }
def DebugSaysWrongFalsely : Prop := debugSaysRow.holds Try.pinned (OpenSpec.ofChange debugSaysWrong)

/-- 'provenancelaw4.LinkMerges': WHATEVER THE INPUT: true; the input reads as it did. -/
def linkMergesSpec : ChangeSpec := { name := "linkMerges", fn := fun _ => fun
  | [d] => { results := [.lit (.bool true)], args := [d] }
  | _ => none }
def linkMergesRow : OpenClaim := { program := "ytnfgjcdiophphab", sum := "8c583cf00e0cca1dba7550d6ecf2798a6c4b307f7d1a4d8fa214c4084827674f", func := "provenance/provenancelaw4.LinkMerges", spec := "linkMerges", unfollowed := true, recurses := true, apart := false }
def LinkMergesSaid : Prop := linkMergesRow.holds Try.pinned (OpenSpec.ofChange linkMergesSpec)

/-- ITS FALSE NEIGHBOUR: 'it returns false'. Refute it at one input. -/
def linkMergesWrong : ChangeSpec := { name := "linkMerges", fn := fun _ => fun
  | [d] => { results := [.lit (.bool false)], args := [d] }
  | _ => none }
def LinkMergesWrongFalsely : Prop := linkMergesRow.holds Try.pinned (OpenSpec.ofChange linkMergesWrong)

/-- 'provenancelaw4.TileChecks': WHATEVER THE INPUT: true; the input reads as it did. -/
def tileChecksSpec : ChangeSpec := { name := "tileChecks", fn := fun _ => fun
  | [d] => { results := [.lit (.bool true)], args := [d] }
  | _ => none }
def tileChecksRow : OpenClaim := { program := "ytnfgjcdiophphab", sum := "8c583cf00e0cca1dba7550d6ecf2798a6c4b307f7d1a4d8fa214c4084827674f", func := "provenance/provenancelaw4.TileChecks", spec := "tileChecks", unfollowed := true, recurses := true, apart := false }
def TileChecksSaid : Prop := tileChecksRow.holds Try.pinned (OpenSpec.ofChange tileChecksSpec)

/-- ITS FALSE NEIGHBOUR: 'it returns false'. Refute it at one input. -/
def tileChecksWrong : ChangeSpec := { name := "tileChecks", fn := fun _ => fun
  | [d] => { results := [.lit (.bool false)], args := [d] }
  | _ => none }
def TileChecksWrongFalsely : Prop := tileChecksRow.holds Try.pinned (OpenSpec.ofChange tileChecksWrong)

/-- 'provenancelaw4.TileLives': WHATEVER THE INPUT: true; the input reads as it did. -/
def tileLivesSpec : ChangeSpec := { name := "tileLives", fn := fun _ => fun
  | [d] => { results := [.lit (.bool true)], args := [d] }
  | _ => none }
def tileLivesRow : OpenClaim := { program := "ytnfgjcdiophphab", sum := "8c583cf00e0cca1dba7550d6ecf2798a6c4b307f7d1a4d8fa214c4084827674f", func := "provenance/provenancelaw4.TileLives", spec := "tileLives", unfollowed := true, recurses := true, apart := false }
def TileLivesSaid : Prop := tileLivesRow.holds Try.pinned (OpenSpec.ofChange tileLivesSpec)

/-- ITS FALSE NEIGHBOUR: 'it returns false'. Refute it at one input. -/
def tileLivesWrong : ChangeSpec := { name := "tileLives", fn := fun _ => fun
  | [d] => { results := [.lit (.bool false)], args := [d] }
  | _ => none }
def TileLivesWrongFalsely : Prop := tileLivesRow.holds Try.pinned (OpenSpec.ofChange tileLivesWrong)

/-- 'provenancekeep4.SchedMeans': WHATEVER THE INPUT: true; the input reads as it did. -/
def schedMeansSpec : ChangeSpec := { name := "schedMeans", fn := fun _ => fun
  | [d1, d2] => { results := [.lit (.bool true)], args := [d1, d2] }
  | _ => none }
def schedMeansRow : OpenClaim := { program := "ytnfgjcdiophphab", sum := "8c583cf00e0cca1dba7550d6ecf2798a6c4b307f7d1a4d8fa214c4084827674f", func := "provenance/provenancekeep4.SchedMeans", spec := "schedMeans", inPlace := ["slices.overlaps[int]"], unfollowed := true, recurses := true, apart := false }
def SchedMeansSaid : Prop := schedMeansRow.holds Try.pinned (OpenSpec.ofChange schedMeansSpec)

/-- ITS FALSE NEIGHBOUR: 'it returns false'. Refute it at one input. -/
def schedMeansWrong : ChangeSpec := { name := "schedMeans", fn := fun _ => fun
  | [d1, d2] => { results := [.lit (.bool false)], args := [d1, d2] }
  | _ => none }
def SchedMeansWrongFalsely : Prop := schedMeansRow.holds Try.pinned (OpenSpec.ofChange schedMeansWrong)

/- THE SECOND FORM. 'bulk': how many values and letters a reading holds, each counted each time it is reached (what is shared counts as often as it is met; a slice's spare places count too). A statement '..UptoSaid' is the law's where the arguments, and the package variables that the reading takes, are together of bulk at most 1048576: NARROWER than '..Said'. Prove '..Said' where nothing that the law and all that it calls make is longer than what came in: it says more and counts as full. Else prove '..UptoSaid'. A law counts once. -/
mutual
def uptoBulk {H : Type} : DataW H → Nat
  | .lit (.string bytes) => bytes.length + 1
  | .lit _ => 1
  | .nil => 1
  | .ptr d => uptoBulk d + 1
  | .slice elems spare => uptoBulkAll elems + uptoBulkAll spare + 1
  | .agg parts => uptoBulkAll parts + 1
  | .iface _ d => uptoBulk d + 1
  | .map entries => uptoBulkEntries entries + 1
  | .held _ => 1
def uptoBulkAll {H : Type} : List (DataW H) → Nat
  | [] => 0
  | d :: r => uptoBulk d + uptoBulkAll r
def uptoBulkEntries {H : Type} : List (Lit × DataW H) → Nat
  | [] => 0
  | x :: r => uptoBulkEntry x + uptoBulkEntries r
def uptoBulkEntry {H : Type} : Lit × DataW H → Nat
  | (.string bytes, d) => bytes.length + uptoBulk d + 1
  | (_, d) => uptoBulk d + 1
 end
def uptoSmall : (H : Type) → List (DataW H) → Bool := fun _ ds => decide (uptoBulkAll ds ≤ 1048576)
def OpenSpec.upto (s : _root_.Go.ChangeSpec) : _root_.Go.OpenSpec := { _root_.Go.OpenSpec.ofChange s with cond := some uptoSmall }

/-- 'provenancelaw4.CachePlays', WHERE WHAT IT READS IS OF BULK AT MOST 1048576: true; the input reads as it did. -/
def cachePlaysUptoRow : OpenClaim := { program := "ytnfgjcdiophphab", sum := "8c583cf00e0cca1dba7550d6ecf2798a6c4b307f7d1a4d8fa214c4084827674f", func := "provenance/provenancelaw4.CachePlays", spec := "cachePlays", inPlace := ["slices.overlaps[provenance/api.CacheLine]"], unfollowed := true, recurses := true, apart := false, narrowed := true }
def CachePlaysUptoSaid : Prop := cachePlaysUptoRow.holds Try.pinned (OpenSpec.upto cachePlaysSpec)

/-- 'provenancelaw4.DebugSays', WHERE WHAT IT READS IS OF BULK AT MOST 1048576: true; the input reads as it did. -/
def debugSaysUptoRow : OpenClaim := { program := "ytnfgjcdiophphab", sum := "8c583cf00e0cca1dba7550d6ecf2798a6c4b307f7d1a4d8fa214c4084827674f", func := "provenance/provenancelaw4.DebugSays", spec := "debugSays", apart := false, narrowed := true }
def DebugSaysUptoSaid : Prop := debugSaysUptoRow.holds Try.pinned (OpenSpec.upto debugSaysSpec)

/-- 'provenancelaw4.LinkMerges', WHERE WHAT IT READS IS OF BULK AT MOST 1048576: true; the input reads as it did. -/
def linkMergesUptoRow : OpenClaim := { program := "ytnfgjcdiophphab", sum := "8c583cf00e0cca1dba7550d6ecf2798a6c4b307f7d1a4d8fa214c4084827674f", func := "provenance/provenancelaw4.LinkMerges", spec := "linkMerges", unfollowed := true, recurses := true, apart := false, narrowed := true }
def LinkMergesUptoSaid : Prop := linkMergesUptoRow.holds Try.pinned (OpenSpec.upto linkMergesSpec)

/-- 'provenancelaw4.TileChecks', WHERE WHAT IT READS IS OF BULK AT MOST 1048576: true; the input reads as it did. -/
def tileChecksUptoRow : OpenClaim := { program := "ytnfgjcdiophphab", sum := "8c583cf00e0cca1dba7550d6ecf2798a6c4b307f7d1a4d8fa214c4084827674f", func := "provenance/provenancelaw4.TileChecks", spec := "tileChecks", unfollowed := true, recurses := true, apart := false, narrowed := true }
def TileChecksUptoSaid : Prop := tileChecksUptoRow.holds Try.pinned (OpenSpec.upto tileChecksSpec)

/-- 'provenancelaw4.TileLives', WHERE WHAT IT READS IS OF BULK AT MOST 1048576: true; the input reads as it did. -/
def tileLivesUptoRow : OpenClaim := { program := "ytnfgjcdiophphab", sum := "8c583cf00e0cca1dba7550d6ecf2798a6c4b307f7d1a4d8fa214c4084827674f", func := "provenance/provenancelaw4.TileLives", spec := "tileLives", unfollowed := true, recurses := true, apart := false, narrowed := true }
def TileLivesUptoSaid : Prop := tileLivesUptoRow.holds Try.pinned (OpenSpec.upto tileLivesSpec)

/-- 'provenancekeep4.SchedMeans', WHERE WHAT IT READS IS OF BULK AT MOST 1048576: true; the input reads as it did. -/
def schedMeansUptoRow : OpenClaim := { program := "ytnfgjcdiophphab", sum := "8c583cf00e0cca1dba7550d6ecf2798a6c4b307f7d1a4d8fa214c4084827674f", func := "provenance/provenancekeep4.SchedMeans", spec := "schedMeans", inPlace := ["slices.overlaps[int]"], unfollowed := true, recurses := true, apart := false, narrowed := true }
def SchedMeansUptoSaid : Prop := schedMeansUptoRow.holds Try.pinned (OpenSpec.upto schedMeansSpec)

end Rows
end Go.Proofs.Ytnfgjcdiophphab
