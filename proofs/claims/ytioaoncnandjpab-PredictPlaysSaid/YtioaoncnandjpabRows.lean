/-
  No cell of these rows narrows 'for every input' (looked for: loops, veiled, ifaces, maps, wideKeys, modest, calm, conditions, laid).
  DERIVED. THE GIVEN ROWS OF THIS SEAT. 12 by the template 'for every input the law returns true; each argument reads behind the call as it read before'; 0 by the template 'total and deterministic' (their statements: YtioaoncnandjpabTotals.lean).
  GIVEN WITH THE SEED: the statements are not yours to turn. If you find one false, say at which input.
  Laid BY PROGRAM, IN A SANDBOX (cutbox-rows.mjs): the forced cells as the released guide's own fill.sh prints them over the translation b1bb99bf32cbd13d… (all of the seat's roots in one cut). By AI agents, Wed Nov 11 2026. No macro, syntax, notation, axiom, sorry.
-/
import Derived.Test.YtioaoncnandjpabChecked
import GoSem.Claim
import GoSem.ClaimJoined
import GoSem.ClaimMapViews
import Derived.JoinedTies
import Derived.KernelRfl
namespace Go.Proofs.Ytioaoncnandjpab
/- THE CELL 'sum', in the pinned program and in every row, IS THE sha256 OF THE DUMP (.gsa) THAT YtioaoncnandjpabProg.lean LOADS. Nothing in Lean hashes anything: it is a label: what it is worth is what the hold of that sum in a sandbox is worth. -/
noncomputable def Try.pinned : Pinned := { name := "ytioaoncnandjpab", sum := "b1bb99bf32cbd13d883739c2939bbecd437c275856140b86d186e0727ead3cda", checked := Try.checked }
namespace Rows
def none {H : Type} : Left H := { results := [], args := [] }

/-- 'provenancelaw4.PredictPlays': WHATEVER THE INPUT: true; the input reads as it did. -/
def predictPlaysSpec : ChangeSpec := { name := "predictPlays", fn := fun _ => fun
  | [d1, d2, d3] => { results := [.lit (.bool true)], args := [d1, d2, d3] }
  | _ => none }
def predictPlaysRow : OpenClaim := { program := "ytioaoncnandjpab", sum := "b1bb99bf32cbd13d883739c2939bbecd437c275856140b86d186e0727ead3cda", func := "provenance/provenancelaw4.PredictPlays", spec := "predictPlays", apart := false }
def PredictPlaysSaid : Prop := predictPlaysRow.holds Try.pinned (OpenSpec.ofChange predictPlaysSpec)

/-- ITS FALSE NEIGHBOUR: 'it returns false'. Refute it at one input. -/
def predictPlaysWrong : ChangeSpec := { name := "predictPlays", fn := fun _ => fun
  | [d1, d2, d3] => { results := [.lit (.bool false)], args := [d1, d2, d3] }
  | _ => none }
def PredictPlaysWrongFalsely : Prop := predictPlaysRow.holds Try.pinned (OpenSpec.ofChange predictPlaysWrong)

/-- 'provenancelaw4.InsnSays': WHATEVER THE INPUT: true; the input reads as it did. -/
def insnSaysSpec : ChangeSpec := { name := "insnSays", fn := fun _ => fun
  | [d1, d2] => { results := [.lit (.bool true)], args := [d1, d2] }
  | _ => none }
def insnSaysRow : OpenClaim := { program := "ytioaoncnandjpab", sum := "b1bb99bf32cbd13d883739c2939bbecd437c275856140b86d186e0727ead3cda", func := "provenance/provenancelaw4.InsnSays", spec := "insnSays", apart := false }
def InsnSaysSaid : Prop := insnSaysRow.holds Try.pinned (OpenSpec.ofChange insnSaysSpec)

/-- ITS FALSE NEIGHBOUR: 'it returns false'. Refute it at one input. -/
def insnSaysWrong : ChangeSpec := { name := "insnSays", fn := fun _ => fun
  | [d1, d2] => { results := [.lit (.bool false)], args := [d1, d2] }
  | _ => none }
def InsnSaysWrongFalsely : Prop := insnSaysRow.holds Try.pinned (OpenSpec.ofChange insnSaysWrong)

/-- 'provenancelaw4.SchedDepends': WHATEVER THE INPUT: true; the input reads as it did. -/
def schedDependsSpec : ChangeSpec := { name := "schedDepends", fn := fun _ => fun
  | [d1, d2] => { results := [.lit (.bool true)], args := [d1, d2] }
  | _ => none }
def schedDependsRow : OpenClaim := { program := "ytioaoncnandjpab", sum := "b1bb99bf32cbd13d883739c2939bbecd437c275856140b86d186e0727ead3cda", func := "provenance/provenancelaw4.SchedDepends", spec := "schedDepends", unfollowed := true, recurses := true, apart := false }
def SchedDependsSaid : Prop := schedDependsRow.holds Try.pinned (OpenSpec.ofChange schedDependsSpec)

/-- ITS FALSE NEIGHBOUR: 'it returns false'. Refute it at one input. -/
def schedDependsWrong : ChangeSpec := { name := "schedDepends", fn := fun _ => fun
  | [d1, d2] => { results := [.lit (.bool false)], args := [d1, d2] }
  | _ => none }
def SchedDependsWrongFalsely : Prop := schedDependsRow.holds Try.pinned (OpenSpec.ofChange schedDependsWrong)

/-- 'provenancelaw4.DebugSays': WHATEVER THE INPUT: true; the input reads as it did. -/
def debugSaysSpec : ChangeSpec := { name := "debugSays", fn := fun _ => fun
  | [d1, d2, d3] => { results := [.lit (.bool true)], args := [d1, d2, d3] }
  | _ => none }
def debugSaysRow : OpenClaim := { program := "ytioaoncnandjpab", sum := "b1bb99bf32cbd13d883739c2939bbecd437c275856140b86d186e0727ead3cda", func := "provenance/provenancelaw4.DebugSays", spec := "debugSays", apart := false }
def DebugSaysSaid : Prop := debugSaysRow.holds Try.pinned (OpenSpec.ofChange debugSaysSpec)

/-- ITS FALSE NEIGHBOUR: 'it returns false'. Refute it at one input. -/
def debugSaysWrong : ChangeSpec := { name := "debugSays", fn := fun _ => fun
  | [d1, d2, d3] => { results := [.lit (.bool false)], args := [d1, d2, d3] }
  | _ => none }
def DebugSaysWrongFalsely : Prop := debugSaysRow.holds Try.pinned (OpenSpec.ofChange debugSaysWrong)

/-- 'provenancelaw4.RelaxSays': WHATEVER THE INPUT: true; the input reads as it did. -/
def relaxSaysSpec : ChangeSpec := { name := "relaxSays", fn := fun _ => fun
  | [d1, d2] => { results := [.lit (.bool true)], args := [d1, d2] }
  | _ => none }
def relaxSaysRow : OpenClaim := { program := "ytioaoncnandjpab", sum := "b1bb99bf32cbd13d883739c2939bbecd437c275856140b86d186e0727ead3cda", func := "provenance/provenancelaw4.RelaxSays", spec := "relaxSays", unfollowed := true, recurses := true, apart := false }
def RelaxSaysSaid : Prop := relaxSaysRow.holds Try.pinned (OpenSpec.ofChange relaxSaysSpec)

/-- ITS FALSE NEIGHBOUR: 'it returns false'. Refute it at one input. -/
def relaxSaysWrong : ChangeSpec := { name := "relaxSays", fn := fun _ => fun
  | [d1, d2] => { results := [.lit (.bool false)], args := [d1, d2] }
  | _ => none }
def RelaxSaysWrongFalsely : Prop := relaxSaysRow.holds Try.pinned (OpenSpec.ofChange relaxSaysWrong)

/-- 'provenancelaw4.LinkMerges': WHATEVER THE INPUT: true; the input reads as it did. -/
def linkMergesSpec : ChangeSpec := { name := "linkMerges", fn := fun _ => fun
  | [d] => { results := [.lit (.bool true)], args := [d] }
  | _ => none }
def linkMergesRow : OpenClaim := { program := "ytioaoncnandjpab", sum := "b1bb99bf32cbd13d883739c2939bbecd437c275856140b86d186e0727ead3cda", func := "provenance/provenancelaw4.LinkMerges", spec := "linkMerges", unfollowed := true, recurses := true, apart := false }
def LinkMergesSaid : Prop := linkMergesRow.holds Try.pinned (OpenSpec.ofChange linkMergesSpec)

/-- ITS FALSE NEIGHBOUR: 'it returns false'. Refute it at one input. -/
def linkMergesWrong : ChangeSpec := { name := "linkMerges", fn := fun _ => fun
  | [d] => { results := [.lit (.bool false)], args := [d] }
  | _ => none }
def LinkMergesWrongFalsely : Prop := linkMergesRow.holds Try.pinned (OpenSpec.ofChange linkMergesWrong)

/-- 'provenancelaw4.CachePlays': WHATEVER THE INPUT: true; the input reads as it did. -/
def cachePlaysSpec : ChangeSpec := { name := "cachePlays", fn := fun _ => fun
  | [d1, d2, d3, d4, d5] => { results := [.lit (.bool true)], args := [d1, d2, d3, d4, d5] }
  | _ => none }
def cachePlaysRow : OpenClaim := { program := "ytioaoncnandjpab", sum := "b1bb99bf32cbd13d883739c2939bbecd437c275856140b86d186e0727ead3cda", func := "provenance/provenancelaw4.CachePlays", spec := "cachePlays", inPlace := ["slices.overlaps[provenance/api.CacheLine]"], unfollowed := true, recurses := true, apart := false }
def CachePlaysSaid : Prop := cachePlaysRow.holds Try.pinned (OpenSpec.ofChange cachePlaysSpec)

/-- ITS FALSE NEIGHBOUR: 'it returns false'. Refute it at one input. -/
def cachePlaysWrong : ChangeSpec := { name := "cachePlays", fn := fun _ => fun
  | [d1, d2, d3, d4, d5] => { results := [.lit (.bool false)], args := [d1, d2, d3, d4, d5] }
  | _ => none }
def CachePlaysWrongFalsely : Prop := cachePlaysRow.holds Try.pinned (OpenSpec.ofChange cachePlaysWrong)

/-- 'provenancelaw4.HeapPlays': WHATEVER THE INPUT: true; the input reads as it did. -/
def heapPlaysSpec : ChangeSpec := { name := "heapPlays", fn := fun _ => fun
  | [d1, d2, d3, d4, d5] => { results := [.lit (.bool true)], args := [d1, d2, d3, d4, d5] }
  | _ => none }
def heapPlaysRow : OpenClaim := { program := "ytioaoncnandjpab", sum := "b1bb99bf32cbd13d883739c2939bbecd437c275856140b86d186e0727ead3cda", func := "provenance/provenancelaw4.HeapPlays", spec := "heapPlays", unfollowed := true, recurses := true, apart := false }
def HeapPlaysSaid : Prop := heapPlaysRow.holds Try.pinned (OpenSpec.ofChange heapPlaysSpec)

/-- ITS FALSE NEIGHBOUR: 'it returns false'. Refute it at one input. -/
def heapPlaysWrong : ChangeSpec := { name := "heapPlays", fn := fun _ => fun
  | [d1, d2, d3, d4, d5] => { results := [.lit (.bool false)], args := [d1, d2, d3, d4, d5] }
  | _ => none }
def HeapPlaysWrongFalsely : Prop := heapPlaysRow.holds Try.pinned (OpenSpec.ofChange heapPlaysWrong)

/-- 'provenancelaw4.TimingSays': WHATEVER THE INPUT: true; the input reads as it did. -/
def timingSaysSpec : ChangeSpec := { name := "timingSays", fn := fun _ => fun
  | [d1, d2, d3] => { results := [.lit (.bool true)], args := [d1, d2, d3] }
  | _ => none }
def timingSaysRow : OpenClaim := { program := "ytioaoncnandjpab", sum := "b1bb99bf32cbd13d883739c2939bbecd437c275856140b86d186e0727ead3cda", func := "provenance/provenancelaw4.TimingSays", spec := "timingSays", inPlace := ["slices.overlaps[int]"], unfollowed := true, recurses := true, apart := false }
def TimingSaysSaid : Prop := timingSaysRow.holds Try.pinned (OpenSpec.ofChange timingSaysSpec)

/-- ITS FALSE NEIGHBOUR: 'it returns false'. Refute it at one input. -/
def timingSaysWrong : ChangeSpec := { name := "timingSays", fn := fun _ => fun
  | [d1, d2, d3] => { results := [.lit (.bool false)], args := [d1, d2, d3] }
  | _ => none }
def TimingSaysWrongFalsely : Prop := timingSaysRow.holds Try.pinned (OpenSpec.ofChange timingSaysWrong)

/-- 'provenancelaw4.TileChecks': WHATEVER THE INPUT: true; the input reads as it did. -/
def tileChecksSpec : ChangeSpec := { name := "tileChecks", fn := fun _ => fun
  | [d] => { results := [.lit (.bool true)], args := [d] }
  | _ => none }
def tileChecksRow : OpenClaim := { program := "ytioaoncnandjpab", sum := "b1bb99bf32cbd13d883739c2939bbecd437c275856140b86d186e0727ead3cda", func := "provenance/provenancelaw4.TileChecks", spec := "tileChecks", unfollowed := true, recurses := true, apart := false }
def TileChecksSaid : Prop := tileChecksRow.holds Try.pinned (OpenSpec.ofChange tileChecksSpec)

/-- ITS FALSE NEIGHBOUR: 'it returns false'. Refute it at one input. -/
def tileChecksWrong : ChangeSpec := { name := "tileChecks", fn := fun _ => fun
  | [d] => { results := [.lit (.bool false)], args := [d] }
  | _ => none }
def TileChecksWrongFalsely : Prop := tileChecksRow.holds Try.pinned (OpenSpec.ofChange tileChecksWrong)

/-- 'provenancelaw4.TileLives': WHATEVER THE INPUT: true; the input reads as it did. -/
def tileLivesSpec : ChangeSpec := { name := "tileLives", fn := fun _ => fun
  | [d] => { results := [.lit (.bool true)], args := [d] }
  | _ => none }
def tileLivesRow : OpenClaim := { program := "ytioaoncnandjpab", sum := "b1bb99bf32cbd13d883739c2939bbecd437c275856140b86d186e0727ead3cda", func := "provenance/provenancelaw4.TileLives", spec := "tileLives", unfollowed := true, recurses := true, apart := false }
def TileLivesSaid : Prop := tileLivesRow.holds Try.pinned (OpenSpec.ofChange tileLivesSpec)

/-- ITS FALSE NEIGHBOUR: 'it returns false'. Refute it at one input. -/
def tileLivesWrong : ChangeSpec := { name := "tileLives", fn := fun _ => fun
  | [d] => { results := [.lit (.bool false)], args := [d] }
  | _ => none }
def TileLivesWrongFalsely : Prop := tileLivesRow.holds Try.pinned (OpenSpec.ofChange tileLivesWrong)

/-- 'provenancelaw4.AlloccheckSays': WHATEVER THE INPUT: true; the input reads as it did. -/
def alloccheckSaysSpec : ChangeSpec := { name := "alloccheckSays", fn := fun _ => fun
  | [d1, d2] => { results := [.lit (.bool true)], args := [d1, d2] }
  | _ => none }
def alloccheckSaysRow : OpenClaim := { program := "ytioaoncnandjpab", sum := "b1bb99bf32cbd13d883739c2939bbecd437c275856140b86d186e0727ead3cda", func := "provenance/provenancelaw4.AlloccheckSays", spec := "alloccheckSays", unfollowed := true, recurses := true, apart := false }
def AlloccheckSaysSaid : Prop := alloccheckSaysRow.holds Try.pinned (OpenSpec.ofChange alloccheckSaysSpec)

/-- ITS FALSE NEIGHBOUR: 'it returns false'. Refute it at one input. -/
def alloccheckSaysWrong : ChangeSpec := { name := "alloccheckSays", fn := fun _ => fun
  | [d1, d2] => { results := [.lit (.bool false)], args := [d1, d2] }
  | _ => none }
def AlloccheckSaysWrongFalsely : Prop := alloccheckSaysRow.holds Try.pinned (OpenSpec.ofChange alloccheckSaysWrong)

/- THE SECOND FORM. 'bulk': how many values and letters a reading holds, each counted each time it is reached (what is shared counts as often as it is met; a slice's spare places count too). A statement '..UptoSaid' is the law's where the arguments, and the package variables that the reading takes, are together of bulk at most 1048576: NARROWER than '..Said'. Prove '..Said' where nothing that the law and all that it calls make is longer than what came in: it says more and counts as full. Else prove '..UptoSaid'. A law counts once. -/
mutual
def uptoBulk {H : Type} : DataW H → Nat
  | .lit (.string bytes) => bytes.length + 1
  | .lit _ => 1
  | .nil => 1
  | .ptr d => uptoBulk d + 1
  | .slice elems spare => uptoBulkAll elems + uptoBulkAll spare + 1
  | .agg parts => uptoBulkAll parts + 1
  | .iface _ d => uptoBulk d + 1
  | .map entries => uptoBulkEntries entries + 1
  | .held _ => 1
def uptoBulkAll {H : Type} : List (DataW H) → Nat
  | [] => 0
  | d :: r => uptoBulk d + uptoBulkAll r
def uptoBulkEntries {H : Type} : List (Lit × DataW H) → Nat
  | [] => 0
  | x :: r => uptoBulkEntry x + uptoBulkEntries r
def uptoBulkEntry {H : Type} : Lit × DataW H → Nat
  | (.string bytes, d) => bytes.length + uptoBulk d + 1
  | (_, d) => uptoBulk d + 1
 end
def uptoSmall : (H : Type) → List (DataW H) → Bool := fun _ ds => decide (uptoBulkAll ds ≤ 1048576)
def OpenSpec.upto (s : _root_.Go.ChangeSpec) : _root_.Go.OpenSpec := { _root_.Go.OpenSpec.ofChange s with cond := some uptoSmall }

/-- 'provenancelaw4.PredictPlays', WHERE WHAT IT READS IS OF BULK AT MOST 1048576: true; the input reads as it did. -/
def predictPlaysUptoRow : OpenClaim := { program := "ytioaoncnandjpab", sum := "b1bb99bf32cbd13d883739c2939bbecd437c275856140b86d186e0727ead3cda", func := "provenance/provenancelaw4.PredictPlays", spec := "predictPlays", apart := false, narrowed := true }
def PredictPlaysUptoSaid : Prop := predictPlaysUptoRow.holds Try.pinned (OpenSpec.upto predictPlaysSpec)

/-- 'provenancelaw4.InsnSays', WHERE WHAT IT READS IS OF BULK AT MOST 1048576: true; the input reads as it did. -/
def insnSaysUptoRow : OpenClaim := { program := "ytioaoncnandjpab", sum := "b1bb99bf32cbd13d883739c2939bbecd437c275856140b86d186e0727ead3cda", func := "provenance/provenancelaw4.InsnSays", spec := "insnSays", apart := false, narrowed := true }
def InsnSaysUptoSaid : Prop := insnSaysUptoRow.holds Try.pinned (OpenSpec.upto insnSaysSpec)

/-- 'provenancelaw4.SchedDepends', WHERE WHAT IT READS IS OF BULK AT MOST 1048576: true; the input reads as it did. -/
def schedDependsUptoRow : OpenClaim := { program := "ytioaoncnandjpab", sum := "b1bb99bf32cbd13d883739c2939bbecd437c275856140b86d186e0727ead3cda", func := "provenance/provenancelaw4.SchedDepends", spec := "schedDepends", unfollowed := true, recurses := true, apart := false, narrowed := true }
def SchedDependsUptoSaid : Prop := schedDependsUptoRow.holds Try.pinned (OpenSpec.upto schedDependsSpec)

/-- 'provenancelaw4.DebugSays', WHERE WHAT IT READS IS OF BULK AT MOST 1048576: true; the input reads as it did. -/
def debugSaysUptoRow : OpenClaim := { program := "ytioaoncnandjpab", sum := "b1bb99bf32cbd13d883739c2939bbecd437c275856140b86d186e0727ead3cda", func := "provenance/provenancelaw4.DebugSays", spec := "debugSays", apart := false, narrowed := true }
def DebugSaysUptoSaid : Prop := debugSaysUptoRow.holds Try.pinned (OpenSpec.upto debugSaysSpec)

/-- 'provenancelaw4.RelaxSays', WHERE WHAT IT READS IS OF BULK AT MOST 1048576: true; the input reads as it did. -/
def relaxSaysUptoRow : OpenClaim := { program := "ytioaoncnandjpab", sum := "b1bb99bf32cbd13d883739c2939bbecd437c275856140b86d186e0727ead3cda", func := "provenance/provenancelaw4.RelaxSays", spec := "relaxSays", unfollowed := true, recurses := true, apart := false, narrowed := true }
def RelaxSaysUptoSaid : Prop := relaxSaysUptoRow.holds Try.pinned (OpenSpec.upto relaxSaysSpec)

/-- 'provenancelaw4.LinkMerges', WHERE WHAT IT READS IS OF BULK AT MOST 1048576: true; the input reads as it did. -/
def linkMergesUptoRow : OpenClaim := { program := "ytioaoncnandjpab", sum := "b1bb99bf32cbd13d883739c2939bbecd437c275856140b86d186e0727ead3cda", func := "provenance/provenancelaw4.LinkMerges", spec := "linkMerges", unfollowed := true, recurses := true, apart := false, narrowed := true }
def LinkMergesUptoSaid : Prop := linkMergesUptoRow.holds Try.pinned (OpenSpec.upto linkMergesSpec)

/-- 'provenancelaw4.CachePlays', WHERE WHAT IT READS IS OF BULK AT MOST 1048576: true; the input reads as it did. -/
def cachePlaysUptoRow : OpenClaim := { program := "ytioaoncnandjpab", sum := "b1bb99bf32cbd13d883739c2939bbecd437c275856140b86d186e0727ead3cda", func := "provenance/provenancelaw4.CachePlays", spec := "cachePlays", inPlace := ["slices.overlaps[provenance/api.CacheLine]"], unfollowed := true, recurses := true, apart := false, narrowed := true }
def CachePlaysUptoSaid : Prop := cachePlaysUptoRow.holds Try.pinned (OpenSpec.upto cachePlaysSpec)

/-- 'provenancelaw4.HeapPlays', WHERE WHAT IT READS IS OF BULK AT MOST 1048576: true; the input reads as it did. -/
def heapPlaysUptoRow : OpenClaim := { program := "ytioaoncnandjpab", sum := "b1bb99bf32cbd13d883739c2939bbecd437c275856140b86d186e0727ead3cda", func := "provenance/provenancelaw4.HeapPlays", spec := "heapPlays", unfollowed := true, recurses := true, apart := false, narrowed := true }
def HeapPlaysUptoSaid : Prop := heapPlaysUptoRow.holds Try.pinned (OpenSpec.upto heapPlaysSpec)

/-- 'provenancelaw4.TimingSays', WHERE WHAT IT READS IS OF BULK AT MOST 1048576: true; the input reads as it did. -/
def timingSaysUptoRow : OpenClaim := { program := "ytioaoncnandjpab", sum := "b1bb99bf32cbd13d883739c2939bbecd437c275856140b86d186e0727ead3cda", func := "provenance/provenancelaw4.TimingSays", spec := "timingSays", inPlace := ["slices.overlaps[int]"], unfollowed := true, recurses := true, apart := false, narrowed := true }
def TimingSaysUptoSaid : Prop := timingSaysUptoRow.holds Try.pinned (OpenSpec.upto timingSaysSpec)

/-- 'provenancelaw4.TileChecks', WHERE WHAT IT READS IS OF BULK AT MOST 1048576: true; the input reads as it did. -/
def tileChecksUptoRow : OpenClaim := { program := "ytioaoncnandjpab", sum := "b1bb99bf32cbd13d883739c2939bbecd437c275856140b86d186e0727ead3cda", func := "provenance/provenancelaw4.TileChecks", spec := "tileChecks", unfollowed := true, recurses := true, apart := false, narrowed := true }
def TileChecksUptoSaid : Prop := tileChecksUptoRow.holds Try.pinned (OpenSpec.upto tileChecksSpec)

/-- 'provenancelaw4.TileLives', WHERE WHAT IT READS IS OF BULK AT MOST 1048576: true; the input reads as it did. -/
def tileLivesUptoRow : OpenClaim := { program := "ytioaoncnandjpab", sum := "b1bb99bf32cbd13d883739c2939bbecd437c275856140b86d186e0727ead3cda", func := "provenance/provenancelaw4.TileLives", spec := "tileLives", unfollowed := true, recurses := true, apart := false, narrowed := true }
def TileLivesUptoSaid : Prop := tileLivesUptoRow.holds Try.pinned (OpenSpec.upto tileLivesSpec)

/-- 'provenancelaw4.AlloccheckSays', WHERE WHAT IT READS IS OF BULK AT MOST 1048576: true; the input reads as it did. -/
def alloccheckSaysUptoRow : OpenClaim := { program := "ytioaoncnandjpab", sum := "b1bb99bf32cbd13d883739c2939bbecd437c275856140b86d186e0727ead3cda", func := "provenance/provenancelaw4.AlloccheckSays", spec := "alloccheckSays", unfollowed := true, recurses := true, apart := false, narrowed := true }
def AlloccheckSaysUptoSaid : Prop := alloccheckSaysUptoRow.holds Try.pinned (OpenSpec.upto alloccheckSaysSpec)

end Rows
end Go.Proofs.Ytioaoncnandjpab
