/-
  No cell of these rows narrows 'for every input' (looked for: loops, veiled, ifaces, maps, wideKeys, modest, calm, conditions, laid).
  DERIVED. THE GIVEN ROWS OF THIS SEAT. 12 by the template 'for every input the law returns true; each argument reads behind the call as it read before'; 0 by the template 'total and deterministic' (their statements: YtioaoncnandjpaaTotals.lean).
  GIVEN WITH THE SEED: the statements are not yours to turn. If you find one false, say at which input.
  Laid BY PROGRAM, IN A SANDBOX (cutbox-rows.mjs): the forced cells as the released guide's own fill.sh prints them over the translation 4b14aa17dca888fc… (all of the seat's roots in one cut). By AI agents, Wed Nov 11 2026. No macro, syntax, notation, axiom, sorry.
-/
import Derived.Test.YtioaoncnandjpaaChecked
import GoSem.Claim
import GoSem.ClaimJoined
import GoSem.ClaimMapViews
import Derived.JoinedTies
import Derived.KernelRfl
namespace Go.Proofs.Ytioaoncnandjpaa
/- THE CELL 'sum', in the pinned program and in every row, IS THE sha256 OF THE DUMP (.gsa) THAT YtioaoncnandjpaaProg.lean LOADS. Nothing in Lean hashes anything: it is a label: what it is worth is what the hold of that sum in a sandbox is worth. -/
noncomputable def Try.pinned : Pinned := { name := "ytioaoncnandjpaa", sum := "4b14aa17dca888fc1e938a8812811ac39f812c736ffbc79a81c5f46ed233b7f6", checked := Try.checked }
namespace Rows
def none {H : Type} : Left H := { results := [], args := [] }

/-- 'provenancekeep4.HeapHeaders': WHATEVER THE INPUT: true; the input reads as it did. -/
def heapHeadersSpec : ChangeSpec := { name := "heapHeaders", fn := fun _ => fun
  | [d1, d2, d3] => { results := [.lit (.bool true)], args := [d1, d2, d3] }
  | _ => none }
def heapHeadersRow : OpenClaim := { program := "ytioaoncnandjpaa", sum := "4b14aa17dca888fc1e938a8812811ac39f812c736ffbc79a81c5f46ed233b7f6", func := "provenance/provenancekeep4.HeapHeaders", spec := "heapHeaders", apart := false }
def HeapHeadersSaid : Prop := heapHeadersRow.holds Try.pinned (OpenSpec.ofChange heapHeadersSpec)

/-- ITS FALSE NEIGHBOUR: 'it returns false'. Refute it at one input. -/
def heapHeadersWrong : ChangeSpec := { name := "heapHeaders", fn := fun _ => fun
  | [d1, d2, d3] => { results := [.lit (.bool false)], args := [d1, d2, d3] }
  | _ => none }
def HeapHeadersWrongFalsely : Prop := heapHeadersRow.holds Try.pinned (OpenSpec.ofChange heapHeadersWrong)

/-- 'provenancekeep4.PredictSteady': WHATEVER THE INPUT: true; the input reads as it did. -/
def predictSteadySpec : ChangeSpec := { name := "predictSteady", fn := fun _ => fun
  | [d1, d2, d3, d4] => { results := [.lit (.bool true)], args := [d1, d2, d3, d4] }
  | _ => none }
def predictSteadyRow : OpenClaim := { program := "ytioaoncnandjpaa", sum := "4b14aa17dca888fc1e938a8812811ac39f812c736ffbc79a81c5f46ed233b7f6", func := "provenance/provenancekeep4.PredictSteady", spec := "predictSteady", apart := false }
def PredictSteadySaid : Prop := predictSteadyRow.holds Try.pinned (OpenSpec.ofChange predictSteadySpec)

/-- ITS FALSE NEIGHBOUR: 'it returns false'. Refute it at one input. -/
def predictSteadyWrong : ChangeSpec := { name := "predictSteady", fn := fun _ => fun
  | [d1, d2, d3, d4] => { results := [.lit (.bool false)], args := [d1, d2, d3, d4] }
  | _ => none }
def PredictSteadyWrongFalsely : Prop := predictSteadyRow.holds Try.pinned (OpenSpec.ofChange predictSteadyWrong)

/-- 'provenancekeep4.PredictLoops': WHATEVER THE INPUT: true; the input reads as it did. -/
def predictLoopsSpec : ChangeSpec := { name := "predictLoops", fn := fun _ => fun
  | [d1, d2, d3] => { results := [.lit (.bool true)], args := [d1, d2, d3] }
  | _ => none }
def predictLoopsRow : OpenClaim := { program := "ytioaoncnandjpaa", sum := "4b14aa17dca888fc1e938a8812811ac39f812c736ffbc79a81c5f46ed233b7f6", func := "provenance/provenancekeep4.PredictLoops", spec := "predictLoops", apart := false }
def PredictLoopsSaid : Prop := predictLoopsRow.holds Try.pinned (OpenSpec.ofChange predictLoopsSpec)

/-- ITS FALSE NEIGHBOUR: 'it returns false'. Refute it at one input. -/
def predictLoopsWrong : ChangeSpec := { name := "predictLoops", fn := fun _ => fun
  | [d1, d2, d3] => { results := [.lit (.bool false)], args := [d1, d2, d3] }
  | _ => none }
def PredictLoopsWrongFalsely : Prop := predictLoopsRow.holds Try.pinned (OpenSpec.ofChange predictLoopsWrong)

/-- 'provenancekeep4.InsnSizes': WHATEVER THE INPUT: true; the input reads as it did. -/
def insnSizesSpec : ChangeSpec := { name := "insnSizes", fn := fun _ => fun
  | [d] => { results := [.lit (.bool true)], args := [d] }
  | _ => none }
def insnSizesRow : OpenClaim := { program := "ytioaoncnandjpaa", sum := "4b14aa17dca888fc1e938a8812811ac39f812c736ffbc79a81c5f46ed233b7f6", func := "provenance/provenancekeep4.InsnSizes", spec := "insnSizes", apart := false }
def InsnSizesSaid : Prop := insnSizesRow.holds Try.pinned (OpenSpec.ofChange insnSizesSpec)

/-- ITS FALSE NEIGHBOUR: 'it returns false'. Refute it at one input. -/
def insnSizesWrong : ChangeSpec := { name := "insnSizes", fn := fun _ => fun
  | [d] => { results := [.lit (.bool false)], args := [d] }
  | _ => none }
def InsnSizesWrongFalsely : Prop := insnSizesRow.holds Try.pinned (OpenSpec.ofChange insnSizesWrong)

/-- 'provenancekeep4.InsnUnique': WHATEVER THE INPUT: true; the input reads as it did. -/
def insnUniqueSpec : ChangeSpec := { name := "insnUnique", fn := fun _ => fun
  | [d1, d2] => { results := [.lit (.bool true)], args := [d1, d2] }
  | _ => none }
def insnUniqueRow : OpenClaim := { program := "ytioaoncnandjpaa", sum := "4b14aa17dca888fc1e938a8812811ac39f812c736ffbc79a81c5f46ed233b7f6", func := "provenance/provenancekeep4.InsnUnique", spec := "insnUnique", apart := false }
def InsnUniqueSaid : Prop := insnUniqueRow.holds Try.pinned (OpenSpec.ofChange insnUniqueSpec)

/-- ITS FALSE NEIGHBOUR: 'it returns false'. Refute it at one input. -/
def insnUniqueWrong : ChangeSpec := { name := "insnUnique", fn := fun _ => fun
  | [d1, d2] => { results := [.lit (.bool false)], args := [d1, d2] }
  | _ => none }
def InsnUniqueWrongFalsely : Prop := insnUniqueRow.holds Try.pinned (OpenSpec.ofChange insnUniqueWrong)

/-- 'provenancekeep4.InsnStream': WHATEVER THE INPUT: true; the input reads as it did. -/
def insnStreamSpec : ChangeSpec := { name := "insnStream", fn := fun _ => fun
  | [d1, d2] => { results := [.lit (.bool true)], args := [d1, d2] }
  | _ => none }
def insnStreamRow : OpenClaim := { program := "ytioaoncnandjpaa", sum := "4b14aa17dca888fc1e938a8812811ac39f812c736ffbc79a81c5f46ed233b7f6", func := "provenance/provenancekeep4.InsnStream", spec := "insnStream", unfollowed := true, recurses := true, apart := false }
def InsnStreamSaid : Prop := insnStreamRow.holds Try.pinned (OpenSpec.ofChange insnStreamSpec)

/-- ITS FALSE NEIGHBOUR: 'it returns false'. Refute it at one input. -/
def insnStreamWrong : ChangeSpec := { name := "insnStream", fn := fun _ => fun
  | [d1, d2] => { results := [.lit (.bool false)], args := [d1, d2] }
  | _ => none }
def InsnStreamWrongFalsely : Prop := insnStreamRow.holds Try.pinned (OpenSpec.ofChange insnStreamWrong)

/-- 'provenancekeep4.InsnBack': WHATEVER THE INPUT: true; the input reads as it did. -/
def insnBackSpec : ChangeSpec := { name := "insnBack", fn := fun _ => fun
  | [d] => { results := [.lit (.bool true)], args := [d] }
  | _ => none }
def insnBackRow : OpenClaim := { program := "ytioaoncnandjpaa", sum := "4b14aa17dca888fc1e938a8812811ac39f812c736ffbc79a81c5f46ed233b7f6", func := "provenance/provenancekeep4.InsnBack", spec := "insnBack", apart := false }
def InsnBackSaid : Prop := insnBackRow.holds Try.pinned (OpenSpec.ofChange insnBackSpec)

/-- ITS FALSE NEIGHBOUR: 'it returns false'. Refute it at one input. -/
def insnBackWrong : ChangeSpec := { name := "insnBack", fn := fun _ => fun
  | [d] => { results := [.lit (.bool false)], args := [d] }
  | _ => none }
def InsnBackWrongFalsely : Prop := insnBackRow.holds Try.pinned (OpenSpec.ofChange insnBackWrong)

/-- 'provenancekeep4.RelaxShorter': WHATEVER THE INPUT: true; the input reads as it did. -/
def relaxShorterSpec : ChangeSpec := { name := "relaxShorter", fn := fun _ => fun
  | [d] => { results := [.lit (.bool true)], args := [d] }
  | _ => none }
def relaxShorterRow : OpenClaim := { program := "ytioaoncnandjpaa", sum := "4b14aa17dca888fc1e938a8812811ac39f812c736ffbc79a81c5f46ed233b7f6", func := "provenance/provenancekeep4.RelaxShorter", spec := "relaxShorter", unfollowed := true, recurses := true, apart := false }
def RelaxShorterSaid : Prop := relaxShorterRow.holds Try.pinned (OpenSpec.ofChange relaxShorterSpec)

/-- ITS FALSE NEIGHBOUR: 'it returns false'. Refute it at one input. -/
def relaxShorterWrong : ChangeSpec := { name := "relaxShorter", fn := fun _ => fun
  | [d] => { results := [.lit (.bool false)], args := [d] }
  | _ => none }
def RelaxShorterWrongFalsely : Prop := relaxShorterRow.holds Try.pinned (OpenSpec.ofChange relaxShorterWrong)

/-- 'provenancekeep4.RelaxTargets': WHATEVER THE INPUT: true; the input reads as it did. -/
def relaxTargetsSpec : ChangeSpec := { name := "relaxTargets", fn := fun _ => fun
  | [d1, d2] => { results := [.lit (.bool true)], args := [d1, d2] }
  | _ => none }
def relaxTargetsRow : OpenClaim := { program := "ytioaoncnandjpaa", sum := "4b14aa17dca888fc1e938a8812811ac39f812c736ffbc79a81c5f46ed233b7f6", func := "provenance/provenancekeep4.RelaxTargets", spec := "relaxTargets", unfollowed := true, recurses := true, apart := false }
def RelaxTargetsSaid : Prop := relaxTargetsRow.holds Try.pinned (OpenSpec.ofChange relaxTargetsSpec)

/-- ITS FALSE NEIGHBOUR: 'it returns false'. Refute it at one input. -/
def relaxTargetsWrong : ChangeSpec := { name := "relaxTargets", fn := fun _ => fun
  | [d1, d2] => { results := [.lit (.bool false)], args := [d1, d2] }
  | _ => none }
def RelaxTargetsWrongFalsely : Prop := relaxTargetsRow.holds Try.pinned (OpenSpec.ofChange relaxTargetsWrong)

/-- 'provenancekeep4.CacheLevels': WHATEVER THE INPUT: true; the input reads as it did. -/
def cacheLevelsSpec : ChangeSpec := { name := "cacheLevels", fn := fun _ => fun
  | [d1, d2, d3, d4] => { results := [.lit (.bool true)], args := [d1, d2, d3, d4] }
  | _ => none }
def cacheLevelsRow : OpenClaim := { program := "ytioaoncnandjpaa", sum := "4b14aa17dca888fc1e938a8812811ac39f812c736ffbc79a81c5f46ed233b7f6", func := "provenance/provenancekeep4.CacheLevels", spec := "cacheLevels", inPlace := ["slices.overlaps[provenance/api.CacheLine]"], unfollowed := true, recurses := true, apart := false }
def CacheLevelsSaid : Prop := cacheLevelsRow.holds Try.pinned (OpenSpec.ofChange cacheLevelsSpec)

/-- ITS FALSE NEIGHBOUR: 'it returns false'. Refute it at one input. -/
def cacheLevelsWrong : ChangeSpec := { name := "cacheLevels", fn := fun _ => fun
  | [d1, d2, d3, d4] => { results := [.lit (.bool false)], args := [d1, d2, d3, d4] }
  | _ => none }
def CacheLevelsWrongFalsely : Prop := cacheLevelsRow.holds Try.pinned (OpenSpec.ofChange cacheLevelsWrong)

/-- 'provenancekeep4.CacheWays': WHATEVER THE INPUT: true; the input reads as it did. -/
def cacheWaysSpec : ChangeSpec := { name := "cacheWays", fn := fun _ => fun
  | [d1, d2, d3, d4] => { results := [.lit (.bool true)], args := [d1, d2, d3, d4] }
  | _ => none }
def cacheWaysRow : OpenClaim := { program := "ytioaoncnandjpaa", sum := "4b14aa17dca888fc1e938a8812811ac39f812c736ffbc79a81c5f46ed233b7f6", func := "provenance/provenancekeep4.CacheWays", spec := "cacheWays", inPlace := ["slices.overlaps[provenance/api.CacheLine]"], unfollowed := true, recurses := true, apart := false }
def CacheWaysSaid : Prop := cacheWaysRow.holds Try.pinned (OpenSpec.ofChange cacheWaysSpec)

/-- ITS FALSE NEIGHBOUR: 'it returns false'. Refute it at one input. -/
def cacheWaysWrong : ChangeSpec := { name := "cacheWays", fn := fun _ => fun
  | [d1, d2, d3, d4] => { results := [.lit (.bool false)], args := [d1, d2, d3, d4] }
  | _ => none }
def CacheWaysWrongFalsely : Prop := cacheWaysRow.holds Try.pinned (OpenSpec.ofChange cacheWaysWrong)

/-- 'provenancekeep4.CacheFits': WHATEVER THE INPUT: true; the input reads as it did. -/
def cacheFitsSpec : ChangeSpec := { name := "cacheFits", fn := fun _ => fun
  | [d1, d2] => { results := [.lit (.bool true)], args := [d1, d2] }
  | _ => none }
def cacheFitsRow : OpenClaim := { program := "ytioaoncnandjpaa", sum := "4b14aa17dca888fc1e938a8812811ac39f812c736ffbc79a81c5f46ed233b7f6", func := "provenance/provenancekeep4.CacheFits", spec := "cacheFits", inPlace := ["slices.overlaps[provenance/api.CacheLine]"], unfollowed := true, recurses := true, apart := false }
def CacheFitsSaid : Prop := cacheFitsRow.holds Try.pinned (OpenSpec.ofChange cacheFitsSpec)

/-- ITS FALSE NEIGHBOUR: 'it returns false'. Refute it at one input. -/
def cacheFitsWrong : ChangeSpec := { name := "cacheFits", fn := fun _ => fun
  | [d1, d2] => { results := [.lit (.bool false)], args := [d1, d2] }
  | _ => none }
def CacheFitsWrongFalsely : Prop := cacheFitsRow.holds Try.pinned (OpenSpec.ofChange cacheFitsWrong)

/- THE SECOND FORM. 'bulk': how many values and letters a reading holds, each counted each time it is reached (what is shared counts as often as it is met; a slice's spare places count too). A statement '..UptoSaid' is the law's where the arguments, and the package variables that the reading takes, are together of bulk at most 1048576: NARROWER than '..Said'. Prove '..Said' where nothing that the law and all that it calls make is longer than what came in: it says more and counts as full. Else prove '..UptoSaid'. A law counts once. -/
mutual
def uptoBulk {H : Type} : DataW H → Nat
  | .lit (.string bytes) => bytes.length + 1
  | .lit _ => 1
  | .nil => 1
  | .ptr d => uptoBulk d + 1
  | .slice elems spare => uptoBulkAll elems + uptoBulkAll spare + 1
  | .agg parts => uptoBulkAll parts + 1
  | .iface _ d => uptoBulk d + 1
  | .map entries => uptoBulkEntries entries + 1
  | .held _ => 1
def uptoBulkAll {H : Type} : List (DataW H) → Nat
  | [] => 0
  | d :: r => uptoBulk d + uptoBulkAll r
def uptoBulkEntries {H : Type} : List (Lit × DataW H) → Nat
  | [] => 0
  | x :: r => uptoBulkEntry x + uptoBulkEntries r
def uptoBulkEntry {H : Type} : Lit × DataW H → Nat
  | (.string bytes, d) => bytes.length + uptoBulk d + 1
  | (_, d) => uptoBulk d + 1
 end
def uptoSmall : (H : Type) → List (DataW H) → Bool := fun _ ds => decide (uptoBulkAll ds ≤ 1048576)
def OpenSpec.upto (s : _root_.Go.ChangeSpec) : _root_.Go.OpenSpec := { _root_.Go.OpenSpec.ofChange s with cond := some uptoSmall }

/-- 'provenancekeep4.HeapHeaders', WHERE WHAT IT READS IS OF BULK AT MOST 1048576: true; the input reads as it did. -/
def heapHeadersUptoRow : OpenClaim := { program := "ytioaoncnandjpaa", sum := "4b14aa17dca888fc1e938a8812811ac39f812c736ffbc79a81c5f46ed233b7f6", func := "provenance/provenancekeep4.HeapHeaders", spec := "heapHeaders", apart := false, narrowed := true }
def HeapHeadersUptoSaid : Prop := heapHeadersUptoRow.holds Try.pinned (OpenSpec.upto heapHeadersSpec)

/-- 'provenancekeep4.PredictSteady', WHERE WHAT IT READS IS OF BULK AT MOST 1048576: true; the input reads as it did. -/
def predictSteadyUptoRow : OpenClaim := { program := "ytioaoncnandjpaa", sum := "4b14aa17dca888fc1e938a8812811ac39f812c736ffbc79a81c5f46ed233b7f6", func := "provenance/provenancekeep4.PredictSteady", spec := "predictSteady", apart := false, narrowed := true }
def PredictSteadyUptoSaid : Prop := predictSteadyUptoRow.holds Try.pinned (OpenSpec.upto predictSteadySpec)

/-- 'provenancekeep4.PredictLoops', WHERE WHAT IT READS IS OF BULK AT MOST 1048576: true; the input reads as it did. -/
def predictLoopsUptoRow : OpenClaim := { program := "ytioaoncnandjpaa", sum := "4b14aa17dca888fc1e938a8812811ac39f812c736ffbc79a81c5f46ed233b7f6", func := "provenance/provenancekeep4.PredictLoops", spec := "predictLoops", apart := false, narrowed := true }
def PredictLoopsUptoSaid : Prop := predictLoopsUptoRow.holds Try.pinned (OpenSpec.upto predictLoopsSpec)

/-- 'provenancekeep4.InsnSizes', WHERE WHAT IT READS IS OF BULK AT MOST 1048576: true; the input reads as it did. -/
def insnSizesUptoRow : OpenClaim := { program := "ytioaoncnandjpaa", sum := "4b14aa17dca888fc1e938a8812811ac39f812c736ffbc79a81c5f46ed233b7f6", func := "provenance/provenancekeep4.InsnSizes", spec := "insnSizes", apart := false, narrowed := true }
def InsnSizesUptoSaid : Prop := insnSizesUptoRow.holds Try.pinned (OpenSpec.upto insnSizesSpec)

/-- 'provenancekeep4.InsnUnique', WHERE WHAT IT READS IS OF BULK AT MOST 1048576: true; the input reads as it did. -/
def insnUniqueUptoRow : OpenClaim := { program := "ytioaoncnandjpaa", sum := "4b14aa17dca888fc1e938a8812811ac39f812c736ffbc79a81c5f46ed233b7f6", func := "provenance/provenancekeep4.InsnUnique", spec := "insnUnique", apart := false, narrowed := true }
def InsnUniqueUptoSaid : Prop := insnUniqueUptoRow.holds Try.pinned (OpenSpec.upto insnUniqueSpec)

/-- 'provenancekeep4.InsnStream', WHERE WHAT IT READS IS OF BULK AT MOST 1048576: true; the input reads as it did. -/
def insnStreamUptoRow : OpenClaim := { program := "ytioaoncnandjpaa", sum := "4b14aa17dca888fc1e938a8812811ac39f812c736ffbc79a81c5f46ed233b7f6", func := "provenance/provenancekeep4.InsnStream", spec := "insnStream", unfollowed := true, recurses := true, apart := false, narrowed := true }
def InsnStreamUptoSaid : Prop := insnStreamUptoRow.holds Try.pinned (OpenSpec.upto insnStreamSpec)

/-- 'provenancekeep4.InsnBack', WHERE WHAT IT READS IS OF BULK AT MOST 1048576: true; the input reads as it did. -/
def insnBackUptoRow : OpenClaim := { program := "ytioaoncnandjpaa", sum := "4b14aa17dca888fc1e938a8812811ac39f812c736ffbc79a81c5f46ed233b7f6", func := "provenance/provenancekeep4.InsnBack", spec := "insnBack", apart := false, narrowed := true }
def InsnBackUptoSaid : Prop := insnBackUptoRow.holds Try.pinned (OpenSpec.upto insnBackSpec)

/-- 'provenancekeep4.RelaxShorter', WHERE WHAT IT READS IS OF BULK AT MOST 1048576: true; the input reads as it did. -/
def relaxShorterUptoRow : OpenClaim := { program := "ytioaoncnandjpaa", sum := "4b14aa17dca888fc1e938a8812811ac39f812c736ffbc79a81c5f46ed233b7f6", func := "provenance/provenancekeep4.RelaxShorter", spec := "relaxShorter", unfollowed := true, recurses := true, apart := false, narrowed := true }
def RelaxShorterUptoSaid : Prop := relaxShorterUptoRow.holds Try.pinned (OpenSpec.upto relaxShorterSpec)

/-- 'provenancekeep4.RelaxTargets', WHERE WHAT IT READS IS OF BULK AT MOST 1048576: true; the input reads as it did. -/
def relaxTargetsUptoRow : OpenClaim := { program := "ytioaoncnandjpaa", sum := "4b14aa17dca888fc1e938a8812811ac39f812c736ffbc79a81c5f46ed233b7f6", func := "provenance/provenancekeep4.RelaxTargets", spec := "relaxTargets", unfollowed := true, recurses := true, apart := false, narrowed := true }
def RelaxTargetsUptoSaid : Prop := relaxTargetsUptoRow.holds Try.pinned (OpenSpec.upto relaxTargetsSpec)

/-- 'provenancekeep4.CacheLevels', WHERE WHAT IT READS IS OF BULK AT MOST 1048576: true; the input reads as it did. -/
def cacheLevelsUptoRow : OpenClaim := { program := "ytioaoncnandjpaa", sum := "4b14aa17dca888fc1e938a8812811ac39f812c736ffbc79a81c5f46ed233b7f6", func := "provenance/provenancekeep4.CacheLevels", spec := "cacheLevels", inPlace := ["slices.overlaps[provenance/api.CacheLine]"], unfollowed := true, recurses := true, apart := false, narrowed := true }
def CacheLevelsUptoSaid : Prop := cacheLevelsUptoRow.holds Try.pinned (OpenSpec.upto cacheLevelsSpec)

/-- 'provenancekeep4.CacheWays', WHERE WHAT IT READS IS OF BULK AT MOST 1048576: true; the input reads as it did. -/
def cacheWaysUptoRow : OpenClaim := { program := "ytioaoncnandjpaa", sum := "4b14aa17dca888fc1e938a8812811ac39f812c736ffbc79a81c5f46ed233b7f6", func := "provenance/provenancekeep4.CacheWays", spec := "cacheWays", inPlace := ["slices.overlaps[provenance/api.CacheLine]"], unfollowed := true, recurses := true, apart := false, narrowed := true }
def CacheWaysUptoSaid : Prop := cacheWaysUptoRow.holds Try.pinned (OpenSpec.upto cacheWaysSpec)

/-- 'provenancekeep4.CacheFits', WHERE WHAT IT READS IS OF BULK AT MOST 1048576: true; the input reads as it did. -/
def cacheFitsUptoRow : OpenClaim := { program := "ytioaoncnandjpaa", sum := "4b14aa17dca888fc1e938a8812811ac39f812c736ffbc79a81c5f46ed233b7f6", func := "provenance/provenancekeep4.CacheFits", spec := "cacheFits", inPlace := ["slices.overlaps[provenance/api.CacheLine]"], unfollowed := true, recurses := true, apart := false, narrowed := true }
def CacheFitsUptoSaid : Prop := cacheFitsUptoRow.holds Try.pinned (OpenSpec.upto cacheFitsSpec)

end Rows
end Go.Proofs.Ytioaoncnandjpaa
