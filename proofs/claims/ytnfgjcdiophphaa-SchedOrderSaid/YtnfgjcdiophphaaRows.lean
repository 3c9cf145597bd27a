/-
  No cell of these rows narrows 'for every input' (looked for: loops, veiled, ifaces, maps, wideKeys, modest, calm, conditions, laid).
  DERIVED. THE GIVEN ROWS OF THIS SEAT. 6 by the template 'for every input the law returns true; each argument reads behind the call as it read before'; 0 by the template 'total and deterministic' (their statements: YtnfgjcdiophphaaTotals.lean).
  GIVEN WITH THE SEED: the statements are not yours to turn. If you find one false, say at which input.
  Laid BY PROGRAM, IN A SANDBOX (cutbox-rows.mjs): the forced cells as the released guide's own fill.sh prints them over the translation 3704dae29541a29f… (all of the seat's roots in one cut). By AI agents, Wed Nov 11 2026. No macro, syntax, notation, axiom, sorry.
-/
import Derived.Test.YtnfgjcdiophphaaChecked
import GoSem.Claim
import GoSem.ClaimJoined
import GoSem.ClaimMapViews
import Derived.JoinedTies
import Derived.KernelRfl
namespace Go.Proofs.Ytnfgjcdiophphaa
/- THE CELL 'sum', in the pinned program and in every row, IS THE sha256 OF THE DUMP (.gsa) THAT YtnfgjcdiophphaaProg.lean LOADS. Nothing in Lean hashes anything: it is a label: what it is worth is what the hold of that sum in a sandbox is worth. -/
noncomputable def Try.pinned : Pinned := { name := "ytnfgjcdiophphaa", sum := "3704dae29541a29f8f8d08116c73fe29559b493bff9313fba54bb6aa53283591", checked := Try.checked }
namespace Rows
def none {H : Type} : Left H := { results := [], args := [] }

/-- 'provenancelaw4.TimingSays': WHATEVER THE INPUT: true; the input reads as it did. -/
def timingSaysSpec : ChangeSpec := { name := "timingSays", fn := fun _ => fun
  | [d1, d2, d3] => { results := [.lit (.bool true)], args := [d1, d2, d3] }
  | _ => none }
def timingSaysRow : OpenClaim := { program := "ytnfgjcdiophphaa", sum := "3704dae29541a29f8f8d08116c73fe29559b493bff9313fba54bb6aa53283591", func := "provenance/provenancelaw4.TimingSays", spec := "timingSays", inPlace := ["slices.overlaps[int]"], unfollowed := true, recurses := true, apart := false }
def TimingSaysSaid : Prop := timingSaysRow.holds Try.pinned (OpenSpec.ofChange timingSaysSpec)

/-- ITS FALSE NEIGHBOUR: 'it returns false'. Refute it at one input. -/
def timingSaysWrong : ChangeSpec := { name := "timingSays", fn := fun _ => fun
  | [d1, d2, d3] => { results := [.lit (.bool false)], args := [d1, d2, d3] }
  | _ => none }
def TimingSaysWrongFalsely : Prop := timingSaysRow.holds Try.pinned (OpenSpec.ofChange timingSaysWrong)

/-- 'provenancekeep4.PipeCycles': WHATEVER THE INPUT: true; the input reads as it did. -/
def pipeCyclesSpec : ChangeSpec := { name := "pipeCycles", fn := fun _ => fun
  | [d] => { results := [.lit (.bool true)], args := [d] }
  | _ => none }
def pipeCyclesRow : OpenClaim := { program := "ytnfgjcdiophphaa", sum := "3704dae29541a29f8f8d08116c73fe29559b493bff9313fba54bb6aa53283591", func := "provenance/provenancekeep4.PipeCycles", spec := "pipeCycles", inPlace := ["slices.overlaps[int]"], unfollowed := true, recurses := true, apart := false }
def PipeCyclesSaid : Prop := pipeCyclesRow.holds Try.pinned (OpenSpec.ofChange pipeCyclesSpec)

/-- ITS FALSE NEIGHBOUR: 'it returns false'. Refute it at one input. -/
def pipeCyclesWrong : ChangeSpec := { name := "pipeCycles", fn := fun _ => fun
  | [d] => { results := [.lit (.bool false)], args := [d] }
  | _ => none }
def PipeCyclesWrongFalsely : Prop := pipeCyclesRow.holds Try.pinned (OpenSpec.ofChange pipeCyclesWrong)

/-- 'provenancekeep4.PipeRests': WHATEVER THE INPUT: true; the input reads as it did. -/
def pipeRestsSpec : ChangeSpec := { name := "pipeRests", fn := fun _ => fun
  | [d1, d2] => { results := [.lit (.bool true)], args := [d1, d2] }
  | _ => none }
def pipeRestsRow : OpenClaim := { program := "ytnfgjcdiophphaa", sum := "3704dae29541a29f8f8d08116c73fe29559b493bff9313fba54bb6aa53283591", func := "provenance/provenancekeep4.PipeRests", spec := "pipeRests", inPlace := ["slices.overlaps[int]"], unfollowed := true, recurses := true, apart := false }
def PipeRestsSaid : Prop := pipeRestsRow.holds Try.pinned (OpenSpec.ofChange pipeRestsSpec)

/-- ITS FALSE NEIGHBOUR: 'it returns false'. Refute it at one input. -/
def pipeRestsWrong : ChangeSpec := { name := "pipeRests", fn := fun _ => fun
  | [d1, d2] => { results := [.lit (.bool false)], args := [d1, d2] }
  | _ => none }
def PipeRestsWrongFalsely : Prop := pipeRestsRow.holds Try.pinned (OpenSpec.ofChange pipeRestsWrong)

/-- 'provenancekeep4.PipeDelays': WHATEVER THE INPUT: true; the input reads as it did. -/
def pipeDelaysSpec : ChangeSpec := { name := "pipeDelays", fn := fun _ => fun
  | [d1, d2, d3] => { results := [.lit (.bool true)], args := [d1, d2, d3] }
  | _ => none }
def pipeDelaysRow : OpenClaim := { program := "ytnfgjcdiophphaa", sum := "3704dae29541a29f8f8d08116c73fe29559b493bff9313fba54bb6aa53283591", func := "provenance/provenancekeep4.PipeDelays", spec := "pipeDelays", inPlace := ["slices.overlaps[int]"], unfollowed := true, recurses := true, apart := false }
def PipeDelaysSaid : Prop := pipeDelaysRow.holds Try.pinned (OpenSpec.ofChange pipeDelaysSpec)

/-- ITS FALSE NEIGHBOUR: 'it returns false'. Refute it at one input. -/
def pipeDelaysWrong : ChangeSpec := { name := "pipeDelays", fn := fun _ => fun
  | [d1, d2, d3] => { results := [.lit (.bool false)], args := [d1, d2, d3] }
  | _ => none }
def PipeDelaysWrongFalsely : Prop := pipeDelaysRow.holds Try.pinned (OpenSpec.ofChange pipeDelaysWrong)

/-- 'provenancekeep4.SchedOrder': WHATEVER THE INPUT: true; the input reads as it did. -/
def schedOrderSpec : ChangeSpec := { name := "schedOrder", fn := fun _ => fun
  | [d] => { results := [.lit (.bool true)], args := [d] }
  | _ => none }
def schedOrderRow : OpenClaim := { program := "ytnfgjcdiophphaa", sum := "3704dae29541a29f8f8d08116c73fe29559b493bff9313fba54bb6aa53283591", func := "provenance/provenancekeep4.SchedOrder", spec := "schedOrder", inPlace := ["slices.overlaps[int]"], unfollowed := true, recurses := true, apart := false }
def SchedOrderSaid : Prop := schedOrderRow.holds Try.pinned (OpenSpec.ofChange schedOrderSpec)

/-- ITS FALSE NEIGHBOUR: 'it returns false'. Refute it at one input. -/
def schedOrderWrong : ChangeSpec := { name := "schedOrder", fn := fun _ => fun
  | [d] => { results := [.lit (.bool false)], args := [d] }
  | _ => none }
def SchedOrderWrongFalsely : Prop := schedOrderRow.holds Try.pinned (OpenSpec.ofChange schedOrderWrong)

/-- 'provenancekeep4.SchedFaster': WHATEVER THE INPUT: true; the input reads as it did. -/
def schedFasterSpec : ChangeSpec := { name := "schedFaster", fn := fun _ => fun
  | [d] => { results := [.lit (.bool true)], args := [d] }
  | _ => none }
def schedFasterRow : OpenClaim := { program := "ytnfgjcdiophphaa", sum := "3704dae29541a29f8f8d08116c73fe29559b493bff9313fba54bb6aa53283591", func := "provenance/provenancekeep4.SchedFaster", spec := "schedFaster", inPlace := ["slices.overlaps[int]"], unfollowed := true, recurses := true, apart := false }
def SchedFasterSaid : Prop := schedFasterRow.holds Try.pinned (OpenSpec.ofChange schedFasterSpec)

/-- ITS FALSE NEIGHBOUR: 'it returns false'. Refute it at one input. -/
def schedFasterWrong : ChangeSpec := { name := "schedFaster", fn := fun _ => fun
  | [d] => { results := [.lit (.bool false)], args := [d] }
  | _ => none }
def SchedFasterWrongFalsely : Prop := schedFasterRow.holds Try.pinned (OpenSpec.ofChange schedFasterWrong)

/- THE SECOND FORM. 'bulk': how many values and letters a reading holds, each counted each time it is reached (what is shared counts as often as it is met; a slice's spare places count too). A statement '..UptoSaid' is the law's where the arguments, and the package variables that the reading takes, are together of bulk at most 1048576: NARROWER than '..Said'. Prove '..Said' where nothing that the law and all that it calls make is longer than what came in: it says more and counts as full. Else prove '..UptoSaid'. A law counts once. -/
mutual
def uptoBulk {H : Type} : DataW H → Nat
  | .lit (.string bytes) => bytes.length + 1
  | .lit _ => 1
  | .nil => 1
  | .ptr d => uptoBulk d + 1
  | .slice elems spare => uptoBulkAll elems + uptoBulkAll spare + 1
  | .agg parts => uptoBulkAll parts + 1
  | .iface _ d => uptoBulk d + 1
  | .map entries => uptoBulkEntries entries + 1
  | .held _ => 1
def uptoBulkAll {H : Type} : List (DataW H) → Nat
  | [] => 0
  | d :: r => uptoBulk d + uptoBulkAll r
def uptoBulkEntries {H : Type} : List (Lit × DataW H) → Nat
  | [] => 0
  | x :: r => uptoBulkEntry x + uptoBulkEntries r
def uptoBulkEntry {H : Type} : Lit × DataW H → Nat
  | (.string bytes, d) => bytes.length + uptoBulk d + 1
  | (_, d) => uptoBulk d + 1
 end
def uptoSmall : (H : Type) → List (DataW H) → Bool := fun _ ds => decide (uptoBulkAll ds ≤ 1048576)
def OpenSpec.upto (s : _root_.Go.ChangeSpec) : _root_.Go.OpenSpec := { _root_.Go.OpenSpec.ofChange s with cond := some uptoSmall }

/-- 'provenancelaw4.TimingSays', WHERE WHAT IT READS IS OF BULK AT MOST 1048576: true; the input reads as it did. -/
def timingSaysUptoRow : OpenClaim := { program := "ytnfgjcdiophphaa", sum := "3704dae29541a29f8f8d08116c73fe29559b493bff9313fba54bb6aa53283591", func := "provenance/provenancelaw4.TimingSays", spec := "timingSays", inPlace := ["slices.overlaps[int]"], unfollowed := true, recurses := true, apart := false, narrowed := true }
def TimingSaysUptoSaid : Prop := timingSaysUptoRow.holds Try.pinned (OpenSpec.upto timingSaysSpec)

/-- 'provenancekeep4.PipeCycles', WHERE WHAT IT READS IS OF BULK AT MOST 1048576: true; the input reads as it did. -/
def pipeCyclesUptoRow : OpenClaim := { program := "ytnfgjcdiophphaa", sum := "3704dae29541a29f8f8d08116c73fe29559b493bff9313fba54bb6aa53283591", func := "provenance/provenancekeep4.PipeCycles", spec := "pipeCycles", inPlace := ["slices.overlaps[int]"], unfollowed := true, recurses := true, apart := false, narrowed := true }
def PipeCyclesUptoSaid : Prop := pipeCyclesUptoRow.holds Try.pinned (OpenSpec.upto pipeCyclesSpec)

/-- 'provenancekeep4.PipeRests', WHERE WHAT IT READS IS OF BULK AT MOST 1048576: true; the input reads as it did. -/
def pipeRestsUptoRow : OpenClaim := { program := "ytnfgjcdiophphaa", sum := "3704dae29541a29f8f8d08116c73fe29559b493bff9313fba54bb6aa53283591", func := "provenance/provenancekeep4.PipeRests", spec := "pipeRests", inPlace := ["slices.overlaps[int]"], unfollowed := true, recurses := true, apart := false, narrowed := true }
def PipeRestsUptoSaid : Prop := pipeRestsUptoRow.holds Try.pinned (OpenSpec.upto pipeRestsSpec)

/-- 'provenancekeep4.PipeDelays', WHERE WHAT IT READS IS OF BULK AT MOST 1048576: true; the input reads as it did. -/
def pipeDelaysUptoRow : OpenClaim := { program := "ytnfgjcdiophphaa", sum := "3704dae29541a29f8f8d08116c73fe29559b493bff9313fba54bb6aa53283591", func := "provenance/provenancekeep4.PipeDelays", spec := "pipeDelays", inPlace := ["slices.overlaps[int]"], unfollowed := true, recurses := true, apart := false, narrowed := true }
def PipeDelaysUptoSaid : Prop := pipeDelaysUptoRow.holds Try.pinned (OpenSpec.upto pipeDelaysSpec)

/-- 'provenancekeep4.SchedOrder', WHERE WHAT IT READS IS OF BULK AT MOST 1048576: true; the input reads as it did. -/
def schedOrderUptoRow : OpenClaim := { program := "ytnfgjcdiophphaa", sum := "3704dae29541a29f8f8d08116c73fe29559b493bff9313fba54bb6aa53283591", func := "provenance/provenancekeep4.SchedOrder", spec := "schedOrder", inPlace := ["slices.overlaps[int]"], unfollowed := true, recurses := true, apart := false, narrowed := true }
def SchedOrderUptoSaid : Prop := schedOrderUptoRow.holds Try.pinned (OpenSpec.upto schedOrderSpec)

/-- 'provenancekeep4.SchedFaster', WHERE WHAT IT READS IS OF BULK AT MOST 1048576: true; the input reads as it did. -/
def schedFasterUptoRow : OpenClaim := { program := "ytnfgjcdiophphaa", sum := "3704dae29541a29f8f8d08116c73fe29559b493bff9313fba54bb6aa53283591", func := "provenance/provenancekeep4.SchedFaster", spec := "schedFaster", inPlace := ["slices.overlaps[int]"], unfollowed := true, recurses := true, apart := false, narrowed := true }
def SchedFasterUptoSaid : Prop := schedFasterUptoRow.holds Try.pinned (OpenSpec.upto schedFasterSpec)

end Rows
end Go.Proofs.Ytnfgjcdiophphaa
