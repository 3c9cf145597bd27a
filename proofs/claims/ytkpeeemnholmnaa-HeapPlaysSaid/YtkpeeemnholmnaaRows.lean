/-
  No cell of these rows narrows 'for every input' (looked for: loops, veiled, ifaces, maps, wideKeys, modest, calm, conditions, laid).
  DERIVED. THE GIVEN ROWS OF THIS SEAT. 4 by the template 'for every input the law returns true; each argument reads behind the call as it read before'; 0 by the template 'total and deterministic' (their statements: YtkpeeemnholmnaaTotals.lean).
  GIVEN WITH THE SEED: the statements are not yours to turn. If you find one false, say at which input.
  Laid BY PROGRAM, IN A SANDBOX (cutbox-rows.mjs): the forced cells as the released guide's own fill.sh prints them over the translation 4da1543a83fbec7b… (all of the seat's roots in one cut). By AI agents, Wed Nov 11 2026. No macro, syntax, notation, axiom, sorry.
-/
import Derived.Test.YtkpeeemnholmnaaChecked
import GoSem.Claim
import GoSem.ClaimJoined
import GoSem.ClaimMapViews
import Derived.JoinedTies
import Derived.KernelRfl
namespace Go.Proofs.Ytkpeeemnholmnaa
/- THE CELL 'sum', in the pinned program and in every row, IS THE sha256 OF THE DUMP (.gsa) THAT YtkpeeemnholmnaaProg.lean LOADS. Nothing in Lean hashes anything: it is a label: what it is worth is what the hold of that sum in a sandbox is worth. -/
noncomputable def Try.pinned : Pinned := { name := "ytkpeeemnholmnaa", sum := "4da1543a83fbec7b4c50542dcfbe23e9287fd489813ed07b3ff98c62dd63cd76", checked := Try.checked }
namespace Rows
def none {H : Type} : Left H := { results := [], args := [] }

/-- 'provenancelaw4.HeapPlays': WHATEVER THE INPUT: true; the input reads as it did. -/
def heapPlaysSpec : ChangeSpec := { name := "heapPlays", fn := fun _ => fun
  | [d1, d2, d3, d4, d5] => { results := [.lit (.bool true)], args := [d1, d2, d3, d4, d5] }
  | _ => none }
def heapPlaysRow : OpenClaim := { program := "ytkpeeemnholmnaa", sum := "4da1543a83fbec7b4c50542dcfbe23e9287fd489813ed07b3ff98c62dd63cd76", func := "provenance/provenancelaw4.HeapPlays", spec := "heapPlays", unfollowed := true, recurses := true, apart := false }
def HeapPlaysSaid : Prop := heapPlaysRow.holds Try.pinned (OpenSpec.ofChange heapPlaysSpec)

/-- ITS FALSE NEIGHBOUR: 'it returns false'. Refute it at one input. -/
def heapPlaysWrong : ChangeSpec := { name := "heapPlays", fn := fun _ => fun
  | [d1, d2, d3, d4, d5] => { results := [.lit (.bool false)], args := [d1, d2, d3, d4, d5] }
  | _ => none }
def HeapPlaysWrongFalsely : Prop := heapPlaysRow.holds Try.pinned (OpenSpec.ofChange heapPlaysWrong)

/-- 'provenancekeep4.HeapMinor': WHATEVER THE INPUT: true; the input reads as it did. -/
def heapMinorSpec : ChangeSpec := { name := "heapMinor", fn := fun _ => fun
  | [d1, d2] => { results := [.lit (.bool true)], args := [d1, d2] }
  | _ => none }
def heapMinorRow : OpenClaim := { program := "ytkpeeemnholmnaa", sum := "4da1543a83fbec7b4c50542dcfbe23e9287fd489813ed07b3ff98c62dd63cd76", func := "provenance/provenancekeep4.HeapMinor", spec := "heapMinor", apart := false }
def HeapMinorSaid : Prop := heapMinorRow.holds Try.pinned (OpenSpec.ofChange heapMinorSpec)

/-- ITS FALSE NEIGHBOUR: 'it returns false'. Refute it at one input. -/
def heapMinorWrong : ChangeSpec := { name := "heapMinor", fn := fun _ => fun
  | [d1, d2] => { results := [.lit (.bool false)], args := [d1, d2] }
  | _ => none }
def HeapMinorWrongFalsely : Prop := heapMinorRow.holds Try.pinned (OpenSpec.ofChange heapMinorWrong)

/-- 'provenancekeep4.HeapLive': WHATEVER THE INPUT: true; the input reads as it did. -/
def heapLiveSpec : ChangeSpec := { name := "heapLive", fn := fun _ => fun
  | [d1, d2, d3, d4] => { results := [.lit (.bool true)], args := [d1, d2, d3, d4] }
  | _ => none }
def heapLiveRow : OpenClaim := { program := "ytkpeeemnholmnaa", sum := "4da1543a83fbec7b4c50542dcfbe23e9287fd489813ed07b3ff98c62dd63cd76", func := "provenance/provenancekeep4.HeapLive", spec := "heapLive", unfollowed := true, recurses := true, apart := false }
def HeapLiveSaid : Prop := heapLiveRow.holds Try.pinned (OpenSpec.ofChange heapLiveSpec)

/-- ITS FALSE NEIGHBOUR: 'it returns false'. Refute it at one input. -/
def heapLiveWrong : ChangeSpec := { name := "heapLive", fn := fun _ => fun
  | [d1, d2, d3, d4] => { results := [.lit (.bool false)], args := [d1, d2, d3, d4] }
  | _ => none }
def HeapLiveWrongFalsely : Prop := heapLiveRow.holds Try.pinned (OpenSpec.ofChange heapLiveWrong)

/-- 'provenancekeep4.HeapChains': WHATEVER THE INPUT: true; the input reads as it did. -/
def heapChainsSpec : ChangeSpec := { name := "heapChains", fn := fun _ => fun
  | [d1, d2, d3, d4, d5] => { results := [.lit (.bool true)], args := [d1, d2, d3, d4, d5] }
  | _ => none }
def heapChainsRow : OpenClaim := { program := "ytkpeeemnholmnaa", sum := "4da1543a83fbec7b4c50542dcfbe23e9287fd489813ed07b3ff98c62dd63cd76", func := "provenance/provenancekeep4.HeapChains", spec := "heapChains", unfollowed := true, recurses := true, apart := false }
def HeapChainsSaid : Prop := heapChainsRow.holds Try.pinned (OpenSpec.ofChange heapChainsSpec)

/-- ITS FALSE NEIGHBOUR: 'it returns false'. Refute it at one input. -/
def heapChainsWrong : ChangeSpec := { name := "heapChains", fn := fun _ => fun
  | [d1, d2, d3, d4, d5] => { results := [.lit (.bool false)], args := [d1, d2, d3, d4, d5] }
  | _ => none }
def HeapChainsWrongFalsely : Prop := heapChainsRow.holds Try.pinned (OpenSpec.ofChange heapChainsWrong)

/- THE SECOND FORM. 'bulk': how many values and letters a reading holds, each counted each time it is reached (what is shared counts as often as it is met; a slice's spare places count too). A statement '..UptoSaid' is the law's where the arguments, and the package variables that the reading takes, are together of bulk at most 1048576: NARROWER than '..Said'. Prove '..Said' where nothing that the law and all that it calls make is longer than what came in: it says more and counts as full. Else prove '..UptoSaid'. A law counts once. -/
mutual
def uptoBulk {H : Type} : DataW H → Nat
  | .lit (.string bytes) => bytes.length + 1
  | .lit _ => 1
  | .nil => 1
  | .ptr d => uptoBulk d + 1
  | .slice elems spare => uptoBulkAll elems + uptoBulkAll spare + 1
  | .agg parts => uptoBulkAll parts + 1
  | .iface _ d => uptoBulk d + 1
  | .map entries => uptoBulkEntries entries + 1
  | .held _ => 1
def uptoBulkAll {H : Type} : List (DataW H) → Nat
  | [] => 0
  | d :: r => uptoBulk d + uptoBulkAll r
def uptoBulkEntries {H : Type} : List (Lit × DataW H) → Nat
  | [] => 0
  | x :: r => uptoBulkEntry x + uptoBulkEntries r
def uptoBulkEntry {H : Type} : Lit × DataW H → Nat
  | (.string bytes, d) => bytes.length + uptoBulk d + 1
  | (_, d) => uptoBulk d + 1
 end
def uptoSmall : (H : Type) → List (DataW H) → Bool := fun _ ds => decide (uptoBulkAll ds ≤ 1048576)
def OpenSpec.upto (s : _root_.Go.ChangeSpec) : _root_.Go.OpenSpec := { _root_.Go.OpenSpec.ofChange s with cond := some uptoSmall }

/-- 'provenancelaw4.HeapPlays', WHERE WHAT IT READS IS OF BULK AT MOST 1048576: true; the input reads as it did. -/
def heapPlaysUptoRow : OpenClaim := { program := "ytkpeeemnholmnaa", sum := "4da1543a83fbec7b4c50542dcfbe23e9287fd489813ed07b3ff98c62dd63cd76", func := "provenance/provenancelaw4.HeapPlays", spec := "heapPlays", unfollowed := true, recurses := true, apart := false, narrowed := true }
def HeapPlaysUptoSaid : Prop := heapPlaysUptoRow.holds Try.pinned (OpenSpec.upto heapPlaysSpec)

/-- 'provenancekeep4.HeapMinor', WHERE WHAT IT READS IS OF BULK AT MOST 1048576: true; the input reads as it did. -/
def heapMinorUptoRow : OpenClaim := { program := "ytkpeeemnholmnaa", sum := "4da1543a83fbec7b4c50542dcfbe23e9287fd489813ed07b3ff98c62dd63cd76", func := "provenance/provenancekeep4.HeapMinor", spec := "heapMinor", apart := false, narrowed := true }
def HeapMinorUptoSaid : Prop := heapMinorUptoRow.holds Try.pinned (OpenSpec.upto heapMinorSpec)

/-- 'provenancekeep4.HeapLive', WHERE WHAT IT READS IS OF BULK AT MOST 1048576: true; the input reads as it did. -/
def heapLiveUptoRow : OpenClaim := { program := "ytkpeeemnholmnaa", sum := "4da1543a83fbec7b4c50542dcfbe23e9287fd489813ed07b3ff98c62dd63cd76", func := "provenance/provenancekeep4.HeapLive", spec := "heapLive", unfollowed := true, recurses := true, apart := false, narrowed := true }
def HeapLiveUptoSaid : Prop := heapLiveUptoRow.holds Try.pinned (OpenSpec.upto heapLiveSpec)

/-- 'provenancekeep4.HeapChains', WHERE WHAT IT READS IS OF BULK AT MOST 1048576: true; the input reads as it did. -/
def heapChainsUptoRow : OpenClaim := { program := "ytkpeeemnholmnaa", sum := "4da1543a83fbec7b4c50542dcfbe23e9287fd489813ed07b3ff98c62dd63cd76", func := "provenance/provenancekeep4.HeapChains", spec := "heapChains", unfollowed := true, recurses := true, apart := false, narrowed := true }
def HeapChainsUptoSaid : Prop := heapChainsUptoRow.holds Try.pinned (OpenSpec.upto heapChainsSpec)

end Rows
end Go.Proofs.Ytkpeeemnholmnaa
