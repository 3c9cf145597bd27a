/-
  No cell of these rows narrows 'for every input' (looked for: loops, veiled, ifaces, maps, wideKeys, modest, calm, conditions, laid).
  DERIVED. THE GIVEN ROWS OF THIS SEAT. 5 by the template 'for every input the law returns true; each argument reads behind the call as it read before'; 0 by the template 'total and deterministic' (their statements: YtkblfoabfajciaaTotals.lean).
  GIVEN WITH THE SEED: the statements are not yours to turn. If you find one false, say at which input.
  Laid BY PROGRAM, IN A SANDBOX (cutbox-rows.mjs): the forced cells as the released guide's own fill.sh prints them over the translation bbdda7a46c56b8cd… (all of the seat's roots in one cut). By AI agents, Wed Nov 11 2026. No macro, syntax, notation, axiom, sorry.
-/
import Derived.Test.YtkblfoabfajciaaChecked
import GoSem.Claim
import GoSem.ClaimJoined
import GoSem.ClaimMapViews
import Derived.JoinedTies
import Derived.KernelRfl
namespace Go.Proofs.Ytkblfoabfajciaa
/- THE CELL 'sum', in the pinned program and in every row, IS THE sha256 OF THE DUMP (.gsa) THAT YtkblfoabfajciaaProg.lean LOADS. Nothing in Lean hashes anything: it is a label: what it is worth is what the hold of that sum in a sandbox is worth. -/
noncomputable def Try.pinned : Pinned := { name := "ytkblfoabfajciaa", sum := "bbdda7a46c56b8cd18e22dc171db63fbacc027830db3acd520f6cc2a7973024e", checked := Try.checked }
namespace Rows
def none {H : Type} : Left H := { results := [], args := [] }

/-- 'provenancekeep4.CacheLevels': WHATEVER THE INPUT: true; the input reads as it did. -/
def cacheLevelsSpec : ChangeSpec := { name := "cacheLevels", fn := fun _ => fun
  | [d1, d2, d3, d4] => { results := [.lit (.bool true)], args := [d1, d2, d3, d4] }
  | _ => none }
def cacheLevelsRow : OpenClaim := { program := "ytkblfoabfajciaa", sum := "bbdda7a46c56b8cd18e22dc171db63fbacc027830db3acd520f6cc2a7973024e", func := "provenance/provenancekeep4.CacheLevels", spec := "cacheLevels", inPlace := ["slices.overlaps[provenance/api.CacheLine]"], unfollowed := true, recurses := true, apart := false }
def CacheLevelsSaid : Prop := cacheLevelsRow.holds Try.pinned (OpenSpec.ofChange cacheLevelsSpec)

/-- ITS FALSE NEIGHBOUR: 'it returns false'. Refute it at one input. -/
def cacheLevelsWrong : ChangeSpec := { name := "cacheLevels", fn := fun _ => fun
  | [d1, d2, d3, d4] => { results := [.lit (.bool false)], args := [d1, d2, d3, d4] }
  | _ => none }
def CacheLevelsWrongFalsely : Prop := cacheLevelsRow.holds Try.pinned (OpenSpec.ofChange cacheLevelsWrong)

/-- 'provenancekeep4.CacheWays': WHATEVER THE INPUT: true; the input reads as it did. -/
def cacheWaysSpec : ChangeSpec := { name := "cacheWays", fn := fun _ => fun
  | [d1, d2, d3, d4] => { results := [.lit (.bool true)], args := [d1, d2, d3, d4] }
  | _ => none }
def cacheWaysRow : OpenClaim := { program := "ytkblfoabfajciaa", sum := "bbdda7a46c56b8cd18e22dc171db63fbacc027830db3acd520f6cc2a7973024e", func := "provenance/provenancekeep4.CacheWays", spec := "cacheWays", inPlace := ["slices.overlaps[provenance/api.CacheLine]"], unfollowed := true, recurses := true, apart := false }
def CacheWaysSaid : Prop := cacheWaysRow.holds Try.pinned (OpenSpec.ofChange cacheWaysSpec)

/-- ITS FALSE NEIGHBOUR: 'it returns false'. Refute it at one input. -/
def cacheWaysWrong : ChangeSpec := { name := "cacheWays", fn := fun _ => fun
  | [d1, d2, d3, d4] => { results := [.lit (.bool false)], args := [d1, d2, d3, d4] }
  | _ => none }
def CacheWaysWrongFalsely : Prop := cacheWaysRow.holds Try.pinned (OpenSpec.ofChange cacheWaysWrong)

/-- 'provenancekeep4.CacheFits': WHATEVER THE INPUT: true; the input reads as it did. -/
def cacheFitsSpec : ChangeSpec := { name := "cacheFits", fn := fun _ => fun
  | [d1, d2] => { results := [.lit (.bool true)], args := [d1, d2] }
  | _ => none }
def cacheFitsRow : OpenClaim := { program := "ytkblfoabfajciaa", sum := "bbdda7a46c56b8cd18e22dc171db63fbacc027830db3acd520f6cc2a7973024e", func := "provenance/provenancekeep4.CacheFits", spec := "cacheFits", inPlace := ["slices.overlaps[provenance/api.CacheLine]"], unfollowed := true, recurses := true, apart := false }
def CacheFitsSaid : Prop := cacheFitsRow.holds Try.pinned (OpenSpec.ofChange cacheFitsSpec)

/-- ITS FALSE NEIGHBOUR: 'it returns false'. Refute it at one input. -/
def cacheFitsWrong : ChangeSpec := { name := "cacheFits", fn := fun _ => fun
  | [d1, d2] => { results := [.lit (.bool false)], args := [d1, d2] }
  | _ => none }
def CacheFitsWrongFalsely : Prop := cacheFitsRow.holds Try.pinned (OpenSpec.ofChange cacheFitsWrong)

/-- 'provenancelaw4.CachePlays': WHATEVER THE INPUT: true; the input reads as it did. -/
def cachePlaysSpec : ChangeSpec := { name := "cachePlays", fn := fun _ => fun
  | [d1, d2, d3, d4, d5] => { results := [.lit (.bool true)], args := [d1, d2, d3, d4, d5] }
  | _ => none }
def cachePlaysRow : OpenClaim := { program := "ytkblfoabfajciaa", sum := "bbdda7a46c56b8cd18e22dc171db63fbacc027830db3acd520f6cc2a7973024e", func := "provenance/provenancelaw4.CachePlays", spec := "cachePlays", inPlace := ["slices.overlaps[provenance/api.CacheLine]"], unfollowed := true, recurses := true, apart := false }
def CachePlaysSaid : Prop := cachePlaysRow.holds Try.pinned (OpenSpec.ofChange cachePlaysSpec)

/-- ITS FALSE NEIGHBOUR: 'it returns false'. Refute it at one input. -/
def cachePlaysWrong : ChangeSpec := { name := "cachePlays", fn := fun _ => fun
  | [d1, d2, d3, d4, d5] => { results := [.lit (.bool false)], args := [d1, d2, d3, d4, d5] }
  | _ => none }
def CachePlaysWrongFalsely : Prop := cachePlaysRow.holds Try.pinned (OpenSpec.ofChange cachePlaysWrong)

/-- 'provenancelaw4.LinkMerges': WHATEVER THE INPUT: true; the input reads as it did. -/
def linkMergesSpec : ChangeSpec := { name := "linkMerges", fn := fun _ => fun
  | [d] => { results := [.lit (.bool true)], args := [d] }
  | _ => none }
def linkMergesRow : OpenClaim := { program := "ytkblfoabfajciaa", sum := "bbdda7a46c56b8cd18e22dc171db63fbacc027830db3acd520f6cc2a7973024e", func := "provenance/provenancelaw4.LinkMerges", spec := "linkMerges", unfollowed := true, recurses := true, apart := false }
def LinkMergesSaid : Prop := linkMergesRow.holds Try.pinned (OpenSpec.ofChange linkMergesSpec)

/-- ITS FALSE NEIGHBOUR: 'it returns false'. Refute it at one input. -/
def linkMergesWrong : ChangeSpec := { name := "linkMerges", fn := fun _ => fun
  | [d] => { results := [.lit (.bool false)], args := [d] }
  | _ => none }
def LinkMergesWrongFalsely : Prop := linkMergesRow.holds Try.pinned (OpenSpec.ofChange linkMergesWrong)

/- THE SECOND FORM. 'bulk': how many values and letters a reading holds, each counted each time it is reached (what is shared counts as often as it is met; a slice's spare places count too). A statement '..UptoSaid' is the law's where the arguments, and the package variables that the reading takes, are together of bulk at most 1048576: NARROWER than '..Said'. Prove '..Said' where nothing that the law and all that it calls make is longer than what came in: it says more and counts as full. Else prove '..UptoSaid'. A law counts once. -/
mutual
def uptoBulk {H : Type} : DataW H → Nat
  | .lit (.string bytes) => bytes.length + 1
  | .lit _ => 1
  | .nil => 1
  | .ptr d => uptoBulk d + 1
  | .slice elems spare => uptoBulkAll elems + uptoBulkAll spare + 1
  | .agg parts => uptoBulkAll parts + 1
  | .iface _ d => uptoBulk d + 1
  | .map entries => uptoBulkEntries entries + 1
  | .held _ => 1
def uptoBulkAll {H : Type} : List (DataW H) → Nat
  | [] => 0
  | d :: r => uptoBulk d + uptoBulkAll r
def uptoBulkEntries {H : Type} : List (Lit × DataW H) → Nat
  | [] => 0
  | x :: r => uptoBulkEntry x + uptoBulkEntries r
def uptoBulkEntry {H : Type} : Lit × DataW H → Nat
  | (.string bytes, d) => bytes.length + uptoBulk d + 1
  | (_, d) => uptoBulk d + 1
 end
def uptoSmall : (H : Type) → List (DataW H) → Bool := fun _ ds => decide (uptoBulkAll ds ≤ 1048576)
def OpenSpec.upto (s : _root_.Go.ChangeSpec) : _root_.Go.OpenSpec := { _root_.Go.OpenSpec.ofChange s with cond := some uptoSmall }

/-- 'provenancekeep4.CacheLevels', WHERE WHAT IT READS IS OF BULK AT MOST 1048576: true; the input reads as it did. -/
def cacheLevelsUptoRow : OpenClaim := { program := "ytkblfoabfajciaa", sum := "bbdda7a46c56b8cd18e22dc171db63fbacc027830db3acd520f6cc2a7973024e", func := "provenance/provenancekeep4.CacheLevels", spec := "cacheLevels", inPlace := ["slices.overlaps[provenance/api.CacheLine]"], unfollowed := true, recurses := true, apart := false, narrowed := true }
def CacheLevelsUptoSaid : Prop := cacheLevelsUptoRow.holds Try.pinned (OpenSpec.upto cacheLevelsSpec)

/-- 'provenancekeep4.CacheWays', WHERE WHAT IT READS IS OF BULK AT MOST 1048576: true; the input reads as it did. -/
def cacheWaysUptoRow : OpenClaim := { program := "ytkblfoabfajciaa", sum := "bbdda7a46c56b8cd18e22dc171db63fbacc027830db3acd520f6cc2a7973024e", func := "provenance/provenancekeep4.CacheWays", spec := "cacheWays", inPlace := ["slices.overlaps[provenance/api.CacheLine]"], unfollowed := true, recurses := true, apart := false, narrowed := true }
def CacheWaysUptoSaid : Prop := cacheWaysUptoRow.holds Try.pinned (OpenSpec.upto cacheWaysSpec)

/-- 'provenancekeep4.CacheFits', WHERE WHAT IT READS IS OF BULK AT MOST 1048576: true; the input reads as it did. -/
def cacheFitsUptoRow : OpenClaim := { program := "ytkblfoabfajciaa", sum := "bbdda7a46c56b8cd18e22dc171db63fbacc027830db3acd520f6cc2a7973024e", func := "provenance/provenancekeep4.CacheFits", spec := "cacheFits", inPlace := ["slices.overlaps[provenance/api.CacheLine]"], unfollowed := true, recurses := true, apart := false, narrowed := true }
def CacheFitsUptoSaid : Prop := cacheFitsUptoRow.holds Try.pinned (OpenSpec.upto cacheFitsSpec)

/-- 'provenancelaw4.CachePlays', WHERE WHAT IT READS IS OF BULK AT MOST 1048576: true; the input reads as it did. -/
def cachePlaysUptoRow : OpenClaim := { program := "ytkblfoabfajciaa", sum := "bbdda7a46c56b8cd18e22dc171db63fbacc027830db3acd520f6cc2a7973024e", func := "provenance/provenancelaw4.CachePlays", spec := "cachePlays", inPlace := ["slices.overlaps[provenance/api.CacheLine]"], unfollowed := true, recurses := true, apart := false, narrowed := true }
def CachePlaysUptoSaid : Prop := cachePlaysUptoRow.holds Try.pinned (OpenSpec.upto cachePlaysSpec)

/-- 'provenancelaw4.LinkMerges', WHERE WHAT IT READS IS OF BULK AT MOST 1048576: true; the input reads as it did. -/
def linkMergesUptoRow : OpenClaim := { program := "ytkblfoabfajciaa", sum := "bbdda7a46c56b8cd18e22dc171db63fbacc027830db3acd520f6cc2a7973024e", func := "provenance/provenancelaw4.LinkMerges", spec := "linkMerges", unfollowed := true, recurses := true, apart := false, narrowed := true }
def LinkMergesUptoSaid : Prop := linkMergesUptoRow.holds Try.pinned (OpenSpec.upto linkMergesSpec)

end Rows
end Go.Proofs.Ytkblfoabfajciaa
