/- The walk of InsnStream (printed by insnstream.py). -/
import Derived.Test.YtekckijcljgaoaaStreamBig
import Derived.Test.YtekckijcljgaoaaStreamSmall
namespace Go.Proofs.Ytekckijcljgaoaa
open Go.RowKit
set_option linter.unusedVariables false

theorem insnStream_walk (a0 : Option Addr) (len0 cap0 : Nat) (z0 : List Op5) (a1 : Option Addr) (len1 cap1 : Nat) (z1 : List Bool) (w : World) (h0 : Came w a0 len0 cap0 5 (z0.map opC) ∧ ∀ z ∈ z0, True) (h1 : Came w a1 len1 cap1 1 (z1.map boolCells) ∧ ∀ z ∈ z1, True) :
    Calls Try.prog 3 #[.slice a0 len0 cap0, .slice a1 len1 cap1] w fun e w' => e = .returned (.bool true) ∧ Below w.heap.size w w' := by
  by_cases hb : 40 < len0
  · exact stream_big a0 len0 cap0 z0 a1 len1 cap1 z1 w h0.1 h1.1 hb
  · exact stream_small a0 len0 cap0 z0 a1 len1 cap1 z1 w h0.1 h1.1 hb
end Go.Proofs.Ytekckijcljgaoaa
