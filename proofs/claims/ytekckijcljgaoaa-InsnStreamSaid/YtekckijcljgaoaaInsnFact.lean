/- The contract of the statements' own insnFact. -/
import Derived.Test.YtekckijcljgaoaaInsnC
namespace Go.Proofs.Ytekckijcljgaoaa
open Go.RowKit
set_option linter.unusedVariables false

set_option maxHeartbeats 1000000 in
theorem insnFact_ok (w : World) : Calls Try.prog 15 #[] w fun e w' => e = .returned (.bool true) ∧ Below w.heap.size w w' := by
  have hE := fun w => enc_ok 11 2 0 0 (-1) w (by decide)
  have he : encWords 11 2 0 0 (-1) = [1484783871] := by decide
  rw [he] at hE
  have HE := fun w => Lib.hid (hE w)
  clear hE he
  go_enter Try.func15, Try.ntmps15
  go_wp2_with (go_at_call 16; refine (HE _).out.mono ?_; rintro e w' ⟨g, rfl, hs, hg, hb⟩; have c0 := hs.cell 0; have HB := Lib.hid hb; clear hb hs)
  go_ret
  exact ⟨rfl, HB.out⟩
end Go.Proofs.Ytekckijcljgaoaa
