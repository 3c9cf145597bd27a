/- slices.Equal at rows of bools. -/
import Derived.Test.YtlaogkbdjkofaaaVAfter
import Derived.BigQuiet
import Derived.Deep.QuietTactic
namespace Go.Proofs.Ytlaogkbdjkofaaa
open Go.RowKit
set_option linter.unusedVariables false

theorem drewN_addB (w : World) (m n : Nat) : (w.drewN m).drewN n = w.drewN (m + n) := by
  simp [World.drewN, Nat.add_assoc]
def EqBPost (b : Bool) (w : World) (e : Ending) (w' : World) : Prop := ∃ n, e = .returned (.bool b) ∧ w' = w.drewN n
set_option maxHeartbeats 1000000 in
theorem equal_bools (w : World) (g g' n : Nat) (l l' : Nat → Bool) (h : BRow w g n l) (h' : BRow w g' n l') (hn : n ≤ 8192) (b : Bool) (hb : b = true ↔ ∀ r, r < n → l r = l' r) :
    Calls Try.prog 118 #[.slice (some ⟨g, 0, none⟩) n n, .slice (some ⟨g', 0, none⟩) n n] w (EqBPost b w) := by
  have H1 := Lib.hid h
  have H2 := Lib.hid h'
  have HB := Lib.hid hb
  clear h h' hb
  go_enter Try.func118, Try.ntmps118
  go_wp2
  go_loopw [4, 5, 13] (fun _ _ v wr => ∃ k m : Nat, k ≤ n ∧ v = .int .i64 k ∧ (∀ r, r < k → l r = l' r) ∧ wr = w.drewN m) (fun _ _ v _ => n - (intOf v).toNat)
  case atStart => exact ⟨0, 0, Nat.zero_le _, rfl, fun r hr => absurd hr (Nat.not_lt_zero _), rfl⟩
  case round =>
    obtain ⟨k, m, hk, rfl, hz, rfl⟩ := hrel
    have HZ := Lib.hid hz
    clear hz
    by_cases hlt : k < n
    · have p1 := H1.out.cell hlt
      have p2 := H2.out.cell hlt
      obtain ⟨x, hx⟩ : ∃ x, x = l k := ⟨_, rfl⟩
      obtain ⟨y, hy⟩ : ∃ y, y = l' k := ⟨_, rfl⟩
      rw [← hx] at p1
      rw [← hy] at p2
      have HX := Lib.hid hx
      have HY := Lib.hid hy
      clear hx hy
      by_cases hxy : x = y
      · have t3 : (x == y) = true := by simp [hxy]
        have HXY := Lib.hid hxy
        clear hxy
        go_wp2
        go_quiet (fail)
        go_wp2
        go_roundw
        case rel =>
          refine ⟨k + 1, _, by omega, by go_num, fun r hr => ?_, rfl⟩
          by_cases e : r = k
          · rw [e, ← HX.out, ← HY.out, HXY.out]
          · exact HZ.out r (by omega)
        case measure => simp [intOf]; omega
      · have t3 : (x == y) = false := by simp [hxy]
        have HNE : Hid (b = false) := by
          show b = false
          rw [← Bool.not_eq_true]
          intro h
          apply hxy
          rw [HX.out, HY.out]
          exact HB.out.1 h k hlt
        clear hxy
        go_wp2
        go_quiet (fail)
        go_wp2
        go_ret
        exact ⟨_, by rw [HNE.out]; rfl, drewN_addB w m nq⟩
    · have HEQ : Hid (b = true) := HB.out.2 fun r hr => HZ.out r (by omega)
      go_wp2
      go_ret
      exact ⟨_, by rw [HEQ.out]; rfl, rfl⟩
end Go.Proofs.Ytlaogkbdjkofaaa
