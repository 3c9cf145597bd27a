/- Cache.Lines where it answers an error. -/
import Derived.Test.YtkpeeemnholmnabCacheF
namespace Go.Proofs.Ytkpeeemnholmnab
open Go.RowKit
set_option linter.unusedVariables false
set_option linter.unusedSimpArgs false

set_option maxHeartbeats 1000000 in
theorem clines_arg (w : World) (q p1 sb1 p2 sb2 : Nat) (c1 c2 : Conf) (sv1 sv2 : Nat → Value) (x1 x2 : Nat → List CLine) (m : Nat) (h : CacheSt w q p1 sb1 p2 sb2 c1 c2 sv1 sv2 x1 x2 m) (n : Int) :
    Calls Try.prog 12 #[.pointer (some ⟨q, 0, none⟩), .int .i64 3, .int .i64 n] w fun e w' => e = .returned (.tuple #[.slice none 0 0, .int .i64 1]) ∧ w' = w := by
  have q0 := h.st.cell 0
  have q1 := h.st.cell 1
  simp only [List.getElem?_cons_zero, List.getElem?_cons_succ] at q0 q1
  clear h
  go_enter Try.func12, Try.ntmps12
  go_wp2
  go_ret2
  exact ⟨rfl, rfl⟩
set_option maxHeartbeats 1000000 in
theorem clines_none (w : World) (q p1 sb1 p2 sb2 : Nat) (c1 c2 : Conf) (sv1 sv2 : Nat → Value) (x1 x2 : Nat → List CLine) (m : Nat) (h : CacheSt w q p1 sb1 p2 sb2 c1 c2 sv1 sv2 x1 x2 m) (ok1 : c1.Ok) :
    Calls Try.prog 12 #[.pointer (some ⟨q, 0, none⟩), .int .i64 1, .int .i64 (c1.sets : Int)] w fun e w' => e = .returned (.tuple #[.slice none 0 0, .int .i64 12]) ∧ w' = w := by
  have q0 := h.st.cell 0
  have q1 := h.st.cell 1
  have l1 := h.l1.st.cell 1
  simp only [List.getElem?_cons_zero, List.getElem?_cons_succ] at q0 q1 l1
  obtain ⟨s, hs⟩ : ∃ s, s = c1.sets := ⟨_, rfl⟩
  have hsb : 1 ≤ s ∧ s ≤ 256 := by have := ok1.s; omega
  rw [← hs] at l1 ⊢
  have hin : inB (s : Int) 0 ((s : Int) - 1) = false := by
    rw [← Bool.not_eq_true]
    intro e
    have := inB_true.1 e
    omega
  have HIN := fun w' => Lib.hid (cin_any (s : Int) 0 ((s : Int) - 1) w')
  rw [hin] at HIN
  clear h hs hin
  go_enter Try.func12, Try.ntmps12
  go_wp2_with fail
  refine (HIN _).out.mono ?_
  rintro e w' ⟨rfl, rfl⟩
  go_wp2
  go_ret2
  exact ⟨rfl, rfl⟩
end Go.Proofs.Ytkpeeemnholmnab
