/- The contract of slices.Equal at []int. -/
import Derived.Test.YtlcnbihfpjhffaaBase
import Derived.BigQuiet
import Derived.Deep.QuietTactic
namespace Go.Proofs.Ytlcnbihfpjhffaa
open Go.RowKit
set_option linter.unusedVariables false

theorem drewN_add (w : World) (m n : Nat) : (w.drewN m).drewN n = w.drewN (m + n) := by
  simp [World.drewN, Nat.add_assoc]

def BoolQ (b : Bool) (w : World) (e : Ending) (w' : World) : Prop := ∃ n, e = .returned (.bool b) ∧ w' = w.drewN n



theorem take_snoc {α : Type} (l : List α) (k : Nat) (h : k < l.length) : l.take (k + 1) = l.take k ++ [l[k]] := List.take_succ_eq_append_getElem h

set_option maxHeartbeats 1000000 in
theorem equal_ints (w : World) (a1 : Option Addr) (n1 c1 : Nat) (z1 : List Int) (a2 : Option Addr) (n2 c2 : Nat) (z2 : List Int) (h1 : Came w a1 n1 c1 1 (z1.map intCells)) (h2 : Came w a2 n2 c2 1 (z2.map intCells)) :
    Calls Try.prog 16 #[.slice a1 n1 c1, .slice a2 n2 c2] w (BoolQ (decide (z1 = z2)) w) := by
  have l1 : z1.length = n1 := by simpa using h1.count
  have l2 : z2.length = n2 := by simpa using h2.count
  have m1 := h1.le
  have m2 := h1.max
  have m3 := h2.le
  have m4 := h2.max
  have L1 := Lib.hid l1
  have L2 := Lib.hid l2
  by_cases hn : n1 = n2
  · subst hn
    have H1 := Lib.hid h1
    have H2 := Lib.hid h2
    clear l1 l2 h1 h2
    go_enter Try.func16, Try.ntmps16
    go_wp2
    go_loopw [13] (fun v wr => ∃ k m : Nat, k ≤ n1 ∧ v = .int .i64 k ∧ z1.take k = z2.take k ∧ wr = w.drewN m) (fun v _ => n1 - (intOf v).toNat)
    case atStart => exact ⟨0, 0, Nat.zero_le _, rfl, rfl, rfl⟩
    case round =>
      obtain ⟨k, m, hk, rfl, hz, rfl⟩ := hrel
      have HZ := Lib.hid hz
      clear hz
      by_cases hlt : k < n1
      · obtain ⟨b1, o1, e1, _, q1⟩ := H1.out.ints (by omega)
        obtain ⟨b2, o2, e2, _, q2⟩ := H2.out.ints (by omega)
        subst e1
        subst e2
        have t1 : k < z1.length := by have := L1.out; omega
        have t2 : k < z2.length := by have := L2.out; omega
        have p1 := q1 k t1
        have p2 := q2 k t2
        obtain ⟨x, hx⟩ : ∃ x, x = z1[k] := ⟨_, rfl⟩
        obtain ⟨y, hy⟩ : ∃ y, y = z2[k] := ⟨_, rfl⟩
        rw [← hx] at p1
        rw [← hy] at p2
        have HX := Lib.hid hx
        have HY := Lib.hid hy
        clear hx hy q1 q2
        by_cases hxy : x = y
        · have t3 : (x != y) = false := by simp [hxy]
          have HXY := Lib.hid hxy
          clear hxy
          go_wp2
          go_quiet (fail)
          go_wp2
          go_roundw
          case rel => exact ⟨k + 1, _, by omega, by go_num, by rw [take_snoc _ _ t1, take_snoc _ _ t2, HZ.out, ← HX.out, ← HY.out, HXY.out], rfl⟩
          case measure => simp [intOf]; omega
        · have t3 : (x != y) = true := by simp [hxy]
          have HNE : Hid (decide (z1 = z2) = false) := by
            refine decide_eq_false fun h => hxy ?_
            rw [HX.out, HY.out]; subst h; rfl
          clear hxy
          go_wp2
          go_quiet (fail)
          go_wp2
          go_ret
          exact ⟨_, by rw [HNE.out]; rfl, drewN_add w m nq⟩
      · have HEQ : Hid (decide (z1 = z2) = true) := by
          refine decide_eq_true ?_
          have := HZ.out
          rw [List.take_of_length_le (by have := L1.out; omega), List.take_of_length_le (by have := L2.out; omega)] at this
          exact this
        go_wp2
        go_ret
        exact ⟨_, by rw [HEQ.out]; rfl, rfl⟩
  · have hne : ((n1 : Int) != (n2 : Int)) = true := by rw [bne_iff_ne]; omega
    have HNE : Hid (decide (z1 = z2) = false) := decide_eq_false fun h => hn (by rw [← l1, ← l2, h])
    clear l1 l2 h1 h2 hn
    go_enter Try.func16, Try.ntmps16
    go_wp2
    go_ret
    exact ⟨0, by rw [HNE.out]; rfl, rfl⟩
end Go.Proofs.Ytlcnbihfpjhffaa
