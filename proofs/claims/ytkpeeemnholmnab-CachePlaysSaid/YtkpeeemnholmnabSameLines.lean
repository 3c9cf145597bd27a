/- The reference's SameLines. -/
import Derived.Test.YtkpeeemnholmnabSlicesEq
import Derived.Test.YtkpeeemnholmnabLines
namespace Go.Proofs.Ytkpeeemnholmnab
open Go.RowKit
set_option linter.unusedVariables false
set_option linter.unusedSimpArgs false

theorem cline_neq (w : World) (a a' : Int) (b b' : Bool) : (binOp .neq 90 (.agg #[.int .i64 a, .bool b]) (.agg #[.int .i64 a', .bool b'])).run Try.prog w = .ok (.bool (!decide ((a, b) = (a', b')))) w := by
  go_simp
  by_cases h1 : a = a' <;> by_cases h2 : b = b' <;> simp [h1, h2]
set_option maxHeartbeats 1000000 in
theorem same_lines (w : World) (v1 v2 : Value) (z1 z2 : List CLine) (h1 : Lines w v1 z1) (h2 : Lines w v2 z2) :
    Calls Try.prog 15 #[v1, v2] w (BoolQ (decide (z1 = z2)) w) := by
  obtain ⟨a1, c1, rfl, m1, m2⟩ := h1.form
  obtain ⟨a2, c2, rfl, m3, m4⟩ := h2.form
  obtain ⟨n1, l1⟩ : ∃ n1, n1 = z1.length := ⟨_, rfl⟩
  obtain ⟨n2, l2⟩ : ∃ n2, n2 = z2.length := ⟨_, rfl⟩
  have L1 := Lib.hid l1
  have L2 := Lib.hid l2
  have H1 : Hid (0 < n1 → ∃ g, a1 = some ⟨g, 0, none⟩ ∧ ∀ j (h : j < z1.length), w.cell? ⟨g, j * 2, none⟩ = some (.int .i64 z1[j].1) ∧ w.cell? ⟨g, j * 2 + 1, none⟩ = some (.bool z1[j].2)) := fun hp => by
    obtain ⟨g, cap, e, _, _, _, q⟩ := h1.has (by omega)
    injection e with e _ _
    exact ⟨g, e, q⟩
  have H2 : Hid (0 < n2 → ∃ g, a2 = some ⟨g, 0, none⟩ ∧ ∀ j (h : j < z2.length), w.cell? ⟨g, j * 2, none⟩ = some (.int .i64 z2[j].1) ∧ w.cell? ⟨g, j * 2 + 1, none⟩ = some (.bool z2[j].2)) := fun hp => by
    obtain ⟨g, cap, e, _, _, _, q⟩ := h2.has (by omega)
    injection e with e _ _
    exact ⟨g, e, q⟩
  rw [← l1] at m1 ⊢
  rw [← l2] at m3 ⊢
  have HNQ := fun w a a' b b' => Lib.hid (cline_neq w a a' b b')
  by_cases hn : n1 = n2
  · subst hn
    clear l1 l2 h1 h2
    go_enter Try.func15, Try.ntmps15
    go_wp2
    go_loopw [13] (fun v wr => ∃ k m : Nat, k ≤ n1 ∧ v = .int .i64 k ∧ z1.take k = z2.take k ∧ wr = w.drewN m) (fun v _ => n1 - (intOf v).toNat)
    case atStart => exact ⟨0, 0, Nat.zero_le _, rfl, rfl, rfl⟩
    case round =>
      obtain ⟨k, m, hk, rfl, hz, rfl⟩ := hrel
      have HZ := Lib.hid hz
      clear hz
      by_cases hlt : k < n1
      · obtain ⟨g1, e1, q1⟩ := H1.out (by omega)
        obtain ⟨g2, e2, q2⟩ := H2.out (by omega)
        subst e1
        subst e2
        have t1 : k < z1.length := by have := L1.out; omega
        have t2 : k < z2.length := by have := L2.out; omega
        obtain ⟨p1, p1'⟩ := q1 k t1
        obtain ⟨p2, p2'⟩ := q2 k t2
        obtain ⟨x, hx⟩ : ∃ x, x = z1[k] := ⟨_, rfl⟩
        obtain ⟨y, hy⟩ : ∃ y, y = z2[k] := ⟨_, rfl⟩
        rw [← hx] at p1 p1'
        rw [← hy] at p2 p2'
        have HX := Lib.hid hx
        have HY := Lib.hid hy
        obtain ⟨xa, xb⟩ := x
        obtain ⟨ya, yb⟩ := y
        clear hx hy q1 q2
        have hneq := cline_neq
        by_cases hxy : (xa, xb) = (ya, yb)
        · have t3 : (!decide ((xa, xb) = (ya, yb))) = false := by rw [decide_eq_true hxy]; rfl
          have HXY := Lib.hid hxy
          injection hxy with e1 e2
          subst e1 e2
          go_wp2
          go_quiet (fail)
          go_wp2
          go_roundw
          case rel => exact ⟨k + 1, _, by omega, by go_num, by rw [take_snoc _ _ t1, take_snoc _ _ t2, HZ.out, ← HX.out, ← HY.out], rfl⟩
          case measure => simp [intOf]; omega
        · have HNE : Hid (decide (z1 = z2) = false) := by
            refine decide_eq_false fun h => hxy ?_
            rw [HX.out, HY.out]; subst h; rfl
          have t3 : xa = ya → ¬ xb = yb := fun e1 e2 => hxy (by rw [e1, e2])
          by_cases h1 : xa = ya
          · have h2 := t3 h1
            subst h1
            clear hxy t3
            go_wp2
            go_quiet (fail)
            go_wp2
            go_ret
            exact ⟨_, by rw [HNE.out]; rfl, drewN_add w m nq⟩
          · clear hxy t3
            go_wp2
            go_quiet (fail)
            go_wp2
            go_ret
            exact ⟨_, by rw [HNE.out]; rfl, drewN_add w m nq⟩
      · have HEQ : Hid (decide (z1 = z2) = true) := by
          refine decide_eq_true ?_
          have := HZ.out
          rw [List.take_of_length_le (by have := L1.out; omega), List.take_of_length_le (by have := L2.out; omega)] at this
          exact this
        go_wp2
        go_ret
        exact ⟨_, by rw [HEQ.out]; rfl, rfl⟩
  · have hne : ((n1 : Int) != (n2 : Int)) = true := by rw [bne_iff_ne]; omega
    have HNE : Hid (decide (z1 = z2) = false) := decide_eq_false fun h => hn (by rw [l1, l2, h])
    clear l1 l2 h1 h2 hn
    go_enter Try.func15, Try.ntmps15
    go_wp2
    go_ret
    exact ⟨0, by rw [HNE.out]; rfl, rfl⟩
end Go.Proofs.Ytkpeeemnholmnab
