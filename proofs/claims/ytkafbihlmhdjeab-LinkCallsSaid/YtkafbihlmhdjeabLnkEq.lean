/- When are two functions the same: slices.Equal of items, sameMap. -/
import Derived.Test.YtkafbihlmhdjeabLnkMath
import Derived.Test.YtkafbihlmhdjeabSlicesEq
import Derived.BigQuiet
import Derived.Deep.QuietTactic
namespace Go.Proofs.Ytkafbihlmhdjeab
open Go.RowKit
set_option linter.unusedVariables false
set_option linter.unusedSimpArgs false

def BoolB (b : Bool) (w : World) (e : Ending) (w' : World) : Prop := e = .returned (.bool b) ∧ Below w.heap.size w w'
def itV (i : Item) : Value := .agg #[.int .i64 i.op, .int .i64 i.d, .int .i64 i.a, .int .i64 i.b, .int .i64 i.n, .int .i64 i.tg]
theorem item_neq (w : World) (i j : Item) : (binOp .neq 68 (itV i) (itV j)).run Try.prog w = .ok (.bool (!decide (itKey i = itKey j))) w := by
  obtain ⟨a1, a2, a3, a4, a5, a6⟩ := i
  obtain ⟨b1, b2, b3, b4, b5, b6⟩ := j
  unfold itV itKey
  go_simp
  by_cases h1 : a1 = b1 <;> by_cases h2 : a2 = b2 <;> by_cases h3 : a3 = b3 <;> by_cases h4 : a4 = b4 <;> by_cases h5 : a5 = b5 <;> by_cases h6 : a6 = b6 <;> simp [h1, h2, h3, h4, h5, h6]
set_option maxHeartbeats 1000000 in
theorem equal_items (w : World) (a1 : Option Addr) (n1 c1 : Nat) (z1 : List Item) (a2 : Option Addr) (n2 c2 : Nat) (z2 : List Item) (h1 : Came w a1 n1 c1 6 (z1.map itemCells)) (h2 : Came w a2 n2 c2 6 (z2.map itemCells)) :
    Calls Try.prog 53 #[.slice a1 n1 c1, .slice a2 n2 c2] w (BoolQ (decide (z1.map itKey = z2.map itKey)) w) := by
  have l1 : z1.length = n1 := by simpa using h1.count
  have l2 : z2.length = n2 := by simpa using h2.count
  have m1 := h1.le
  have m2 := h1.max
  have m3 := h2.le
  have m4 := h2.max
  have L1 := Lib.hid l1
  have L2 := Lib.hid l2
  by_cases hn : n1 = n2
  · subst hn
    have H1 := Lib.hid h1
    have H2 := Lib.hid h2
    clear l1 l2 h1 h2
    go_enter Try.func53, Try.ntmps53
    go_wp2
    go_loopw [13] (fun v wr => ∃ k m : Nat, k ≤ n1 ∧ v = .int .i64 k ∧ (z1.map itKey).take k = (z2.map itKey).take k ∧ wr = w.drewN m) (fun v _ => n1 - (intOf v).toNat)
    case atStart => exact ⟨0, 0, Nat.zero_le _, rfl, rfl, rfl⟩
    case round =>
      obtain ⟨k, m, hk, rfl, hz, rfl⟩ := hrel
      have HZ := Lib.hid hz
      clear hz
      by_cases hlt : k < n1
      · obtain ⟨b1, o1, e1, _, q1⟩ := came_items H1.out (by omega)
        obtain ⟨b2, o2, e2, _, q2⟩ := came_items H2.out (by omega)
        subst e1
        subst e2
        have t1 : k < z1.length := by have := L1.out; omega
        have t2 : k < z2.length := by have := L2.out; omega
        obtain ⟨p0, p1, p2, p3, p4, p5⟩ := q1 k t1
        obtain ⟨r0, r1, r2, r3, r4, r5⟩ := q2 k t2
        have T1 : Hid ((z1.map itKey).take (k + 1) = (z1.map itKey).take k ++ [itKey z1[k]]) := by show _ = _; rw [take_snoc _ _ (by simpa using t1)]; simp
        have T2 : Hid ((z2.map itKey).take (k + 1) = (z2.map itKey).take k ++ [itKey z2[k]]) := by show _ = _; rw [take_snoc _ _ (by simpa using t2)]; simp
        have TN : Hid (z1.map itKey = z2.map itKey → itKey z1[k] = itKey z2[k]) := fun h => by
          have h9 := congrArg (fun l => l[k]?) h
          simp only [List.getElem?_map, List.getElem?_eq_getElem t1, List.getElem?_eq_getElem t2, Option.map_some, Option.some.injEq] at h9
          exact h9
        generalize z1[k] = x at p0 p1 p2 p3 p4 p5 T1 TN
        generalize z2[k] = y at r0 r1 r2 r3 r4 r5 T2 TN
        clear q1 q2
        obtain ⟨xo, xd, xa, xb, xn, xt⟩ := x
        obtain ⟨yo, yd, ya, yb, yn, yt⟩ := y
        simp only [show ∀ i : Item, itKey i = (i.op, i.d, i.a, i.b, i.n, i.tg) from fun _ => rfl] at T1 T2 TN
        simp only at p0 p1 p2 p3 p4 p5 r0 r1 r2 r3 r4 r5
        have hcs : (xo = yo ∧ xd = yd ∧ xa = ya ∧ xb = yb ∧ xn = yn ∧ xt = yt) ∨ (¬ xo = yo) ∨ (xo = yo ∧ ¬ xd = yd) ∨ (xo = yo ∧ xd = yd ∧ ¬ xa = ya) ∨ (xo = yo ∧ xd = yd ∧ xa = ya ∧ ¬ xb = yb) ∨ (xo = yo ∧ xd = yd ∧ xa = ya ∧ xb = yb ∧ ¬ xn = yn) ∨ (xo = yo ∧ xd = yd ∧ xa = ya ∧ xb = yb ∧ xn = yn ∧ ¬ xt = yt) := by
          by_cases h1 : xo = yo <;> by_cases h2 : xd = yd <;> by_cases h3 : xa = ya <;> by_cases h4 : xb = yb <;> by_cases h5 : xn = yn <;> by_cases h6 : xt = yt <;> simp [h1, h2, h3, h4, h5, h6]
        rcases hcs with ⟨rfl, rfl, rfl, rfl, rfl, rfl⟩ | hx | ⟨rfl, hx⟩ | ⟨rfl, rfl, hx⟩ | ⟨rfl, rfl, rfl, hx⟩ | ⟨rfl, rfl, rfl, rfl, hx⟩ | ⟨rfl, rfl, rfl, rfl, rfl, hx⟩
        · go_wp2
          go_quiet (fail)
          go_wp2
          go_roundw
          case rel => exact ⟨k + 1, _, by omega, by go_num, by rw [T1.out, T2.out, HZ.out], rfl⟩
          case measure => simp [intOf]; omega
        all_goals
          have HNE : Hid (decide (z1.map itKey = z2.map itKey) = false) := by
            refine decide_eq_false fun h => hx ?_
            have h9 := TN.out h
            simp only [Prod.mk.injEq] at h9
            simp [h9]
          go_wp2
          go_quiet (fail)
          go_wp2
          go_ret
          exact ⟨_, by rw [HNE.out]; rfl, drewN_add w m nq⟩
      · have HEQ : Hid (decide (z1.map itKey = z2.map itKey) = true) := by
          refine decide_eq_true ?_
          have := HZ.out
          rw [List.take_of_length_le (by have := L1.out; simp; omega), List.take_of_length_le (by have := L2.out; simp; omega)] at this
          exact this
        go_wp2
        go_ret
        exact ⟨_, by rw [HEQ.out]; rfl, rfl⟩
  · have hne : ((n1 : Int) != (n2 : Int)) = true := by rw [bne_iff_ne]; omega
    have HNE : Hid (decide (z1.map itKey = z2.map itKey) = false) := decide_eq_false fun h => hn (by rw [← l1, ← l2]; simpa using congrArg List.length h)
    clear l1 l2 h1 h2 hn
    go_enter Try.func53, Try.ntmps53
    go_wp2
    go_ret
    exact ⟨0, by rw [HNE.out]; rfl, rfl⟩
set_option maxHeartbeats 4000000 in
theorem sameMap_any (w : World) (x y : LM) (hx : x.Ok w) (hy : y.Ok w) : Calls Try.prog 55 #[lmV x, lmV y] w (BoolB (decide (lmKey x = lmKey y)) w) := by
  have hb0 : Below w.heap.size w ((w.alloc (.cells #[.int .i64 x.item, .bool x.after, .slice x.sa x.sn x.sc, .int .i64 x.regs] 101)).alloc (.cells #[.int .i64 y.item, .bool y.after, .slice y.sa y.sn y.sc, .int .i64 y.regs] 101)) := ((Below.refl _ _).alloc (Nat.le_refl _) _).alloc (by simp) _
  have HEQ := Lib.hid (equal_ints _ x.sa x.sn x.sc x.slots y.sa y.sn y.sc y.slots (hx.below hb0).came (hy.below hb0).came)
  have HB0 := Lib.hid hb0
  have HK : Hid (lmKey x = (x.item, x.after, x.slots, x.regs) ∧ lmKey y = (y.item, y.after, y.slots, y.regs)) := ⟨rfl, rfl⟩
  clear hb0 hx hy
  unfold lmV
  obtain ⟨xi, xf, xa, xn, xc, xs, xr⟩ := x
  obtain ⟨yi, yf, ya, yn, yc, ys, yr⟩ := y
  simp only at HEQ HB0 HK ⊢
  obtain ⟨R, hR⟩ : ∃ R, R = decide (lmKey ⟨xi, xf, xa, xn, xc, xs, xr⟩ = lmKey ⟨yi, yf, ya, yn, yc, ys, yr⟩) := ⟨_, rfl⟩
  rw [← hR]
  rw [HK.out.1, HK.out.2] at hR
  have HR := Lib.hid hR
  clear hR HK
  have hcs : (¬ xi = yi ∧ R = false) ∨ (xi = yi ∧ ¬ xf = yf ∧ R = false) ∨ (xi = yi ∧ xf = yf ∧ ¬ xr = yr ∧ R = false) ∨ (xi = yi ∧ xf = yf ∧ xr = yr ∧ R = decide (xs = ys)) := by
    rw [HR.out]
    by_cases h1 : xi = yi <;> by_cases h2 : xf = yf <;> by_cases h3 : xr = yr <;> by_cases h4 : xs = ys <;> simp [h1, h2, h3, h4]
  rcases hcs with ⟨h1, hr⟩ | ⟨h1, h2, hr⟩ | ⟨h1, h2, h3, hr⟩ | ⟨h1, h2, h3, hr⟩
  · have t1 : (xi == yi) = false := by simp [h1]
    have HE := Lib.hid hr
    clear h1 hr
    go_enter Try.func55, Try.ntmps55
    go_wp2_with fail
    go_ret
    exact ⟨ret_bool HE.out.symm, HB0.out⟩
  · have t1 : (xi == yi) = true := by simp [h1]
    have t2 : (xf == yf) = false := by simp [h2]
    have HE := Lib.hid hr
    clear h1 h2 hr
    go_enter Try.func55, Try.ntmps55
    go_wp2_with fail
    go_ret
    exact ⟨ret_bool HE.out.symm, HB0.out⟩
  · have t1 : (xi == yi) = true := by simp [h1]
    have t2 : (xf == yf) = true := by simp [h2]
    have t3 : (xr == yr) = false := by simp [h3]
    have HE := Lib.hid hr
    clear h1 h2 h3 hr
    go_enter Try.func55, Try.ntmps55
    go_wp2_with fail
    go_ret
    exact ⟨ret_bool HE.out.symm, HB0.out⟩
  · have t1 : (xi == yi) = true := by simp [h1]
    have t2 : (xf == yf) = true := by simp [h2]
    have t3 : (xr == yr) = true := by simp [h3]
    have HE := Lib.hid hr
    clear h1 h2 h3 hr
    go_enter Try.func55, Try.ntmps55
    go_wp2_with fail
    refine HEQ.out.mono ?_
    rintro e w2 ⟨q, rfl, hw2⟩
    rw [hw2]
    clear hw2 w2
    go_wp2_with fail
    go_ret
    exact ⟨ret_bool HE.out.symm, HB0.out.trans (below_drewN_self _ _ _)⟩
end Go.Proofs.Ytkafbihlmhdjeab
