/- When are two functions the same: slices.EqualFunc at maps and references, link's same. -/
import Derived.Test.YtkafbihlmhdjeabLnkEq
import Derived.Test.YtkafbihlmhdjeabEager
import Derived.Test.YtkafbihlmhdjeabMade
import Derived.BigQuiet
import Derived.Deep.QuietTactic
namespace Go.Proofs.Ytkafbihlmhdjeab
open Go.RowKit
set_option linter.unusedVariables false
set_option linter.unusedSimpArgs false

set_option maxRecDepth 100000 in
set_option maxHeartbeats 4000000 in
theorem eqMaps_any (w : World) (a1 : Option Addr) (n1 c1 : Nat) (z1 : List LM) (a2 : Option Addr) (n2 c2 : Nat) (z2 : List LM) (h1 : Came w a1 n1 c1 4 (z1.map lmC)) (h2 : Came w a2 n2 c2 4 (z2.map lmC)) (k1 : ∀ z ∈ z1, z.Ok w) (k2 : ∀ z ∈ z2, z.Ok w) :
    Calls Try.prog 54 #[.slice a1 n1 c1, .slice a2 n2 c2, .func (.func 55) #[] #[]] w (BoolB (decide (z1.map lmKey = z2.map lmKey)) w) := by
  have l1 : z1.length = n1 := by simpa using h1.count
  have l2 : z2.length = n2 := by simpa using h2.count
  have m1 := h1.le
  have m2 := h1.max
  have m3 := h2.le
  have m4 := h2.max
  have L1 := Lib.hid l1
  have L2 := Lib.hid l2
  have K1 := Lib.hid k1
  have K2 := Lib.hid k2
  clear k1 k2
  by_cases hn : n1 = n2
  · subst hn
    have H1 := Lib.hid h1
    have H2 := Lib.hid h2
    clear l1 l2 h1 h2
    go_enter Try.func54, Try.ntmps54
    go_wp2_with fail
    go_loopw [17] (fun v wr => ∃ k : Nat, k ≤ n1 ∧ v = .int .i64 k ∧ (z1.map lmKey).take k = (z2.map lmKey).take k ∧ Below w.heap.size w wr) (fun v _ => n1 - (intOf v).toNat)
    case atStart => exact ⟨0, Nat.zero_le _, rfl, rfl, Below.refl _ _⟩
    case round =>
      obtain ⟨k, hk, rfl, hz, hb⟩ := hrel
      have HZ := Lib.hid hz
      clear hz
      by_cases hlt : k < n1
      · obtain ⟨b1, o1, e1, g1, q1⟩ := came_lms H1.out (by omega)
        obtain ⟨b2, o2, e2, g2, q2⟩ := came_lms H2.out (by omega)
        subst e1
        subst e2
        have t1 : k < z1.length := by have := L1.out; omega
        have t2 : k < z2.length := by have := L2.out; omega
        obtain ⟨p0, p1, p2, p3⟩ := q1 k t1
        obtain ⟨r0, r1, r2, r3⟩ := q2 k t2
        replace p0 := (hb.cell (p := ⟨b1, o1 + k * 4, none⟩) g1).trans p0
        replace p1 := (hb.cell (p := ⟨b1, o1 + k * 4 + 1, none⟩) g1).trans p1
        replace p2 := (hb.cell (p := ⟨b1, o1 + k * 4 + 2, none⟩) g1).trans p2
        replace p3 := (hb.cell (p := ⟨b1, o1 + k * 4 + 3, none⟩) g1).trans p3
        replace r0 := (hb.cell (p := ⟨b2, o2 + k * 4, none⟩) g2).trans r0
        replace r1 := (hb.cell (p := ⟨b2, o2 + k * 4 + 1, none⟩) g2).trans r1
        replace r2 := (hb.cell (p := ⟨b2, o2 + k * 4 + 2, none⟩) g2).trans r2
        replace r3 := (hb.cell (p := ⟨b2, o2 + k * 4 + 3, none⟩) g2).trans r3
        have T1 : Hid ((z1.map lmKey).take (k + 1) = (z1.map lmKey).take k ++ [lmKey z1[k]]) := by show _ = _; rw [take_snoc _ _ (by simpa using t1)]; simp
        have T2 : Hid ((z2.map lmKey).take (k + 1) = (z2.map lmKey).take k ++ [lmKey z2[k]]) := by show _ = _; rw [take_snoc _ _ (by simpa using t2)]; simp
        have TN : Hid (z1.map lmKey = z2.map lmKey → lmKey z1[k] = lmKey z2[k]) := fun h => by
          have h9 := congrArg (fun l => l[k]?) h
          simp only [List.getElem?_map, List.getElem?_eq_getElem t1, List.getElem?_eq_getElem t2, Option.map_some, Option.some.injEq] at h9
          exact h9
        have o1 := (K1.out _ (List.getElem_mem t1)).below hb
        have o2 := (K2.out _ (List.getElem_mem t2)).below hb
        have HB := Lib.hid hb
        have hbs := hb.size
        have g1r := Nat.lt_of_lt_of_le g1 hbs
        have g2r := Nat.lt_of_lt_of_le g2 hbs
        generalize z1[k] = x at p0 p1 p2 p3 T1 TN o1
        generalize z2[k] = y at r0 r1 r2 r3 T2 TN o2
        clear q1 q2 hb
        have O1 := Lib.hid o1
        have O2 := Lib.hid o2
        clear o1 o2
        go_wp2_with fail
        have hb0 : Below wr.heap.size wr ((wr.alloc (.cells #[.int .i64 x.item, .bool x.after, .slice x.sa x.sn x.sc, .int .i64 x.regs] 101)).alloc (.cells #[.int .i64 y.item, .bool y.after, .slice y.sa y.sn y.sc, .int .i64 y.regs] 101)) := ((Below.refl _ _).alloc (Nat.le_refl _) _).alloc (by simp) _
        have hsm := sameMap_any _ x y (O1.out.below hb0) (O2.out.below hb0)
        unfold lmV at hsm
        refine hsm.mono ?_
        rintro e w2 ⟨rfl, hb2⟩
        have HB2 : Hid (Below w.heap.size w w2) := HB.out.trans ((hb0.trans (hb2.mono hb0.size)).mono hbs)
        clear hsm hb0 hb2 p0 p1 p2 p3 r0 r1 r2 r3
        by_cases hxy : lmKey x = lmKey y
        · have t3 : (!decide (lmKey x = lmKey y)) = false := by simp [hxy]
          have t4 : decide (lmKey x = lmKey y) = true := by simp [hxy]
          have HN : Hid ((z1.map lmKey).take (k + 1) = (z2.map lmKey).take (k + 1)) := by show _ = _; rw [T1.out, T2.out, HZ.out, hxy]
          clear hxy
          generalize decide (lmKey x = lmKey y) = d at t3 t4 ⊢
          subst t4
          go_wp2_with fail
          go_roundw
          case rel => exact ⟨k + 1, by omega, by go_num, HN.out, HB2.out⟩
          case measure => simp [intOf]; omega
        · have t4 : decide (lmKey x = lmKey y) = false := by simp [hxy]
          have HNE : Hid (decide (z1.map lmKey = z2.map lmKey) = false) := decide_eq_false fun h => hxy (TN.out h)
          clear hxy
          generalize decide (lmKey x = lmKey y) = d at t4 ⊢
          subst t4
          go_wp2_with fail
          go_ret
          exact ⟨ret_bool HNE.out.symm, HB2.out⟩
      · have HEQ : Hid (decide (z1.map lmKey = z2.map lmKey) = true) := by
          refine decide_eq_true ?_
          have := HZ.out
          rw [List.take_of_length_le (by have := L1.out; simp; omega), List.take_of_length_le (by have := L2.out; simp; omega)] at this
          exact this
        have HB := Lib.hid hb
        clear hb
        go_wp2_with fail
        go_ret
        exact ⟨ret_bool HEQ.out.symm, HB.out⟩
  · have hne : ((n1 : Int) != (n2 : Int)) = true := by rw [bne_iff_ne]; omega
    have HNE : Hid (decide (z1.map lmKey = z2.map lmKey) = false) := decide_eq_false fun h => hn (by rw [← l1, ← l2]; simpa using congrArg List.length h)
    clear l1 l2 h1 h2 hn
    go_enter Try.func54, Try.ntmps54
    go_wp2_with fail
    go_ret
    exact ⟨ret_bool HNE.out.symm, Below.refl _ _⟩
def clsL (c : Nat → Nat) (n : Nat) : List Value := rowL n fun i => .int .i64 ((c i : Nat) : Int)
/-- a row of classes -/
def ClsAt (w : World) (g n : Nat) (c : Nat → Nat) : Prop := Blk w g 3 (clsL c n)
theorem ClsAt.cell {w : World} {g n : Nat} {c : Nat → Nat} (h : ClsAt w g n c) {i : Nat} (hi : i < n) : w.cell? ⟨g, i, none⟩ = some (.int .i64 ((c i : Nat) : Int)) := Blk.row h hi
theorem ClsAt.below {w w' : World} {g n : Nat} {c : Nat → Nat} (h : ClsAt w g n c) (hb : Below w.heap.size w w') : ClsAt w' g n c := Blk.below h hb (Blk.lt h)
def lcV (x : LC) : Value := .agg #[.int .i64 x.item, .int .i64 x.fn]

set_option maxRecDepth 100000 in
set_option maxHeartbeats 4000000 in
theorem sameCall_any (w : World) (p g n : Nat) (c : Nat → Nat) (hp : Blk w p 24 [.slice (some ⟨g, 0, none⟩) n n]) (hg : ClsAt w g n c) (i1 i2 : Int) (f1 f2 : Nat) (h1 : f1 < n) (h2 : f2 < n) :
    Calls Try.prog 57 #[.agg #[.int .i64 i1, .int .i64 (f1 : Int)], .agg #[.int .i64 i2, .int .i64 (f2 : Int)], .pointer (some ⟨p, 0, none⟩)] w (BoolB ((i1 == i2) && (c f1 == c f2)) w) := by
  have hb0 : Below w.heap.size w ((w.alloc (.cells #[.int .i64 i1, .int .i64 (f1 : Int)] 56)).alloc (.cells #[.int .i64 i2, .int .i64 (f2 : Int)] 56)) := ((Below.refl _ _).alloc (Nat.le_refl _) _).alloc (by simp) _
  have hx := (Blk.new w [.int .i64 i1, .int .i64 (f1 : Int)] 56).alloc (.cells #[.int .i64 i2, .int .i64 (f2 : Int)] 56)
  have hy := Blk.new (w.alloc (.cells #[.int .i64 i1, .int .i64 (f1 : Int)] 56)) [.int .i64 i2, .int .i64 (f2 : Int)] 56
  rw [World.size_alloc] at hy
  have c0 := (hp.below hb0 hp.lt).cell 0
  have c1 := (hg.below hb0).cell h1
  have c2 := (hg.below hb0).cell h2
  have x0 := hx.cell 0
  have x1 := hx.cell 1
  have y0 := hy.cell 0
  have y1 := hy.cell 1
  simp only [List.getElem?_cons_zero, List.getElem?_cons_succ] at c0 x0 x1 y0 y1
  have l1 := hx.lt
  have l2 := hy.lt
  have l3 := Nat.lt_of_lt_of_le hp.lt hb0.size
  have l4 := Nat.lt_of_lt_of_le (Blk.lt hg) hb0.size
  have HB0 := Lib.hid hb0
  clear hb0 hp hg hx hy
  have h1' : (f1 : Int) < (n : Int) := by omega
  have h2' : (f2 : Int) < (n : Int) := by omega
  generalize c f1 = d1 at c1 ⊢
  generalize c f2 = d2 at c2 ⊢
  obtain ⟨R, hR⟩ : ∃ R, R = ((i1 == i2) && (d1 == d2)) := ⟨_, rfl⟩
  rw [← hR]
  have HR := Lib.hid hR
  clear hR
  have hcs : ((i1 == i2) = false ∧ R = false) ∨ ((i1 == i2) = true ∧ (d1 == d2) = R) := by
    rw [HR.out]; cases h : (i1 == i2) <;> simp
  rcases hcs with ⟨t1, hr⟩ | ⟨t1, hr⟩
  · have HE := Lib.hid hr
    clear hr
    go_enter Try.func57, Try.ntmps57
    go_wp2_with fail
    generalize ((w.alloc (.cells #[.int .i64 i1, .int .i64 (f1 : Int)] 56)).alloc (.cells #[.int .i64 i2, .int .i64 (f2 : Int)] 56)) = w2 at HB0 c0 c1 c2 x0 x1 y0 y1 l1 l2 l3 l4 ⊢
    have q0 := fun z : After w2.heap.size w2.drew => (z.below.cell (p := ⟨p, 0, none⟩) l3).trans c0
    have q1 := fun z : After w2.heap.size w2.drew => (z.below.cell (p := ⟨g, f1, none⟩) l4).trans c1
    have q2 := fun z : After w2.heap.size w2.drew => (z.below.cell (p := ⟨g, f2, none⟩) l4).trans c2
    have q3 := fun z : After w2.heap.size w2.drew => (z.below.cell (p := ⟨w.heap.size, 0, none⟩) l1).trans x0
    have q4 := fun z : After w2.heap.size w2.drew => (z.below.cell (p := ⟨w.heap.size, 1, none⟩) l1).trans x1
    have q5 := fun z : After w2.heap.size w2.drew => (z.below.cell (p := ⟨w.heap.size + 1, 0, none⟩) l2).trans y0
    have q6 := fun z : After w2.heap.size w2.drew => (z.below.cell (p := ⟨w.heap.size + 1, 1, none⟩) l2).trans y1
    refine wp_region_eager w2.heap.size [(0, true), (1, true), (2, true), (3, true), (4, true), (5, true), (6, true), (7, true), (8, true), (9, true), (10, true), (11, true), (12, true), (13, true), (14, true), (15, true), (16, true), (17, true), (18, true)] (by kernel_rfl) (by kernel_rfl) ?_
    repeat (refine eag_read rfl ?_; go_big_quiet_step (fail); refine wpQuiet_nil ?_)
    refine eag_end ?_
    go_wp2_with fail
    go_ret
    exact ⟨ret_bool HE.out.symm, HB0.out.drew⟩
  · have HE := Lib.hid hr
    have t2 : ((d1 : Int) == (d2 : Int)) = R := by rw [← hr]; exact Bool.eq_iff_iff.2 (by simp only [beq_iff_eq]; omega)
    clear hr
    go_enter Try.func57, Try.ntmps57
    go_wp2_with fail
    generalize ((w.alloc (.cells #[.int .i64 i1, .int .i64 (f1 : Int)] 56)).alloc (.cells #[.int .i64 i2, .int .i64 (f2 : Int)] 56)) = w2 at HB0 c0 c1 c2 x0 x1 y0 y1 l1 l2 l3 l4 ⊢
    have q0 := fun z : After w2.heap.size w2.drew => (z.below.cell (p := ⟨p, 0, none⟩) l3).trans c0
    have q1 := fun z : After w2.heap.size w2.drew => (z.below.cell (p := ⟨g, f1, none⟩) l4).trans c1
    have q2 := fun z : After w2.heap.size w2.drew => (z.below.cell (p := ⟨g, f2, none⟩) l4).trans c2
    have q3 := fun z : After w2.heap.size w2.drew => (z.below.cell (p := ⟨w.heap.size, 0, none⟩) l1).trans x0
    have q4 := fun z : After w2.heap.size w2.drew => (z.below.cell (p := ⟨w.heap.size, 1, none⟩) l1).trans x1
    have q5 := fun z : After w2.heap.size w2.drew => (z.below.cell (p := ⟨w.heap.size + 1, 0, none⟩) l2).trans y0
    have q6 := fun z : After w2.heap.size w2.drew => (z.below.cell (p := ⟨w.heap.size + 1, 1, none⟩) l2).trans y1
    refine wp_region_eager w2.heap.size [(0, true), (1, true), (2, true), (3, true), (4, true), (5, true), (6, true), (7, true), (8, true), (9, true), (10, true), (11, true), (12, true), (13, true), (14, true), (15, true), (16, true), (17, true), (18, true)] (by kernel_rfl) (by kernel_rfl) ?_
    repeat (refine eag_read rfl ?_; go_big_quiet_step (fail); refine wpQuiet_nil ?_)
    refine eag_end ?_
    go_wp2_with fail
    go_ret
    exact ⟨rfl, HB0.out.drew⟩
theorem callsEq_len {X : Nat → Nat → Bool} : ∀ a b : List LC, callsEq X a b = true → a.length = b.length
  | [], [], _ => rfl
  | [], _ :: _, h => by simp [callsEq] at h
  | _ :: _, [], h => by simp [callsEq] at h
  | c :: cs, d :: ds, h => by
    simp only [callsEq, Bool.and_eq_true] at h
    simp [callsEq_len cs ds h.2.2]
theorem callsEq_drop {X : Nat → Nat → Bool} (a b : List LC) {k : Nat} (h1 : k < a.length) (h2 : k < b.length) : callsEq X (a.drop k) (b.drop k) = ((a[k].item == b[k].item) && (X a[k].fn.toNat b[k].fn.toNat && callsEq X (a.drop (k + 1)) (b.drop (k + 1)))) := by
  rw [List.drop_eq_getElem_cons h1, List.drop_eq_getElem_cons h2]; rfl

set_option maxRecDepth 100000 in
set_option maxHeartbeats 4000000 in
theorem eqCalls_any (w : World) (p g n : Nat) (c : Nat → Nat) (hp : Blk w p 24 [.slice (some ⟨g, 0, none⟩) n n]) (hg : ClsAt w g n c) (a1 : Option Addr) (n1 c1 : Nat) (z1 : List LC) (a2 : Option Addr) (n2 c2 : Nat) (z2 : List LC) (h1 : Came w a1 n1 c1 2 (z1.map lcC)) (h2 : Came w a2 n2 c2 2 (z2.map lcC)) (k1 : FnsIn n z1) (k2 : FnsIn n z2) :
    Calls Try.prog 56 #[.slice a1 n1 c1, .slice a2 n2 c2, .func (.func 57) #[] #[.pointer (some ⟨p, 0, none⟩)]] w (BoolB (callsEq (kerC c) z1 z2) w) := by
  have l1 : z1.length = n1 := by simpa using h1.count
  have l2 : z2.length = n2 := by simpa using h2.count
  have m1 := h1.le
  have m2 := h1.max
  have m3 := h2.le
  have m4 := h2.max
  have K1 := Lib.hid k1
  have K2 := Lib.hid k2
  have HP := Lib.hid hp
  have HG := Lib.hid hg
  clear k1 k2 hp hg
  obtain ⟨R, hR⟩ : ∃ R, R = callsEq (kerC c) z1 z2 := ⟨_, rfl⟩
  rw [← hR]
  by_cases hn : n1 = n2
  · subst hn
    have H1 := Lib.hid h1
    have H2 := Lib.hid h2
    have HR := Lib.hid hR
    clear h1 h2 hR
    go_enter Try.func56, Try.ntmps56
    go_wp2_with fail
    go_loopw [17] (fun v wr => ∃ k : Nat, k ≤ n1 ∧ v = .int .i64 k ∧ R = callsEq (kerC c) (z1.drop k) (z2.drop k) ∧ Below w.heap.size w wr) (fun v _ => n1 - (intOf v).toNat)
    case atStart => exact ⟨0, Nat.zero_le _, rfl, HR.out, Below.refl _ _⟩
    case round =>
      obtain ⟨k, hk, rfl, hz, hb⟩ := hrel
      by_cases hlt : k < n1
      · obtain ⟨b1, o1, e1, g1, q1⟩ := came_lcs H1.out (by omega)
        obtain ⟨b2, o2, e2, g2, q2⟩ := came_lcs H2.out (by omega)
        subst e1
        subst e2
        have t1 : k < z1.length := by omega
        have t2 : k < z2.length := by omega
        obtain ⟨p0, p1⟩ := q1 k t1
        obtain ⟨r0, r1⟩ := q2 k t2
        replace p0 := (hb.cell (p := ⟨b1, o1 + k * 2, none⟩) g1).trans p0
        replace p1 := (hb.cell (p := ⟨b1, o1 + k * 2 + 1, none⟩) g1).trans p1
        replace r0 := (hb.cell (p := ⟨b2, o2 + k * 2, none⟩) g2).trans r0
        replace r1 := (hb.cell (p := ⟨b2, o2 + k * 2 + 1, none⟩) g2).trans r1
        have f1 := K1.out _ (List.getElem_mem t1)
        have f2 := K2.out _ (List.getElem_mem t2)
        have HB := Lib.hid hb
        have hbs := hb.size
        have g1r := Nat.lt_of_lt_of_le g1 hbs
        have g2r := Nat.lt_of_lt_of_le g2 hbs
        rw [callsEq_drop z1 z2 t1 t2] at hz
        generalize z1[k] = x at p0 p1 hz f1
        generalize z2[k] = y at r0 r1 hz f2
        clear q1 q2 hb
        obtain ⟨x1, x2⟩ := x
        obtain ⟨y1, y2⟩ := y
        simp only at p0 p1 r0 r1 hz f1 f2
        obtain ⟨x2, rfl⟩ := Int.eq_ofNat_of_zero_le f1.1
        obtain ⟨y2, rfl⟩ := Int.eq_ofNat_of_zero_le f2.1
        simp only [Int.toNat_natCast] at hz
        have HZ := Lib.hid hz
        clear hz
        have hx2 : x2 < n := by omega
        have hy2 : y2 < n := by omega
        clear f1 f2
        go_wp2_with fail
        have hb0 : Below wr.heap.size wr ((wr.alloc (.cells #[.int .i64 x1, .int .i64 (x2 : Int)] 56)).alloc (.cells #[.int .i64 y1, .int .i64 (y2 : Int)] 56)) := ((Below.refl _ _).alloc (Nat.le_refl _) _).alloc (by simp) _
        have hbw := HB.out.trans (hb0.mono hbs)
        have hsm := sameCall_any _ p g n c (HP.out.below hbw HP.out.lt) (HG.out.below hbw) x1 y1 x2 y2 hx2 hy2
        refine hsm.mono ?_
        rintro e w2 ⟨rfl, hb2⟩
        have HB2 : Hid (Below w.heap.size w w2) := HB.out.trans ((hb0.trans (hb2.mono hb0.size)).mono hbs)
        have HZ2 : Hid (R = (((x1 == y1) && (c x2 == c y2)) && callsEq (kerC c) (z1.drop (k + 1)) (z2.drop (k + 1)))) := by
          show _ = _
          rw [HZ.out]
          unfold kerC
          rw [Bool.and_assoc]
        clear hsm hb0 hb2 hbw p0 p1 r0 r1 HZ
        generalize ((x1 == y1) && (c x2 == c y2)) = d at HZ2 ⊢
        cases d
        · have HNE : Hid (R = false) := HZ2.out
          go_wp2_with fail
          go_ret
          exact ⟨ret_bool HNE.out.symm, HB2.out⟩
        · have HN : Hid (R = callsEq (kerC c) (z1.drop (k + 1)) (z2.drop (k + 1))) := HZ2.out
          go_wp2_with fail
          go_roundw
          case rel => exact ⟨k + 1, by omega, by go_num, HN.out, HB2.out⟩
          case measure => simp [intOf]; omega
      · have HEQ : Hid (R = true) := by
          show _ = _
          rw [hz, List.drop_of_length_le (by omega), List.drop_of_length_le (by omega)]
          rfl
        have HB := Lib.hid hb
        clear hb hz
        go_wp2_with fail
        go_ret
        exact ⟨ret_bool HEQ.out.symm, HB.out⟩
  · have hne : ((n1 : Int) != (n2 : Int)) = true := by rw [bne_iff_ne]; omega
    have HNE : Hid (R = false) := by
      show _ = _
      rw [hR, ← Bool.not_eq_true]
      exact fun h => hn (by rw [← l1, ← l2]; exact callsEq_len _ _ h)
    clear l1 l2 h1 h2 hn hR
    go_enter Try.func56, Try.ntmps56
    go_wp2_with fail
    go_ret
    exact ⟨ret_bool HNE.out.symm, Below.refl _ _⟩
end Go.Proofs.Ytkafbihlmhdjeab
