/- The reference's Math, Get and Set. -/
import Derived.Test.YtnfgjcdiophphabPlainMath
import Derived.LoopTactic
namespace Go.Proofs.Ytnfgjcdiophphab
open Go.RowKit
set_option linter.unusedVariables false
set_option linter.unusedSimpArgs false

def S32 (x : Int) : Prop := -2147483648 ≤ x ∧ x ≤ 2147483647

theorem mul_bd {a b : Int} (ha : S32 a) (hb : S32 b) : -4611686018427387904 ≤ a * b ∧ a * b ≤ 4611686018427387904 := by
  unfold S32 at ha hb
  have h1 : a.natAbs ≤ 2147483648 := by omega
  have h2 : b.natAbs ≤ 2147483648 := by omega
  have h3 : (a * b).natAbs ≤ 2147483648 * 2147483648 := by rw [Int.natAbs_mul]; exact Nat.mul_le_mul h1 h2
  omega
theorem quo_bd {a b : Int} (ha : S32 a) : -2147483648 ≤ a.tdiv b ∧ a.tdiv b ≤ 2147483648 := by
  unfold S32 at ha
  have h1 : (a.tdiv b).natAbs ≤ a.natAbs := by rw [Int.natAbs_tdiv]; exact Nat.div_le_self _ _
  omega
theorem quo_mul_bd {a b : Int} (ha : S32 a) : -2147483648 ≤ a.tdiv b * b ∧ a.tdiv b * b ≤ 2147483648 := by
  unfold S32 at ha
  have h1 : (a.tdiv b * b).natAbs ≤ a.natAbs := by rw [Int.natAbs_mul, Int.natAbs_tdiv]; exact Nat.div_mul_le_self _ _
  omega
def mathR (op a b n : Int) : Value := match mathF op a b n with | some v => .tuple #[.int .i64 v, .bool true] | none => .tuple #[.int .i64 0, .bool false]
set_option maxRecDepth 100000 in
set_option maxHeartbeats 4000000 in
theorem math_any (op a b n : Int) (w : World) (h : 1 ≤ op ∧ op ≤ 11) (ha : S32 a) (hb : S32 b) (hn : S32 n) :
    Calls Try.prog 76 #[.int .i64 op, .int .i64 a, .int .i64 b, .int .i64 n] w fun e w' => e = .returned (mathR op a b n) ∧ w' = w := by
  have HSM := fun x w => Lib.hid (small_any x w)
  obtain ⟨a1, a2⟩ := ha
  obtain ⟨b1, b2⟩ := hb
  obtain ⟨n1, n2⟩ := hn
  have hs : op = 1 ∨ op = 2 ∨ op = 6 ∨ op = 7 ∨ op = 8 ∨ op = 11 ∨ op = 3 ∨ op = 4 ∨ op = 5 ∨ op = 9 ∨ op = 10 := by omega
  rcases hs with rfl | rfl | rfl | rfl | rfl | rfl | hs
  · go_enter Try.func76, Try.ntmps76
    go_wp2_with fail
    refine (HSM _ _).out.mono ?_
    rintro e w' ⟨rfl, rfl⟩
    go_wp2
    go_ret2
    exact ⟨rfl, rfl⟩
  · go_enter Try.func76, Try.ntmps76
    go_wp2_with fail
    refine (HSM _ _).out.mono ?_
    rintro e w' ⟨rfl, rfl⟩
    go_wp2
    go_ret2
    exact ⟨rfl, rfl⟩
  · by_cases h1 : a < b
    · have d1 : decide (a < b) = true := decide_eq_true h1
      have hr : mathR 6 a b n = .tuple #[.int .i64 1, .bool true] := by unfold mathR mathF; simp [h1]
      rw [hr]
      clear hr
      go_enter Try.func76, Try.ntmps76
      go_wp2
      go_ret2
      exact ⟨rfl, rfl⟩
    · have d1 : decide (a < b) = false := decide_eq_false h1
      have hr : mathR 6 a b n = .tuple #[.int .i64 0, .bool true] := by unfold mathR mathF; simp [h1]
      rw [hr]
      clear hr
      go_enter Try.func76, Try.ntmps76
      go_wp2
      go_ret2
      exact ⟨rfl, rfl⟩
  · by_cases h1 : a = b
    · have d1 : (a == b) = true := by simp [h1]
      have hr : mathR 7 a b n = .tuple #[.int .i64 1, .bool true] := by unfold mathR mathF; simp [h1]
      rw [hr]
      have H1 := Lib.hid h1
      clear hr h1
      go_enter Try.func76, Try.ntmps76
      go_wp2
      go_ret2
      exact ⟨rfl, rfl⟩
    · have d1 : (a == b) = false := by simp [h1]
      have hr : mathR 7 a b n = .tuple #[.int .i64 0, .bool true] := by unfold mathR mathF; simp [h1]
      rw [hr]
      clear hr h1
      go_enter Try.func76, Try.ntmps76
      go_wp2
      go_ret2
      exact ⟨rfl, rfl⟩
  · go_enter Try.func76, Try.ntmps76
    go_wp2_with fail
    refine (HSM _ _).out.mono ?_
    rintro e w' ⟨rfl, rfl⟩
    go_wp2
    go_ret2
    exact ⟨rfl, rfl⟩
  · go_enter Try.func76, Try.ntmps76
    go_wp2
    go_ret2
    exact ⟨rfl, rfl⟩
  · rcases hs with rfl | rfl | rfl | rfl | rfl
    · have hm := mul_bd ⟨a1, a2⟩ ⟨b1, b2⟩
      have hr : mathR 3 a b n = .tuple #[.int .i64 (wrap32 (a * b)), .bool true] := rfl
      rw [hr]
      clear hr
      go_enter Try.func76, Try.ntmps76
      go_wp2_with fail
      refine (HSM _ _).out.mono ?_
      rintro e w' ⟨rfl, rfl⟩
      go_wp2
      go_ret2
      exact ⟨rfl, rfl⟩
    · by_cases h0 : b = 0
      · have hr : mathR 4 a b n = .tuple #[.int .i64 0, .bool false] := by unfold mathR mathF; simp [h0]
        have d1 : (b == 0) = true := by simp [h0]
        rw [hr]
        clear hr h0
        go_enter Try.func76, Try.ntmps76
        go_wp2
        go_ret2
        exact ⟨rfl, rfl⟩
      · have hr : mathR 4 a b n = .tuple #[.int .i64 (wrap32 (a.tdiv b)), .bool true] := by unfold mathR mathF; simp [h0]
        have d1 : (b == 0) = false := by simp [h0]
        have hq := quo_bd (b := b) ⟨a1, a2⟩
        rw [hr]
        clear hr
        go_enter Try.func76, Try.ntmps76
        go_wp2_with fail
        refine (HSM _ _).out.mono ?_
        rintro e w' ⟨rfl, rfl⟩
        go_wp2
        go_ret2
        exact ⟨rfl, rfl⟩
    · by_cases h0 : b = 0
      · have hr : mathR 5 a b n = .tuple #[.int .i64 0, .bool false] := by unfold mathR mathF; simp [h0]
        have d1 : (b == 0) = true := by simp [h0]
        rw [hr]
        clear hr h0
        go_enter Try.func76, Try.ntmps76
        go_wp2
        go_ret2
        exact ⟨rfl, rfl⟩
      · have hr : mathR 5 a b n = .tuple #[.int .i64 (wrap32 (a - a.tdiv b * b)), .bool true] := by unfold mathR mathF; simp [h0]
        have d1 : (b == 0) = false := by simp [h0]
        have hq := quo_bd (b := b) ⟨a1, a2⟩
        have hm := quo_mul_bd (b := b) ⟨a1, a2⟩
        rw [hr]
        clear hr
        go_enter Try.func76, Try.ntmps76
        go_wp2_with fail
        refine (HSM _ _).out.mono ?_
        rintro e w' ⟨rfl, rfl⟩
        go_wp2
        go_ret2
        exact ⟨rfl, rfl⟩
    · have HR : Hid (mathR 9 a b n = .tuple #[.int .i64 (shlN n.toNat a), .bool true]) := rfl
      go_enter Try.func76, Try.ntmps76
      go_wp2_with fail
      go_loop [1, 67] (fun x u => ∃ (j : Nat) (y : Int), u = .int .i64 (j : Int) ∧ x = .int .i64 y ∧ S32 y ∧ j ≤ n.toNat ∧ shlN n.toNat a = shlN (n.toNat - j) y) (fun _ u => n.toNat - (intOf u).toNat)
      case atStart => exact ⟨0, a, rfl, rfl, ⟨a1, a2⟩, Nat.zero_le _, by simp⟩
      case round =>
        obtain ⟨j, y, rfl, rfl, ⟨y1, y2⟩, hj, hs⟩ := hrel
        have HS := Lib.hid hs
        clear hs
        by_cases hlt : j < n.toNat
        · have hltI : (j : Int) < n := by omega
          go_wp2_with fail
          refine (HSM _ _).out.mono ?_
          rintro e w' ⟨rfl, rfl⟩
          go_wp2_with fail
          go_round
          case rel =>
            refine ⟨j + 1, wrap32 (y + y), by go_num, rfl, wrap32_bd _, hlt, ?_⟩
            rw [HS.out, show n.toNat - j = (n.toNat - (j + 1)) + 1 by omega]
            rfl
          case measure => simp [intOf]; omega
        · have hltI : ¬ (j : Int) < n := by omega
          have ej : n.toNat - j = 0 := by omega
          have hv : shlN n.toNat a = y := by rw [HS.out, ej]; rfl
          have HV := Lib.hid (HR.out.trans (by rw [hv]))
          clear hv HS HR ej
          go_wp2_with fail
          go_ret2
          exact ⟨by rw [HV.out]; rfl, rfl⟩
    · have HR : Hid (mathR 10 a b n = .tuple #[.int .i64 (sarN n.toNat a), .bool true]) := rfl
      have HMO := fun x w => Lib.hid (modulo_any x 2 w (by omega) (by omega))
      go_enter Try.func76, Try.ntmps76
      go_wp2_with fail
      go_loop [1, 78] (fun x u => ∃ (j : Nat) (y : Int), u = .int .i64 (j : Int) ∧ x = .int .i64 y ∧ S32 y ∧ j ≤ n.toNat ∧ sarN n.toNat a = sarN (n.toNat - j) y) (fun _ u => n.toNat - (intOf u).toNat)
      case atStart => exact ⟨0, a, rfl, rfl, ⟨a1, a2⟩, Nat.zero_le _, by simp⟩
      case round =>
        obtain ⟨j, y, rfl, rfl, ⟨y1, y2⟩, hj, hs⟩ := hrel
        have HS := Lib.hid hs
        clear hs
        by_cases hlt : j < n.toNat
        · have hltI : (j : Int) < n := by omega
          obtain ⟨z, hz⟩ : ∃ z, z = y % 2 := ⟨_, rfl⟩
          have hzb : 0 ≤ z ∧ z < 2 := by rw [hz]; exact ⟨Int.emod_nonneg _ (by omega), Int.emod_lt_of_pos _ (by omega)⟩
          have hdv : (y - z).tdiv 2 = (y - y % 2) / 2 := by
            rw [hz]
            rcases Int.le_total 0 (y - y % 2) with h | h
            · exact Int.tdiv_eq_ediv_of_nonneg h
            · have hd : (2 : Int) ∣ (y - y % 2) := ⟨y / 2, by omega⟩
              exact Int.tdiv_eq_ediv_of_dvd hd
          have hbd : -2147483648 ≤ (y - y % 2) / 2 ∧ (y - y % 2) / 2 ≤ 2147483647 := by omega
          have HM2 := HMO y
          rw [← hz] at HM2
          have HDV := Lib.hid hdv
          have hqb : -2147483648 ≤ (y - z).tdiv 2 ∧ (y - z).tdiv 2 ≤ 2147483647 := by rw [hdv]; exact hbd
          have HBD := Lib.hid hbd
          clear hz hdv hbd
          go_wp2_with fail
          refine (HM2 _).out.mono ?_
          rintro e w' ⟨rfl, rfl⟩
          go_wp2_with fail
          go_round
          case rel =>
            refine ⟨j + 1, (y - y % 2) / 2, by go_num, by rw [HDV.out], HBD.out, hlt, ?_⟩
            rw [HS.out, show n.toNat - j = (n.toNat - (j + 1)) + 1 by omega]
            rfl
          case measure => simp [intOf]; omega
        · have hltI : ¬ (j : Int) < n := by omega
          have ej : n.toNat - j = 0 := by omega
          have hv : sarN n.toNat a = y := by rw [HS.out, ej]; rfl
          have HV := Lib.hid (HR.out.trans (by rw [hv]))
          clear hv HS HR ej
          go_wp2_with fail
          go_ret2
          exact ⟨by rw [HV.out]; rfl, rfl⟩

theorem tmod2 (x : Int) : Int.tmod x 2 = 0 ↔ x % 2 = 0 := by
  rw [← Int.dvd_iff_tmod_eq_zero, Int.dvd_iff_emod_eq_zero]
/-- the reference's memory: Words is a row of its own -/
structure MemAt (w : World) (q gm : Nat) (m : List Int) : Prop where
  q : Blk w q 99 [.slice (some ⟨gm, 0, none⟩) m.length m.length, .int .i64 0]
  g : Blk w gm 3 (m.map (Value.int .i64))
theorem MemAt.cell {w : World} {q gm : Nat} {m : List Int} (h : MemAt w q gm m) {i : Nat} (hi : i < m.length) : w.cell? ⟨gm, i, none⟩ = some (.int .i64 m[i]) := by
  rw [h.g.cell, List.getElem?_map, List.getElem?_eq_getElem hi]
  rfl
theorem MemAt.below {w w' : World} {q gm : Nat} {m : List Int} (h : MemAt w q gm m) (hb : Below w.heap.size w w') : MemAt w' q gm m := ⟨h.q.below hb h.q.lt, h.g.below hb h.g.lt⟩
theorem MemAt.set {w : World} {q gm : Nat} {m : List Int} (h : MemAt w q gm m) (hne : q ≠ gm) (i : Nat) (v : Int) : MemAt (w.setCell ⟨gm, i, none⟩ (.int .i64 v)) q gm (m.set i v) := by
  refine ⟨?_, ?_⟩
  · rw [List.length_set]
    exact h.q.setOther (a := ⟨gm, i, none⟩) hne _
  · rw [List.map_set]
    exact h.g.set i (.int .i64 v)
def getR (m : List Int) (x : Int) : Value := match getM m x with | some v => .tuple #[.int .i64 v, .bool true] | none => .tuple #[.int .i64 0, .bool false]

set_option maxHeartbeats 2000000 in
theorem memGet_any (w : World) (q gm : Nat) (m : List Int) (x : Int) (h : MemAt w q gm m) (hm : m.length ≤ 1000000) (hx : -8589934592 ≤ x ∧ x ≤ 8589934592) :
    Calls Try.prog 74 #[.pointer (some ⟨q, 0, none⟩), .int .i64 x] w fun e w' => e = .returned (getR m x) ∧ w' = w := by
  have q0 := h.q.cell 0
  simp only [List.getElem?_cons_zero] at q0
  by_cases h1 : x % 2 = 0
  · have ht : Int.tmod x 2 = 0 := (tmod2 x).2 h1
    by_cases h2 : 2 ≤ x
    · have d2 : decide (x < 2) = false := decide_eq_false (by omega)
      have hq : x.tdiv 2 = x / 2 := Int.tdiv_eq_ediv_of_nonneg (by omega)
      by_cases h3 : x / 2 < (m.length : Int)
      · obtain ⟨i, hi⟩ : ∃ i : Nat, x / 2 = (i : Int) := ⟨(x / 2).toNat, by omega⟩
        have hib : i ≤ 4294967296 := by omega
        have hil : i < m.length := by omega
        have cl := h.cell hil
        have hr : getR m x = .tuple #[.int .i64 m[i], .bool true] := by
          unfold getR getM
          rw [if_pos ⟨h1, h2, h3⟩, hi]
          simp [List.getD_eq_getElem?_getD, List.getElem?_eq_getElem hil]
        have d3 : decide ((m.length : Int) ≤ (i : Int)) = false := decide_eq_false (by omega)
        have d3' : decide (m.length ≤ i) = false := decide_eq_false (by omega)
        obtain ⟨z, hz⟩ : ∃ z, z = m[i] := ⟨_, rfl⟩
        rw [← hz] at cl hr
        rw [hr]
        rw [hi] at hq
        clear hr hz h3 h1 hi h
        go_enter Try.func74, Try.ntmps74
        go_wp2
        go_ret2
        exact ⟨rfl, rfl⟩
      · have hr : getR m x = .tuple #[.int .i64 0, .bool false] := by
          unfold getR getM
          rw [if_neg (fun e => h3 e.2.2)]
        obtain ⟨i, hi⟩ : ∃ i : Nat, x / 2 = (i : Int) := ⟨(x / 2).toNat, by omega⟩
        have hib : i ≤ 4294967296 := by omega
        have d3 : decide ((m.length : Int) ≤ (i : Int)) = true := decide_eq_true (by omega)
        have d3' : decide (m.length ≤ i) = true := decide_eq_true (by omega)
        rw [hr]
        rw [hi] at hq
        clear hr h3 h1 hi h
        go_enter Try.func74, Try.ntmps74
        go_wp2
        go_ret2
        exact ⟨rfl, rfl⟩
    · have hr : getR m x = .tuple #[.int .i64 0, .bool false] := by
        unfold getR getM
        rw [if_neg (fun e => h2 e.2.1)]
      have d2 : decide (x < 2) = true := decide_eq_true (by omega)
      rw [hr]
      clear hr h1 h
      go_enter Try.func74, Try.ntmps74
      go_wp2
      go_ret2
      exact ⟨rfl, rfl⟩
  · have hr : getR m x = .tuple #[.int .i64 0, .bool false] := by
      unfold getR getM
      rw [if_neg (fun e => h1 e.1)]
    have ht : (Int.tmod x 2 != 0) = true := by
      rw [bne_iff_ne]
      intro e
      exact h1 ((tmod2 x).1 e)
    rw [hr]
    clear hr h1 h
    go_enter Try.func74, Try.ntmps74
    go_wp2
    go_ret2
    exact ⟨rfl, rfl⟩
end Go.Proofs.Ytnfgjcdiophphab
