/- The contract of the reference's OpError: it answers what insn's Check answers. -/
import Derived.Test.YtgcbdndfobiphabRefB
import Derived.Test.YtgcbdndfobiphabInsnB
import Derived.Deep.Cut
import Derived.Deep.CutRange
import Derived.Deep.DeepCutAuto
namespace Go.Proofs.Ytgcbdndfobiphab
open Go.RowKit
set_option linter.unusedVariables false

theorem uses_has (k : Nat) (h : k < 25) : hasB (memS k).data.toList 68 = (usesOf k).d ∧ hasB (memS k).data.toList 65 = (usesOf k).a ∧ hasB (memS k).data.toList 66 = (usesOf k).b ∧ hasB (memS k).data.toList 78 = (usesOf k).n := by
  rcases (show k = 0 ∨ k = 1 ∨ k = 2 ∨ k = 3 ∨ k = 4 ∨ k = 5 ∨ k = 6 ∨ k = 7 ∨ k = 8 ∨ k = 9 ∨ k = 10 ∨ k = 11 ∨ k = 12 ∨ k = 13 ∨ k = 14 ∨ k = 15 ∨ k = 16 ∨ k = 17 ∨ k = 18 ∨ k = 19 ∨ k = 20 ∨ k = 21 ∨ k = 22 ∨ k = 23 ∨ k = 24 by omega) with rfl | rfl | rfl | rfl | rfl | rfl | rfl | rfl | rfl | rfl | rfl | rfl | rfl | rfl | rfl | rfl | rfl | rfl | rfl | rfl | rfl | rfl | rfl | rfl | rfl <;> decide

theorem has_as (s : ByteArray) (c : Nat) (w : World) (hs : s.size ≤ 1000) (hc : c < 256) {r : Bool} (hr : hasB s.data.toList c = r) :
    Calls Try.prog 22 #[.string s, .int .u8 (c : Int)] w fun e w' => e = .returned (.bool r) ∧ w = w' := by
  rw [← hr]; exact has_any s c w hs hc

set_option maxRecDepth 100000 in
set_option maxHeartbeats 4000000 in
theorem operr_any (op d a b n : Int) (w : World) : Calls Try.prog 16 #[.agg #[.int .i64 op, .int .i64 d, .int .i64 a, .int .i64 b, .int .i64 n]] w (IntPost (checkE op d a b n) w) := by
  by_cases hr : 0 ≤ op ∧ op ≤ 24
  · obtain ⟨k, rfl⟩ := Int.eq_ofNat_of_zero_le hr.1
    have hk : k < 25 := by omega
    have hcell := mem_cell k hk
    have b0 : (0 : Int) ≤ (k : Int) := hr.1
    have b1 : (k : Int) < 25 := by omega
    have hms := memS_size k hk
    have HCE : Hid (checkE k d a b n = if rangeBad d a b n = true then 4 else if formBad (usesOf k) d a b n = true then 3 else if limBad k n = true then 4 else 0) := by
      unfold Hid checkE; rw [if_neg (by rw [inB_true.2 hr]; simp)]
    have HU := Lib.hid (uses_has k hk)
    clear hr
    go_enter Try.func16, Try.ntmps16
    go_wp2_with fail
    go_loop [26] (fun u => ∃ j : Nat, j ≤ 3 ∧ u = .int .i64 j ∧ (([d, a, b].take j).all fun x => inB x 0 15) = true) (fun u => 3 - (intOf u).toNat)
    case atStart => exact ⟨0, by omega, rfl, rfl⟩
    case round =>
      obtain ⟨j, hj, rfl, hall⟩ := hrel
      have HALL := Lib.hid hall
      clear hall
      by_cases hlt : j < 3
      · have hel : ∃ x, x = [d, a, b][j]'(by simpa using hlt) := ⟨_, rfl⟩
        obtain ⟨x, hx⟩ := hel
        have HT := Lib.hid (List.take_succ_eq_append_getElem (l := [d, a, b]) (i := j) (by simpa using hlt))
        rw [← hx] at HT
        have HBAD : Hid (inB x 0 15 = false → rangeBad d a b n = true) := by
          intro hb
          rw [hx] at hb
          rcases (show j = 0 ∨ j = 1 ∨ j = 2 by omega) with rfl | rfl | rfl <;> simp only [List.getElem_cons_zero, List.getElem_cons_succ] at hb <;> simp [rangeBad, hb]
        have hlj : ([.int .i64 d, .int .i64 a, .int .i64 b] : List Value)[j]'(by simpa using hlt) = .int .i64 x := by
          rcases (show j = 0 ∨ j = 1 ∨ j = 2 by omega) with rfl | rfl | rfl <;> simp [hx]
        clear hx
        by_cases h1 : x < 0
        · have HB : Hid (rangeBad d a b n = true) := HBAD.out (inB_no (by omega))
          go_wp2_with fail
          go_ret
          exact ⟨ret_int (by rw [HCE.out, if_pos HB.out]), ((Below.refl _ _).alloc (Nat.le_refl _) _).alloc (by simp) _⟩
        · by_cases h2 : 15 < x
          · have HB : Hid (rangeBad d a b n = true) := HBAD.out (inB_no (by omega))
            go_wp2_with fail
            go_ret
            exact ⟨ret_int (by rw [HCE.out, if_pos HB.out]), ((Below.refl _ _).alloc (Nat.le_refl _) _).alloc (by simp) _⟩
          · have HOK := Lib.hid (inB_true.2 (show 0 ≤ x ∧ x ≤ 15 by omega))
            go_wp2_with fail
            go_round
            case rel => exact ⟨j + 1, by omega, by go_num, by rw [HT.out, List.all_append, HALL.out]; simp [HOK.out]⟩
            case measure => simp [intOf]; omega
      · have hj3 : j = 3 := by omega
        subst hj3
        have hall := HALL.out
        simp only [List.take_succ_cons, List.take_zero, List.all_cons, List.all_nil, Bool.and_true, Bool.and_eq_true] at hall
        have HRB : Hid (rangeBad d a b n = !inB n (-2147483648) 2147483647) := by unfold Hid rangeBad; rw [hall.1, hall.2.1, hall.2.2]; simp
        clear hall HALL
        by_cases n1 : n < -2147483648
        · have HB : Hid (rangeBad d a b n = true) := by unfold Hid; rw [HRB.out, inB_no (by omega)]; rfl
          go_wp2_with fail
          go_ret
          exact ⟨ret_int (by rw [HCE.out, if_pos HB.out]), ((Below.refl _ _).alloc (Nat.le_refl _) _).alloc (by simp) _⟩
        by_cases n2 : 2147483647 < n
        · have HB : Hid (rangeBad d a b n = true) := by unfold Hid; rw [HRB.out, inB_no (by omega)]; rfl
          go_wp2_with fail
          go_ret
          exact ⟨ret_int (by rw [HCE.out, if_pos HB.out]), ((Below.refl _ _).alloc (Nat.le_refl _) _).alloc (by simp) _⟩
        have HCE2 : Hid (checkE k d a b n = if formBad (usesOf k) d a b n = true then 3 else if limBad k n = true then 4 else 0) := by
          have h1 : rangeBad d a b n = false := by rw [HRB.out, inB_true.2 (by omega)]; rfl
          have := HCE.out
          rw [if_neg (by rw [h1]; simp)] at this
          exact this
        clear HCE HRB
        go_wp2_with fail
        go_cut [5] (fun s wx => s = .string (memS k) ∧ wx = (((w.alloc (.cells #[.int .i64 k, .int .i64 d, .int .i64 a, .int .i64 b, .int .i64 n] 27)).alloc (.cells #[.int .i64 d, .int .i64 a, .int .i64 b] 3)).alloc (.cells memArr 9)).drew)
        case first =>
          go_region_with (first | (go_at_call 23; refine (members_any _).mono ?_; rintro e w' ⟨rfl, rfl⟩))
          all_goals
            go_wp2_with fail
            go_meet
            exact ⟨rfl, rfl⟩
        case rest =>
          obtain ⟨rfl, rfl⟩ := hcut
          clear hcell
          go_wp2_with fail
          go_loop [60] (fun u => ∃ j : Nat, j ≤ 4 ∧ u = .int .i64 j ∧ ([d, a, b, n].zip [(usesOf k).d, (usesOf k).a, (usesOf k).b, (usesOf k).n] |>.take j |>.all fun x => x.2 || x.1 == 0) = true) (fun u => 4 - (intOf u).toNat)
          case atStart => exact ⟨0, by omega, rfl, rfl⟩
          case round =>
            obtain ⟨j, hj, rfl, hall⟩ := hrel
            have HALL := Lib.hid hall
            clear hall
            by_cases hlt : j < 4
            · rcases (show j = 0 ∨ j = 1 ∨ j = 2 ∨ j = 3 by omega) with rfl | rfl | rfl | rfl
              · by_cases hv : d = 0
                · have t1 : (d != 0) = false := by rw [bne_eq_false_iff_eq]; exact hv
                  have HV := Lib.hid hv
                  clear hv
                  go_wp2_with fail
                  go_round
                  case rel => exact ⟨1, by omega, rfl, by have := HALL.out; simp [HV.out] at this ⊢ <;> simp [this]⟩
                  case measure => simp [intOf]
                · have t1 : (d != 0) = true := by rw [bne_iff_ne]; exact hv
                  have HV := Lib.hid hv
                  clear hv
                  have HB := fun w => Lib.hid (has_as _ 68 w hms (by decide) HU.out.1)
                  cases hu : (usesOf k).d
                  · rw [hu] at HB
                    have HF : Hid (formBad (usesOf k) d a b n = true) := by unfold Hid formBad; simp [hu, t1]
                    go_wp2_with (go_at_call 22; refine (HB _).out.mono ?_; rintro e w' ⟨rfl, rfl⟩)
                    go_ret
                    exact ⟨ret_int (by rw [HCE2.out, if_pos HF.out]), (((((Below.refl _ _).alloc (Nat.le_refl _) _).alloc (by simp) _).alloc (by simp; omega) _).alloc (by simp; omega) _).drew⟩
                  · rw [hu] at HB
                    go_wp2_with (go_at_call 22; refine (HB _).out.mono ?_; rintro e w' ⟨rfl, rfl⟩)
                    go_round
                    case rel => exact ⟨1, by omega, rfl, by have := HALL.out; simp [hu] at this ⊢ <;> simp [this]⟩
                    case measure => simp [intOf]
              · by_cases hv : a = 0
                · have t1 : (a != 0) = false := by rw [bne_eq_false_iff_eq]; exact hv
                  have HV := Lib.hid hv
                  clear hv
                  go_wp2_with fail
                  go_round
                  case rel => exact ⟨2, by omega, rfl, by have := HALL.out; simp [HV.out] at this ⊢ <;> simp [this]⟩
                  case measure => simp [intOf]
                · have t1 : (a != 0) = true := by rw [bne_iff_ne]; exact hv
                  have HV := Lib.hid hv
                  clear hv
                  have HB := fun w => Lib.hid (has_as _ 65 w hms (by decide) HU.out.2.1)
                  cases hu : (usesOf k).a
                  · rw [hu] at HB
                    have HF : Hid (formBad (usesOf k) d a b n = true) := by unfold Hid formBad; simp [hu, t1]
                    go_wp2_with (go_at_call 22; refine (HB _).out.mono ?_; rintro e w' ⟨rfl, rfl⟩)
                    go_ret
                    exact ⟨ret_int (by rw [HCE2.out, if_pos HF.out]), (((((Below.refl _ _).alloc (Nat.le_refl _) _).alloc (by simp) _).alloc (by simp; omega) _).alloc (by simp; omega) _).drew⟩
                  · rw [hu] at HB
                    go_wp2_with (go_at_call 22; refine (HB _).out.mono ?_; rintro e w' ⟨rfl, rfl⟩)
                    go_round
                    case rel => exact ⟨2, by omega, rfl, by have := HALL.out; simp [hu] at this ⊢ <;> simp [this]⟩
                    case measure => simp [intOf]
              · by_cases hv : b = 0
                · have t1 : (b != 0) = false := by rw [bne_eq_false_iff_eq]; exact hv
                  have HV := Lib.hid hv
                  clear hv
                  go_wp2_with fail
                  go_round
                  case rel => exact ⟨3, by omega, rfl, by have := HALL.out; simp [HV.out] at this ⊢ <;> simp [this]⟩
                  case measure => simp [intOf]
                · have t1 : (b != 0) = true := by rw [bne_iff_ne]; exact hv
                  have HV := Lib.hid hv
                  clear hv
                  have HB := fun w => Lib.hid (has_as _ 66 w hms (by decide) HU.out.2.2.1)
                  cases hu : (usesOf k).b
                  · rw [hu] at HB
                    have HF : Hid (formBad (usesOf k) d a b n = true) := by unfold Hid formBad; simp [hu, t1]
                    go_wp2_with (go_at_call 22; refine (HB _).out.mono ?_; rintro e w' ⟨rfl, rfl⟩)
                    go_ret
                    exact ⟨ret_int (by rw [HCE2.out, if_pos HF.out]), (((((Below.refl _ _).alloc (Nat.le_refl _) _).alloc (by simp) _).alloc (by simp; omega) _).alloc (by simp; omega) _).drew⟩
                  · rw [hu] at HB
                    go_wp2_with (go_at_call 22; refine (HB _).out.mono ?_; rintro e w' ⟨rfl, rfl⟩)
                    go_round
                    case rel => exact ⟨3, by omega, rfl, by have := HALL.out; simp [hu] at this ⊢ <;> simp [this]⟩
                    case measure => simp [intOf]
              · by_cases hv : n = 0
                · have t1 : (n != 0) = false := by rw [bne_eq_false_iff_eq]; exact hv
                  have HV := Lib.hid hv
                  clear hv
                  go_wp2_with fail
                  go_round
                  case rel => exact ⟨4, by omega, rfl, by have := HALL.out; simp [HV.out] at this ⊢ <;> simp [this]⟩
                  case measure => simp [intOf]
                · have t1 : (n != 0) = true := by rw [bne_iff_ne]; exact hv
                  have HV := Lib.hid hv
                  clear hv
                  have HB := fun w => Lib.hid (has_as _ 78 w hms (by decide) HU.out.2.2.2)
                  cases hu : (usesOf k).n
                  · rw [hu] at HB
                    have HF : Hid (formBad (usesOf k) d a b n = true) := by unfold Hid formBad; simp [hu, t1]
                    go_wp2_with (go_at_call 22; refine (HB _).out.mono ?_; rintro e w' ⟨rfl, rfl⟩)
                    go_ret
                    exact ⟨ret_int (by rw [HCE2.out, if_pos HF.out]), (((((Below.refl _ _).alloc (Nat.le_refl _) _).alloc (by simp) _).alloc (by simp; omega) _).alloc (by simp; omega) _).drew⟩
                  · rw [hu] at HB
                    go_wp2_with (go_at_call 22; refine (HB _).out.mono ?_; rintro e w' ⟨rfl, rfl⟩)
                    go_round
                    case rel => exact ⟨4, by omega, rfl, by have := HALL.out; simp [hu] at this ⊢ <;> simp [this]⟩
                    case measure => simp [intOf]
            · have hj4 : j = 4 := by omega
              subst hj4
              have HF : Hid (formBad (usesOf k) d a b n = false) := by
                have := HALL.out
                simp only [List.zip_cons_cons, List.zip_nil_right, List.take_succ_cons, List.take_zero, List.all_cons, List.all_nil, Bool.and_true, Bool.and_eq_true] at this
                unfold Hid formBad
                obtain ⟨h1, h2, h3, h4⟩ := this
                simp only [Bool.or_eq_true, beq_iff_eq] at h1 h2 h3 h4
                rcases h1 with h1 | h1 <;> rcases h2 with h2 | h2 <;> rcases h3 with h3 | h3 <;> rcases h4 with h4 | h4 <;> simp [*]
              have HC3 : Hid (checkE k d a b n = if limBad k n = true then 4 else 0) := by
                have := HCE2.out
                rw [if_neg (by rw [HF.out]; simp)] at this
                exact this
              clear HCE2 HF HALL HU
              have hcs : (k : Int) = 9 ∨ (k : Int) = 10 ∨ (k : Int) = 14 ∨ (k : Int) = 24 ∨ ((k : Int) ≠ 9 ∧ (k : Int) ≠ 10 ∧ (k : Int) ≠ 14 ∧ (k : Int) ≠ 24) := by omega
              rcases hcs with h9 | h9 | h9 | h9 | ⟨h9, h10, h14, h24⟩
              · obtain rfl : k = 9 := by omega
                have HC4 : Hid (checkE 9 d a b n = if limBad 9 n = true then 4 else 0) := HC3.out
                clear HC3
                by_cases m1 : n < 0
                · have HL : Hid (limBad 9 n = true) := by unfold Hid limBad; simp [inB_no (show ¬ ((0 : Int) ≤ n ∧ n ≤ 31) by omega)]
                  go_wp2_with fail
                  go_ret
                  exact ⟨ret_int (by rw [HC4.out, if_pos HL.out]), (((((Below.refl _ _).alloc (Nat.le_refl _) _).alloc (by simp) _).alloc (by simp; omega) _).alloc (by simp; omega) _).drew⟩
                by_cases m2 : 31 < n
                · have HL : Hid (limBad 9 n = true) := by unfold Hid limBad; simp [inB_no (show ¬ ((0 : Int) ≤ n ∧ n ≤ 31) by omega)]
                  go_wp2_with fail
                  go_ret
                  exact ⟨ret_int (by rw [HC4.out, if_pos HL.out]), (((((Below.refl _ _).alloc (Nat.le_refl _) _).alloc (by simp) _).alloc (by simp; omega) _).alloc (by simp; omega) _).drew⟩
                · have HL : Hid (limBad 9 n = false) := by unfold Hid limBad; simp [inB_true.2 (show ((0 : Int) ≤ n ∧ n ≤ 31) by omega)]
                  go_wp2_with fail
                  go_ret
                  exact ⟨ret_int (by rw [HC4.out, if_neg (by rw [HL.out]; simp)]), (((((Below.refl _ _).alloc (Nat.le_refl _) _).alloc (by simp) _).alloc (by simp; omega) _).alloc (by simp; omega) _).drew⟩
              · obtain rfl : k = 10 := by omega
                have HC4 : Hid (checkE 10 d a b n = if limBad 10 n = true then 4 else 0) := HC3.out
                clear HC3
                by_cases m1 : n < 0
                · have HL : Hid (limBad 10 n = true) := by unfold Hid limBad; simp [inB_no (show ¬ ((0 : Int) ≤ n ∧ n ≤ 31) by omega)]
                  go_wp2_with fail
                  go_ret
                  exact ⟨ret_int (by rw [HC4.out, if_pos HL.out]), (((((Below.refl _ _).alloc (Nat.le_refl _) _).alloc (by simp) _).alloc (by simp; omega) _).alloc (by simp; omega) _).drew⟩
                by_cases m2 : 31 < n
                · have HL : Hid (limBad 10 n = true) := by unfold Hid limBad; simp [inB_no (show ¬ ((0 : Int) ≤ n ∧ n ≤ 31) by omega)]
                  go_wp2_with fail
                  go_ret
                  exact ⟨ret_int (by rw [HC4.out, if_pos HL.out]), (((((Below.refl _ _).alloc (Nat.le_refl _) _).alloc (by simp) _).alloc (by simp; omega) _).alloc (by simp; omega) _).drew⟩
                · have HL : Hid (limBad 10 n = false) := by unfold Hid limBad; simp [inB_true.2 (show ((0 : Int) ≤ n ∧ n ≤ 31) by omega)]
                  go_wp2_with fail
                  go_ret
                  exact ⟨ret_int (by rw [HC4.out, if_neg (by rw [HL.out]; simp)]), (((((Below.refl _ _).alloc (Nat.le_refl _) _).alloc (by simp) _).alloc (by simp; omega) _).alloc (by simp; omega) _).drew⟩
              · obtain rfl : k = 14 := by omega
                have HC4 : Hid (checkE 14 d a b n = if limBad 14 n = true then 4 else 0) := HC3.out
                clear HC3
                by_cases m1 : n < 0
                · have HL : Hid (limBad 14 n = true) := by unfold Hid limBad; simp [inB_no (show ¬ ((0 : Int) ≤ n ∧ n ≤ 4095) by omega)]
                  go_wp2_with fail
                  go_ret
                  exact ⟨ret_int (by rw [HC4.out, if_pos HL.out]), (((((Below.refl _ _).alloc (Nat.le_refl _) _).alloc (by simp) _).alloc (by simp; omega) _).alloc (by simp; omega) _).drew⟩
                by_cases m2 : 4095 < n
                · have HL : Hid (limBad 14 n = true) := by unfold Hid limBad; simp [inB_no (show ¬ ((0 : Int) ≤ n ∧ n ≤ 4095) by omega)]
                  go_wp2_with fail
                  go_ret
                  exact ⟨ret_int (by rw [HC4.out, if_pos HL.out]), (((((Below.refl _ _).alloc (Nat.le_refl _) _).alloc (by simp) _).alloc (by simp; omega) _).alloc (by simp; omega) _).drew⟩
                · have HL : Hid (limBad 14 n = false) := by unfold Hid limBad; simp [inB_true.2 (show ((0 : Int) ≤ n ∧ n ≤ 4095) by omega)]
                  go_wp2_with fail
                  go_ret
                  exact ⟨ret_int (by rw [HC4.out, if_neg (by rw [HL.out]; simp)]), (((((Below.refl _ _).alloc (Nat.le_refl _) _).alloc (by simp) _).alloc (by simp; omega) _).alloc (by simp; omega) _).drew⟩
              · obtain rfl : k = 24 := by omega
                have HC4 : Hid (checkE 24 d a b n = if limBad 24 n = true then 4 else 0) := HC3.out
                clear HC3
                by_cases m1 : n < 1
                · have HL : Hid (limBad 24 n = true) := by unfold Hid limBad; simp [inB_no (show ¬ ((1 : Int) ≤ n ∧ n ≤ 6) by omega)]
                  go_wp2_with fail
                  go_ret
                  exact ⟨ret_int (by rw [HC4.out, if_pos HL.out]), (((((Below.refl _ _).alloc (Nat.le_refl _) _).alloc (by simp) _).alloc (by simp; omega) _).alloc (by simp; omega) _).drew⟩
                by_cases m2 : 6 < n
                · have HL : Hid (limBad 24 n = true) := by unfold Hid limBad; simp [inB_no (show ¬ ((1 : Int) ≤ n ∧ n ≤ 6) by omega)]
                  go_wp2_with fail
                  go_ret
                  exact ⟨ret_int (by rw [HC4.out, if_pos HL.out]), (((((Below.refl _ _).alloc (Nat.le_refl _) _).alloc (by simp) _).alloc (by simp; omega) _).alloc (by simp; omega) _).drew⟩
                · have HL : Hid (limBad 24 n = false) := by unfold Hid limBad; simp [inB_true.2 (show ((1 : Int) ≤ n ∧ n ≤ 6) by omega)]
                  go_wp2_with fail
                  go_ret
                  exact ⟨ret_int (by rw [HC4.out, if_neg (by rw [HL.out]; simp)]), (((((Below.refl _ _).alloc (Nat.le_refl _) _).alloc (by simp) _).alloc (by simp; omega) _).alloc (by simp; omega) _).drew⟩
              · have g9 : ((k : Int) == 9) = false := beq_eq_false_iff_ne.2 h9
                have g10 : ((k : Int) == 10) = false := beq_eq_false_iff_ne.2 h10
                have g14 : ((k : Int) == 14) = false := beq_eq_false_iff_ne.2 h14
                have g24 : ((k : Int) == 24) = false := beq_eq_false_iff_ne.2 h24
                have HL : Hid (limBad k n = false) := by unfold Hid limBad; simp [g9, g10, g14, g24]
                clear h9 h10 h14 h24
                go_wp2_with fail
                go_ret
                exact ⟨ret_int (by rw [HC3.out, if_neg (by rw [HL.out]; simp)]), (((((Below.refl _ _).alloc (Nat.le_refl _) _).alloc (by simp) _).alloc (by simp; omega) _).alloc (by simp; omega) _).drew⟩
  · have HCE : Hid (checkE op d a b n = 1) := by unfold Hid checkE; rw [if_pos (inB_no hr)]
    by_cases h0 : op < 0
    · clear hr
      go_enter Try.func16, Try.ntmps16
      go_wp2_with fail
      go_ret
      exact ⟨ret_int HCE.out.symm, (Below.refl _ _).alloc (Nat.le_refl _) _⟩
    · have h1 : 24 < op := by omega
      clear hr h0
      go_enter Try.func16, Try.ntmps16
      go_wp2_with fail
      go_ret
      exact ⟨ret_int HCE.out.symm, (Below.refl _ _).alloc (Nat.le_refl _) _⟩
end Go.Proofs.Ytgcbdndfobiphab
