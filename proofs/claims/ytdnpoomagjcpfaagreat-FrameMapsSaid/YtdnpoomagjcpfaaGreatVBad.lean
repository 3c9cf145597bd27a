/- tile's badIns: the error of an instruction in virtual code (printed by wip/vbad.py). -/
import Derived.Test.YtdnpoomagjcpfaaGreatVBase
import Derived.Deep.Cut
import Derived.Deep.CutRange
import Derived.Deep.DeepCutAuto
namespace Go.Proofs.YtdnpoomagjcpfaaGreat
open Go.RowKit
set_option linter.unusedVariables false
set_option linter.unusedSimpArgs false

set_option maxRecDepth 100000 in
set_option maxHeartbeats 8000000 in
theorem badIns_any (x : VI) (regs : Int) (w : World) (hx : x.Ok w) (hr : 1 ≤ regs ∧ regs ≤ 8192) : Calls Tryz.prog 38 #[viV x, .int .i64 regs] w (IntPost (badI x regs) w) := by
 have HX := Lib.hid hx
 have hreach := hx.reach
 have hsl := hx.len
 clear hx
 by_cases his : shIs x.op = true
 ·have HBI : Hid (badI x regs = if formV (shV x.op) x = true then 3 else if limV x = true then 4 else if namesV regs (x.d :: x.a :: x.b :: x.args) = false then 6 else 0) := by
   unfold Hid badI; rw [if_neg (by simp [his])]
  have HS := fun w => shape_any x.op w
  have hsh := sh_shapes his
  obtain ⟨u, hu⟩ : ∃ u, u = shV x.op := ⟨_, rfl⟩
  rw [show ShPost x.op = fun w e w' => e = .returned (.tuple #[.agg #[.bool (shV x.op).d, .bool (shV x.op).a, .bool (shV x.op).b, .bool (shV x.op).n, .bool (shV x.op).l], .bool true]) ∧ w' = w.alloc (.cells #[.bool (shV x.op).d, .bool (shV x.op).a, .bool (shV x.op).b, .bool (shV x.op).n, .bool (shV x.op).l] 129) from by funext w e w'; unfold ShPost Sh.cells; rw [his]] at HS
  rw [← hu] at HS HBI hsh
  have HU := Lib.hid hu
  have HSH := Lib.hid hsh
  clear hu hsh his
  unfold viV
  go_enter Tryz.func38, Tryz.ntmps38
  go_upto_region 4 with (go_at_call 72; refine (HS _).mono ?_; rintro e w' ⟨rfl, rfl⟩)
  clear HS
  have hb1 : Below w.heap.size w (((w.alloc (.cells #[.int .i64 x.op, .int .i64 x.d, .int .i64 x.a, .int .i64 x.b, .int .i64 x.n, .slice x.sa x.sn x.sc] 48)).alloc (.cells #[.bool u.d, .bool u.a, .bool u.b, .bool u.n, .bool u.l] 129)).alloc (.cells #[.bool u.d, .bool u.a, .bool u.b, .bool u.n, .bool u.l] 129)) :=
   (((Below.refl _ w).alloc (Nat.le_refl _) _).alloc (by simp) _).alloc (by simp; omega) _
  go_cut [65] from 10 (fun s wx => s = .bool (formV u x) ∧ wx = (((w.alloc (.cells #[.int .i64 x.op, .int .i64 x.d, .int .i64 x.a, .int .i64 x.b, .int .i64 x.n, .slice x.sa x.sn x.sc] 48)).alloc (.cells #[.bool u.d, .bool u.a, .bool u.b, .bool u.n, .bool u.l] 129)).alloc (.cells #[.bool u.d, .bool u.a, .bool u.b, .bool u.n, .bool u.l] 129)))
  case first =>
   --BEGIN
   as_aux_lemma =>
    have hsh := HSH.out
    clear HSH HU HX
    have di : ∀ k : Int, (k != 0) = true ∨ (k != 0) = false := fun k => by cases (k != 0) <;> simp
    have Hd := Lib.hid (di x.d)
    have Ha := Lib.hid (di x.a)
    have Hb := Lib.hid (di x.b)
    have Hn := Lib.hid (di x.n)
    have Hl : Hid (decide (0 < (x.sn : Int)) = true ∨ decide (0 < (x.sn : Int)) = false) := by show _ ∨ _; cases decide (0 < (x.sn : Int)) <;> simp
    clear di HBI
    rcases hsh with rfl | rfl | rfl | rfl | rfl | rfl | rfl | rfl | rfl
    ·clear Hd Ha Hb
     rcases Hn.out with hn | hn
     ·clear Hn Hl
      go_wp2_with fail
      go_meet
      exact ⟨by simp [formV, *], rfl⟩
     ·clear Hn
      rcases Hl.out with hl | hl
      ·clear Hl
       go_wp2_with fail
       go_meet
       exact ⟨by simp [formV, *], rfl⟩
      ·clear Hl
       go_wp2_with fail
       go_meet
       exact ⟨by simp [formV, *], rfl⟩
    ·clear Hd Ha Hn
     rcases Hb.out with hb | hb
     ·clear Hb Hl
      go_wp2_with fail
      go_meet
      exact ⟨by simp [formV, *], rfl⟩
     ·clear Hb
      rcases Hl.out with hl | hl
      ·clear Hl
       go_wp2_with fail
       go_meet
       exact ⟨by simp [formV, *], rfl⟩
      ·clear Hl
       go_wp2_with fail
       go_meet
       exact ⟨by simp [formV, *], rfl⟩
    ·clear Hd Hn
     rcases Ha.out with ha | ha
     ·clear Ha Hb Hl
      go_wp2_with fail
      go_meet
      exact ⟨by simp [formV, *], rfl⟩
     ·clear Ha
      rcases Hb.out with hb | hb
      ·clear Hb Hl
       go_wp2_with fail
       go_meet
       exact ⟨by simp [formV, *], rfl⟩
      ·clear Hb
       rcases Hl.out with hl | hl
       ·clear Hl
        go_wp2_with fail
        go_meet
        exact ⟨by simp [formV, *], rfl⟩
       ·clear Hl
        go_wp2_with fail
        go_meet
        exact ⟨by simp [formV, *], rfl⟩
    ·clear Ha Hb Hn
     rcases Hd.out with hd | hd
     ·clear Hd Hl
      go_wp2_with fail
      go_meet
      exact ⟨by simp [formV, *], rfl⟩
     ·clear Hd
      rcases Hl.out with hl | hl
      ·clear Hl
       go_wp2_with fail
       go_meet
       exact ⟨by simp [formV, *], rfl⟩
      ·clear Hl
       go_wp2_with fail
       go_meet
       exact ⟨by simp [formV, *], rfl⟩
    ·clear Hd Hb Hn
     rcases Ha.out with ha | ha
     ·clear Ha Hl
      go_wp2_with fail
      go_meet
      exact ⟨by simp [formV, *], rfl⟩
     ·clear Ha
      rcases Hl.out with hl | hl
      ·clear Hl
       go_wp2_with fail
       go_meet
       exact ⟨by simp [formV, *], rfl⟩
      ·clear Hl
       go_wp2_with fail
       go_meet
       exact ⟨by simp [formV, *], rfl⟩
    ·clear Ha
     rcases Hd.out with hd | hd
     ·clear Hd Hb Hn Hl
      go_wp2_with fail
      go_meet
      exact ⟨by simp [formV, *], rfl⟩
     ·clear Hd
      rcases Hb.out with hb | hb
      ·clear Hb Hn Hl
       go_wp2_with fail
       go_meet
       exact ⟨by simp [formV, *], rfl⟩
      ·clear Hb
       rcases Hn.out with hn | hn
       ·clear Hn Hl
        go_wp2_with fail
        go_meet
        exact ⟨by simp [formV, *], rfl⟩
       ·clear Hn
        rcases Hl.out with hl | hl
        ·clear Hl
         go_wp2_with fail
         go_meet
         exact ⟨by simp [formV, *], rfl⟩
        ·clear Hl
         go_wp2_with fail
         go_meet
         exact ⟨by simp [formV, *], rfl⟩
    ·clear Hd Ha
     rcases Hb.out with hb | hb
     ·clear Hb Hn Hl
      go_wp2_with fail
      go_meet
      exact ⟨by simp [formV, *], rfl⟩
     ·clear Hb
      rcases Hn.out with hn | hn
      ·clear Hn Hl
       go_wp2_with fail
       go_meet
       exact ⟨by simp [formV, *], rfl⟩
      ·clear Hn
       rcases Hl.out with hl | hl
       ·clear Hl
        go_wp2_with fail
        go_meet
        exact ⟨by simp [formV, *], rfl⟩
       ·clear Hl
        go_wp2_with fail
        go_meet
        exact ⟨by simp [formV, *], rfl⟩
    ·clear Hd Hn Hl
     rcases Ha.out with ha | ha
     ·clear Ha Hb
      go_wp2_with fail
      go_meet
      exact ⟨by simp [formV, *], rfl⟩
     ·clear Ha
      rcases Hb.out with hb | hb
      ·clear Hb
       go_wp2_with fail
       go_meet
       exact ⟨by simp [formV, *], rfl⟩
      ·clear Hb
       go_wp2_with fail
       go_meet
       exact ⟨by simp [formV, *], rfl⟩
    ·clear Hd Ha Hl
     rcases Hb.out with hb | hb
     ·clear Hb Hn
      go_wp2_with fail
      go_meet
      exact ⟨by simp [formV, *], rfl⟩
     ·clear Hb
      rcases Hn.out with hn | hn
      ·clear Hn
       go_wp2_with fail
       go_meet
       exact ⟨by simp [formV, *], rfl⟩
      ·clear Hn
       go_wp2_with fail
       go_meet
       exact ⟨by simp [formV, *], rfl⟩
   --END
  case rest =>
   obtain ⟨rfl, rfl⟩ := hcut
   have HB1 := Lib.hid hb1
   clear hb1
   cases hf : formV u x
   ·have HBI2 : Hid (badI x regs = if limV x = true then 4 else if namesV regs (x.d :: x.a :: x.b :: x.args) = false then 6 else 0) := by
     rw [hf] at HBI
     exact HBI.out
    clear HBI hf HSH HU
    go_upto_region 6 with fail
    go_cut [118] from 66 (fun s wx => s = .bool (limV x) ∧ wx = (((w.alloc (.cells #[.int .i64 x.op, .int .i64 x.d, .int .i64 x.a, .int .i64 x.b, .int .i64 x.n, .slice x.sa x.sn x.sc] 48)).alloc (.cells #[.bool u.d, .bool u.a, .bool u.b, .bool u.n, .bool u.l] 129)).alloc (.cells #[.bool u.d, .bool u.a, .bool u.b, .bool u.n, .bool u.l] 129)))
    case first =>
     --BEGIN
     as_aux_lemma =>
      clear HBI2 HX HB1
      cases h6 : decide (6 < (x.sn : Int))
      ·have h7 : (x.sn : Int) ≤ 6 := by have := of_decide_eq_false h6; omega
       cases hi : inB x.n (-2147483648) 2147483647
       ·go_wp2_with (go_at_call 36; refine (tin_any _ _ _ _).mono ?_; rintro e w' ⟨rfl, rfl⟩)
        go_meet
        exact ⟨by simp [limV, *], rfl⟩
       ·rcases (show x.op = 101 ∨ x.op = 103 ∨ x.op = 9 ∨ x.op = 10 ∨ x.op = 14 ∨ (x.op ≠ 101 ∧ x.op ≠ 103 ∧ x.op ≠ 9 ∧ x.op ≠ 10 ∧ x.op ≠ 14) by omega) with ho | ho | ho | ho | ho | ho
        ·have b101 : (x.op == 101) = true := (beq_iff_eq.2 ho)
         have b103 : (x.op == 103) = false := (beq_eq_false_iff_ne.2 (by omega))
         have b9 : (x.op == 9) = false := (beq_eq_false_iff_ne.2 (by omega))
         have b10 : (x.op == 10) = false := (beq_eq_false_iff_ne.2 (by omega))
         have b14 : (x.op == 14) = false := (beq_eq_false_iff_ne.2 (by omega))
         clear ho
         cases hj : inB x.n 0 255
         ·go_wp2_with (go_at_call 36; refine (tin_any _ _ _ _).mono ?_; rintro e w' ⟨rfl, rfl⟩)
          go_meet
          exact ⟨by simp [limV, *], rfl⟩
         ·go_wp2_with (go_at_call 36; refine (tin_any _ _ _ _).mono ?_; rintro e w' ⟨rfl, rfl⟩)
          go_meet
          exact ⟨by simp [limV, *], rfl⟩
        ·have b101 : (x.op == 101) = false := (beq_eq_false_iff_ne.2 (by omega))
         have b103 : (x.op == 103) = true := (beq_iff_eq.2 ho)
         have b9 : (x.op == 9) = false := (beq_eq_false_iff_ne.2 (by omega))
         have b10 : (x.op == 10) = false := (beq_eq_false_iff_ne.2 (by omega))
         have b14 : (x.op == 14) = false := (beq_eq_false_iff_ne.2 (by omega))
         clear ho
         cases hj : inB x.n 0 255
         ·go_wp2_with (go_at_call 36; refine (tin_any _ _ _ _).mono ?_; rintro e w' ⟨rfl, rfl⟩)
          go_meet
          exact ⟨by simp [limV, *], rfl⟩
         ·go_wp2_with (go_at_call 36; refine (tin_any _ _ _ _).mono ?_; rintro e w' ⟨rfl, rfl⟩)
          go_meet
          exact ⟨by simp [limV, *], rfl⟩
        ·have b101 : (x.op == 101) = false := (beq_eq_false_iff_ne.2 (by omega))
         have b103 : (x.op == 103) = false := (beq_eq_false_iff_ne.2 (by omega))
         have b9 : (x.op == 9) = true := (beq_iff_eq.2 ho)
         have b10 : (x.op == 10) = false := (beq_eq_false_iff_ne.2 (by omega))
         have b14 : (x.op == 14) = false := (beq_eq_false_iff_ne.2 (by omega))
         clear ho
         cases hj : inB x.n 0 31
         ·go_wp2_with (go_at_call 36; refine (tin_any _ _ _ _).mono ?_; rintro e w' ⟨rfl, rfl⟩)
          go_meet
          exact ⟨by simp [limV, *], rfl⟩
         ·go_wp2_with (go_at_call 36; refine (tin_any _ _ _ _).mono ?_; rintro e w' ⟨rfl, rfl⟩)
          go_meet
          exact ⟨by simp [limV, *], rfl⟩
        ·have b101 : (x.op == 101) = false := (beq_eq_false_iff_ne.2 (by omega))
         have b103 : (x.op == 103) = false := (beq_eq_false_iff_ne.2 (by omega))
         have b9 : (x.op == 9) = false := (beq_eq_false_iff_ne.2 (by omega))
         have b10 : (x.op == 10) = true := (beq_iff_eq.2 ho)
         have b14 : (x.op == 14) = false := (beq_eq_false_iff_ne.2 (by omega))
         clear ho
         cases hj : inB x.n 0 31
         ·go_wp2_with (go_at_call 36; refine (tin_any _ _ _ _).mono ?_; rintro e w' ⟨rfl, rfl⟩)
          go_meet
          exact ⟨by simp [limV, *], rfl⟩
         ·go_wp2_with (go_at_call 36; refine (tin_any _ _ _ _).mono ?_; rintro e w' ⟨rfl, rfl⟩)
          go_meet
          exact ⟨by simp [limV, *], rfl⟩
        ·have b101 : (x.op == 101) = false := (beq_eq_false_iff_ne.2 (by omega))
         have b103 : (x.op == 103) = false := (beq_eq_false_iff_ne.2 (by omega))
         have b9 : (x.op == 9) = false := (beq_eq_false_iff_ne.2 (by omega))
         have b10 : (x.op == 10) = false := (beq_eq_false_iff_ne.2 (by omega))
         have b14 : (x.op == 14) = true := (beq_iff_eq.2 ho)
         clear ho
         cases hj : inB x.n 0 4095
         ·go_wp2_with (go_at_call 36; refine (tin_any _ _ _ _).mono ?_; rintro e w' ⟨rfl, rfl⟩)
          go_meet
          exact ⟨by simp [limV, *], rfl⟩
         ·go_wp2_with (go_at_call 36; refine (tin_any _ _ _ _).mono ?_; rintro e w' ⟨rfl, rfl⟩)
          go_meet
          exact ⟨by simp [limV, *], rfl⟩
        ·have b101 : (x.op == 101) = false := (beq_eq_false_iff_ne.2 (by omega))
         have b103 : (x.op == 103) = false := (beq_eq_false_iff_ne.2 (by omega))
         have b9 : (x.op == 9) = false := (beq_eq_false_iff_ne.2 (by omega))
         have b10 : (x.op == 10) = false := (beq_eq_false_iff_ne.2 (by omega))
         have b14 : (x.op == 14) = false := (beq_eq_false_iff_ne.2 (by omega))
         clear ho
         go_wp2_with (go_at_call 36; refine (tin_any _ _ _ _).mono ?_; rintro e w' ⟨rfl, rfl⟩)
         go_meet
         exact ⟨by simp [limV, *], rfl⟩
      ·have h7 : (6 : Int) < (x.sn : Int) := of_decide_eq_true h6
       go_wp2_with (go_at_call 36; refine (tin_any _ _ _ _).mono ?_; rintro e w' ⟨rfl, rfl⟩)
       go_meet
       exact ⟨by simp [limV, *], rfl⟩
     --END
    case rest =>
     obtain ⟨rfl, rfl⟩ := hcut
     cases hl : limV x
     ·have HBI3 : Hid (badI x regs = if namesV regs (x.d :: x.a :: x.b :: x.args) = false then 6 else 0) := by
       rw [hl] at HBI2
       exact HBI2.out
      have hsn : x.sn ≤ 6 := by
       simp only [limV, Bool.or_eq_false_iff, decide_eq_false_iff_not] at hl
       have := hl.1.1.1.1
       omega
      obtain ⟨v1, w1, hrun, hown, hbel⟩ := app_three (((w.alloc (.cells #[.int .i64 x.op, .int .i64 x.d, .int .i64 x.a, .int .i64 x.b, .int .i64 x.n, .slice x.sa x.sn x.sc] 48)).alloc (.cells #[.bool u.d, .bool u.a, .bool u.b, .bool u.n, .bool u.l] 129)).alloc (.cells #[.bool u.d, .bool u.a, .bool u.b, .bool u.n, .bool u.l] 129)) x.d x.a x.b x.sa x.sn x.sc x.args (HX.out.came.below HB1.out) hreach 22
      obtain ⟨zs, hzs⟩ : ∃ zs, zs = x.d :: x.a :: x.b :: x.args := ⟨_, rfl⟩
      obtain ⟨m, hm⟩ : ∃ m, m = zs.length := ⟨_, rfl⟩
      rw [← hzs] at hown HBI3
      rw [← hm] at hown
      have hm9 : m ≤ 9 := by rw [hm, hzs]; simp; omega
      obtain ⟨a1, c1, rfl⟩ := ownG_shape hown
      simp only [World.size_alloc] at hrun
      have HR := Lib.hid hrun
      have HO := Lib.hid hown
      have HB := Lib.hid (HB1.out.trans (hbel.mono HB1.out.size))
      have HM := Lib.hid hm
      clear hown hbel hrun hzs HBI2 hl HX HB1 hm
      go_wp2_with (refine wpList_of_wp _ rfl (fun K Q' hk => wp_append_eq _ _ _ 22 22 rfl _ _ rfl rfl HR.out hk) ?_)
      clear HR
      go_loopw [8, 130] (fun _ u wr => ∃ k : Nat, k ≤ m ∧ u = .int .i64 (k : Int) ∧ wr = w1 ∧ namesV regs (zs.take k) = true) (fun _ u _ => m - (intOf u).toNat)
      case atStart => exact ⟨0, Nat.zero_le _, rfl, rfl, rfl⟩
      case round =>
       obtain ⟨k, hk, rfl, rfl, hall⟩ := hrel
       have HALL := Lib.hid hall
       clear hall
       by_cases hlt : k < m
       ·obtain ⟨g, cap, hv, hg1, hg2, hg3, hg4⟩ := ownG_has HO.out (by omega)
        injection hv with e1 e2 e3
        subst e1 e3
        have ck := HO.out.cellAt k (by omega)
        rw [List.getElem?_map, List.getElem?_eq_getElem (by have := HM.out; omega)] at ck
        simp only [Option.map_some] at ck
        obtain ⟨r, hr⟩ : ∃ r, r = zs[k]'(by have := HM.out; omega) := ⟨_, rfl⟩
        rw [← hr] at ck
        have HT : Hid (zs.take (k + 1) = zs.take k ++ [r]) := by rw [hr]; exact List.take_succ_eq_append_getElem _
        have HME : Hid (r ∈ zs) := by rw [hr]; exact List.getElem_mem _
        clear hr
        cases hin : inB r 0 (regs - 1)
        ·have HF : Hid (namesV regs zs = false) := by
          show (zs.all fun r => inB r 0 (regs - 1)) = false
          rw [List.all_eq_false]
          exact ⟨r, HME.out, by rw [hin]; simp⟩
         go_wp2_with (go_at_call 36; refine (tin_any _ _ _ _).mono ?_; rw [hin]; rintro e w' ⟨rfl, rfl⟩)
         go_ret
         exact ⟨ret_int (by rw [HBI3.out, if_pos HF.out]), HB.out⟩
        ·go_wp2_with (go_at_call 36; refine (tin_any _ _ _ _).mono ?_; rw [hin]; rintro e w' ⟨rfl, rfl⟩)
         have HN := Lib.hid hin
         clear hin
         go_roundw
         case rel =>
          refine ⟨k + 1, by omega, by go_num, trivial, ?_⟩
          show ((zs.take (k + 1)).all fun r => inB r 0 (regs - 1)) = true
          rw [HT.out, List.all_append]
          have := HALL.out
          unfold namesV at this
          rw [this]
          simpa using HN.out
         case measure => simp [intOf]; omega
       ·have HF : Hid (namesV regs zs = true) := by
         have := HALL.out
         rwa [List.take_of_length_le (by have := HM.out; omega)] at this
        go_wp2_with fail
        go_ret
        exact ⟨ret_int (by rw [HBI3.out, if_neg (by rw [HF.out]; simp)]), HB.out⟩
     ·have HF : Hid (badI x regs = 4) := by
       rw [hl] at HBI2
       exact HBI2.out
      go_wp2_with fail
      go_ret
      exact ⟨ret_int HF.out.symm, HB1.out⟩
   ·have HF : Hid (badI x regs = 3) := by
     rw [hf] at HBI
     exact HBI.out
    go_wp2_with fail
    go_ret
    exact ⟨ret_int HF.out.symm, HB1.out⟩
 ·have h0 : shIs x.op = false := by simpa using his
  have HBI : Hid (badI x regs = 1) := if_pos h0
  have HS := fun w => shape_any x.op w
  rw [show ShPost x.op = fun w e w' => e = .returned (.tuple #[.agg #[.bool (shV x.op).d, .bool (shV x.op).a, .bool (shV x.op).b, .bool (shV x.op).n, .bool (shV x.op).l], .bool false]) ∧ w' = w.alloc (.cells #[.bool (shV x.op).d, .bool (shV x.op).a, .bool (shV x.op).b, .bool (shV x.op).n, .bool (shV x.op).l] 129) from by funext w e w'; unfold ShPost Sh.cells; rw [h0]] at HS
  clear his h0
  unfold viV
  go_enter Tryz.func38, Tryz.ntmps38
  go_wp2_with (go_at_call 72; refine (HS _).mono ?_; rintro e w' ⟨rfl, rfl⟩)
  go_ret
  exact ⟨ret_int HBI.out.symm, (((Below.refl _ w).alloc (Nat.le_refl _) _).alloc (by simp) _).alloc (by simp; omega) _⟩
end Go.Proofs.YtdnpoomagjcpfaaGreat
