/- tile's badEnd: the error of the end of a block (printed by wip/vend.py). -/
import Derived.Test.YtdnpoomagjcpfaaGreatVBase
import Derived.Deep.Cut
import Derived.Deep.CutRange
import Derived.Deep.DeepCutAuto
import Derived.Deep.CutBlock
import Derived.Deep.QuietTactic
import Derived.BigQuiet
namespace Go.Proofs.YtdnpoomagjcpfaaGreat
open Go.RowKit
set_option linter.unusedVariables false
set_option linter.unusedSimpArgs false

set_option maxRecDepth 100000 in
set_option maxHeartbeats 8000000 in
theorem badEnd_any (x : VE) (regs blocks : Int) (w : World) (hx : x.Ok w) (hr : 1 ≤ regs ∧ regs ≤ 8192) (hbl : 0 ≤ blocks ∧ blocks ≤ 4096) : Calls Tryz.prog 39 #[veV x, .int .i64 regs, .int .i64 blocks] w (IntPost (badE x regs blocks) w) := by
 have hc0 := hx.came
 have hsl := hx.len
 have hreach := hx.reach
 clear hx
 by_cases hkk : 0 ≤ x.kind ∧ x.kind ≤ 3
 ·have HBE : Hid (badE x regs blocks = if endOk x = false ∨ (x.sn : Int) ≠ endMany x.kind then 3 else if inB x.a 0 (regs - 1) = false ∨ inB x.b 0 (regs - 1) = false then 6 else if toV blocks x.to = false then 4 else 0) := by
   unfold Hid badE; rw [if_neg (by omega)]
  unfold veV
  generalize x.sa = sa at hc0 ⊢
  have hx9 := Lib.hid hc0
  clear hc0
  go_enter Tryz.func39, Tryz.ntmps39
  go_upto_block 0 with fail
  go_cut [7, 8] (fun m ok wx => m = .int .i64 (endMany x.kind) ∧ ok = .bool (endOk x) ∧ ∃ q, wx = (w.alloc (.cells #[.int .i64 x.kind, .int .i64 x.op, .int .i64 x.a, .int .i64 x.b, .int .i64 x.n, .slice sa x.sn x.sc] 44)).drewN q)
  case first =>
   --BEGIN
   as_aux_lemma =>
    clear HBE hx9
    rcases (show x.kind = 0 ∨ x.kind = 1 ∨ x.kind = 2 ∨ x.kind = 3 by omega) with hk | hk | hk | hk
    ·have k0 : (x.kind == 0) = true := beq_iff_eq.2 hk
     have k1 : (x.kind == 1) = false := beq_eq_false_iff_ne.2 (by omega)
     have k2 : (x.kind == 2) = false := beq_eq_false_iff_ne.2 (by omega)
     have k3 : (x.kind == 3) = false := beq_eq_false_iff_ne.2 (by omega)
     clear hk
     cases h0 : (x.op == 0)
     ·go_wp2_with fail
      go_meet
      exact ⟨by simp [endMany, *], by simp [endOk, *], by first | exact ⟨0, rfl⟩ | exact ⟨_, rfl⟩ | exact ⟨1, rfl⟩⟩
     ·cases h1 : (x.b == 0)
      ·go_wp2_with fail
       go_meet
       exact ⟨by simp [endMany, *], by simp [endOk, *], by first | exact ⟨0, rfl⟩ | exact ⟨_, rfl⟩ | exact ⟨1, rfl⟩⟩
      ·cases h2 : (x.n == 0)
       ·go_wp2_with fail
        go_meet
        exact ⟨by simp [endMany, *], by simp [endOk, *], by first | exact ⟨0, rfl⟩ | exact ⟨_, rfl⟩ | exact ⟨1, rfl⟩⟩
       ·go_wp2_with fail
        go_meet
        exact ⟨by simp [endMany, *], by simp [endOk, *], by first | exact ⟨0, rfl⟩ | exact ⟨_, rfl⟩ | exact ⟨1, rfl⟩⟩
    ·have k0 : (x.kind == 0) = false := beq_eq_false_iff_ne.2 (by omega)
     have k1 : (x.kind == 1) = true := beq_iff_eq.2 hk
     have k2 : (x.kind == 2) = false := beq_eq_false_iff_ne.2 (by omega)
     have k3 : (x.kind == 3) = false := beq_eq_false_iff_ne.2 (by omega)
     clear hk
     cases h0 : (x.op == 0)
     ·go_wp2_with fail
      go_quiet (fail)
      go_wp2_with fail
      go_meet
      exact ⟨by simp [endMany, *], by simp [endOk, *], by first | exact ⟨0, rfl⟩ | exact ⟨_, rfl⟩ | exact ⟨1, rfl⟩⟩
     ·cases h1 : (x.a == 0)
      ·go_wp2_with fail
       go_quiet (fail)
       go_wp2_with fail
       go_meet
       exact ⟨by simp [endMany, *], by simp [endOk, *], by first | exact ⟨0, rfl⟩ | exact ⟨_, rfl⟩ | exact ⟨1, rfl⟩⟩
      ·cases h2 : (x.b == 0)
       ·go_wp2_with fail
        go_quiet (fail)
        go_wp2_with fail
        go_meet
        exact ⟨by simp [endMany, *], by simp [endOk, *], by first | exact ⟨0, rfl⟩ | exact ⟨_, rfl⟩ | exact ⟨1, rfl⟩⟩
       ·cases h3 : (x.n == 0)
        ·go_wp2_with fail
         go_quiet (fail)
         go_wp2_with fail
         go_meet
         exact ⟨by simp [endMany, *], by simp [endOk, *], by first | exact ⟨0, rfl⟩ | exact ⟨_, rfl⟩ | exact ⟨1, rfl⟩⟩
        ·go_wp2_with fail
         go_quiet (fail)
         go_wp2_with fail
         go_meet
         exact ⟨by simp [endMany, *], by simp [endOk, *], by first | exact ⟨0, rfl⟩ | exact ⟨_, rfl⟩ | exact ⟨1, rfl⟩⟩
    ·have k0 : (x.kind == 0) = false := beq_eq_false_iff_ne.2 (by omega)
     have k1 : (x.kind == 1) = false := beq_eq_false_iff_ne.2 (by omega)
     have k2 : (x.kind == 2) = true := beq_iff_eq.2 hk
     have k3 : (x.kind == 3) = false := beq_eq_false_iff_ne.2 (by omega)
     clear hk
     rcases (show (x.op == 16) = true ∨ ((x.op == 16) = false ∧ (x.op == 17) = true) ∨ ((x.op == 16) = false ∧ (x.op == 17) = false ∧ (x.op == 18) = true) ∨ ((x.op == 16) = false ∧ (x.op == 17) = false ∧ (x.op == 18) = false) by cases (x.op == 16) <;> cases (x.op == 17) <;> cases (x.op == 18) <;> simp) with h | ⟨h, h'⟩ | ⟨h, h', h''⟩ | ⟨h, h', h''⟩
     ·cases h0 : (x.n == 0)
      ·go_wp2_with fail
       go_quiet (fail)
       go_wp2_with fail
       go_meet
       exact ⟨by simp [endMany, *], by simp [endOk, *], by first | exact ⟨0, rfl⟩ | exact ⟨_, rfl⟩ | exact ⟨1, rfl⟩⟩
      ·go_wp2_with fail
       go_quiet (fail)
       go_wp2_with fail
       go_meet
       exact ⟨by simp [endMany, *], by simp [endOk, *], by first | exact ⟨0, rfl⟩ | exact ⟨_, rfl⟩ | exact ⟨1, rfl⟩⟩
     ·cases h0 : (x.n == 0)
      ·go_wp2_with fail
       go_quiet (fail)
       go_wp2_with fail
       go_meet
       exact ⟨by simp [endMany, *], by simp [endOk, *], by first | exact ⟨0, rfl⟩ | exact ⟨_, rfl⟩ | exact ⟨1, rfl⟩⟩
      ·go_wp2_with fail
       go_quiet (fail)
       go_wp2_with fail
       go_meet
       exact ⟨by simp [endMany, *], by simp [endOk, *], by first | exact ⟨0, rfl⟩ | exact ⟨_, rfl⟩ | exact ⟨1, rfl⟩⟩
     ·cases h0 : (x.n == 0)
      ·go_wp2_with fail
       go_quiet (fail)
       go_wp2_with fail
       go_meet
       exact ⟨by simp [endMany, *], by simp [endOk, *], by first | exact ⟨0, rfl⟩ | exact ⟨_, rfl⟩ | exact ⟨1, rfl⟩⟩
      ·go_wp2_with fail
       go_quiet (fail)
       go_wp2_with fail
       go_meet
       exact ⟨by simp [endMany, *], by simp [endOk, *], by first | exact ⟨0, rfl⟩ | exact ⟨_, rfl⟩ | exact ⟨1, rfl⟩⟩
     ·go_wp2_with fail
      go_quiet (fail)
      go_wp2_with fail
      go_meet
      exact ⟨by simp [endMany, *], by simp [endOk, *], by first | exact ⟨0, rfl⟩ | exact ⟨_, rfl⟩ | exact ⟨1, rfl⟩⟩
    ·have k0 : (x.kind == 0) = false := beq_eq_false_iff_ne.2 (by omega)
     have k1 : (x.kind == 1) = false := beq_eq_false_iff_ne.2 (by omega)
     have k2 : (x.kind == 2) = false := beq_eq_false_iff_ne.2 (by omega)
     have k3 : (x.kind == 3) = true := beq_iff_eq.2 hk
     clear hk
     cases h0 : (x.op == 0)
     ·go_wp2_with (go_at_call 36; refine (tin_any _ _ _ _).mono ?_; rintro e w' ⟨rfl, rfl⟩)
      go_meet
      exact ⟨by simp [endMany, *], by simp [endOk, *], by first | exact ⟨0, rfl⟩ | exact ⟨_, rfl⟩ | exact ⟨1, rfl⟩⟩
     ·cases h1 : (x.a == 0)
      ·go_wp2_with (go_at_call 36; refine (tin_any _ _ _ _).mono ?_; rintro e w' ⟨rfl, rfl⟩)
       go_meet
       exact ⟨by simp [endMany, *], by simp [endOk, *], by first | exact ⟨0, rfl⟩ | exact ⟨_, rfl⟩ | exact ⟨1, rfl⟩⟩
      ·cases h2 : (x.b == 0)
       ·go_wp2_with (go_at_call 36; refine (tin_any _ _ _ _).mono ?_; rintro e w' ⟨rfl, rfl⟩)
        go_meet
        exact ⟨by simp [endMany, *], by simp [endOk, *], by first | exact ⟨0, rfl⟩ | exact ⟨_, rfl⟩ | exact ⟨1, rfl⟩⟩
       ·cases h3 : inB x.n 1 6
        ·go_wp2_with (go_at_call 36; refine (tin_any _ _ _ _).mono ?_; rintro e w' ⟨rfl, rfl⟩)
         go_meet
         exact ⟨by simp [endMany, *], by simp [endOk, *], by first | exact ⟨0, rfl⟩ | exact ⟨_, rfl⟩ | exact ⟨1, rfl⟩⟩
        ·go_wp2_with (go_at_call 36; refine (tin_any _ _ _ _).mono ?_; rintro e w' ⟨rfl, rfl⟩)
         go_meet
         exact ⟨by simp [endMany, *], by simp [endOk, *], by first | exact ⟨0, rfl⟩ | exact ⟨_, rfl⟩ | exact ⟨1, rfl⟩⟩
   --END
  case rest =>
   obtain ⟨rfl, rfl, q, rfl⟩ := hcut
   have hb1 : Below w.heap.size w ((w.alloc (.cells #[.int .i64 x.kind, .int .i64 x.op, .int .i64 x.a, .int .i64 x.b, .int .i64 x.n, .slice sa x.sn x.sc] 44)).drewN q) := ((Below.refl _ w).alloc (Nat.le_refl _) _).trans (below_drewN_self _ _ _)
   have hbk := (Blk.new w [.int .i64 x.kind, .int .i64 x.op, .int .i64 x.a, .int .i64 x.b, .int .i64 x.n, .slice sa x.sn x.sc] 44).drewN q
   have c2 := hbk.cell 2
   have c3 := hbk.cell 3
   have c5 := hbk.cell 5
   simp only [List.getElem?_cons_zero, List.getElem?_cons_succ] at c2 c3 c5
   have hc := hx9.out.below hb1
   have HB := Lib.hid hb1
   clear hbk hb1
   generalize (w.alloc _).drewN q = w1 at c2 c3 c5 hc HB ⊢
   cases hok : endOk x
   ·have HF : Hid (badE x regs blocks = 3) := by
     show _ = _
     rw [HBE.out, if_pos (.inl hok)]
    go_wp2_with fail
    go_ret
    exact ⟨ret_int HF.out.symm, HB.out⟩
   ·by_cases hm : (x.sn : Int) = endMany x.kind
    ·have hmq : ((x.sn : Int) != endMany x.kind) = false := by simpa using hm
     have HBE2 : Hid (badE x regs blocks = if inB x.a 0 (regs - 1) = false ∨ inB x.b 0 (regs - 1) = false then 6 else if toV blocks x.to = false then 4 else 0) := by
      show _ = _
      rw [HBE.out, if_neg (by rw [hok]; simp; exact hm)]
     have HMQ := Lib.hid hm
     clear HBE hm
     cases ha : inB x.a 0 (regs - 1)
     ·have HF : Hid (badE x regs blocks = 6) := by
       show _ = _
       rw [HBE2.out, if_pos (.inl ha)]
      clear HBE2
      go_wp2_with (go_at_call 36; refine (tin_any _ _ _ _).mono ?_; rintro e w' ⟨rfl, rfl⟩)
      go_ret
      exact ⟨ret_int HF.out.symm, HB.out⟩
     ·cases hb : inB x.b 0 (regs - 1)
      ·have HF : Hid (badE x regs blocks = 6) := by
        show _ = _
        rw [HBE2.out, if_pos (.inr hb)]
       clear HBE2
       go_wp2_with (go_at_call 36; refine (tin_any _ _ _ _).mono ?_; rintro e w' ⟨rfl, rfl⟩)
       go_ret
       exact ⟨ret_int HF.out.symm, HB.out⟩
      ·have HBE3 : Hid (badE x regs blocks = if toV blocks x.to = false then 4 else 0) := by
        show _ = _
        rw [HBE2.out, if_neg (by rw [ha, hb]; simp)]
       clear HBE2
       have HC := Lib.hid hc
       clear hc
       go_wp2_with (go_at_call 36; refine (tin_any _ _ _ _).mono ?_; rintro e w' ⟨rfl, rfl⟩)
       go_loopw [6, 10, 114] (fun _ _ u wr => ∃ k : Nat, k ≤ x.sn ∧ u = .int .i64 (k : Int) ∧ wr = w1 ∧ toV blocks (x.to.take k) = true) (fun _ _ u _ => x.sn - (intOf u).toNat)
       case atStart => exact ⟨0, Nat.zero_le _, rfl, rfl, rfl⟩
       case round =>
        obtain ⟨k, hk, rfl, rfl, hall⟩ := hrel
        have HALL := Lib.hid hall
        clear hall
        by_cases hlt : k < x.sn
        ·obtain ⟨g, off, rfl, hgl, hcc⟩ := HC.out.ints (by omega)
         have ck := hcc k (by omega)
         obtain ⟨r, hr⟩ : ∃ r, r = x.to[k]'(by omega) := ⟨_, rfl⟩
         rw [← hr] at ck
         have HT : Hid (x.to.take (k + 1) = x.to.take k ++ [r]) := by rw [hr]; exact List.take_succ_eq_append_getElem _
         have HME : Hid (r ∈ x.to) := by rw [hr]; exact List.getElem_mem _
         clear hr hcc
         cases hin : inB r 1 (blocks - 1)
         ·have HF : Hid (toV blocks x.to = false) := by
           show (x.to.all fun r => inB r 1 (blocks - 1)) = false
           rw [List.all_eq_false]
           exact ⟨r, HME.out, by rw [hin]; simp⟩
          go_wp2_with (go_at_call 36; refine (tin_any _ _ _ _).mono ?_; rw [hin]; rintro e w' ⟨rfl, rfl⟩)
          go_ret
          exact ⟨ret_int (by rw [HBE3.out, if_pos HF.out]), HB.out⟩
         ·go_wp2_with (go_at_call 36; refine (tin_any _ _ _ _).mono ?_; rw [hin]; rintro e w' ⟨rfl, rfl⟩)
          have HN := Lib.hid hin
          clear hin
          go_roundw
          case rel =>
           refine ⟨k + 1, by omega, by go_num, trivial, ?_⟩
           show ((x.to.take (k + 1)).all fun r => inB r 1 (blocks - 1)) = true
           rw [HT.out, List.all_append]
           have := HALL.out
           unfold toV at this
           rw [this]
           simpa using HN.out
          case measure => simp [intOf]; omega
        ·have HF : Hid (toV blocks x.to = true) := by
          have := HALL.out
          rwa [List.take_of_length_le (by omega)] at this
         go_wp2_with fail
         go_ret
         exact ⟨ret_int (by rw [HBE3.out, if_neg (by rw [HF.out]; simp)]), HB.out⟩
    ·have hmq : ((x.sn : Int) != endMany x.kind) = true := by simpa using hm
     have HF : Hid (badE x regs blocks = 3) := by
      show _ = _
      rw [HBE.out, if_pos (.inr hm)]
     go_wp2_with fail
     go_ret
     exact ⟨ret_int HF.out.symm, HB.out⟩
 ·have HBE : Hid (badE x regs blocks = 1) := if_pos hkk
  have k0 : (x.kind == 0) = false := beq_eq_false_iff_ne.2 (by omega)
  have k1 : (x.kind == 1) = false := beq_eq_false_iff_ne.2 (by omega)
  have k2 : (x.kind == 2) = false := beq_eq_false_iff_ne.2 (by omega)
  have k3 : (x.kind == 3) = false := beq_eq_false_iff_ne.2 (by omega)
  clear hkk
  unfold veV
  go_enter Tryz.func39, Tryz.ntmps39
  go_wp2_with fail
  go_ret
  exact ⟨ret_int HBE.out.symm, (Below.refl _ _).alloc (Nat.le_refl _) _⟩
end Go.Proofs.YtdnpoomagjcpfaaGreat
