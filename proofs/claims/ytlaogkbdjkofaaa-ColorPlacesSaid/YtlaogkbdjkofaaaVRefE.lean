/- The reference's EndError (printed by wip/vrefe.py). -/
import Derived.Test.YtlaogkbdjkofaaaVBadD
import Derived.Deep.Cut
import Derived.Deep.CutRange
import Derived.Deep.DeepCutAuto
import Derived.Deep.CutBlock
namespace Go.Proofs.Ytlaogkbdjkofaaa
open Go.RowKit
set_option linter.unusedVariables false
set_option linter.unusedSimpArgs false

theorem has_asE (s : ByteArray) (c : Nat) (w : World) (hs : s.size ≤ 1000) (hc : c < 256) {r : Bool} (hr : hasB s.data.toList c = r) :
    Calls Try.prog 96 #[.string s, .int .u8 (c : Int)] w fun e w' => e = .returned (.bool r) ∧ w = w' := by
  rw [← hr]; exact has_any s c w hs hc
def okE (uo ua ub un : Bool) (x : VE) (k : Nat) : Bool := (decide (k < 1) || uo || !(x.op != 0)) && (decide (k < 2) || ua || !(x.a != 0)) && (decide (k < 3) || ub || !(x.b != 0)) && (decide (k < 4) || un || !(x.n != 0))
def kindS (k : Nat) : ByteArray := if k = 0 then ⟨#[65]⟩ else if k = 1 then ⟨#[]⟩ else if k = 2 then ⟨#[79, 65, 66]⟩ else ⟨#[78]⟩
def bad11 (x : VE) (k : Nat) : Bool := ((x.sn : Int) != endMany (k : Int) || (((k : Int) == 2) && (decide (x.op < 16) || decide (18 < x.op)))) || (((k : Int) == 3) && (decide (x.n < 1) || decide (6 < x.n)))
theorem end_ref (x : VE) (k : Nat) (hk : x.kind = (k : Int)) (h3 : k ≤ 3) (uo ua ub un : Bool) (h : uo = decide (k = 2) ∧ ua = decide (k = 0 ∨ k = 2) ∧ ub = decide (k = 2) ∧ un = decide (k = 3)) :
    (endOk x = false ∨ (x.sn : Int) ≠ endMany x.kind) ↔ (okE uo ua ub un x 4 = false ∨ bad11 x k = true) := by
  have hb : ∀ z : Int, (z != 0) = !(z == 0) := fun z => rfl
  have hi : inB x.n 1 6 = (decide (1 ≤ x.n) && decide (x.n ≤ 6)) := rfl
  obtain ⟨rfl, rfl, rfl, rfl⟩ := h
  unfold endOk okE bad11 endMany
  rw [hk, hi]
  simp only [hb]
  rcases (show k = 0 ∨ k = 1 ∨ k = 2 ∨ k = 3 by omega) with rfl | rfl | rfl | rfl
  all_goals (try simp [-Int.natCast_eq_zero])
  all_goals
    by_cases h1 : x.op = 0 <;> by_cases h2 : x.a = 0 <;> by_cases h3 : x.b = 0 <;> by_cases h4 : x.n = 0 <;> simp [h1, h2, h3, h4] <;> omega

set_option maxRecDepth 100000 in
set_option maxHeartbeats 8000000 in
theorem endError_any (x : VE) (regs blocks : Int) (w : World) (hx : x.Ok w) (hr : 1 ≤ regs ∧ regs ≤ 8192) (hbl : 0 ≤ blocks ∧ blocks ≤ 4096) : Calls Try.prog 60 #[veV x, .int .i64 regs, .int .i64 blocks] w (IntPost (badE x regs blocks) w) := by
  have hc0 := hx.came
  have hsl := hx.len
  have hreach := hx.reach
  clear hx
  by_cases hkk : 0 ≤ x.kind ∧ x.kind ≤ 3
  · obtain ⟨k, hk⟩ := Int.eq_ofNat_of_zero_le hkk.1
    have hk3 : k ≤ 3 := by omega
    have hkl : k < 4 := by omega
    obtain ⟨uo, huo⟩ : ∃ b, b = decide (k = 2) := ⟨_, rfl⟩
    obtain ⟨ua, hua⟩ : ∃ b, b = decide (k = 0 ∨ k = 2) := ⟨_, rfl⟩
    obtain ⟨ub, hub⟩ : ∃ b, b = decide (k = 2) := ⟨_, rfl⟩
    obtain ⟨un, hun⟩ : ∃ b, b = decide (k = 3) := ⟨_, rfl⟩
    have hER := end_ref x k hk hk3 uo ua ub un ⟨huo, hua, hub, hun⟩
    have HB0 : Hid (badE x regs blocks = if endOk x = false ∨ (x.sn : Int) ≠ endMany x.kind then 3 else if inB x.a 0 (regs - 1) = false ∨ inB x.b 0 (regs - 1) = false then 6 else if toV blocks x.to = false then 4 else 0) := by
      unfold Hid badE; rw [if_neg (by omega)]
    have HBE : Hid (okE uo ua ub un x 4 = false → badE x regs blocks = 3) := fun h => by rw [HB0.out, if_pos (hER.2 (.inl h))]
    have HBF : Hid (bad11 x k = true → badE x regs blocks = 3) := fun h => by rw [HB0.out, if_pos (hER.2 (.inr h))]
    have HBG : Hid (okE uo ua ub un x 4 = true → bad11 x k = false → badE x regs blocks = if inB x.a 0 (regs - 1) = false ∨ inB x.b 0 (regs - 1) = false then 6 else if toV blocks x.to = false then 4 else 0) := fun h h' => by
      rw [HB0.out, if_neg (fun hh => by rcases hER.1 hh with h9 | h9 <;> simp_all)]
    obtain ⟨s, hs⟩ : ∃ s, s = kindS k := ⟨_, rfl⟩
    have hsz : s.size ≤ 1000 := by rw [hs]; rcases (show k = 0 ∨ k = 1 ∨ k = 2 ∨ k = 3 by omega) with rfl | rfl | rfl | rfl <;> decide
    have ho : hasB s.data.toList 79 = uo := by rw [hs, huo]; rcases (show k = 0 ∨ k = 1 ∨ k = 2 ∨ k = 3 by omega) with rfl | rfl | rfl | rfl <;> decide
    have ha : hasB s.data.toList 65 = ua := by rw [hs, hua]; rcases (show k = 0 ∨ k = 1 ∨ k = 2 ∨ k = 3 by omega) with rfl | rfl | rfl | rfl <;> decide
    have hb : hasB s.data.toList 66 = ub := by rw [hs, hub]; rcases (show k = 0 ∨ k = 1 ∨ k = 2 ∨ k = 3 by omega) with rfl | rfl | rfl | rfl <;> decide
    have hn : hasB s.data.toList 78 = un := by rw [hs, hun]; rcases (show k = 0 ∨ k = 1 ∨ k = 2 ∨ k = 3 by omega) with rfl | rfl | rfl | rfl <;> decide
    obtain ⟨mn, hmn⟩ : ∃ m, m = endMany (k : Int) := ⟨_, rfl⟩
    have hs1 : ([.string ⟨#[65]⟩, .string ⟨#[]⟩, .string ⟨#[79, 65, 66]⟩, .string ⟨#[78]⟩] : List Value)[k]'hkl = .string s := by rw [hs]; rcases (show k = 0 ∨ k = 1 ∨ k = 2 ∨ k = 3 by omega) with rfl | rfl | rfl | rfl <;> rfl
    have hs2 : ([.int .i64 0, .int .i64 1, .int .i64 2, .int .i64 0] : List Value)[k]'hkl = .int .i64 mn := by rw [hmn]; rcases (show k = 0 ∨ k = 1 ∨ k = 2 ∨ k = 3 by omega) with rfl | rfl | rfl | rfl <;> rfl
    have HMN := Lib.hid hmn
    clear huo hua hub hun hER HB0 hs hmn hkk
    unfold veV
    rw [hk]
    clear hk
    generalize x.sa = sa at hc0 ⊢
    have hkI : (k : Int) ≤ 3 := by omega
    go_enter Try.func60, Try.ntmps60
    go_wp2_with fail
    clear hs1 hs2
    have hbx0 : Below w.heap.size w ((((w.alloc (.cells #[.int .i64 (k : Int), .int .i64 x.op, .int .i64 x.a, .int .i64 x.b, .int .i64 x.n, .slice sa x.sn x.sc] 61)).alloc (.cells #[.string ⟨#[65]⟩, .string ⟨#[]⟩, .string ⟨#[79, 65, 66]⟩, .string ⟨#[78]⟩] 9)).alloc (.cells #[.int .i64 0, .int .i64 1, .int .i64 2, .int .i64 0] 3)).alloc (.cells #[.int .i64 x.op, .int .i64 x.a, .int .i64 x.b, .int .i64 x.n] 3)) :=
      ((((Below.refl _ w).alloc (Nat.le_refl _) _).alloc (by simp) _).alloc (by simp; omega) _).alloc (by simp; omega) _
    have hbx := Lib.hid hbx0
    clear hbx0
    go_loopw [6, 9, 10, 41] (fun _ _ _ v wr => ∃ j : Nat, j ≤ 4 ∧ v = .int .i64 (j : Int) ∧ wr = ((((w.alloc (.cells #[.int .i64 (k : Int), .int .i64 x.op, .int .i64 x.a, .int .i64 x.b, .int .i64 x.n, .slice sa x.sn x.sc] 61)).alloc (.cells #[.string ⟨#[65]⟩, .string ⟨#[]⟩, .string ⟨#[79, 65, 66]⟩, .string ⟨#[78]⟩] 9)).alloc (.cells #[.int .i64 0, .int .i64 1, .int .i64 2, .int .i64 0] 3)).alloc (.cells #[.int .i64 x.op, .int .i64 x.a, .int .i64 x.b, .int .i64 x.n] 3)) ∧ okE uo ua ub un x j = true) (fun _ _ _ v _ => 4 - (intOf v).toNat)
    case atStart => exact ⟨0, by omega, rfl, rfl, by simp [okE]⟩
    case round =>
      obtain ⟨j, hj, rfl, rfl, hall⟩ := hrel
      have HALL := Lib.hid hall
      clear hall
      by_cases hlt : j < 4
      ·
        --BEGIN
        as_aux_lemma =>
          rcases (show j = 0 ∨ j = 1 ∨ j = 2 ∨ j = 3 by omega) with rfl | rfl | rfl | rfl
          · cases hv : (x.op != 0)
            · go_wp2_with fail
              go_roundw
              case rel => exact ⟨1, by omega, by go_num, trivial, by have h9 := HALL.out; simp [okE, *] at h9 ⊢ <;> (try first | exact h9 | simp_all)⟩
              case measure => simp [intOf]
            · cases uo
              · have HF : Hid (okE false ua ub un x 4 = false) := by show _ = _; simp [okE, *]
                go_wp2_with (go_at_call 96; refine (has_asE _ 79 _ hsz (by decide) ho).mono ?_; rintro e w' ⟨rfl, rfl⟩)
                go_ret
                exact ⟨ret_int (by rw [HBE.out HF.out]), hbx.out⟩
              · go_wp2_with (go_at_call 96; refine (has_asE _ 79 _ hsz (by decide) ho).mono ?_; rintro e w' ⟨rfl, rfl⟩)
                go_roundw
                case rel => exact ⟨1, by omega, by go_num, trivial, by have h9 := HALL.out; simp [okE, *] at h9 ⊢ <;> (try first | exact h9 | simp_all)⟩
                case measure => simp [intOf]
          · cases hv : (x.a != 0)
            · go_wp2_with fail
              go_roundw
              case rel => exact ⟨2, by omega, by go_num, trivial, by have h9 := HALL.out; simp [okE, *] at h9 ⊢ <;> (try first | exact h9 | simp_all)⟩
              case measure => simp [intOf]
            · cases ua
              · have HF : Hid (okE uo false ub un x 4 = false) := by show _ = _; simp [okE, *]
                go_wp2_with (go_at_call 96; refine (has_asE _ 65 _ hsz (by decide) ha).mono ?_; rintro e w' ⟨rfl, rfl⟩)
                go_ret
                exact ⟨ret_int (by rw [HBE.out HF.out]), hbx.out⟩
              · go_wp2_with (go_at_call 96; refine (has_asE _ 65 _ hsz (by decide) ha).mono ?_; rintro e w' ⟨rfl, rfl⟩)
                go_roundw
                case rel => exact ⟨2, by omega, by go_num, trivial, by have h9 := HALL.out; simp [okE, *] at h9 ⊢ <;> (try first | exact h9 | simp_all)⟩
                case measure => simp [intOf]
          · cases hv : (x.b != 0)
            · go_wp2_with fail
              go_roundw
              case rel => exact ⟨3, by omega, by go_num, trivial, by have h9 := HALL.out; simp [okE, *] at h9 ⊢ <;> (try first | exact h9 | simp_all)⟩
              case measure => simp [intOf]
            · cases ub
              · have HF : Hid (okE uo ua false un x 4 = false) := by show _ = _; simp [okE, *]
                go_wp2_with (go_at_call 96; refine (has_asE _ 66 _ hsz (by decide) hb).mono ?_; rintro e w' ⟨rfl, rfl⟩)
                go_ret
                exact ⟨ret_int (by rw [HBE.out HF.out]), hbx.out⟩
              · go_wp2_with (go_at_call 96; refine (has_asE _ 66 _ hsz (by decide) hb).mono ?_; rintro e w' ⟨rfl, rfl⟩)
                go_roundw
                case rel => exact ⟨3, by omega, by go_num, trivial, by have h9 := HALL.out; simp [okE, *] at h9 ⊢ <;> (try first | exact h9 | simp_all)⟩
                case measure => simp [intOf]
          · cases hv : (x.n != 0)
            · go_wp2_with fail
              go_roundw
              case rel => exact ⟨4, by omega, by go_num, trivial, by have h9 := HALL.out; simp [okE, *] at h9 ⊢ <;> (try first | exact h9 | simp_all)⟩
              case measure => simp [intOf]
            · cases un
              · have HF : Hid (okE uo ua ub false x 4 = false) := by show _ = _; simp [okE, *]
                go_wp2_with (go_at_call 96; refine (has_asE _ 78 _ hsz (by decide) hn).mono ?_; rintro e w' ⟨rfl, rfl⟩)
                go_ret
                exact ⟨ret_int (by rw [HBE.out HF.out]), hbx.out⟩
              · go_wp2_with (go_at_call 96; refine (has_asE _ 78 _ hsz (by decide) hn).mono ?_; rintro e w' ⟨rfl, rfl⟩)
                go_roundw
                case rel => exact ⟨4, by omega, by go_num, trivial, by have h9 := HALL.out; simp [okE, *] at h9 ⊢ <;> (try first | exact h9 | simp_all)⟩
                case measure => simp [intOf]
        --END
      · obtain rfl : j = 4 := by omega
        have hok := HALL.out
        have HG2 : Hid (bad11 x k = false → badE x regs blocks = if inB x.a 0 (regs - 1) = false ∨ inB x.b 0 (regs - 1) = false then 6 else if toV blocks x.to = false then 4 else 0) := fun h => HBG.out hok h
        have hbk := ((((Blk.new w [.int .i64 (k : Int), .int .i64 x.op, .int .i64 x.a, .int .i64 x.b, .int .i64 x.n, .slice sa x.sn x.sc] 61).alloc (.cells #[.string ⟨#[65]⟩, .string ⟨#[]⟩, .string ⟨#[79, 65, 66]⟩, .string ⟨#[78]⟩] 9)).alloc (.cells #[.int .i64 0, .int .i64 1, .int .i64 2, .int .i64 0] 3)).alloc (.cells #[.int .i64 x.op, .int .i64 x.a, .int .i64 x.b, .int .i64 x.n] 3))
        have c0 := hbk.cell 0
        have c1 := hbk.cell 1
        have c2 := hbk.cell 2
        have c3 := hbk.cell 3
        have c4 := hbk.cell 4
        have c5 := hbk.cell 5
        simp only [List.getElem?_cons_zero, List.getElem?_cons_succ] at c0 c1 c2 c3 c4 c5
        have HC := Lib.hid (hc0.below hbx.out)
        clear hok HALL HBG HBE hbk ho ha hb hn hsz hc0
        generalize (((w.alloc _).alloc _).alloc _).alloc _ = w1 at c0 c1 c2 c3 c4 c5 HC hbx ⊢
        go_upto_region 11 with fail
        go_cut [90] from 57 (fun s wx => s = .bool (bad11 x k) ∧ wx = w1)
        case first =>
          --BEGIN
          as_aux_lemma =>
            clear HG2 HBF HC hbx
            have hM := HMN.out
            cases hq : ((x.sn : Int) != mn)
            · have hq2 : ((x.sn : Int) != endMany (k : Int)) = false := by rw [← hM]; exact hq
              by_cases k2 : k = 2
              · have b2 : ((k : Int) == 2) = true := beq_iff_eq.2 (by omega)
                have b3 : ((k : Int) == 3) = false := beq_eq_false_iff_ne.2 (by omega)
                clear k2 hM
                by_cases h1 : x.op < 16
                · go_wp2_with fail
                  go_meet
                  exact ⟨by simp [bad11, *], rfl⟩
                · by_cases h2 : 18 < x.op
                  · go_wp2_with fail
                    go_meet
                    exact ⟨by simp [bad11, *], rfl⟩
                  · go_wp2_with fail
                    go_meet
                    exact ⟨by simp [bad11, *] <;> omega, rfl⟩
              · by_cases k3 : k = 3
                · have b2 : ((k : Int) == 2) = false := beq_eq_false_iff_ne.2 (by omega)
                  have b3 : ((k : Int) == 3) = true := beq_iff_eq.2 (by omega)
                  clear k2 k3 hM
                  by_cases h1 : x.n < 1
                  · go_wp2_with fail
                    go_meet
                    exact ⟨by simp [bad11, *], rfl⟩
                  · by_cases h2 : 6 < x.n
                    · go_wp2_with fail
                      go_meet
                      exact ⟨by simp [bad11, *], rfl⟩
                    · go_wp2_with fail
                      go_meet
                      exact ⟨by simp [bad11, *] <;> omega, rfl⟩
                · have b2 : ((k : Int) == 2) = false := beq_eq_false_iff_ne.2 (by omega)
                  have b3 : ((k : Int) == 3) = false := beq_eq_false_iff_ne.2 (by omega)
                  clear k2 k3 hM
                  go_wp2_with fail
                  go_meet
                  exact ⟨by simp [bad11, *], rfl⟩
            · have hq2 : ((x.sn : Int) != endMany (k : Int)) = true := by rw [← hM]; exact hq
              go_wp2_with fail
              go_meet
              exact ⟨by simp [bad11, *], rfl⟩
          --END
        case rest =>
          obtain ⟨rfl, rfl⟩ := hcut
          cases h11 : bad11 x k
          · have HG3 : Hid (badE x regs blocks = if inB x.a 0 (regs - 1) = false ∨ inB x.b 0 (regs - 1) = false then 6 else if toV blocks x.to = false then 4 else 0) := HG2.out h11
            clear HG2 HBF h11
            go_upto_region 13 with fail
            go_cut [110] from 91 (fun s wx => s = .bool (!(inB x.a 0 (regs - 1) && inB x.b 0 (regs - 1))) ∧ wx = wc)
            case first =>
              --BEGIN
              as_aux_lemma =>
                clear HG3 HC hbx
                by_cases h1 : x.a < 0
                · have e : inB x.a 0 (regs - 1) = false := inB_false.2 (.inl h1)
                  go_wp2_with fail
                  go_meet
                  exact ⟨by simp [e], rfl⟩
                · by_cases h2 : regs ≤ x.a
                  · have e : inB x.a 0 (regs - 1) = false := inB_false.2 (.inr (by omega))
                    go_wp2_with fail
                    go_meet
                    exact ⟨by simp [e], rfl⟩
                  · have ea : inB x.a 0 (regs - 1) = true := inB_true.2 (by omega)
                    by_cases h3 : x.b < 0
                    · have e : inB x.b 0 (regs - 1) = false := inB_false.2 (.inl h3)
                      go_wp2_with fail
                      go_meet
                      exact ⟨by simp [e], rfl⟩
                    · by_cases h4 : regs ≤ x.b
                      · have e : inB x.b 0 (regs - 1) = false := inB_false.2 (.inr (by omega))
                        go_wp2_with fail
                        go_meet
                        exact ⟨by simp [e], rfl⟩
                      · have eb : inB x.b 0 (regs - 1) = true := inB_true.2 (by omega)
                        go_wp2_with fail
                        go_meet
                        exact ⟨by simp [ea, eb], rfl⟩
              --END
            case rest =>
              obtain ⟨rfl, rfl⟩ := hcut
              cases hab : (inB x.a 0 (regs - 1) && inB x.b 0 (regs - 1))
              · have HF : Hid (badE x regs blocks = 6) := by
                  show _ = _
                  rw [HG3.out, if_pos (Bool.and_eq_false_iff.1 hab)]
                go_wp2_with fail
                go_ret
                exact ⟨ret_int HF.out.symm, hbx.out⟩
              · have HG4 : Hid (badE x regs blocks = if toV blocks x.to = false then 4 else 0) := by
                  show _ = _
                  have h9 := hab
                  rw [Bool.and_eq_true] at h9
                  rw [HG3.out, if_neg (by rw [h9.1, h9.2]; simp)]
                clear HG3
                go_wp2_with fail
                go_loopw [6, 12, 114] (fun _ _ u wr => ∃ q : Nat, q ≤ x.sn ∧ u = .int .i64 (q : Int) ∧ wr = wc ∧ toV blocks (x.to.take q) = true) (fun _ _ u _ => x.sn - (intOf u).toNat)
                case atStart => exact ⟨0, Nat.zero_le _, rfl, rfl, rfl⟩
                case round =>
                  obtain ⟨q, hq, rfl, rfl, hall⟩ := hrel
                  have HALL := Lib.hid hall
                  clear hall
                  by_cases hlt : q < x.sn
                  · obtain ⟨g, off, rfl, hgl, hcc⟩ := HC.out.ints (by omega)
                    have ck := hcc q (by omega)
                    obtain ⟨r, hr⟩ : ∃ r, r = x.to[q]'(by omega) := ⟨_, rfl⟩
                    rw [← hr] at ck
                    have HT : Hid (x.to.take (q + 1) = x.to.take q ++ [r]) := by rw [hr]; exact List.take_succ_eq_append_getElem _
                    have HME : Hid (r ∈ x.to) := by rw [hr]; exact List.getElem_mem _
                    clear hr hcc
                    have HF : Hid (inB r 1 (blocks - 1) = false → toV blocks x.to = false) := fun hin => by
                      show (x.to.all fun r => inB r 1 (blocks - 1)) = false
                      rw [List.all_eq_false]
                      exact ⟨r, HME.out, by rw [hin]; simp⟩
                    by_cases h1 : r < 1
                    · go_wp2_with fail
                      go_ret
                      exact ⟨ret_int (by rw [HG4.out, if_pos (HF.out (inB_false.2 (.inl h1)))]), hbx.out⟩
                    · by_cases h2 : blocks ≤ r
                      · go_wp2_with fail
                        go_ret
                        exact ⟨ret_int (by rw [HG4.out, if_pos (HF.out (inB_false.2 (.inr (by omega))))]), hbx.out⟩
                      · have HN := Lib.hid (inB_true.2 (show 1 ≤ r ∧ r ≤ blocks - 1 by omega))
                        go_wp2_with fail
                        go_roundw
                        case rel =>
                          refine ⟨q + 1, by omega, by go_num, trivial, ?_⟩
                          show ((x.to.take (q + 1)).all fun r => inB r 1 (blocks - 1)) = true
                          rw [HT.out, List.all_append]
                          have := HALL.out
                          unfold toV at this
                          rw [this]
                          simpa using HN.out
                        case measure => simp [intOf]; omega
                  · have HF : Hid (toV blocks x.to = true) := by
                      have := HALL.out
                      rwa [List.take_of_length_le (by omega)] at this
                    go_wp2_with fail
                    go_ret
                    exact ⟨ret_int (by rw [HG4.out, if_neg (by rw [HF.out]; simp)]), hbx.out⟩
          · have HF : Hid (badE x regs blocks = 3) := HBF.out h11
            go_wp2_with fail
            go_ret
            exact ⟨ret_int HF.out.symm, hbx.out⟩
  · have HBE : Hid (badE x regs blocks = 1) := if_pos hkk
    unfold veV
    by_cases h1 : x.kind < 0
    · clear hkk
      go_enter Try.func60, Try.ntmps60
      go_wp2_with fail
      go_ret
      exact ⟨ret_int HBE.out.symm, (Below.refl _ _).alloc (Nat.le_refl _) _⟩
    · have h2 : 3 < x.kind := by omega
      clear hkk
      go_enter Try.func60, Try.ntmps60
      go_wp2_with fail
      go_ret
      exact ⟨ret_int HBE.out.symm, (Below.refl _ _).alloc (Nat.le_refl _) _⟩
end Go.Proofs.Ytlaogkbdjkofaaa
