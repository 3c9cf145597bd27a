/- The reference's InsError (printed by wip/vrefi.py). -/
import Derived.Test.YtlaogkbdjkofaaaVBadD
import Derived.Deep.Cut
import Derived.Deep.CutRange
import Derived.Deep.DeepCutAuto
import Derived.Deep.CutBlock
namespace Go.Proofs.Ytlaogkbdjkofaaa
open Go.RowKit
set_option linter.unusedVariables false
set_option linter.unusedSimpArgs false

theorem has_as (s : ByteArray) (c : Nat) (w : World) (hs : s.size ≤ 1000) (hc : c < 256) {r : Bool} (hr : hasB s.data.toList c = r) :
    Calls Try.prog 96 #[.string s, .int .u8 (c : Int)] w fun e w' => e = .returned (.bool r) ∧ w = w' := by
  rw [← hr]; exact has_any s c w hs hc
/-- the first k members are as the letters say -/
def okV (u : Sh) (x : VI) (k : Nat) : Bool := (decide (k < 1) || u.d || !(x.d != 0)) && (decide (k < 2) || u.a || !(x.a != 0)) && (decide (k < 3) || u.b || !(x.b != 0)) && (decide (k < 4) || u.n || !(x.n != 0)) && (decide (k < 5) || u.l || !((x.sn : Int) != 0))
theorem nzPos (n : Nat) : decide (0 < (n : Int)) = ((n : Int) != 0) := by
  by_cases h : n = 0
  · subst h; rfl
  · have h1 : (0 : Int) < (n : Int) := by omega
    rw [decide_eq_true h1]
    symm
    rw [bne_iff_ne]
    omega
theorem okV_all (u : Sh) (x : VI) : okV u x 5 = !formV u x := by
  unfold okV formV
  rw [nzPos]
  cases u.d <;> cases u.a <;> cases u.b <;> cases u.n <;> cases u.l <;> cases (x.d != 0) <;> cases (x.a != 0) <;> cases (x.b != 0) <;> cases (x.n != 0) <;> cases ((x.sn : Int) != 0) <;> rfl
def leastV (op : Int) : Int := if op == 101 || op == 103 || op == 9 || op == 10 || op == 14 then 0 else -2147483648
def mostV (op : Int) : Int := if op == 101 || op == 103 then 255 else if op == 9 || op == 10 then 31 else if op == 14 then 4095 else 2147483647
theorem limV_ref (x : VI) : limV x = (decide (6 < (x.sn : Int)) || decide (x.n < leastV x.op) || decide (mostV x.op < x.n)) := by
  have key : ∀ l h : Int, (!inB x.n l h) = (decide (x.n < l) || decide (h < x.n)) := fun l h => by
    unfold inB
    by_cases h1 : l ≤ x.n <;> by_cases h2 : x.n ≤ h <;> simp [h1, h2] <;> omega
  unfold limV leastV mostV
  rw [key, key, key, key]
  rcases (show x.op = 101 ∨ x.op = 103 ∨ x.op = 9 ∨ x.op = 10 ∨ x.op = 14 ∨ (x.op ≠ 101 ∧ x.op ≠ 103 ∧ x.op ≠ 9 ∧ x.op ≠ 10 ∧ x.op ≠ 14) by omega) with h | h | h | h | h | ⟨h1, h2, h3, h4, h5⟩
  all_goals
    first
      | rw [h, Bool.eq_iff_iff]; simp; done
      | rw [h, Bool.eq_iff_iff]; simp; omega
      | (have e1 : (x.op == 101) = false := beq_eq_false_iff_ne.2 h1
         have e2 : (x.op == 103) = false := beq_eq_false_iff_ne.2 h2
         have e3 : (x.op == 9) = false := beq_eq_false_iff_ne.2 h3
         have e4 : (x.op == 10) = false := beq_eq_false_iff_ne.2 h4
         have e5 : (x.op == 14) = false := beq_eq_false_iff_ne.2 h5
         rw [e1, e2, e3, e4, e5]
         simp [Bool.or_assoc])

theorem let_min (op : Int) (h : shIs op = true) : ((letV op).toList == [45]) = false := by
  rcases sh_ops h with rfl | rfl | rfl | rfl | rfl | rfl | rfl | rfl | rfl | rfl | rfl | rfl | rfl | rfl | rfl | rfl | rfl | rfl | rfl | rfl <;> decide +kernel
set_option maxRecDepth 100000 in
set_option maxHeartbeats 8000000 in
theorem insError_any (x : VI) (regs : Int) (w : World) (hx : x.Ok w) (hr : 1 ≤ regs ∧ regs ≤ 8192) : Calls Try.prog 59 #[viV x, .int .i64 regs] w (IntPost (badI x regs) w) := by
  have hc0 := hx.came
  have hreach := hx.reach
  have hsl := hx.len
  clear hx
  have hb9 : Below w.heap.size w (w.alloc (.cells #[.int .i64 x.op, .int .i64 x.d, .int .i64 x.a, .int .i64 x.b, .int .i64 x.n, .slice x.sa x.sn x.sc] 65)) := (Below.refl _ w).alloc (Nat.le_refl _) _
  have hbk := Blk.new w [.int .i64 x.op, .int .i64 x.d, .int .i64 x.a, .int .i64 x.b, .int .i64 x.n, .slice x.sa x.sn x.sc] 65
  have HL := letters_any x.op (w.alloc (.cells #[.int .i64 x.op, .int .i64 x.d, .int .i64 x.a, .int .i64 x.b, .int .i64 x.n, .slice x.sa x.sn x.sc] 65))
  have HB9 := Lib.hid hb9
  have HBK := Lib.hid hbk
  clear hb9 hbk
  by_cases his : shIs x.op = true
  · obtain ⟨hd, ha, hb, hn, hl, hsz, _⟩ := let_has his
    have hmin := let_min _ his
    obtain ⟨u, hu⟩ : ∃ u, u = shV x.op := ⟨_, rfl⟩
    have HBI : Hid (badI x regs = if formV u x = true then 3 else if limV x = true then 4 else if namesV regs (x.d :: x.a :: x.b :: x.args) = false then 6 else 0) := by
      unfold Hid badI; rw [if_neg (by simp [his]), hu]
    rw [← hu] at hd ha hb hn hl
    obtain ⟨s, hs⟩ : ∃ s, s = letV x.op := ⟨_, rfl⟩
    rw [show LetPost x.op = fun w e w' => e = .returned (.string s) ∧ Below w.heap.size w w' from by funext w e w'; unfold LetPost; rw [hs]] at HL
    rw [← hs] at hd ha hb hn hl hsz hmin
    clear hu hs his
    unfold viV
    go_enter Try.func59, Try.ntmps59
    go_wp2_with fail
    refine HL.mono ?_
    rintro e w1 ⟨rfl, hbel⟩
    have HB := Lib.hid (HB9.out.trans (hbel.mono HB9.out.size))
    have hbk1 := HBK.out.below hbel HBK.out.lt
    have c1 := hbk1.cell 1
    have c2 := hbk1.cell 2
    have c3 := hbk1.cell 3
    have c4 := hbk1.cell 4
    have c5 := hbk1.cell 5
    have c0 := hbk1.cell 0
    have hlt1 := hbk1.lt
    simp only [List.getElem?_cons_zero, List.getElem?_cons_succ] at c0 c1 c2 c3 c4 c5
    clear hbel HL HB9 HBK hbk1
    go_wp2_with fail
    go_loopw [6, 7, 30] (fun _ _ v wr => ∃ k : Nat, k ≤ 5 ∧ v = .int .i64 (k : Int) ∧ wr = w1.alloc (.cells #[.int .i64 x.d, .int .i64 x.a, .int .i64 x.b, .int .i64 x.n, .int .i64 (x.sn : Int)] 3) ∧ okV u x k = true) (fun _ _ v _ => 5 - (intOf v).toNat)
    case atStart => exact ⟨0, by omega, rfl, rfl, by simp [okV]⟩
    case round =>
      obtain ⟨k, hk, rfl, rfl, hall⟩ := hrel
      have HALL := Lib.hid hall
      clear hall
      by_cases hlt : k < 5
      ·
        --BEGIN
        as_aux_lemma =>
          rcases (show k = 0 ∨ k = 1 ∨ k = 2 ∨ k = 3 ∨ k = 4 by omega) with rfl | rfl | rfl | rfl | rfl
          · cases hv : (x.d != 0)
            · go_wp2_with fail
              go_roundw
              case rel => exact ⟨1, by omega, by go_num, trivial, by have h9 := HALL.out; simp [okV, *] at h9 ⊢ <;> (try first | exact h9 | simp_all)⟩
              case measure => simp [intOf]
            · cases hf : u.d
              · rw [hf] at hd
                have HF : Hid (formV u x = true) := by show _ = _; simp [formV, nzPos, *]
                go_wp2_with (go_at_call 96; refine (has_as _ 68 _ hsz (by decide) hd).mono ?_; rintro e w' ⟨rfl, rfl⟩)
                go_ret
                exact ⟨ret_int (by rw [HBI.out, if_pos HF.out]), HB.out.trans (((Below.refl _ w1).alloc (Nat.le_refl _) _).mono HB.out.size)⟩
              · rw [hf] at hd
                go_wp2_with (go_at_call 96; refine (has_as _ 68 _ hsz (by decide) hd).mono ?_; rintro e w' ⟨rfl, rfl⟩)
                go_roundw
                case rel => exact ⟨1, by omega, by go_num, trivial, by have h9 := HALL.out; simp [okV, *] at h9 ⊢ <;> (try first | exact h9 | simp_all)⟩
                case measure => simp [intOf]
          · cases hv : (x.a != 0)
            · go_wp2_with fail
              go_roundw
              case rel => exact ⟨2, by omega, by go_num, trivial, by have h9 := HALL.out; simp [okV, *] at h9 ⊢ <;> (try first | exact h9 | simp_all)⟩
              case measure => simp [intOf]
            · cases hf : u.a
              · rw [hf] at ha
                have HF : Hid (formV u x = true) := by show _ = _; simp [formV, nzPos, *]
                go_wp2_with (go_at_call 96; refine (has_as _ 65 _ hsz (by decide) ha).mono ?_; rintro e w' ⟨rfl, rfl⟩)
                go_ret
                exact ⟨ret_int (by rw [HBI.out, if_pos HF.out]), HB.out.trans (((Below.refl _ w1).alloc (Nat.le_refl _) _).mono HB.out.size)⟩
              · rw [hf] at ha
                go_wp2_with (go_at_call 96; refine (has_as _ 65 _ hsz (by decide) ha).mono ?_; rintro e w' ⟨rfl, rfl⟩)
                go_roundw
                case rel => exact ⟨2, by omega, by go_num, trivial, by have h9 := HALL.out; simp [okV, *] at h9 ⊢ <;> (try first | exact h9 | simp_all)⟩
                case measure => simp [intOf]
          · cases hv : (x.b != 0)
            · go_wp2_with fail
              go_roundw
              case rel => exact ⟨3, by omega, by go_num, trivial, by have h9 := HALL.out; simp [okV, *] at h9 ⊢ <;> (try first | exact h9 | simp_all)⟩
              case measure => simp [intOf]
            · cases hf : u.b
              · rw [hf] at hb
                have HF : Hid (formV u x = true) := by show _ = _; simp [formV, nzPos, *]
                go_wp2_with (go_at_call 96; refine (has_as _ 66 _ hsz (by decide) hb).mono ?_; rintro e w' ⟨rfl, rfl⟩)
                go_ret
                exact ⟨ret_int (by rw [HBI.out, if_pos HF.out]), HB.out.trans (((Below.refl _ w1).alloc (Nat.le_refl _) _).mono HB.out.size)⟩
              · rw [hf] at hb
                go_wp2_with (go_at_call 96; refine (has_as _ 66 _ hsz (by decide) hb).mono ?_; rintro e w' ⟨rfl, rfl⟩)
                go_roundw
                case rel => exact ⟨3, by omega, by go_num, trivial, by have h9 := HALL.out; simp [okV, *] at h9 ⊢ <;> (try first | exact h9 | simp_all)⟩
                case measure => simp [intOf]
          · cases hv : (x.n != 0)
            · go_wp2_with fail
              go_roundw
              case rel => exact ⟨4, by omega, by go_num, trivial, by have h9 := HALL.out; simp [okV, *] at h9 ⊢ <;> (try first | exact h9 | simp_all)⟩
              case measure => simp [intOf]
            · cases hf : u.n
              · rw [hf] at hn
                have HF : Hid (formV u x = true) := by show _ = _; simp [formV, nzPos, *]
                go_wp2_with (go_at_call 96; refine (has_as _ 78 _ hsz (by decide) hn).mono ?_; rintro e w' ⟨rfl, rfl⟩)
                go_ret
                exact ⟨ret_int (by rw [HBI.out, if_pos HF.out]), HB.out.trans (((Below.refl _ w1).alloc (Nat.le_refl _) _).mono HB.out.size)⟩
              · rw [hf] at hn
                go_wp2_with (go_at_call 96; refine (has_as _ 78 _ hsz (by decide) hn).mono ?_; rintro e w' ⟨rfl, rfl⟩)
                go_roundw
                case rel => exact ⟨4, by omega, by go_num, trivial, by have h9 := HALL.out; simp [okV, *] at h9 ⊢ <;> (try first | exact h9 | simp_all)⟩
                case measure => simp [intOf]
          · cases hv : ((x.sn : Int) != 0)
            · go_wp2_with fail
              go_roundw
              case rel => exact ⟨5, by omega, by go_num, trivial, by have h9 := HALL.out; simp [okV, *] at h9 ⊢ <;> (try first | exact h9 | simp_all)⟩
              case measure => simp [intOf]
            · cases hf : u.l
              · rw [hf] at hl
                have HF : Hid (formV u x = true) := by
                  have h8 : 0 < x.sn := by simp at hv; omega
                  show _ = _
                  simp [formV, hf, h8]
                go_wp2_with (go_at_call 96; refine (has_as _ 76 _ hsz (by decide) hl).mono ?_; rintro e w' ⟨rfl, rfl⟩)
                go_ret
                exact ⟨ret_int (by rw [HBI.out, if_pos HF.out]), HB.out.trans (((Below.refl _ w1).alloc (Nat.le_refl _) _).mono HB.out.size)⟩
              · rw [hf] at hl
                go_wp2_with (go_at_call 96; refine (has_as _ 76 _ hsz (by decide) hl).mono ?_; rintro e w' ⟨rfl, rfl⟩)
                go_roundw
                case rel => exact ⟨5, by omega, by go_num, trivial, by have h9 := HALL.out; simp [okV, *] at h9 ⊢ <;> (try first | exact h9 | simp_all)⟩
                case measure => simp [intOf]
        --END
      · obtain rfl : k = 5 := by omega
        have hform : formV u x = false := by
          have := HALL.out
          rw [okV_all] at this
          simpa using this
        have HBI2 : Hid (badI x regs = if limV x = true then 4 else if namesV regs (x.d :: x.a :: x.b :: x.args) = false then 6 else 0) := by
          rw [hform] at HBI
          exact HBI.out
        clear HALL HBI hform hd ha hb hn hl hsz hmin
        go_upto_block 2 with fail
        go_cut [8, 9] (fun l m wx => l = .int .i64 (leastV x.op) ∧ m = .int .i64 (mostV x.op) ∧ wx = w1.alloc (.cells #[.int .i64 x.d, .int .i64 x.a, .int .i64 x.b, .int .i64 x.n, .int .i64 (x.sn : Int)] 3))
        case first =>
          --BEGIN
          as_aux_lemma =>
            clear HBI2 HB hc0
            rcases (show x.op = 101 ∨ x.op = 103 ∨ x.op = 9 ∨ x.op = 10 ∨ x.op = 14 ∨ (x.op ≠ 101 ∧ x.op ≠ 103 ∧ x.op ≠ 9 ∧ x.op ≠ 10 ∧ x.op ≠ 14) by omega) with ho | ho | ho | ho | ho | ho
            · have b101 : (x.op == 101) = true := (beq_iff_eq.2 ho)
              have b103 : (x.op == 103) = false := (beq_eq_false_iff_ne.2 (by omega))
              have b9 : (x.op == 9) = false := (beq_eq_false_iff_ne.2 (by omega))
              have b10 : (x.op == 10) = false := (beq_eq_false_iff_ne.2 (by omega))
              have b14 : (x.op == 14) = false := (beq_eq_false_iff_ne.2 (by omega))
              clear ho
              go_wp2_with fail
              go_meet
              exact ⟨by simp [leastV, *], by simp [mostV, *], rfl⟩
            · have b101 : (x.op == 101) = false := (beq_eq_false_iff_ne.2 (by omega))
              have b103 : (x.op == 103) = true := (beq_iff_eq.2 ho)
              have b9 : (x.op == 9) = false := (beq_eq_false_iff_ne.2 (by omega))
              have b10 : (x.op == 10) = false := (beq_eq_false_iff_ne.2 (by omega))
              have b14 : (x.op == 14) = false := (beq_eq_false_iff_ne.2 (by omega))
              clear ho
              go_wp2_with fail
              go_meet
              exact ⟨by simp [leastV, *], by simp [mostV, *], rfl⟩
            · have b101 : (x.op == 101) = false := (beq_eq_false_iff_ne.2 (by omega))
              have b103 : (x.op == 103) = false := (beq_eq_false_iff_ne.2 (by omega))
              have b9 : (x.op == 9) = true := (beq_iff_eq.2 ho)
              have b10 : (x.op == 10) = false := (beq_eq_false_iff_ne.2 (by omega))
              have b14 : (x.op == 14) = false := (beq_eq_false_iff_ne.2 (by omega))
              clear ho
              go_wp2_with fail
              go_meet
              exact ⟨by simp [leastV, *], by simp [mostV, *], rfl⟩
            · have b101 : (x.op == 101) = false := (beq_eq_false_iff_ne.2 (by omega))
              have b103 : (x.op == 103) = false := (beq_eq_false_iff_ne.2 (by omega))
              have b9 : (x.op == 9) = false := (beq_eq_false_iff_ne.2 (by omega))
              have b10 : (x.op == 10) = true := (beq_iff_eq.2 ho)
              have b14 : (x.op == 14) = false := (beq_eq_false_iff_ne.2 (by omega))
              clear ho
              go_wp2_with fail
              go_meet
              exact ⟨by simp [leastV, *], by simp [mostV, *], rfl⟩
            · have b101 : (x.op == 101) = false := (beq_eq_false_iff_ne.2 (by omega))
              have b103 : (x.op == 103) = false := (beq_eq_false_iff_ne.2 (by omega))
              have b9 : (x.op == 9) = false := (beq_eq_false_iff_ne.2 (by omega))
              have b10 : (x.op == 10) = false := (beq_eq_false_iff_ne.2 (by omega))
              have b14 : (x.op == 14) = true := (beq_iff_eq.2 ho)
              clear ho
              go_wp2_with fail
              go_meet
              exact ⟨by simp [leastV, *], by simp [mostV, *], rfl⟩
            · have b101 : (x.op == 101) = false := (beq_eq_false_iff_ne.2 (by omega))
              have b103 : (x.op == 103) = false := (beq_eq_false_iff_ne.2 (by omega))
              have b9 : (x.op == 9) = false := (beq_eq_false_iff_ne.2 (by omega))
              have b10 : (x.op == 10) = false := (beq_eq_false_iff_ne.2 (by omega))
              have b14 : (x.op == 14) = false := (beq_eq_false_iff_ne.2 (by omega))
              clear ho
              go_wp2_with fail
              go_meet
              exact ⟨by simp [leastV, *], by simp [mostV, *], rfl⟩
          --END
        case rest =>
          obtain ⟨rfl, rfl, rfl⟩ := hcut
          have HLR := Lib.hid (limV_ref x)
          obtain ⟨ll, hll⟩ : ∃ l, l = leastV x.op := ⟨_, rfl⟩
          obtain ⟨mm, hmm⟩ : ∃ l, l = mostV x.op := ⟨_, rfl⟩
          rw [← hll, ← hmm] at HLR ⊢
          clear hll hmm
          have hb5 : Below w1.heap.size w1 (w1.alloc (.cells #[.int .i64 x.d, .int .i64 x.a, .int .i64 x.b, .int .i64 x.n, .int .i64 (x.sn : Int)] 3)) := (Below.refl _ _).alloc (Nat.le_refl _) _
          have HB5 := Lib.hid (HB.out.trans (hb5.mono HB.out.size))
          have d1 := (hb5.cell (p := ⟨w.heap.size, 1, none⟩) hlt1).trans c1
          have d2 := (hb5.cell (p := ⟨w.heap.size, 2, none⟩) hlt1).trans c2
          have d3 := (hb5.cell (p := ⟨w.heap.size, 3, none⟩) hlt1).trans c3
          have d4 := (hb5.cell (p := ⟨w.heap.size, 4, none⟩) hlt1).trans c4
          have d5 := (hb5.cell (p := ⟨w.heap.size, 5, none⟩) hlt1).trans c5
          have HC := Lib.hid (hc0.below HB5.out)
          clear c0 c1 c2 c3 c4 c5 hb5 HB hc0
          have hlt2 : w.heap.size < (w1.alloc (.cells #[.int .i64 x.d, .int .i64 x.a, .int .i64 x.b, .int .i64 x.n, .int .i64 (x.sn : Int)] 3)).heap.size := by simp; omega
          generalize w1.alloc _ = w2 at d1 d2 d3 d4 d5 HC HB5 hlt2 ⊢
          clear hlt1
          cases hl : limV x
          · have HBI3 : Hid (badI x regs = if namesV regs (x.d :: x.a :: x.b :: x.args) = false then 6 else 0) := by
              rw [hl] at HBI2
              exact HBI2.out
            rw [HLR.out] at hl
            simp only [Bool.or_eq_false_iff, decide_eq_false_iff_not] at hl
            have hsn : (x.sn : Int) ≤ 6 := by omega
            have hn1 : ll ≤ x.n := by omega
            have hn2 : x.n ≤ mm := by omega
            obtain ⟨v1, w3, hrun, hown, hbel⟩ := app_three w2 x.d x.a x.b x.sa x.sn x.sc x.args HC.out hreach 22
            obtain ⟨zs, hzs⟩ : ∃ zs, zs = x.d :: x.a :: x.b :: x.args := ⟨_, rfl⟩
            obtain ⟨m, hm⟩ : ∃ m, m = zs.length := ⟨_, rfl⟩
            rw [← hzs] at hown HBI3
            rw [← hm] at hown
            have hm9 : m ≤ 9 := by rw [hm, hzs]; simp; omega
            obtain ⟨a1, cc1, rfl⟩ := ownG_shape hown
            have HR := Lib.hid hrun
            have HO := Lib.hid hown
            have HB := Lib.hid (HB5.out.trans (hbel.mono HB5.out.size))
            have HM := Lib.hid hm
            clear hown hbel hrun hzs HBI2 hl HC HB5 hm HLR
            go_wp2_with (refine wpList_of_wp _ rfl (fun K Q' hk => wp_append_eq _ _ _ 22 22 rfl _ _ rfl rfl HR.out hk) ?_)
            clear HR d1 d2 d3 d4 d5
            go_loopw [4, 11, 82] (fun _ _ u wr => ∃ k : Nat, k ≤ m ∧ u = .int .i64 (k : Int) ∧ wr = w3 ∧ namesV regs (zs.take k) = true) (fun _ _ u _ => m - (intOf u).toNat)
            case atStart => exact ⟨0, Nat.zero_le _, rfl, rfl, rfl⟩
            case round =>
              obtain ⟨k, hk, rfl, rfl, hall⟩ := hrel
              have HALL := Lib.hid hall
              clear hall
              by_cases hlt : k < m
              · obtain ⟨g, cap, hv, hg1, hg2, hg3, hg4⟩ := ownG_has HO.out (by omega)
                injection hv with e1 e2 e3
                subst e1 e3
                have ck := HO.out.cellAt k (by omega)
                rw [List.getElem?_map, List.getElem?_eq_getElem (by have := HM.out; omega)] at ck
                simp only [Option.map_some] at ck
                obtain ⟨r, hr⟩ : ∃ r, r = zs[k]'(by have := HM.out; omega) := ⟨_, rfl⟩
                rw [← hr] at ck
                have HT : Hid (zs.take (k + 1) = zs.take k ++ [r]) := by rw [hr]; exact List.take_succ_eq_append_getElem _
                have HME : Hid (r ∈ zs) := by rw [hr]; exact List.getElem_mem _
                clear hr
                have HF : Hid (inB r 0 (regs - 1) = false → namesV regs zs = false) := fun hin => by
                  show (zs.all fun r => inB r 0 (regs - 1)) = false
                  rw [List.all_eq_false]
                  exact ⟨r, HME.out, by rw [hin]; simp⟩
                by_cases h1 : r < 0
                · go_wp2_with fail
                  go_ret
                  exact ⟨ret_int (by rw [HBI3.out, if_pos (HF.out (inB_false.2 (.inl h1)))]), HB.out⟩
                · by_cases h2 : regs ≤ r
                  · go_wp2_with fail
                    go_ret
                    exact ⟨ret_int (by rw [HBI3.out, if_pos (HF.out (inB_false.2 (.inr (by omega))))]), HB.out⟩
                  · have HN := Lib.hid (inB_true.2 (show 0 ≤ r ∧ r ≤ regs - 1 by omega))
                    go_wp2_with fail
                    go_roundw
                    case rel =>
                      refine ⟨k + 1, by omega, by go_num, trivial, ?_⟩
                      show ((zs.take (k + 1)).all fun r => inB r 0 (regs - 1)) = true
                      rw [HT.out, List.all_append]
                      have := HALL.out
                      unfold namesV at this
                      rw [this]
                      simpa using HN.out
                    case measure => simp [intOf]; omega
              · have HF : Hid (namesV regs zs = true) := by
                  have := HALL.out
                  rwa [List.take_of_length_le (by have := HM.out; omega)] at this
                go_wp2_with fail
                go_ret
                exact ⟨ret_int (by rw [HBI3.out, if_neg (by rw [HF.out]; simp)]), HB.out⟩
          · have HF : Hid (badI x regs = 4) := by
              rw [hl] at HBI2
              exact HBI2.out
            rw [HLR.out] at hl
            by_cases h1 : 6 < (x.sn : Int)
            · go_wp2_with fail
              go_ret
              exact ⟨ret_int HF.out.symm, HB5.out⟩
            · by_cases h2 : x.n < ll
              · clear hl
                go_wp2_with fail
                go_ret
                exact ⟨ret_int HF.out.symm, HB5.out⟩
              · have h3 : mm < x.n := by simpa [h1, h2] using hl
                clear hl
                go_wp2_with fail
                go_ret
                exact ⟨ret_int HF.out.symm, HB5.out⟩
  · have h0 : shIs x.op = false := by simpa using his
    have HBI : Hid (badI x regs = 1) := if_pos h0
    have hnn : ¬ ((1 ≤ x.op ∧ x.op ≤ 15) ∨ x.op = 23 ∨ (100 ≤ x.op ∧ x.op ≤ 103)) := fun hh => his (decide_eq_true hh)
    have hs : letV x.op = ⟨#[45]⟩ := by unfold letV; rw [if_neg (by omega), if_neg (by omega), if_neg (by omega), if_neg (by omega), if_neg (by omega), if_neg (by omega)]
    rw [show LetPost x.op = fun w e w' => e = .returned (.string ⟨#[45]⟩) ∧ Below w.heap.size w w' from by funext w e w'; unfold LetPost; rw [hs]] at HL
    clear hs his h0 hnn
    unfold viV
    go_enter Try.func59, Try.ntmps59
    go_wp2_with fail
    refine HL.mono ?_
    rintro e w1 ⟨rfl, hbel⟩
    have HB := Lib.hid (HB9.out.trans (hbel.mono HB9.out.size))
    clear hbel
    go_wp2_with fail
    go_ret
    exact ⟨ret_int HBI.out.symm, HB.out⟩
end Go.Proofs.Ytlaogkbdjkofaaa
