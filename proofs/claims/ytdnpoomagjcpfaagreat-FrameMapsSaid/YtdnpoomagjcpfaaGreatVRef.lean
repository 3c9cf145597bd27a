/- The reference's InsError (printed by wip/vrefi.py). The reference's EndError (printed by wip/vrefe.py). The reference's FnError. -/
import Derived.Test.YtdnpoomagjcpfaaGreatVBase
import Derived.Deep.Cut
import Derived.Deep.CutRange
import Derived.Deep.DeepCutAuto
import Derived.Deep.CutBlock
import Derived.Test.YtdnpoomagjcpfaaGreatVCheckM
import Derived.Test.YtdnpoomagjcpfaaGreatVCheck
import Derived.Test.YtdnpoomagjcpfaaGreatVAlive
namespace Go.Proofs.YtdnpoomagjcpfaaGreat
open Go.RowKit
set_option linter.unusedVariables false
set_option linter.unusedSimpArgs false

section
theorem has_as (s : ByteArray) (c : Nat) (w : World) (hs : s.size ≤ 1000) (hc : c < 256) {r : Bool} (hr : hasB s.data.toList c = r) :
    Calls Tryz.prog 35 #[.string s, .int .u8 (c : Int)] w fun e w' => e = .returned (.bool r) ∧ w = w' := by
  rw [← hr]; exact has_any s c w hs hc
/-- the first k members are as the letters say -/
def okV (u : Sh) (x : VI) (k : Nat) : Bool := (decide (k < 1) || u.d || !(x.d != 0)) && (decide (k < 2) || u.a || !(x.a != 0)) && (decide (k < 3) || u.b || !(x.b != 0)) && (decide (k < 4) || u.n || !(x.n != 0)) && (decide (k < 5) || u.l || !((x.sn : Int) != 0))
theorem nzPos (n : Nat) : decide (0 < (n : Int)) = ((n : Int) != 0) := by
  by_cases h : n = 0
  · subst h; rfl
  · have h1 : (0 : Int) < (n : Int) := by omega
    rw [decide_eq_true h1]
    symm
    rw [bne_iff_ne]
    omega
theorem okV_all (u : Sh) (x : VI) : okV u x 5 = !formV u x := by
  unfold okV formV
  rw [nzPos]
  cases u.d <;> cases u.a <;> cases u.b <;> cases u.n <;> cases u.l <;> cases (x.d != 0) <;> cases (x.a != 0) <;> cases (x.b != 0) <;> cases (x.n != 0) <;> cases ((x.sn : Int) != 0) <;> rfl
def leastV (op : Int) : Int := if op == 101 || op == 103 || op == 9 || op == 10 || op == 14 then 0 else -2147483648
def mostV (op : Int) : Int := if op == 101 || op == 103 then 255 else if op == 9 || op == 10 then 31 else if op == 14 then 4095 else 2147483647
theorem limV_ref (x : VI) : limV x = (decide (6 < (x.sn : Int)) || decide (x.n < leastV x.op) || decide (mostV x.op < x.n)) := by
  have key : ∀ l h : Int, (!inB x.n l h) = (decide (x.n < l) || decide (h < x.n)) := fun l h => by
    unfold inB
    by_cases h1 : l ≤ x.n <;> by_cases h2 : x.n ≤ h <;> simp [h1, h2] <;> omega
  unfold limV leastV mostV
  rw [key, key, key, key]
  rcases (show x.op = 101 ∨ x.op = 103 ∨ x.op = 9 ∨ x.op = 10 ∨ x.op = 14 ∨ (x.op ≠ 101 ∧ x.op ≠ 103 ∧ x.op ≠ 9 ∧ x.op ≠ 10 ∧ x.op ≠ 14) by omega) with h | h | h | h | h | ⟨h1, h2, h3, h4, h5⟩
  all_goals
    first
      | rw [h, Bool.eq_iff_iff]; simp; done
      | rw [h, Bool.eq_iff_iff]; simp; omega
      | (have e1 : (x.op == 101) = false := beq_eq_false_iff_ne.2 h1
         have e2 : (x.op == 103) = false := beq_eq_false_iff_ne.2 h2
         have e3 : (x.op == 9) = false := beq_eq_false_iff_ne.2 h3
         have e4 : (x.op == 10) = false := beq_eq_false_iff_ne.2 h4
         have e5 : (x.op == 14) = false := beq_eq_false_iff_ne.2 h5
         rw [e1, e2, e3, e4, e5]
         simp [Bool.or_assoc])

theorem let_min (op : Int) (h : shIs op = true) : ((letV op).toList == [45]) = false := by
  rcases sh_ops h with rfl | rfl | rfl | rfl | rfl | rfl | rfl | rfl | rfl | rfl | rfl | rfl | rfl | rfl | rfl | rfl | rfl | rfl | rfl | rfl <;> decide +kernel
set_option maxRecDepth 100000 in
set_option maxHeartbeats 8000000 in
theorem insError_any (x : VI) (regs : Int) (w : World) (hx : x.Ok w) (hr : 1 ≤ regs ∧ regs ≤ 8192) : Calls Tryz.prog 18 #[viV x, .int .i64 regs] w (IntPost (badI x regs) w) := by
  have hc0 := hx.came
  have hreach := hx.reach
  have hsl := hx.len
  clear hx
  have hb9 : Below w.heap.size w (w.alloc (.cells #[.int .i64 x.op, .int .i64 x.d, .int .i64 x.a, .int .i64 x.b, .int .i64 x.n, .slice x.sa x.sn x.sc] 48)) := (Below.refl _ w).alloc (Nat.le_refl _) _
  have hbk := Blk.new w [.int .i64 x.op, .int .i64 x.d, .int .i64 x.a, .int .i64 x.b, .int .i64 x.n, .slice x.sa x.sn x.sc] 48
  have HL := letters_any x.op (w.alloc (.cells #[.int .i64 x.op, .int .i64 x.d, .int .i64 x.a, .int .i64 x.b, .int .i64 x.n, .slice x.sa x.sn x.sc] 48))
  have HB9 := Lib.hid hb9
  have HBK := Lib.hid hbk
  clear hb9 hbk
  by_cases his : shIs x.op = true
  · obtain ⟨hd, ha, hb, hn, hl, hsz, _⟩ := let_has his
    have hmin := let_min _ his
    obtain ⟨u, hu⟩ : ∃ u, u = shV x.op := ⟨_, rfl⟩
    have HBI : Hid (badI x regs = if formV u x = true then 3 else if limV x = true then 4 else if namesV regs (x.d :: x.a :: x.b :: x.args) = false then 6 else 0) := by
      unfold Hid badI; rw [if_neg (by simp [his]), hu]
    rw [← hu] at hd ha hb hn hl
    obtain ⟨s, hs⟩ : ∃ s, s = letV x.op := ⟨_, rfl⟩
    rw [show LetPost x.op = fun w e w' => e = .returned (.string s) ∧ Below w.heap.size w w' from by funext w e w'; unfold LetPost; rw [hs]] at HL
    rw [← hs] at hd ha hb hn hl hsz hmin
    clear hu hs his
    unfold viV
    go_enter Tryz.func18, Tryz.ntmps18
    go_wp2_with fail
    refine HL.mono ?_
    rintro e w1 ⟨rfl, hbel⟩
    have HB := Lib.hid (HB9.out.trans (hbel.mono HB9.out.size))
    have hbk1 := HBK.out.below hbel HBK.out.lt
    have c1 := hbk1.cell 1
    have c2 := hbk1.cell 2
    have c3 := hbk1.cell 3
    have c4 := hbk1.cell 4
    have c5 := hbk1.cell 5
    have c0 := hbk1.cell 0
    have hlt1 := hbk1.lt
    simp only [List.getElem?_cons_zero, List.getElem?_cons_succ] at c0 c1 c2 c3 c4 c5
    clear hbel HL HB9 HBK hbk1
    go_wp2_with fail
    go_loopw [6, 7, 30] (fun _ _ v wr => ∃ k : Nat, k ≤ 5 ∧ v = .int .i64 (k : Int) ∧ wr = w1.alloc (.cells #[.int .i64 x.d, .int .i64 x.a, .int .i64 x.b, .int .i64 x.n, .int .i64 (x.sn : Int)] 3) ∧ okV u x k = true) (fun _ _ v _ => 5 - (intOf v).toNat)
    case atStart => exact ⟨0, by omega, rfl, rfl, by simp [okV]⟩
    case round =>
      obtain ⟨k, hk, rfl, rfl, hall⟩ := hrel
      have HALL := Lib.hid hall
      clear hall
      by_cases hlt : k < 5
      ·
        --BEGIN
        as_aux_lemma =>
          rcases (show k = 0 ∨ k = 1 ∨ k = 2 ∨ k = 3 ∨ k = 4 by omega) with rfl | rfl | rfl | rfl | rfl
          · cases hv : (x.d != 0)
            · go_wp2_with fail
              go_roundw
              case rel => exact ⟨1, by omega, by go_num, trivial, by have h9 := HALL.out; simp [okV, *] at h9 ⊢ <;> (try first | exact h9 | simp_all)⟩
              case measure => simp [intOf]
            · cases hf : u.d
              · rw [hf] at hd
                have HF : Hid (formV u x = true) := by show _ = _; simp [formV, nzPos, *]
                go_wp2_with (go_at_call 35; refine (has_as _ 68 _ hsz (by decide) hd).mono ?_; rintro e w' ⟨rfl, rfl⟩)
                go_ret
                exact ⟨ret_int (by rw [HBI.out, if_pos HF.out]), HB.out.trans (((Below.refl _ w1).alloc (Nat.le_refl _) _).mono HB.out.size)⟩
              · rw [hf] at hd
                go_wp2_with (go_at_call 35; refine (has_as _ 68 _ hsz (by decide) hd).mono ?_; rintro e w' ⟨rfl, rfl⟩)
                go_roundw
                case rel => exact ⟨1, by omega, by go_num, trivial, by have h9 := HALL.out; simp [okV, *] at h9 ⊢ <;> (try first | exact h9 | simp_all)⟩
                case measure => simp [intOf]
          · cases hv : (x.a != 0)
            · go_wp2_with fail
              go_roundw
              case rel => exact ⟨2, by omega, by go_num, trivial, by have h9 := HALL.out; simp [okV, *] at h9 ⊢ <;> (try first | exact h9 | simp_all)⟩
              case measure => simp [intOf]
            · cases hf : u.a
              · rw [hf] at ha
                have HF : Hid (formV u x = true) := by show _ = _; simp [formV, nzPos, *]
                go_wp2_with (go_at_call 35; refine (has_as _ 65 _ hsz (by decide) ha).mono ?_; rintro e w' ⟨rfl, rfl⟩)
                go_ret
                exact ⟨ret_int (by rw [HBI.out, if_pos HF.out]), HB.out.trans (((Below.refl _ w1).alloc (Nat.le_refl _) _).mono HB.out.size)⟩
              · rw [hf] at ha
                go_wp2_with (go_at_call 35; refine (has_as _ 65 _ hsz (by decide) ha).mono ?_; rintro e w' ⟨rfl, rfl⟩)
                go_roundw
                case rel => exact ⟨2, by omega, by go_num, trivial, by have h9 := HALL.out; simp [okV, *] at h9 ⊢ <;> (try first | exact h9 | simp_all)⟩
                case measure => simp [intOf]
          · cases hv : (x.b != 0)
            · go_wp2_with fail
              go_roundw
              case rel => exact ⟨3, by omega, by go_num, trivial, by have h9 := HALL.out; simp [okV, *] at h9 ⊢ <;> (try first | exact h9 | simp_all)⟩
              case measure => simp [intOf]
            · cases hf : u.b
              · rw [hf] at hb
                have HF : Hid (formV u x = true) := by show _ = _; simp [formV, nzPos, *]
                go_wp2_with (go_at_call 35; refine (has_as _ 66 _ hsz (by decide) hb).mono ?_; rintro e w' ⟨rfl, rfl⟩)
                go_ret
                exact ⟨ret_int (by rw [HBI.out, if_pos HF.out]), HB.out.trans (((Below.refl _ w1).alloc (Nat.le_refl _) _).mono HB.out.size)⟩
              · rw [hf] at hb
                go_wp2_with (go_at_call 35; refine (has_as _ 66 _ hsz (by decide) hb).mono ?_; rintro e w' ⟨rfl, rfl⟩)
                go_roundw
                case rel => exact ⟨3, by omega, by go_num, trivial, by have h9 := HALL.out; simp [okV, *] at h9 ⊢ <;> (try first | exact h9 | simp_all)⟩
                case measure => simp [intOf]
          · cases hv : (x.n != 0)
            · go_wp2_with fail
              go_roundw
              case rel => exact ⟨4, by omega, by go_num, trivial, by have h9 := HALL.out; simp [okV, *] at h9 ⊢ <;> (try first | exact h9 | simp_all)⟩
              case measure => simp [intOf]
            · cases hf : u.n
              · rw [hf] at hn
                have HF : Hid (formV u x = true) := by show _ = _; simp [formV, nzPos, *]
                go_wp2_with (go_at_call 35; refine (has_as _ 78 _ hsz (by decide) hn).mono ?_; rintro e w' ⟨rfl, rfl⟩)
                go_ret
                exact ⟨ret_int (by rw [HBI.out, if_pos HF.out]), HB.out.trans (((Below.refl _ w1).alloc (Nat.le_refl _) _).mono HB.out.size)⟩
              · rw [hf] at hn
                go_wp2_with (go_at_call 35; refine (has_as _ 78 _ hsz (by decide) hn).mono ?_; rintro e w' ⟨rfl, rfl⟩)
                go_roundw
                case rel => exact ⟨4, by omega, by go_num, trivial, by have h9 := HALL.out; simp [okV, *] at h9 ⊢ <;> (try first | exact h9 | simp_all)⟩
                case measure => simp [intOf]
          · cases hv : ((x.sn : Int) != 0)
            · go_wp2_with fail
              go_roundw
              case rel => exact ⟨5, by omega, by go_num, trivial, by have h9 := HALL.out; simp [okV, *] at h9 ⊢ <;> (try first | exact h9 | simp_all)⟩
              case measure => simp [intOf]
            · cases hf : u.l
              · rw [hf] at hl
                have HF : Hid (formV u x = true) := by
                  have h8 : 0 < x.sn := by simp at hv; omega
                  show _ = _
                  simp [formV, hf, h8]
                go_wp2_with (go_at_call 35; refine (has_as _ 76 _ hsz (by decide) hl).mono ?_; rintro e w' ⟨rfl, rfl⟩)
                go_ret
                exact ⟨ret_int (by rw [HBI.out, if_pos HF.out]), HB.out.trans (((Below.refl _ w1).alloc (Nat.le_refl _) _).mono HB.out.size)⟩
              · rw [hf] at hl
                go_wp2_with (go_at_call 35; refine (has_as _ 76 _ hsz (by decide) hl).mono ?_; rintro e w' ⟨rfl, rfl⟩)
                go_roundw
                case rel => exact ⟨5, by omega, by go_num, trivial, by have h9 := HALL.out; simp [okV, *] at h9 ⊢ <;> (try first | exact h9 | simp_all)⟩
                case measure => simp [intOf]
        --END
      · obtain rfl : k = 5 := by omega
        have hform : formV u x = false := by
          have := HALL.out
          rw [okV_all] at this
          simpa using this
        have HBI2 : Hid (badI x regs = if limV x = true then 4 else if namesV regs (x.d :: x.a :: x.b :: x.args) = false then 6 else 0) := by
          rw [hform] at HBI
          exact HBI.out
        clear HALL HBI hform hd ha hb hn hl hsz hmin
        go_upto_block 2 with fail
        go_cut [8, 9] (fun l m wx => l = .int .i64 (leastV x.op) ∧ m = .int .i64 (mostV x.op) ∧ wx = w1.alloc (.cells #[.int .i64 x.d, .int .i64 x.a, .int .i64 x.b, .int .i64 x.n, .int .i64 (x.sn : Int)] 3))
        case first =>
          --BEGIN
          as_aux_lemma =>
            clear HBI2 HB hc0
            rcases (show x.op = 101 ∨ x.op = 103 ∨ x.op = 9 ∨ x.op = 10 ∨ x.op = 14 ∨ (x.op ≠ 101 ∧ x.op ≠ 103 ∧ x.op ≠ 9 ∧ x.op ≠ 10 ∧ x.op ≠ 14) by omega) with ho | ho | ho | ho | ho | ho
            · have b101 : (x.op == 101) = true := (beq_iff_eq.2 ho)
              have b103 : (x.op == 103) = false := (beq_eq_false_iff_ne.2 (by omega))
              have b9 : (x.op == 9) = false := (beq_eq_false_iff_ne.2 (by omega))
              have b10 : (x.op == 10) = false := (beq_eq_false_iff_ne.2 (by omega))
              have b14 : (x.op == 14) = false := (beq_eq_false_iff_ne.2 (by omega))
              clear ho
              go_wp2_with fail
              go_meet
              exact ⟨by simp [leastV, *], by simp [mostV, *], rfl⟩
            · have b101 : (x.op == 101) = false := (beq_eq_false_iff_ne.2 (by omega))
              have b103 : (x.op == 103) = true := (beq_iff_eq.2 ho)
              have b9 : (x.op == 9) = false := (beq_eq_false_iff_ne.2 (by omega))
              have b10 : (x.op == 10) = false := (beq_eq_false_iff_ne.2 (by omega))
              have b14 : (x.op == 14) = false := (beq_eq_false_iff_ne.2 (by omega))
              clear ho
              go_wp2_with fail
              go_meet
              exact ⟨by simp [leastV, *], by simp [mostV, *], rfl⟩
            · have b101 : (x.op == 101) = false := (beq_eq_false_iff_ne.2 (by omega))
              have b103 : (x.op == 103) = false := (beq_eq_false_iff_ne.2 (by omega))
              have b9 : (x.op == 9) = true := (beq_iff_eq.2 ho)
              have b10 : (x.op == 10) = false := (beq_eq_false_iff_ne.2 (by omega))
              have b14 : (x.op == 14) = false := (beq_eq_false_iff_ne.2 (by omega))
              clear ho
              go_wp2_with fail
              go_meet
              exact ⟨by simp [leastV, *], by simp [mostV, *], rfl⟩
            · have b101 : (x.op == 101) = false := (beq_eq_false_iff_ne.2 (by omega))
              have b103 : (x.op == 103) = false := (beq_eq_false_iff_ne.2 (by omega))
              have b9 : (x.op == 9) = false := (beq_eq_false_iff_ne.2 (by omega))
              have b10 : (x.op == 10) = true := (beq_iff_eq.2 ho)
              have b14 : (x.op == 14) = false := (beq_eq_false_iff_ne.2 (by omega))
              clear ho
              go_wp2_with fail
              go_meet
              exact ⟨by simp [leastV, *], by simp [mostV, *], rfl⟩
            · have b101 : (x.op == 101) = false := (beq_eq_false_iff_ne.2 (by omega))
              have b103 : (x.op == 103) = false := (beq_eq_false_iff_ne.2 (by omega))
              have b9 : (x.op == 9) = false := (beq_eq_false_iff_ne.2 (by omega))
              have b10 : (x.op == 10) = false := (beq_eq_false_iff_ne.2 (by omega))
              have b14 : (x.op == 14) = true := (beq_iff_eq.2 ho)
              clear ho
              go_wp2_with fail
              go_meet
              exact ⟨by simp [leastV, *], by simp [mostV, *], rfl⟩
            · have b101 : (x.op == 101) = false := (beq_eq_false_iff_ne.2 (by omega))
              have b103 : (x.op == 103) = false := (beq_eq_false_iff_ne.2 (by omega))
              have b9 : (x.op == 9) = false := (beq_eq_false_iff_ne.2 (by omega))
              have b10 : (x.op == 10) = false := (beq_eq_false_iff_ne.2 (by omega))
              have b14 : (x.op == 14) = false := (beq_eq_false_iff_ne.2 (by omega))
              clear ho
              go_wp2_with fail
              go_meet
              exact ⟨by simp [leastV, *], by simp [mostV, *], rfl⟩
          --END
        case rest =>
          obtain ⟨rfl, rfl, rfl⟩ := hcut
          have HLR := Lib.hid (limV_ref x)
          obtain ⟨ll, hll⟩ : ∃ l, l = leastV x.op := ⟨_, rfl⟩
          obtain ⟨mm, hmm⟩ : ∃ l, l = mostV x.op := ⟨_, rfl⟩
          rw [← hll, ← hmm] at HLR ⊢
          clear hll hmm
          have hb5 : Below w1.heap.size w1 (w1.alloc (.cells #[.int .i64 x.d, .int .i64 x.a, .int .i64 x.b, .int .i64 x.n, .int .i64 (x.sn : Int)] 3)) := (Below.refl _ _).alloc (Nat.le_refl _) _
          have HB5 := Lib.hid (HB.out.trans (hb5.mono HB.out.size))
          have d1 := (hb5.cell (p := ⟨w.heap.size, 1, none⟩) hlt1).trans c1
          have d2 := (hb5.cell (p := ⟨w.heap.size, 2, none⟩) hlt1).trans c2
          have d3 := (hb5.cell (p := ⟨w.heap.size, 3, none⟩) hlt1).trans c3
          have d4 := (hb5.cell (p := ⟨w.heap.size, 4, none⟩) hlt1).trans c4
          have d5 := (hb5.cell (p := ⟨w.heap.size, 5, none⟩) hlt1).trans c5
          have HC := Lib.hid (hc0.below HB5.out)
          clear c0 c1 c2 c3 c4 c5 hb5 HB hc0
          have hlt2 : w.heap.size < (w1.alloc (.cells #[.int .i64 x.d, .int .i64 x.a, .int .i64 x.b, .int .i64 x.n, .int .i64 (x.sn : Int)] 3)).heap.size := by simp; omega
          generalize w1.alloc _ = w2 at d1 d2 d3 d4 d5 HC HB5 hlt2 ⊢
          clear hlt1
          cases hl : limV x
          · have HBI3 : Hid (badI x regs = if namesV regs (x.d :: x.a :: x.b :: x.args) = false then 6 else 0) := by
              rw [hl] at HBI2
              exact HBI2.out
            rw [HLR.out] at hl
            simp only [Bool.or_eq_false_iff, decide_eq_false_iff_not] at hl
            have hsn : (x.sn : Int) ≤ 6 := by omega
            have hn1 : ll ≤ x.n := by omega
            have hn2 : x.n ≤ mm := by omega
            obtain ⟨v1, w3, hrun, hown, hbel⟩ := app_three w2 x.d x.a x.b x.sa x.sn x.sc x.args HC.out hreach 22
            obtain ⟨zs, hzs⟩ : ∃ zs, zs = x.d :: x.a :: x.b :: x.args := ⟨_, rfl⟩
            obtain ⟨m, hm⟩ : ∃ m, m = zs.length := ⟨_, rfl⟩
            rw [← hzs] at hown HBI3
            rw [← hm] at hown
            have hm9 : m ≤ 9 := by rw [hm, hzs]; simp; omega
            obtain ⟨a1, cc1, rfl⟩ := ownG_shape hown
            have HR := Lib.hid hrun
            have HO := Lib.hid hown
            have HB := Lib.hid (HB5.out.trans (hbel.mono HB5.out.size))
            have HM := Lib.hid hm
            clear hown hbel hrun hzs HBI2 hl HC HB5 hm HLR
            go_wp2_with (refine wpList_of_wp _ rfl (fun K Q' hk => wp_append_eq _ _ _ 22 22 rfl _ _ rfl rfl HR.out hk) ?_)
            clear HR d1 d2 d3 d4 d5
            go_loopw [4, 11, 82] (fun _ _ u wr => ∃ k : Nat, k ≤ m ∧ u = .int .i64 (k : Int) ∧ wr = w3 ∧ namesV regs (zs.take k) = true) (fun _ _ u _ => m - (intOf u).toNat)
            case atStart => exact ⟨0, Nat.zero_le _, rfl, rfl, rfl⟩
            case round =>
              obtain ⟨k, hk, rfl, rfl, hall⟩ := hrel
              have HALL := Lib.hid hall
              clear hall
              by_cases hlt : k < m
              · obtain ⟨g, cap, hv, hg1, hg2, hg3, hg4⟩ := ownG_has HO.out (by omega)
                injection hv with e1 e2 e3
                subst e1 e3
                have ck := HO.out.cellAt k (by omega)
                rw [List.getElem?_map, List.getElem?_eq_getElem (by have := HM.out; omega)] at ck
                simp only [Option.map_some] at ck
                obtain ⟨r, hr⟩ : ∃ r, r = zs[k]'(by have := HM.out; omega) := ⟨_, rfl⟩
                rw [← hr] at ck
                have HT : Hid (zs.take (k + 1) = zs.take k ++ [r]) := by rw [hr]; exact List.take_succ_eq_append_getElem _
                have HME : Hid (r ∈ zs) := by rw [hr]; exact List.getElem_mem _
                clear hr
                have HF : Hid (inB r 0 (regs - 1) = false → namesV regs zs = false) := fun hin => by
                  show (zs.all fun r => inB r 0 (regs - 1)) = false
                  rw [List.all_eq_false]
                  exact ⟨r, HME.out, by rw [hin]; simp⟩
                by_cases h1 : r < 0
                · go_wp2_with fail
                  go_ret
                  exact ⟨ret_int (by rw [HBI3.out, if_pos (HF.out (inB_false.2 (.inl h1)))]), HB.out⟩
                · by_cases h2 : regs ≤ r
                  · go_wp2_with fail
                    go_ret
                    exact ⟨ret_int (by rw [HBI3.out, if_pos (HF.out (inB_false.2 (.inr (by omega))))]), HB.out⟩
                  · have HN := Lib.hid (inB_true.2 (show 0 ≤ r ∧ r ≤ regs - 1 by omega))
                    go_wp2_with fail
                    go_roundw
                    case rel =>
                      refine ⟨k + 1, by omega, by go_num, trivial, ?_⟩
                      show ((zs.take (k + 1)).all fun r => inB r 0 (regs - 1)) = true
                      rw [HT.out, List.all_append]
                      have := HALL.out
                      unfold namesV at this
                      rw [this]
                      simpa using HN.out
                    case measure => simp [intOf]; omega
              · have HF : Hid (namesV regs zs = true) := by
                  have := HALL.out
                  rwa [List.take_of_length_le (by have := HM.out; omega)] at this
                go_wp2_with fail
                go_ret
                exact ⟨ret_int (by rw [HBI3.out, if_neg (by rw [HF.out]; simp)]), HB.out⟩
          · have HF : Hid (badI x regs = 4) := by
              rw [hl] at HBI2
              exact HBI2.out
            rw [HLR.out] at hl
            by_cases h1 : 6 < (x.sn : Int)
            · go_wp2_with fail
              go_ret
              exact ⟨ret_int HF.out.symm, HB5.out⟩
            · by_cases h2 : x.n < ll
              · clear hl
                go_wp2_with fail
                go_ret
                exact ⟨ret_int HF.out.symm, HB5.out⟩
              · have h3 : mm < x.n := by simpa [h1, h2] using hl
                clear hl
                go_wp2_with fail
                go_ret
                exact ⟨ret_int HF.out.symm, HB5.out⟩
  · have h0 : shIs x.op = false := by simpa using his
    have HBI : Hid (badI x regs = 1) := if_pos h0
    have hnn : ¬ ((1 ≤ x.op ∧ x.op ≤ 15) ∨ x.op = 23 ∨ (100 ≤ x.op ∧ x.op ≤ 103)) := fun hh => his (decide_eq_true hh)
    have hs : letV x.op = ⟨#[45]⟩ := by unfold letV; rw [if_neg (by omega), if_neg (by omega), if_neg (by omega), if_neg (by omega), if_neg (by omega), if_neg (by omega)]
    rw [show LetPost x.op = fun w e w' => e = .returned (.string ⟨#[45]⟩) ∧ Below w.heap.size w w' from by funext w e w'; unfold LetPost; rw [hs]] at HL
    clear hs his h0 hnn
    unfold viV
    go_enter Tryz.func18, Tryz.ntmps18
    go_wp2_with fail
    refine HL.mono ?_
    rintro e w1 ⟨rfl, hbel⟩
    have HB := Lib.hid (HB9.out.trans (hbel.mono HB9.out.size))
    clear hbel
    go_wp2_with fail
    go_ret
    exact ⟨ret_int HBI.out.symm, HB.out⟩
end

section
theorem has_asE (s : ByteArray) (c : Nat) (w : World) (hs : s.size ≤ 1000) (hc : c < 256) {r : Bool} (hr : hasB s.data.toList c = r) :
    Calls Tryz.prog 35 #[.string s, .int .u8 (c : Int)] w fun e w' => e = .returned (.bool r) ∧ w = w' := by
  rw [← hr]; exact has_any s c w hs hc
def okE (uo ua ub un : Bool) (x : VE) (k : Nat) : Bool := (decide (k < 1) || uo || !(x.op != 0)) && (decide (k < 2) || ua || !(x.a != 0)) && (decide (k < 3) || ub || !(x.b != 0)) && (decide (k < 4) || un || !(x.n != 0))
def kindS (k : Nat) : ByteArray := if k = 0 then ⟨#[65]⟩ else if k = 1 then ⟨#[]⟩ else if k = 2 then ⟨#[79, 65, 66]⟩ else ⟨#[78]⟩
def bad11 (x : VE) (k : Nat) : Bool := ((x.sn : Int) != endMany (k : Int) || (((k : Int) == 2) && (decide (x.op < 16) || decide (18 < x.op)))) || (((k : Int) == 3) && (decide (x.n < 1) || decide (6 < x.n)))
theorem end_ref (x : VE) (k : Nat) (hk : x.kind = (k : Int)) (h3 : k ≤ 3) (uo ua ub un : Bool) (h : uo = decide (k = 2) ∧ ua = decide (k = 0 ∨ k = 2) ∧ ub = decide (k = 2) ∧ un = decide (k = 3)) :
    (endOk x = false ∨ (x.sn : Int) ≠ endMany x.kind) ↔ (okE uo ua ub un x 4 = false ∨ bad11 x k = true) := by
  have hb : ∀ z : Int, (z != 0) = !(z == 0) := fun z => rfl
  have hi : inB x.n 1 6 = (decide (1 ≤ x.n) && decide (x.n ≤ 6)) := rfl
  obtain ⟨rfl, rfl, rfl, rfl⟩ := h
  unfold endOk okE bad11 endMany
  rw [hk, hi]
  simp only [hb]
  rcases (show k = 0 ∨ k = 1 ∨ k = 2 ∨ k = 3 by omega) with rfl | rfl | rfl | rfl
  all_goals (try simp [-Int.natCast_eq_zero])
  all_goals
    by_cases h1 : x.op = 0 <;> by_cases h2 : x.a = 0 <;> by_cases h3 : x.b = 0 <;> by_cases h4 : x.n = 0 <;> simp [h1, h2, h3, h4] <;> omega

set_option maxRecDepth 100000 in
set_option maxHeartbeats 8000000 in
theorem endError_any (x : VE) (regs blocks : Int) (w : World) (hx : x.Ok w) (hr : 1 ≤ regs ∧ regs ≤ 8192) (hbl : 0 ≤ blocks ∧ blocks ≤ 4096) : Calls Tryz.prog 19 #[veV x, .int .i64 regs, .int .i64 blocks] w (IntPost (badE x regs blocks) w) := by
  have hc0 := hx.came
  have hsl := hx.len
  have hreach := hx.reach
  clear hx
  by_cases hkk : 0 ≤ x.kind ∧ x.kind ≤ 3
  · obtain ⟨k, hk⟩ := Int.eq_ofNat_of_zero_le hkk.1
    have hk3 : k ≤ 3 := by omega
    have hkl : k < 4 := by omega
    obtain ⟨uo, huo⟩ : ∃ b, b = decide (k = 2) := ⟨_, rfl⟩
    obtain ⟨ua, hua⟩ : ∃ b, b = decide (k = 0 ∨ k = 2) := ⟨_, rfl⟩
    obtain ⟨ub, hub⟩ : ∃ b, b = decide (k = 2) := ⟨_, rfl⟩
    obtain ⟨un, hun⟩ : ∃ b, b = decide (k = 3) := ⟨_, rfl⟩
    have hER := end_ref x k hk hk3 uo ua ub un ⟨huo, hua, hub, hun⟩
    have HB0 : Hid (badE x regs blocks = if endOk x = false ∨ (x.sn : Int) ≠ endMany x.kind then 3 else if inB x.a 0 (regs - 1) = false ∨ inB x.b 0 (regs - 1) = false then 6 else if toV blocks x.to = false then 4 else 0) := by
      unfold Hid badE; rw [if_neg (by omega)]
    have HBE : Hid (okE uo ua ub un x 4 = false → badE x regs blocks = 3) := fun h => by rw [HB0.out, if_pos (hER.2 (.inl h))]
    have HBF : Hid (bad11 x k = true → badE x regs blocks = 3) := fun h => by rw [HB0.out, if_pos (hER.2 (.inr h))]
    have HBG : Hid (okE uo ua ub un x 4 = true → bad11 x k = false → badE x regs blocks = if inB x.a 0 (regs - 1) = false ∨ inB x.b 0 (regs - 1) = false then 6 else if toV blocks x.to = false then 4 else 0) := fun h h' => by
      rw [HB0.out, if_neg (fun hh => by rcases hER.1 hh with h9 | h9 <;> simp_all)]
    obtain ⟨s, hs⟩ : ∃ s, s = kindS k := ⟨_, rfl⟩
    have hsz : s.size ≤ 1000 := by rw [hs]; rcases (show k = 0 ∨ k = 1 ∨ k = 2 ∨ k = 3 by omega) with rfl | rfl | rfl | rfl <;> decide
    have ho : hasB s.data.toList 79 = uo := by rw [hs, huo]; rcases (show k = 0 ∨ k = 1 ∨ k = 2 ∨ k = 3 by omega) with rfl | rfl | rfl | rfl <;> decide
    have ha : hasB s.data.toList 65 = ua := by rw [hs, hua]; rcases (show k = 0 ∨ k = 1 ∨ k = 2 ∨ k = 3 by omega) with rfl | rfl | rfl | rfl <;> decide
    have hb : hasB s.data.toList 66 = ub := by rw [hs, hub]; rcases (show k = 0 ∨ k = 1 ∨ k = 2 ∨ k = 3 by omega) with rfl | rfl | rfl | rfl <;> decide
    have hn : hasB s.data.toList 78 = un := by rw [hs, hun]; rcases (show k = 0 ∨ k = 1 ∨ k = 2 ∨ k = 3 by omega) with rfl | rfl | rfl | rfl <;> decide
    obtain ⟨mn, hmn⟩ : ∃ m, m = endMany (k : Int) := ⟨_, rfl⟩
    have hs1 : ([.string ⟨#[65]⟩, .string ⟨#[]⟩, .string ⟨#[79, 65, 66]⟩, .string ⟨#[78]⟩] : List Value)[k]'hkl = .string s := by rw [hs]; rcases (show k = 0 ∨ k = 1 ∨ k = 2 ∨ k = 3 by omega) with rfl | rfl | rfl | rfl <;> rfl
    have hs2 : ([.int .i64 0, .int .i64 1, .int .i64 2, .int .i64 0] : List Value)[k]'hkl = .int .i64 mn := by rw [hmn]; rcases (show k = 0 ∨ k = 1 ∨ k = 2 ∨ k = 3 by omega) with rfl | rfl | rfl | rfl <;> rfl
    have HMN := Lib.hid hmn
    clear huo hua hub hun hER HB0 hs hmn hkk
    unfold veV
    rw [hk]
    clear hk
    generalize x.sa = sa at hc0 ⊢
    have hkI : (k : Int) ≤ 3 := by omega
    go_enter Tryz.func19, Tryz.ntmps19
    go_wp2_with fail
    clear hs1 hs2
    have hbx0 : Below w.heap.size w ((((w.alloc (.cells #[.int .i64 (k : Int), .int .i64 x.op, .int .i64 x.a, .int .i64 x.b, .int .i64 x.n, .slice sa x.sn x.sc] 44)).alloc (.cells #[.string ⟨#[65]⟩, .string ⟨#[]⟩, .string ⟨#[79, 65, 66]⟩, .string ⟨#[78]⟩] 9)).alloc (.cells #[.int .i64 0, .int .i64 1, .int .i64 2, .int .i64 0] 3)).alloc (.cells #[.int .i64 x.op, .int .i64 x.a, .int .i64 x.b, .int .i64 x.n] 3)) :=
      ((((Below.refl _ w).alloc (Nat.le_refl _) _).alloc (by simp) _).alloc (by simp; omega) _).alloc (by simp; omega) _
    have hbx := Lib.hid hbx0
    clear hbx0
    go_loopw [6, 9, 10, 41] (fun _ _ _ v wr => ∃ j : Nat, j ≤ 4 ∧ v = .int .i64 (j : Int) ∧ wr = ((((w.alloc (.cells #[.int .i64 (k : Int), .int .i64 x.op, .int .i64 x.a, .int .i64 x.b, .int .i64 x.n, .slice sa x.sn x.sc] 44)).alloc (.cells #[.string ⟨#[65]⟩, .string ⟨#[]⟩, .string ⟨#[79, 65, 66]⟩, .string ⟨#[78]⟩] 9)).alloc (.cells #[.int .i64 0, .int .i64 1, .int .i64 2, .int .i64 0] 3)).alloc (.cells #[.int .i64 x.op, .int .i64 x.a, .int .i64 x.b, .int .i64 x.n] 3)) ∧ okE uo ua ub un x j = true) (fun _ _ _ v _ => 4 - (intOf v).toNat)
    case atStart => exact ⟨0, by omega, rfl, rfl, by simp [okE]⟩
    case round =>
      obtain ⟨j, hj, rfl, rfl, hall⟩ := hrel
      have HALL := Lib.hid hall
      clear hall
      by_cases hlt : j < 4
      ·
        --BEGIN
        as_aux_lemma =>
          rcases (show j = 0 ∨ j = 1 ∨ j = 2 ∨ j = 3 by omega) with rfl | rfl | rfl | rfl
          · cases hv : (x.op != 0)
            · go_wp2_with fail
              go_roundw
              case rel => exact ⟨1, by omega, by go_num, trivial, by have h9 := HALL.out; simp [okE, *] at h9 ⊢ <;> (try first | exact h9 | simp_all)⟩
              case measure => simp [intOf]
            · cases uo
              · have HF : Hid (okE false ua ub un x 4 = false) := by show _ = _; simp [okE, *]
                go_wp2_with (go_at_call 35; refine (has_asE _ 79 _ hsz (by decide) ho).mono ?_; rintro e w' ⟨rfl, rfl⟩)
                go_ret
                exact ⟨ret_int (by rw [HBE.out HF.out]), hbx.out⟩
              · go_wp2_with (go_at_call 35; refine (has_asE _ 79 _ hsz (by decide) ho).mono ?_; rintro e w' ⟨rfl, rfl⟩)
                go_roundw
                case rel => exact ⟨1, by omega, by go_num, trivial, by have h9 := HALL.out; simp [okE, *] at h9 ⊢ <;> (try first | exact h9 | simp_all)⟩
                case measure => simp [intOf]
          · cases hv : (x.a != 0)
            · go_wp2_with fail
              go_roundw
              case rel => exact ⟨2, by omega, by go_num, trivial, by have h9 := HALL.out; simp [okE, *] at h9 ⊢ <;> (try first | exact h9 | simp_all)⟩
              case measure => simp [intOf]
            · cases ua
              · have HF : Hid (okE uo false ub un x 4 = false) := by show _ = _; simp [okE, *]
                go_wp2_with (go_at_call 35; refine (has_asE _ 65 _ hsz (by decide) ha).mono ?_; rintro e w' ⟨rfl, rfl⟩)
                go_ret
                exact ⟨ret_int (by rw [HBE.out HF.out]), hbx.out⟩
              · go_wp2_with (go_at_call 35; refine (has_asE _ 65 _ hsz (by decide) ha).mono ?_; rintro e w' ⟨rfl, rfl⟩)
                go_roundw
                case rel => exact ⟨2, by omega, by go_num, trivial, by have h9 := HALL.out; simp [okE, *] at h9 ⊢ <;> (try first | exact h9 | simp_all)⟩
                case measure => simp [intOf]
          · cases hv : (x.b != 0)
            · go_wp2_with fail
              go_roundw
              case rel => exact ⟨3, by omega, by go_num, trivial, by have h9 := HALL.out; simp [okE, *] at h9 ⊢ <;> (try first | exact h9 | simp_all)⟩
              case measure => simp [intOf]
            · cases ub
              · have HF : Hid (okE uo ua false un x 4 = false) := by show _ = _; simp [okE, *]
                go_wp2_with (go_at_call 35; refine (has_asE _ 66 _ hsz (by decide) hb).mono ?_; rintro e w' ⟨rfl, rfl⟩)
                go_ret
                exact ⟨ret_int (by rw [HBE.out HF.out]), hbx.out⟩
              · go_wp2_with (go_at_call 35; refine (has_asE _ 66 _ hsz (by decide) hb).mono ?_; rintro e w' ⟨rfl, rfl⟩)
                go_roundw
                case rel => exact ⟨3, by omega, by go_num, trivial, by have h9 := HALL.out; simp [okE, *] at h9 ⊢ <;> (try first | exact h9 | simp_all)⟩
                case measure => simp [intOf]
          · cases hv : (x.n != 0)
            · go_wp2_with fail
              go_roundw
              case rel => exact ⟨4, by omega, by go_num, trivial, by have h9 := HALL.out; simp [okE, *] at h9 ⊢ <;> (try first | exact h9 | simp_all)⟩
              case measure => simp [intOf]
            · cases un
              · have HF : Hid (okE uo ua ub false x 4 = false) := by show _ = _; simp [okE, *]
                go_wp2_with (go_at_call 35; refine (has_asE _ 78 _ hsz (by decide) hn).mono ?_; rintro e w' ⟨rfl, rfl⟩)
                go_ret
                exact ⟨ret_int (by rw [HBE.out HF.out]), hbx.out⟩
              · go_wp2_with (go_at_call 35; refine (has_asE _ 78 _ hsz (by decide) hn).mono ?_; rintro e w' ⟨rfl, rfl⟩)
                go_roundw
                case rel => exact ⟨4, by omega, by go_num, trivial, by have h9 := HALL.out; simp [okE, *] at h9 ⊢ <;> (try first | exact h9 | simp_all)⟩
                case measure => simp [intOf]
        --END
      · obtain rfl : j = 4 := by omega
        have hok := HALL.out
        have HG2 : Hid (bad11 x k = false → badE x regs blocks = if inB x.a 0 (regs - 1) = false ∨ inB x.b 0 (regs - 1) = false then 6 else if toV blocks x.to = false then 4 else 0) := fun h => HBG.out hok h
        have hbk := ((((Blk.new w [.int .i64 (k : Int), .int .i64 x.op, .int .i64 x.a, .int .i64 x.b, .int .i64 x.n, .slice sa x.sn x.sc] 44).alloc (.cells #[.string ⟨#[65]⟩, .string ⟨#[]⟩, .string ⟨#[79, 65, 66]⟩, .string ⟨#[78]⟩] 9)).alloc (.cells #[.int .i64 0, .int .i64 1, .int .i64 2, .int .i64 0] 3)).alloc (.cells #[.int .i64 x.op, .int .i64 x.a, .int .i64 x.b, .int .i64 x.n] 3))
        have c0 := hbk.cell 0
        have c1 := hbk.cell 1
        have c2 := hbk.cell 2
        have c3 := hbk.cell 3
        have c4 := hbk.cell 4
        have c5 := hbk.cell 5
        simp only [List.getElem?_cons_zero, List.getElem?_cons_succ] at c0 c1 c2 c3 c4 c5
        have HC := Lib.hid (hc0.below hbx.out)
        clear hok HALL HBG HBE hbk ho ha hb hn hsz hc0
        generalize (((w.alloc _).alloc _).alloc _).alloc _ = w1 at c0 c1 c2 c3 c4 c5 HC hbx ⊢
        go_upto_region 11 with fail
        go_cut [90] from 57 (fun s wx => s = .bool (bad11 x k) ∧ wx = w1)
        case first =>
          --BEGIN
          as_aux_lemma =>
            clear HG2 HBF HC hbx
            have hM := HMN.out
            cases hq : ((x.sn : Int) != mn)
            · have hq2 : ((x.sn : Int) != endMany (k : Int)) = false := by rw [← hM]; exact hq
              by_cases k2 : k = 2
              · have b2 : ((k : Int) == 2) = true := beq_iff_eq.2 (by omega)
                have b3 : ((k : Int) == 3) = false := beq_eq_false_iff_ne.2 (by omega)
                clear k2 hM
                by_cases h1 : x.op < 16
                · go_wp2_with fail
                  go_meet
                  exact ⟨by simp [bad11, *], rfl⟩
                · by_cases h2 : 18 < x.op
                  · go_wp2_with fail
                    go_meet
                    exact ⟨by simp [bad11, *], rfl⟩
                  · go_wp2_with fail
                    go_meet
                    exact ⟨by simp [bad11, *] <;> omega, rfl⟩
              · by_cases k3 : k = 3
                · have b2 : ((k : Int) == 2) = false := beq_eq_false_iff_ne.2 (by omega)
                  have b3 : ((k : Int) == 3) = true := beq_iff_eq.2 (by omega)
                  clear k2 k3 hM
                  by_cases h1 : x.n < 1
                  · go_wp2_with fail
                    go_meet
                    exact ⟨by simp [bad11, *], rfl⟩
                  · by_cases h2 : 6 < x.n
                    · go_wp2_with fail
                      go_meet
                      exact ⟨by simp [bad11, *], rfl⟩
                    · go_wp2_with fail
                      go_meet
                      exact ⟨by simp [bad11, *] <;> omega, rfl⟩
                · have b2 : ((k : Int) == 2) = false := beq_eq_false_iff_ne.2 (by omega)
                  have b3 : ((k : Int) == 3) = false := beq_eq_false_iff_ne.2 (by omega)
                  clear k2 k3 hM
                  go_wp2_with fail
                  go_meet
                  exact ⟨by simp [bad11, *], rfl⟩
            · have hq2 : ((x.sn : Int) != endMany (k : Int)) = true := by rw [← hM]; exact hq
              go_wp2_with fail
              go_meet
              exact ⟨by simp [bad11, *], rfl⟩
          --END
        case rest =>
          obtain ⟨rfl, rfl⟩ := hcut
          cases h11 : bad11 x k
          · have HG3 : Hid (badE x regs blocks = if inB x.a 0 (regs - 1) = false ∨ inB x.b 0 (regs - 1) = false then 6 else if toV blocks x.to = false then 4 else 0) := HG2.out h11
            clear HG2 HBF h11
            go_upto_region 13 with fail
            go_cut [110] from 91 (fun s wx => s = .bool (!(inB x.a 0 (regs - 1) && inB x.b 0 (regs - 1))) ∧ wx = wc)
            case first =>
              --BEGIN
              as_aux_lemma =>
                clear HG3 HC hbx
                by_cases h1 : x.a < 0
                · have e : inB x.a 0 (regs - 1) = false := inB_false.2 (.inl h1)
                  go_wp2_with fail
                  go_meet
                  exact ⟨by simp [e], rfl⟩
                · by_cases h2 : regs ≤ x.a
                  · have e : inB x.a 0 (regs - 1) = false := inB_false.2 (.inr (by omega))
                    go_wp2_with fail
                    go_meet
                    exact ⟨by simp [e], rfl⟩
                  · have ea : inB x.a 0 (regs - 1) = true := inB_true.2 (by omega)
                    by_cases h3 : x.b < 0
                    · have e : inB x.b 0 (regs - 1) = false := inB_false.2 (.inl h3)
                      go_wp2_with fail
                      go_meet
                      exact ⟨by simp [e], rfl⟩
                    · by_cases h4 : regs ≤ x.b
                      · have e : inB x.b 0 (regs - 1) = false := inB_false.2 (.inr (by omega))
                        go_wp2_with fail
                        go_meet
                        exact ⟨by simp [e], rfl⟩
                      · have eb : inB x.b 0 (regs - 1) = true := inB_true.2 (by omega)
                        go_wp2_with fail
                        go_meet
                        exact ⟨by simp [ea, eb], rfl⟩
              --END
            case rest =>
              obtain ⟨rfl, rfl⟩ := hcut
              cases hab : (inB x.a 0 (regs - 1) && inB x.b 0 (regs - 1))
              · have HF : Hid (badE x regs blocks = 6) := by
                  show _ = _
                  rw [HG3.out, if_pos (Bool.and_eq_false_iff.1 hab)]
                go_wp2_with fail
                go_ret
                exact ⟨ret_int HF.out.symm, hbx.out⟩
              · have HG4 : Hid (badE x regs blocks = if toV blocks x.to = false then 4 else 0) := by
                  show _ = _
                  have h9 := hab
                  rw [Bool.and_eq_true] at h9
                  rw [HG3.out, if_neg (by rw [h9.1, h9.2]; simp)]
                clear HG3
                go_wp2_with fail
                go_loopw [6, 12, 114] (fun _ _ u wr => ∃ q : Nat, q ≤ x.sn ∧ u = .int .i64 (q : Int) ∧ wr = wc ∧ toV blocks (x.to.take q) = true) (fun _ _ u _ => x.sn - (intOf u).toNat)
                case atStart => exact ⟨0, Nat.zero_le _, rfl, rfl, rfl⟩
                case round =>
                  obtain ⟨q, hq, rfl, rfl, hall⟩ := hrel
                  have HALL := Lib.hid hall
                  clear hall
                  by_cases hlt : q < x.sn
                  · obtain ⟨g, off, rfl, hgl, hcc⟩ := HC.out.ints (by omega)
                    have ck := hcc q (by omega)
                    obtain ⟨r, hr⟩ : ∃ r, r = x.to[q]'(by omega) := ⟨_, rfl⟩
                    rw [← hr] at ck
                    have HT : Hid (x.to.take (q + 1) = x.to.take q ++ [r]) := by rw [hr]; exact List.take_succ_eq_append_getElem _
                    have HME : Hid (r ∈ x.to) := by rw [hr]; exact List.getElem_mem _
                    clear hr hcc
                    have HF : Hid (inB r 1 (blocks - 1) = false → toV blocks x.to = false) := fun hin => by
                      show (x.to.all fun r => inB r 1 (blocks - 1)) = false
                      rw [List.all_eq_false]
                      exact ⟨r, HME.out, by rw [hin]; simp⟩
                    by_cases h1 : r < 1
                    · go_wp2_with fail
                      go_ret
                      exact ⟨ret_int (by rw [HG4.out, if_pos (HF.out (inB_false.2 (.inl h1)))]), hbx.out⟩
                    · by_cases h2 : blocks ≤ r
                      · go_wp2_with fail
                        go_ret
                        exact ⟨ret_int (by rw [HG4.out, if_pos (HF.out (inB_false.2 (.inr (by omega))))]), hbx.out⟩
                      · have HN := Lib.hid (inB_true.2 (show 1 ≤ r ∧ r ≤ blocks - 1 by omega))
                        go_wp2_with fail
                        go_roundw
                        case rel =>
                          refine ⟨q + 1, by omega, by go_num, trivial, ?_⟩
                          show ((x.to.take (q + 1)).all fun r => inB r 1 (blocks - 1)) = true
                          rw [HT.out, List.all_append]
                          have := HALL.out
                          unfold toV at this
                          rw [this]
                          simpa using HN.out
                        case measure => simp [intOf]; omega
                  · have HF : Hid (toV blocks x.to = true) := by
                      have := HALL.out
                      rwa [List.take_of_length_le (by omega)] at this
                    go_wp2_with fail
                    go_ret
                    exact ⟨ret_int (by rw [HG4.out, if_neg (by rw [HF.out]; simp)]), hbx.out⟩
          · have HF : Hid (badE x regs blocks = 3) := HBF.out h11
            go_wp2_with fail
            go_ret
            exact ⟨ret_int HF.out.symm, hbx.out⟩
  · have HBE : Hid (badE x regs blocks = 1) := if_pos hkk
    unfold veV
    by_cases h1 : x.kind < 0
    · clear hkk
      go_enter Tryz.func19, Tryz.ntmps19
      go_wp2_with fail
      go_ret
      exact ⟨ret_int HBE.out.symm, (Below.refl _ _).alloc (Nat.le_refl _) _⟩
    · have h2 : 3 < x.kind := by omega
      clear hkk
      go_enter Tryz.func19, Tryz.ntmps19
      go_wp2_with fail
      go_ret
      exact ⟨ret_int HBE.out.symm, (Below.refl _ _).alloc (Nat.le_refl _) _⟩
end

section
set_option maxRecDepth 100000 in
set_option maxHeartbeats 8000000 in
theorem fnError_any (w : World) (f : VF) (hf : f.Ok w) : Calls Tryz.prog 7 #[f.v] w (IntPost (fnE f) w) := by
  have HF := Lib.hid hf
  have hplen := hf.plen
  have hlen := hf.len
  have hpr := hf.preach
  have hsr := hf.reach
  have hb0 : BoxV f w (w.alloc (.cells #[.int .i64 f.name, .slice f.pa f.pn f.pc, .int .i64 f.regs, .slice f.sa f.sn f.sc] 25)) f.pa f.sa := ⟨(Below.refl _ _).alloc (Nat.le_refl _) _, Blk.new w [.int .i64 f.name, .slice f.pa f.pn f.pc, .int .i64 f.regs, .slice f.sa f.sn f.sc] 25⟩
  obtain ⟨pa, hpa⟩ : ∃ s, s = f.pa := ⟨_, rfl⟩
  obtain ⟨sa, hsa⟩ : ∃ s, s = f.sa := ⟨_, rfl⟩
  have HC : Hid (Came w pa f.pn f.pc 1 (f.params.map intCells)) := by rw [hpa]; exact hf.pcame
  unfold VF.v
  rw [← hpa, ← hsa] at hb0 ⊢
  have HB0 := Lib.hid hb0
  have HPA := Lib.hid hpa
  have HSA := Lib.hid hsa
  clear hf hb0 hpa hsa
  by_cases hbig : bigV f = true
  · have HE : Hid (fnE f = 2) := by unfold Hid fnE; rw [if_pos hbig]
    by_cases h1 : 6 < (f.pn : Int)
    · go_enter Tryz.func7, Tryz.ntmps7
      go_wp2_with fail
      go_ret
      exact ⟨ret_int HE.out.symm, HB0.out.be⟩
    · by_cases h2 : 4096 < (f.sn : Int)
      · clear hbig
        go_enter Tryz.func7, Tryz.ntmps7
        go_wp2_with fail
        go_ret
        exact ⟨ret_int HE.out.symm, HB0.out.be⟩
      · have h3 : inB f.regs 1 8192 = false := by simpa [bigV, h1, h2] using hbig
        clear hbig
        go_enter Tryz.func7, Tryz.ntmps7
        by_cases h4 : f.regs < 1
        · clear h3
          go_wp2_with fail
          go_ret
          exact ⟨ret_int HE.out.symm, HB0.out.be⟩
        · have h5 : 8192 < f.regs := by have := inB_false.1 h3; omega
          clear h3
          go_wp2_with fail
          go_ret
          exact ⟨ret_int HE.out.symm, HB0.out.be⟩
  · have hb9 : bigV f = false := by simpa using hbig
    have hb9' := hb9
    simp only [bigV, Bool.or_eq_false_iff, decide_eq_false_iff_not, Bool.not_eq_false'] at hb9'
    obtain ⟨⟨h1, h2⟩, h3⟩ := hb9'
    have h1' : (f.pn : Int) ≤ 6 := by omega
    have h2' : (f.sn : Int) ≤ 4096 := by omega
    obtain ⟨n, hn⟩ := Int.eq_ofNat_of_zero_le (show 0 ≤ f.regs by have := inB_true.1 h3; omega)
    have hn2 : 0 < n ∧ n ≤ 8192 := by have := inB_true.1 h3; omega
    have HN := Lib.hid hn
    clear hn
    have hrg1 : 1 ≤ f.regs := (inB_true.1 h3).1
    have hrg2 : f.regs ≤ 8192 := (inB_true.1 h3).2
    by_cases hs0 : f.sn = 0
    · have HE : Hid (fnE f = 3) := by unfold Hid fnE; rw [if_neg hbig, if_pos hs0]
      have hs0' : ((f.sn : Int) == 0) = true := by simp [hs0]
      clear hbig hb9 hs0
      go_enter Tryz.func7, Tryz.ntmps7
      go_wp2_with fail
      go_ret
      exact ⟨ret_int HE.out.symm, HB0.out.be⟩
    · have hs0' : ((f.sn : Int) == 0) = false := by simp [hs0]
      have HE : Hid (fnE f = if parE f.regs [] f.params ≠ 0 then parE f.regs [] f.params else if blkE f.regs f.sn 0 f.blocks ≠ 0 then blkE f.regs f.sn 0 f.blocks else liveE f) := by unfold Hid fnE; rw [if_neg hbig, if_neg hs0]
      have hsp : 0 < f.sn := by omega
      clear hbig hb9 h1 h2 hs0
      go_enter Tryz.func7, Tryz.ntmps7
      go_wp2_with fail
      generalize w.alloc (.cells #[.int .i64 f.name, .slice pa f.pn f.pc, .int .i64 f.regs, .slice sa f.sn f.sc] 25) = w1 at HB0 ⊢
      clear hs0'
      go_loopw [2, 3, 4, 6, 42] (fun _ _ _ _ u wr => ∃ k : Nat, k ≤ f.pn ∧ u = .int .i64 (k : Int) ∧ BoxV f w wr pa sa ∧ parE f.regs [] f.params = parE f.regs (f.params.take k) (f.params.drop k)) (fun _ _ _ _ u _ => f.pn - (intOf u).toNat)
      case atStart => exact ⟨0, Nat.zero_le _, rfl, HB0.out, by simp⟩
      case round =>
        clear HB0
        obtain ⟨k, hk, rfl, hbx, hpe⟩ := hrel
        obtain ⟨w2, hw2⟩ : ∃ w2, w2 = wr := ⟨_, rfl⟩
        rw [← hw2] at hbx ⊢
        clear hw2
        have HBX := Lib.hid hbx
        have HPE := Lib.hid hpe
        have c1 := hbx.box.cell 1
        have c2 := hbx.box.cell 2
        have c3 := hbx.box.cell 3
        simp only [List.getElem?_cons_zero, List.getElem?_cons_succ] at c1 c2 c3
        clear hbx hpe
        by_cases hlt : k < f.pn
        · obtain ⟨gp, op, rfl, hgp, hcp⟩ := HC.out.ints (by omega)
          have hpc : k ≤ f.pc := by have := HC.out.le; omega
          have ck := (HBX.out.be.cell (p := ⟨gp, op + k, none⟩) hgp).trans (hcp k (by omega))
          obtain ⟨r, hr⟩ : ∃ r, r = f.params[k]'(by omega) := ⟨_, rfl⟩
          rw [← hr] at ck
          have HT : Hid (f.params.take (k + 1) = f.params.take k ++ [r]) := by rw [hr]; exact List.take_succ_eq_append_getElem _
          have HD : Hid (f.params.drop k = r :: f.params.drop (k + 1)) := by rw [hr]; exact List.drop_eq_getElem_cons (by omega)
          have HPE2 : Hid (parE f.regs [] f.params = if inB r 1 (f.regs - 1) = false then 6 else if r ∈ f.params.take k then 7 else parE f.regs (f.params.take (k + 1)) (f.params.drop (k + 1))) := by
            show _ = _
            rw [HPE.out, HD.out, HT.out]; rfl
          clear hr hcp
          have HF6 : Hid (inB r 1 (f.regs - 1) = false → fnE f = 6) := fun hin => by
            have h9 := HPE2.out
            rw [if_pos hin] at h9
            rw [HE.out, h9]; rfl
          by_cases hra : r < 1
          · go_wp2_with fail
            go_ret
            exact ⟨ret_int (HF6.out (inB_false.2 (.inl hra))).symm, HBX.out.be⟩
          · by_cases hrb : f.regs ≤ r
            · go_wp2_with fail
              go_ret
              exact ⟨ret_int (HF6.out (inB_false.2 (.inr (by omega)))).symm, HBX.out.be⟩
            · have HIN := Lib.hid (inB_true.2 (show 1 ≤ r ∧ r ≤ f.regs - 1 by omega))
              clear HF6
              go_wp2_with fail
              go_loopw [2, 6, 60] (fun _ _ u wr => ∃ q : Nat, q ≤ k ∧ u = .int .i64 (q : Int) ∧ wr = w2 ∧ r ∉ f.params.take q) (fun _ _ u _ => k - (intOf u).toNat)
              case atStart => exact ⟨0, Nat.zero_le _, rfl, rfl, by simp⟩
              case round =>
                obtain ⟨q, hq, rfl, rfl, hno⟩ := hrel
                have HNO := Lib.hid hno
                clear hno
                by_cases hql : q < k
                · obtain ⟨gp', op', hga, hgp', hcp⟩ := HC.out.ints (by omega)
                  injection hga with hga
                  injection hga with ee1 ee2 _
                  subst ee1 ee2
                  have cq := (HBX.out.be.cell (p := ⟨gp, op + q, none⟩) hgp).trans (hcp q (by omega))
                  obtain ⟨s, hs⟩ : ∃ s, s = f.params[q]'(by omega) := ⟨_, rfl⟩
                  rw [← hs] at cq
                  have HTQ : Hid (f.params.take (q + 1) = f.params.take q ++ [s]) := by rw [hs]; exact List.take_succ_eq_append_getElem _
                  have HSM : Hid (s ∈ f.params.take k) := by
                    rw [hs]
                    exact List.mem_take_iff_getElem.2 ⟨q, by omega, rfl⟩
                  clear hs hcp
                  by_cases hrs : r = s
                  · have hrs' : (r == s) = true := by simp [hrs]
                    have HF : Hid (fnE f = 7) := by
                      have h9 := HPE2.out
                      rw [if_neg (by rw [HIN.out]; simp), if_pos (by rw [hrs]; exact HSM.out)] at h9
                      show _ = _
                      rw [HE.out, h9]; rfl
                    clear hrs
                    go_wp2_with fail
                    go_ret
                    exact ⟨ret_int HF.out.symm, HBX.out.be⟩
                  · have hrs' : (r == s) = false := by simp [hrs]
                    have HRS := Lib.hid hrs
                    clear hrs
                    go_wp2_with fail
                    go_roundw
                    case rel => exact ⟨q + 1, by omega, by go_num, trivial, by rw [HTQ.out, List.mem_append, List.mem_singleton]; exact fun h => h.elim HNO.out HRS.out⟩
                    case measure => simp [intOf]; omega
                · obtain rfl : q = k := by omega
                  have HPE3 : Hid (parE f.regs [] f.params = parE f.regs (f.params.take (q + 1)) (f.params.drop (q + 1))) := by
                    show _ = _
                    rw [HPE2.out, if_neg (by rw [HIN.out]; simp), if_neg HNO.out]
                  go_wp2_with fail
                  go_roundw
                  case rel => exact ⟨q + 1, by omega, by go_num, HBX.out, HPE3.out⟩
                  case measure => simp [intOf]; omega
        · have HPZ : Hid (parE f.regs [] f.params = 0) := by
            show _ = _
            rw [HPE.out, List.drop_of_length_le (by omega)]; rfl
          have HE2 : Hid (fnE f = if blkE f.regs f.sn 0 f.blocks ≠ 0 then blkE f.regs f.sn 0 f.blocks else liveE f) := by
            show _ = _
            rw [HE.out, HPZ.out]; rfl
          clear HE HPE HPZ
          go_wp2_with fail
          clear c1 c2 c3
          go_loopw [2, 7, 9, 72] (fun _ u5 _ u58 wr => ∃ (k many : Nat), k ≤ f.sn ∧ u58 = .int .i64 (k : Int) ∧ u5 = .int .i64 (many : Int) ∧ many ≤ 4096 ∧ BoxV f w wr pa sa ∧ blkE f.regs f.sn 0 f.blocks = blkE f.regs f.sn many (f.blocks.drop k)) (fun _ _ _ u _ => f.sn - (intOf u).toNat)
          case atStart => exact ⟨0, 0, Nat.zero_le _, rfl, rfl, by omega, HBX.out, by simp⟩
          case round =>
            clear HBX
            obtain ⟨k, many, hk, rfl, rfl, hmany, hbx, hbe⟩ := hrel
            obtain ⟨w3, hw3⟩ : ∃ w3, w3 = wr := ⟨_, rfl⟩
            rw [← hw3] at hbx ⊢
            clear hw3
            have HBX := Lib.hid hbx
            have HBE := Lib.hid hbe
            have c2 := hbx.box.cell 2
            have c3 := hbx.box.cell 3
            simp only [List.getElem?_cons_zero, List.getElem?_cons_succ] at c2 c3
            clear hbx hbe
            by_cases hlt : k < f.sn
            · have hkb : k < f.blocks.length := by omega
              obtain ⟨gb, ob, hsa, hgb, d0, d1, d2, d3, d4, d5, d6⟩ := HF.out.cells HBX.out.be hkb
              obtain ⟨b, hb⟩ : ∃ b, b = f.blocks[k] := ⟨_, rfl⟩
              rw [← hb] at d0 d1 d2 d3 d4 d5 d6
              rw [← HSA.out] at hsa
              subst hsa
              have HBO : Hid (b.Ok w) := by rw [hb]; exact HF.out.blocks _ (List.getElem_mem _)
              have HD : Hid (f.blocks.drop k = b :: f.blocks.drop (k + 1)) := by rw [hb]; exact List.drop_eq_getElem_cons hkb
              have hbl := HBO.out.len
              have hbr := HBO.out.reach
              obtain ⟨sb, hsb⟩ : ∃ s, s = b.sa := ⟨_, rfl⟩
              rw [← hsb] at d0
              have HSB := Lib.hid hsb
              have HBE2 : Hid (blkE f.regs f.sn 0 f.blocks = if 4096 < many + b.ins.length then 2 else if insE f.regs b.ins ≠ 0 then insE f.regs b.ins else if badE b.e f.regs f.sn ≠ 0 then badE b.e f.regs f.sn else blkE f.regs f.sn (many + b.ins.length) (f.blocks.drop (k + 1))) := by
                show _ = _
                rw [HBE.out, HD.out]; rfl
              clear hb hsb
              by_cases hbig : 4096 < many + b.ins.length
              · have hbigI : (4096 : Int) < (many : Int) + (b.sn : Int) := by omega
                have HF2 : Hid (fnE f = 2) := by
                  have h9 := HBE2.out
                  rw [if_pos hbig] at h9
                  show _ = _
                  rw [HE2.out, h9]; rfl
                clear hbig
                go_wp2_with fail
                go_ret
                exact ⟨ret_int HF2.out.symm, HBX.out.be.trans (((Below.refl _ _).alloc (Nat.le_refl _) _).mono HBX.out.be.size)⟩
              · have hbigI : (many : Int) + (b.sn : Int) ≤ 4096 := by omega
                have HBE3 : Hid (blkE f.regs f.sn 0 f.blocks = if insE f.regs b.ins ≠ 0 then insE f.regs b.ins else if badE b.e f.regs f.sn ≠ 0 then badE b.e f.regs f.sn else blkE f.regs f.sn (many + b.ins.length) (f.blocks.drop (k + 1))) := by
                  show _ = _
                  rw [HBE2.out, if_neg hbig]
                clear HBE2 hbig
                have hb4 : Below w3.heap.size w3 (w3.alloc (.cells #[.slice sb b.sn b.sc, .int .i64 b.e.kind, .int .i64 b.e.op, .int .i64 b.e.a, .int .i64 b.e.b, .int .i64 b.e.n, .slice b.e.sa b.e.sn b.e.sc] 46)) := (Below.refl _ _).alloc (Nat.le_refl _) _
                have HBX4 := Lib.hid (HBX.out.below hb4)
                have HV4 := Lib.hid (Blk.new w3 [.slice sb b.sn b.sc, .int .i64 b.e.kind, .int .i64 b.e.op, .int .i64 b.e.a, .int .i64 b.e.b, .int .i64 b.e.n, .slice b.e.sa b.e.sn b.e.sc] 46)
                go_wp2_with fail
                clear hb4 d0 d1 d2 d3 d4 d5 d6 c2 c3
                obtain ⟨V, hV⟩ : ∃ V, V = w3.heap.size := ⟨_, rfl⟩
                rw [← hV] at HV4 ⊢
                clear hV
                generalize w3.alloc (.cells #[.slice sb b.sn b.sc, .int .i64 b.e.kind, .int .i64 b.e.op, .int .i64 b.e.a, .int .i64 b.e.b, .int .i64 b.e.n, .slice b.e.sa b.e.sn b.e.sc] 46) = w4 at HBX4 HV4 ⊢
                clear HBX
                go_loopw [2, 11, 12, 86] (fun _ _ _ u wr => ∃ j : Nat, j ≤ b.sn ∧ u = .int .i64 (j : Int) ∧ Below w4.heap.size w4 wr ∧ insE f.regs b.ins = insE f.regs (b.ins.drop j)) (fun _ _ _ u _ => b.sn - (intOf u).toNat)
                case atStart => exact ⟨0, Nat.zero_le _, rfl, Below.refl _ _, by simp⟩
                case round =>
                  obtain ⟨j, hj, rfl, hb5, hie⟩ := hrel
                  obtain ⟨w5, hw5⟩ : ∃ w5, w5 = wr := ⟨_, rfl⟩
                  rw [← hw5] at hb5 ⊢
                  clear hw5
                  have HB5 := Lib.hid hb5
                  have HIE := Lib.hid hie
                  have HBX5 := Lib.hid (HBX4.out.below hb5)
                  have HV5 := Lib.hid (HV4.out.below hb5 HV4.out.lt)
                  clear hb5 hie
                  by_cases hjl : j < b.sn
                  · have hjb : j < b.ins.length := by omega
                    obtain ⟨x, hx⟩ : ∃ x, x = b.ins[j] := ⟨_, rfl⟩
                    obtain ⟨gi, oi, hsb2, hgi, d0, d1, d2, d3, d4, d5⟩ := HBO.out.cells HBX5.out.be hjb
                    rw [← hx] at d0 d1 d2 d3 d4 d5
                    rw [← HSB.out] at hsb2
                    subst hsb2
                    have hxo : x.Ok w := by rw [hx]; exact HBO.out.ins _ (List.getElem_mem _)
                    have HD2 : Hid (b.ins.drop j = x :: b.ins.drop (j + 1)) := by rw [hx]; exact List.drop_eq_getElem_cons hjb
                    have hb6 : Below w5.heap.size w5 (w5.alloc (.cells #[.int .i64 x.op, .int .i64 x.d, .int .i64 x.a, .int .i64 x.b, .int .i64 x.n, .slice x.sa x.sn x.sc] 48)) := (Below.refl _ _).alloc (Nat.le_refl _) _
                    have HBX6 := Lib.hid (HBX5.out.below hb6)
                    have c2 := HBX6.out.box.cell 2
                    simp only [List.getElem?_cons_zero, List.getElem?_cons_succ] at c2
                    have hBI := insError_any x f.regs _ (hxo.below HBX6.out.be) (inB_true.1 h3)
                    unfold viV at hBI
                    have HBI := Lib.hid hBI
                    have HB6 := Lib.hid (HB5.out.trans (hb6.mono HB5.out.size))
                    clear hx hxo hb6 hBI
                    obtain ⟨e9, he9⟩ : ∃ e9, e9 = badI x f.regs := ⟨_, rfl⟩
                    rw [← he9] at HBI
                    have HIE2 : Hid (insE f.regs b.ins = if e9 ≠ 0 then e9 else insE f.regs (b.ins.drop (j + 1))) := by
                      show _ = _
                      rw [HIE.out, HD2.out, he9]; rfl
                    clear he9
                    go_wp2_with fail
                    refine HBI.out.mono ?_
                    rintro e w7 ⟨rfl, hb7⟩
                    have HB7 := Lib.hid (HB6.out.trans (hb7.mono HB6.out.size))
                    have HBX7 := Lib.hid (HBX6.out.below hb7)
                    clear hb7 c2 d0 d1 d2 d3 d4 d5
                    by_cases he : e9 = 0
                    · have he' : (e9 == 0) = true := by simp [he]
                      have HIE3 : Hid (insE f.regs b.ins = insE f.regs (b.ins.drop (j + 1))) := by
                        show _ = _
                        rw [HIE2.out, if_neg (by simp [he])]
                      clear he
                      go_wp2_with fail
                      go_roundw
                      case rel => exact ⟨j + 1, by omega, by go_num, HB7.out, HIE3.out⟩
                      case measure => simp [intOf]; omega
                    · have he' : (e9 == 0) = false := by simp [he]
                      have HF2 : Hid (fnE f = e9) := by
                        have h8 : insE f.regs b.ins = e9 := by rw [HIE2.out, if_pos he]
                        have h9 := HBE3.out
                        rw [h8, if_pos he] at h9
                        show _ = _
                        rw [HE2.out, h9, if_pos he]
                      clear he
                      go_wp2_with fail
                      go_ret
                      exact ⟨ret_int HF2.out.symm, HBX7.out.be⟩
                  · have HIZ : Hid (insE f.regs b.ins = 0) := by
                      show _ = _
                      rw [HIE.out, List.drop_of_length_le (by omega)]; rfl
                    have hBE := endError_any b.e f.regs f.sn w5 (HBO.out.e.below HBX5.out.be) (inB_true.1 h3) (by omega)
                    unfold veV at hBE
                    obtain ⟨e9, he9⟩ : ∃ e9, e9 = badE b.e f.regs f.sn := ⟨_, rfl⟩
                    rw [← he9] at hBE HBE3
                    have HBD := Lib.hid hBE
                    have c2 := HBX5.out.box.cell 2
                    have c3 := HBX5.out.box.cell 3
                    have v1 := HV5.out.cell 1
                    have v2 := HV5.out.cell 2
                    have v3 := HV5.out.cell 3
                    have v4 := HV5.out.cell 4
                    have v5 := HV5.out.cell 5
                    have v6 := HV5.out.cell 6
                    simp only [List.getElem?_cons_zero, List.getElem?_cons_succ] at c2 c3 v1 v2 v3 v4 v5 v6
                    have HBE4 : Hid (blkE f.regs f.sn 0 f.blocks = if e9 ≠ 0 then e9 else blkE f.regs f.sn (many + b.ins.length) (f.blocks.drop (k + 1))) := by
                      show _ = _
                      rw [HBE3.out, HIZ.out]; rfl
                    clear he9 hBE HBE3
                    go_wp2_with fail
                    refine HBD.out.mono ?_
                    rintro e w7 ⟨rfl, hb7⟩
                    have HBX7 := Lib.hid (HBX5.out.below hb7)
                    clear hb7 c2 c3 v1 v2 v3 v4 v5 v6
                    by_cases he : e9 = 0
                    · have he' : (e9 == 0) = true := by simp [he]
                      have HBE5 : Hid (blkE f.regs f.sn 0 f.blocks = blkE f.regs f.sn (many + b.ins.length) (f.blocks.drop (k + 1))) := by
                        show _ = _
                        rw [HBE4.out, if_neg (by simp [he])]
                      rw [hbl] at HBE5
                      clear he
                      go_wp2_with fail
                      go_roundw
                      case rel => exact ⟨k + 1, many + b.sn, by omega, by go_num, by go_num, by omega, HBX7.out, HBE5.out⟩
                      case measure => simp [intOf]; omega
                    · have he' : (e9 == 0) = false := by simp [he]
                      have HF2 : Hid (fnE f = e9) := by
                        have h9 := HBE4.out
                        rw [if_pos he] at h9
                        show _ = _
                        rw [HE2.out, h9, if_pos he]
                      clear he
                      go_wp2_with fail
                      go_ret
                      exact ⟨ret_int HF2.out.symm, HBX7.out.be⟩
            · have HBZ : Hid (blkE f.regs f.sn 0 f.blocks = 0) := by
                show _ = _
                rw [HBE.out, List.drop_of_length_le (by omega)]; rfl
              have HE3 : Hid (fnE f = liveE f) := by
                show _ = _
                rw [HE2.out, HBZ.out]; rfl
              obtain ⟨hfit, htos, hins⟩ := fits_of (m := f.sn) hlen.symm rfl HN.out hn2.1 HBZ.out
              have HFT := Lib.hid (And.intro htos hins)
              have HBX9 := Lib.hid HBX.out.be
              clear hfit htos hins HE2 HBE HBZ c2 c3
              go_wp2_with fail
              go_loopw [2, 14] (fun _ u wr => ∃ r : Nat, 1 ≤ r ∧ r ≤ n ∧ u = .int .i64 (r : Int) ∧ BoxV f w wr pa sa ∧ ∀ q, q < r → ¬ (LiveI f 0 q ∧ (q : Int) ∉ f.params)) (fun _ u _ => n - (intOf u).toNat)
              case atStart => exact ⟨1, Nat.le_refl _, hn2.1, rfl, HBX.out, fun q hq h => by have := h.1.pos; omega⟩
              case round =>
                clear HBX HBX9
                obtain ⟨r, hr1, hr2, rfl, hbx, hno⟩ := hrel
                obtain ⟨w4, hw4⟩ : ∃ w4, w4 = wr := ⟨_, rfl⟩
                rw [← hw4] at hbx ⊢
                clear hw4
                have HBX4 := Lib.hid hbx
                have HNO := Lib.hid hno
                clear hno hbx
                have c0 := HBX4.out.box.cell 0
                have c1 := HBX4.out.box.cell 1
                have c2 := HBX4.out.box.cell 2
                have c3 := HBX4.out.box.cell 3
                simp only [List.getElem?_cons_zero, List.getElem?_cons_succ] at c0 c1 c2 c3
                by_cases hrn : r < n
                · have hrI : (r : Int) < f.regs := by rw [HN.out]; omega
                  have hAL := alive_any w4 f (HF.out.below HBX4.out.be) f.sn hlen.symm (by omega) HFT.out.1 HFT.out.2 0 0 r hsp (by omega) (by omega) (by omega)
                  unfold VF.v at hAL
                  rw [← HSA.out, ← HPA.out, show ((0 : Nat) : Int) = 0 from rfl] at hAL
                  have HAL := Lib.hid hAL
                  clear hAL
                  go_wp2_with fail
                  refine HAL.out.mono ?_
                  rintro e w5 ⟨xr, rfl, hxr, hb5⟩
                  have HXR := Lib.hid (hxr.trans (aliveP_zero (by omega)))
                  have HBX5 := Lib.hid (HBX4.out.below hb5)
                  have c1 := HBX5.out.box.cell 1
                  simp only [List.getElem?_cons_zero, List.getElem?_cons_succ] at c1
                  clear hxr hb5 c0 c2 c3 HAL
                  cases xr
                  · go_wp2_with fail
                    go_roundw
                    case rel =>
                      refine ⟨r + 1, by omega, by omega, by go_num, HBX5.out, fun q hq h => ?_⟩
                      by_cases e : q = r
                      · subst e
                        have := HXR.out.2 h.1
                        cases this
                      · exact HNO.out q (by omega) h
                    case measure => simp [intOf]; omega
                  · have hct := among_any _ pa f.pn f.pc f.params (HC.out.below HBX5.out.be) (r : Int)
                    obtain ⟨cb, hcb⟩ : ∃ cb, cb = decide ((r : Int) ∈ f.params) := ⟨_, rfl⟩
                    rw [← hcb] at hct
                    have HCT := Lib.hid hct
                    have HCB := Lib.hid hcb
                    clear hct hcb
                    go_wp2_with fail
                    refine HCT.out.mono ?_
                    rintro e w6 ⟨rfl, rfl⟩
                    cases cb
                    · have HF2 : Hid (fnE f = 12) := by
                        show _ = _
                        rw [HE3.out]
                        unfold liveE
                        rw [if_pos]
                        exact ⟨r, hrI, HXR.out.1 (by simp), of_decide_eq_false HCB.out.symm⟩
                      go_wp2_with fail
                      go_ret
                      exact ⟨ret_int HF2.out.symm, HBX5.out.be⟩
                    · go_wp2_with fail
                      go_roundw
                      case rel =>
                        refine ⟨r + 1, by omega, by omega, by go_num, HBX5.out, fun q hq h => ?_⟩
                        by_cases e : q = r
                        · subst e
                          exact h.2 (of_decide_eq_true HCB.out.symm)
                        · exact HNO.out q (by omega) h
                      case measure => simp [intOf]; omega
                · have hrI : ¬ (r : Int) < f.regs := by rw [HN.out]; omega
                  have HF2 : Hid (fnE f = 0) := by
                    show _ = _
                    rw [HE3.out]
                    unfold liveE
                    rw [if_neg]
                    rintro ⟨q, h1, h2⟩
                    exact HNO.out q (by have := HN.out; omega) h2
                  go_wp2_with fail
                  go_ret
                  exact ⟨ret_int HF2.out.symm, HBX4.out.be⟩
end
end Go.Proofs.YtdnpoomagjcpfaaGreat
