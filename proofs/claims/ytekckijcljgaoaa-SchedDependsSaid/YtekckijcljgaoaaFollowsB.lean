/- The contract of the reference's Follows, whole. -/
import Derived.Test.YtekckijcljgaoaaFollows
import Derived.LoopN
namespace Go.Proofs.Ytekckijcljgaoaa
open Go.RowKit
set_option linter.unusedVariables false

theorem bar_cases (op : Int) : (barrierB op = true ∧ ((op == 14) = true ∨ ((op == 14) = false ∧ ((op == 15) = true ∨ ((op == 15) = false ∧ ((op == 23) = true ∨ ((op == 23) = false ∧ ((op == 4) = true ∨ ((op == 4) = false ∧ (op == 5) = true))))))))) ∨
    (barrierB op = false ∧ (op == 14) = false ∧ (op == 15) = false ∧ (op == 23) = false ∧ (op == 4) = false ∧ (op == 5) = false) := by
  unfold barrierB
  cases (op == 14) <;> cases (op == 15) <;> cases (op == 23) <;> cases (op == 4) <;> cases (op == 5) <;> simp
theorem mem_cases (op : Int) : (memoryB op = true ∧ ((op == 12) = true ∨ ((op == 12) = false ∧ (op == 13) = true))) ∨ (memoryB op = false ∧ (op == 12) = false ∧ (op == 13) = false) := by
  unfold memoryB
  cases (op == 12) <;> cases (op == 13) <;> simp

set_option maxRecDepth 100000 in
set_option maxHeartbeats 4000000 in
theorem follows_any (op d a b n op' d' a' b' n' : Int) (w : World) :
    Calls Try.prog 38 #[.agg #[.int .i64 op, .int .i64 d, .int .i64 a, .int .i64 b, .int .i64 n], .agg #[.int .i64 op', .int .i64 d', .int .i64 a', .int .i64 b', .int .i64 n']] w (DepPost (followB op d a b op' d' a' b') w) := by
  have HT1 := fun w => Lib.hid (touches_any op d a b n op' d' a' b' n' w)
  have HT2 := fun w => Lib.hid (touches_any op' d' a' b' n' op d a b n w)
  have HF : Hid (followB op d a b op' d' a' b' = (barrierB op || barrierB op' || (memoryB op && memoryB op') || touchB op d op' d' a' b' || touchB op' d' op d a b)) := rfl
  have hsz : ((w.alloc (.cells #[.int .i64 op, .int .i64 d, .int .i64 a, .int .i64 b, .int .i64 n] 27)).alloc (.cells #[.int .i64 op', .int .i64 d', .int .i64 a', .int .i64 b', .int .i64 n'] 27)).heap.size = w.heap.size + 1 + 1 := by simp
  have HSZ := Lib.hid hsz
  clear hsz
  rcases bar_cases op with ⟨hb1, hb⟩ | ⟨hb1, g1, g2, g3, g4, g5⟩
  · rcases hb with h1 | ⟨h1, h2 | ⟨h2, h3 | ⟨h3, h4 | ⟨h4, h5⟩⟩⟩⟩
    all_goals
      have HR : Hid (followB op d a b op' d' a' b' = true) := by unfold Hid; rw [HF.out, hb1]; simp
      clear hb1
      go_enter Try.func38, Try.ntmps38
      go_wp2_with fail
      refine wp_loop_rounds 3 ?_
      rw [rounds_succ]
      go_wp2_with fail
      go_ret
      refine ⟨by rw [HR.out]; rfl, ?_⟩
      repeat (first | exact Below.refl _ _ | (refine Below.setCell ?_ (by first | omega | (simp; done) | (simp; omega)) _) | (refine Below.alloc ?_ (by first | (simp; done) | (simp; omega)) _) | refine Below.drew ?_)
  · rcases bar_cases op' with ⟨hb2, hb⟩ | ⟨hb2, k1, k2, k3, k4, k5⟩
    · rcases hb with h1 | ⟨h1, h2 | ⟨h2, h3 | ⟨h3, h4 | ⟨h4, h5⟩⟩⟩⟩
      all_goals
        have HR : Hid (followB op d a b op' d' a' b' = true) := by unfold Hid; rw [HF.out, hb2]; simp
        clear hb1 hb2
        go_enter Try.func38, Try.ntmps38
        go_wp2_with fail
        refine wp_loop_rounds 3 ?_
        rw [rounds_succ]
        go_wp2_with fail
        rw [rounds_succ]
        go_wp2_with fail
        go_ret
        refine ⟨by rw [HR.out]; rfl, ?_⟩
        repeat (first | exact Below.refl _ _ | (refine Below.setCell ?_ (by first | omega | (simp; done) | (simp; omega)) _) | (refine Below.alloc ?_ (by first | (simp; done) | (simp; omega)) _) | refine Below.drew ?_)
    · have HF2 : Hid (followB op d a b op' d' a' b' = ((memoryB op && memoryB op') || touchB op d op' d' a' b' || touchB op' d' op d a b)) := by unfold Hid; rw [HF.out, hb1, hb2]; simp
      clear hb1 hb2 HF
      rcases mem_cases op with ⟨hm1, hm⟩ | ⟨hm1, m1, m2⟩
      · rcases mem_cases op' with ⟨hm2, hn⟩ | ⟨hm2, n1, n2⟩
        · have HR : Hid (followB op d a b op' d' a' b' = true) := by unfold Hid; rw [HF2.out, hm1, hm2]; simp
          clear hm1 hm2 HF2 HT1 HT2
          rcases hm with m1 | ⟨m1, m2⟩
          all_goals
            rcases hn with n1 | ⟨n1, n2⟩
            all_goals
              go_enter Try.func38, Try.ntmps38
              go_wp2_with fail
              refine wp_loop_rounds 3 ?_
              rw [rounds_succ]
              go_wp2_with fail
              rw [rounds_succ]
              go_wp2_with fail
              rw [rounds_succ]
              go_wp2_with fail
              go_ret
              refine ⟨by rw [HR.out]; rfl, ?_⟩
              repeat (first | exact Below.refl _ _ | (refine Below.setCell ?_ (by first | omega | (simp; done) | (simp; omega)) _) | (refine Below.alloc ?_ (by first | (simp; done) | (simp; omega)) _) | refine Below.drew ?_)
        · have HF3 : Hid (followB op d a b op' d' a' b' = (touchB op d op' d' a' b' || touchB op' d' op d a b)) := by unfold Hid; rw [HF2.out, hm2]; simp
          clear hm1 hm2 HF2
          rcases hm with m1 | ⟨m1, m2⟩
          all_goals
            cases ht : touchB op d op' d' a' b'
            · cases ht2 : touchB op' d' op d a b
              all_goals
                have HR := HF3.out
                rw [ht, ht2] at HR
                have HRR := Lib.hid HR
                clear HR
                go_enter Try.func38, Try.ntmps38
                go_wp2_with fail
                refine wp_loop_rounds 3 ?_
                rw [rounds_succ]
                go_wp2_with fail
                rw [rounds_succ]
                go_wp2_with fail
                rw [rounds_succ]
                go_wp2_with fail
                refine (HT1 _).out.mono ?_
                rw [ht]
                rintro e w2 ⟨rfl, hb⟩
                have hbw : Below (w.heap.size + 1 + 1) ((w.alloc (.cells #[.int .i64 op, .int .i64 d, .int .i64 a, .int .i64 b, .int .i64 n] 27)).alloc (.cells #[.int .i64 op', .int .i64 d', .int .i64 a', .int .i64 b', .int .i64 n'] 27)) w2 := by
                  refine Below.trans ?_ (hb.mono (by simp <;> omega))
                  repeat (first | exact Below.refl _ _ | (refine Below.setCell ?_ (by first | omega | (simp; done) | (simp; omega)) _) | (refine Below.alloc ?_ (by first | (simp; done) | (simp; omega)) _) | refine Below.drew ?_)
                have HBW := Lib.hid hbw
                obtain ⟨⟨r0, r1, r2, r3, r4⟩, ⟨s0, s1, s2, s3, s4⟩⟩ := two_ops hbw
                clear hb hbw
                go_wp2_with fail
                refine (HT2 _).out.mono ?_
                rw [ht2]
                rintro e w3 ⟨rfl, hb⟩
                have HB := Lib.hid hb
                clear hb
                go_wp2_with fail
                go_ret
                refine ⟨by rw [HRR.out]; rfl, (((Below.refl _ _).alloc (Nat.le_refl _) _).alloc (by simp) _).trans ((HBW.out.mono (by omega)).trans (HB.out.mono (by have := HBW.out.size; rw [HSZ.out] at this; omega)))⟩
            · have HRR : Hid (followB op d a b op' d' a' b' = true) := by unfold Hid; rw [HF3.out, ht]; rfl
              go_enter Try.func38, Try.ntmps38
              go_wp2_with fail
              refine wp_loop_rounds 3 ?_
              rw [rounds_succ]
              go_wp2_with fail
              rw [rounds_succ]
              go_wp2_with fail
              rw [rounds_succ]
              go_wp2_with fail
              refine (HT1 _).out.mono ?_
              rw [ht]
              rintro e w2 ⟨rfl, hb⟩
              have HB := Lib.hid hb
              clear hb
              go_wp2_with fail
              go_ret
              refine ⟨by rw [HRR.out]; rfl, Below.trans ?_ (HB.out.mono (by simp <;> omega))⟩
              repeat (first | exact Below.refl _ _ | (refine Below.setCell ?_ (by first | omega | (simp; done) | (simp; omega)) _) | (refine Below.alloc ?_ (by first | (simp; done) | (simp; omega)) _) | refine Below.drew ?_)
      · have HF3 : Hid (followB op d a b op' d' a' b' = (touchB op d op' d' a' b' || touchB op' d' op d a b)) := by unfold Hid; rw [HF2.out, hm1]; simp
        clear hm1 HF2
        cases ht : touchB op d op' d' a' b'
        · cases ht2 : touchB op' d' op d a b
          all_goals
            have HR := HF3.out
            rw [ht, ht2] at HR
            have HRR := Lib.hid HR
            clear HR
            go_enter Try.func38, Try.ntmps38
            go_wp2_with fail
            refine wp_loop_rounds 3 ?_
            rw [rounds_succ]
            go_wp2_with fail
            rw [rounds_succ]
            go_wp2_with fail
            rw [rounds_succ]
            go_wp2_with fail
            refine (HT1 _).out.mono ?_
            rw [ht]
            rintro e w2 ⟨rfl, hb⟩
            have hbw : Below (w.heap.size + 1 + 1) ((w.alloc (.cells #[.int .i64 op, .int .i64 d, .int .i64 a, .int .i64 b, .int .i64 n] 27)).alloc (.cells #[.int .i64 op', .int .i64 d', .int .i64 a', .int .i64 b', .int .i64 n'] 27)) w2 := by
              refine Below.trans ?_ (hb.mono (by simp <;> omega))
              repeat (first | exact Below.refl _ _ | (refine Below.setCell ?_ (by first | omega | (simp; done) | (simp; omega)) _) | (refine Below.alloc ?_ (by first | (simp; done) | (simp; omega)) _) | refine Below.drew ?_)
            have HBW := Lib.hid hbw
            obtain ⟨⟨r0, r1, r2, r3, r4⟩, ⟨s0, s1, s2, s3, s4⟩⟩ := two_ops hbw
            clear hb hbw
            go_wp2_with fail
            refine (HT2 _).out.mono ?_
            rw [ht2]
            rintro e w3 ⟨rfl, hb⟩
            have HB := Lib.hid hb
            clear hb
            go_wp2_with fail
            go_ret
            refine ⟨by rw [HRR.out]; rfl, (((Below.refl _ _).alloc (Nat.le_refl _) _).alloc (by simp) _).trans ((HBW.out.mono (by omega)).trans (HB.out.mono (by have := HBW.out.size; rw [HSZ.out] at this; omega)))⟩
        · have HRR : Hid (followB op d a b op' d' a' b' = true) := by unfold Hid; rw [HF3.out, ht]; rfl
          go_enter Try.func38, Try.ntmps38
          go_wp2_with fail
          refine wp_loop_rounds 3 ?_
          rw [rounds_succ]
          go_wp2_with fail
          rw [rounds_succ]
          go_wp2_with fail
          rw [rounds_succ]
          go_wp2_with fail
          refine (HT1 _).out.mono ?_
          rw [ht]
          rintro e w2 ⟨rfl, hb⟩
          have HB := Lib.hid hb
          clear hb
          go_wp2_with fail
          go_ret
          refine ⟨by rw [HRR.out]; rfl, Below.trans ?_ (HB.out.mono (by simp <;> omega))⟩
          repeat (first | exact Below.refl _ _ | (refine Below.setCell ?_ (by first | omega | (simp; done) | (simp; omega)) _) | (refine Below.alloc ?_ (by first | (simp; done) | (simp; omega)) _) | refine Below.drew ?_)
end Go.Proofs.Ytekckijcljgaoaa
