/- The walk of SchedDepends. -/
import Derived.Test.YtekckijcljgaoaaFollowsB
namespace Go.Proofs.Ytekckijcljgaoaa
open Go.RowKit
set_option linter.unusedVariables false

theorem nz_no0 (l : List Int) : (nz l).contains 0 = false := by
  unfold nz; simp

theorem one_in (x y : Int) : [y].contains x = (x == y) := by
  rw [Bool.eq_iff_iff]; simp
theorem dep_follow (op d a b op' d' a' b' : Int) : depOf op d a b op' d' a' b' = followB op d a b op' d' a' b' := by
  have n1 := nz_no0 (rawReads op a b)
  have n2 := nz_no0 (rawReads op' a' b')
  unfold depOf followB touchB
  unfold readsOf
  obtain ⟨x, hx⟩ : ∃ x, x = wrOf op d := ⟨_, rfl⟩
  obtain ⟨y, hy⟩ : ∃ y, y = wrOf op' d' := ⟨_, rfl⟩
  rw [← hx, ← hy, List.contains_append, List.contains_append, one_in, one_in]
  have e3 : (y == x) = (x == y) := by rw [Bool.eq_iff_iff, beq_iff_eq, beq_iff_eq]; exact eq_comm
  rw [e3]
  clear hx hy
  generalize barrierB op = t1
  generalize barrierB op' = t2
  generalize memoryB op = t3
  generalize memoryB op' = t4
  by_cases h1 : x = 0
  · subst h1
    rw [n2]
    by_cases h2 : y = 0
    · subst h2; rw [n1]; cases t1 <;> cases t2 <;> cases t3 <;> cases t4 <;> rfl
    · have e : ((0 : Int) == y) = false := beq_eq_false_iff_ne.2 (fun h => h2 h.symm)
      have e2 : (y != 0) = true := by rw [bne_iff_ne]; exact h2
      rw [e, e2]
      generalize (nz (rawReads op a b)).contains y = t5
      cases t1 <;> cases t2 <;> cases t3 <;> cases t4 <;> cases t5 <;> rfl
  · have e1 : (x != 0) = true := by rw [bne_iff_ne]; exact h1
    by_cases h2 : y = 0
    · subst h2
      have e4 : (x == 0) = false := beq_eq_false_iff_ne.2 h1
      rw [n1, e1, e4]
      generalize (nz (rawReads op' a' b')).contains x = t5
      cases t1 <;> cases t2 <;> cases t3 <;> cases t4 <;> cases t5 <;> rfl
    · have e2 : (y != 0) = true := by rw [bne_iff_ne]; exact h2
      rw [e1, e2]
      generalize (nz (rawReads op' a' b')).contains x = t5
      generalize (nz (rawReads op a b)).contains y = t6
      generalize (x == y) = t7
      cases t1 <;> cases t2 <;> cases t3 <;> cases t4 <;> cases t5 <;> cases t6 <;> cases t7 <;> rfl

theorem chk_as (op d a b n : Int) (w : World) {c : Int} (hc : checkE op d a b n = c) :
    Calls Try.prog 29 #[.agg #[.int .i64 op, .int .i64 d, .int .i64 a, .int .i64 b, .int .i64 n]] w fun e w' => e = .returned (.int .i64 c) ∧ Below w.heap.size w w' := by
  rw [← hc]; exact check_any op d a b n w

theorem two_hat (op d a b n op' d' a' b' n' : Int) (w : World) : ∃ w1, w1 = ((w.alloc (.cells #[.int .i64 op, .int .i64 d, .int .i64 a, .int .i64 b, .int .i64 n] 27)).alloc (.cells #[.int .i64 op', .int .i64 d', .int .i64 a', .int .i64 b', .int .i64 n'] 27)) ∧ Below w.heap.size w w1 ∧ w1.heap.size = w.heap.size + 1 + 1 ∧ ∀ wx, Below (w.heap.size + 1 + 1) w1 wx → TwoOps w.heap.size op d a b n op' d' a' b' n' wx :=
  ⟨_, rfl, ((Below.refl _ _).alloc (Nat.le_refl _) _).alloc (by simp) _, by simp, fun _ hx => two_ops hx⟩

set_option maxHeartbeats 4000000 in
theorem schedDepends_walk (op d a b n op' d' a' b' n' : Int) (w : World) (h0 : -9223372036854775808 ≤ op ∧ op ≤ 9223372036854775807) (h1 : -9223372036854775808 ≤ d ∧ d ≤ 9223372036854775807) (h2 : -9223372036854775808 ≤ a ∧ a ≤ 9223372036854775807) (h3 : -9223372036854775808 ≤ b ∧ b ≤ 9223372036854775807) (h4 : -9223372036854775808 ≤ n ∧ n ≤ 9223372036854775807) (h5 : -9223372036854775808 ≤ op' ∧ op' ≤ 9223372036854775807) (h6 : -9223372036854775808 ≤ d' ∧ d' ≤ 9223372036854775807) (h7 : -9223372036854775808 ≤ a' ∧ a' ≤ 9223372036854775807) (h8 : -9223372036854775808 ≤ b' ∧ b' ≤ 9223372036854775807) (h9 : -9223372036854775808 ≤ n' ∧ n' ≤ 9223372036854775807) :
    Calls Try.prog 10 #[.agg #[.int .i64 op, .int .i64 d, .int .i64 a, .int .i64 b, .int .i64 n], .agg #[.int .i64 op', .int .i64 d', .int .i64 a', .int .i64 b', .int .i64 n']] w fun e w' => e = .returned (.bool true) ∧ Below w.heap.size w w' := by
  clear h0 h1 h2 h3 h4 h5 h6 h7 h8 h9
  have HD1 := fun w => Lib.hid (depends_any 11 1 0 0 0 11 2 0 0 0 w (by decide) (by decide))
  have HD2 := fun w => Lib.hid (depends_any 11 1 0 0 0 11 1 0 0 0 w (by decide) (by decide))
  rw [show depOf 11 1 0 0 11 2 0 0 = false from by decide] at HD1
  rw [show depOf 11 1 0 0 11 1 0 0 = true from by decide] at HD2
  obtain ⟨c1, hc1⟩ : ∃ c, c = checkE op d a b n := ⟨_, rfl⟩
  obtain ⟨c2, hc2⟩ : ∃ c, c = checkE op' d' a' b' n' := ⟨_, rfl⟩
  have HC1 := fun w => Lib.hid (chk_as op d a b n w hc1.symm)
  have HC2 := fun w => Lib.hid (chk_as op' d' a' b' n' w hc2.symm)
  have HV1 := Lib.hid (@checkE_ok op d a b n)
  have HV2 := Lib.hid (@checkE_ok op' d' a' b' n')
  rw [← hc1] at HV1
  rw [← hc2] at HV2
  clear hc1 hc2
  obtain ⟨w1, hw1, hb0, hsz, hat⟩ := two_hat op d a b n op' d' a' b' n' w
  have HB0 := Lib.hid hb0
  have HSZ := Lib.hid hsz
  have HAT := Lib.hid hat
  clear hb0 hsz hat
  go_enter Try.func10, Try.ntmps10
  go_upto_region 1 with fail
  rw [← hw1]
  clear hw1
  go_wp2_with fail
  refine (HD1 _).out.mono ?_
  rintro e w2 ⟨rfl, hb⟩
  have HB1 := Lib.hid (hb.mono (B' := w.heap.size + 1 + 1) (by rw [HSZ.out]; omega))
  clear hb
  go_wp2_with fail
  refine (HD2 _).out.mono ?_
  rintro e w3 ⟨rfl, hb⟩
  have HB2 := Lib.hid (HB1.out.trans (hb.mono (B' := w.heap.size + 1 + 1) (by have h1 := HB1.out.size; rw [HSZ.out] at h1; omega)))
  obtain ⟨⟨r0, r1, r2, r3, r4⟩, ⟨s0, s1, s2, s3, s4⟩⟩ := HAT.out _ HB2.out
  clear hb HB1 HD1 HD2
  go_wp2_with fail
  refine (HC1 _).out.mono ?_
  rintro e w4 ⟨rfl, hb⟩
  have HB3 := Lib.hid (HB2.out.trans (hb.mono (B' := w.heap.size + 1 + 1) (by have h1 := HB2.out.size; rw [HSZ.out] at h1; omega)))
  obtain ⟨⟨q0, q1, q2, q3, q4⟩, ⟨p0, p1, p2, p3, p4⟩⟩ := HAT.out _ HB3.out
  clear hb HB2 r0 r1 r2 r3 r4 s0 s1 s2 s3 s4
  by_cases hz1 : c1 = 0
  · subst hz1
    go_wp2_with fail
    refine (HC2 _).out.mono ?_
    rintro e w5 ⟨rfl, hb⟩
    have HB4 := Lib.hid (HB3.out.trans (hb.mono (B' := w.heap.size + 1 + 1) (by have h1 := HB3.out.size; rw [HSZ.out] at h1; omega)))
    clear hb HB3 q0 q1 q2 q3 q4 p0 p1 p2 p3 p4
    by_cases hz2 : c2 = 0
    · subst hz2
      have o1 := (HV1.out (by simp)).1
      have o2 := (HV2.out (by simp)).1
      have HD := fun w => Lib.hid (depends_any op d a b n op' d' a' b' n' w o1 o2)
      have HF := fun w => Lib.hid (follows_any op d a b n op' d' a' b' n' w)
      have HE := Lib.hid (dep_follow op d a b op' d' a' b')
      obtain ⟨q, hq⟩ : ∃ q, q = followB op d a b op' d' a' b' := ⟨_, rfl⟩
      rw [HE.out, ← hq] at HD
      rw [← hq] at HF
      clear HE hq HV1 HV2 o1 o2
      obtain ⟨⟨q0, q1, q2, q3, q4⟩, ⟨p0, p1, p2, p3, p4⟩⟩ := HAT.out _ HB4.out
      go_wp2_with fail
      clear q0 q1 q2 q3 q4 p0 p1 p2 p3 p4
      have r0 := fun x : After (w.heap.size + 1 + 1) w5.drew => (HAT.out _ (HB4.out.drew.trans x.below)).1.1
      have r1 := fun x : After (w.heap.size + 1 + 1) w5.drew => (HAT.out _ (HB4.out.drew.trans x.below)).1.2.1
      have r2 := fun x : After (w.heap.size + 1 + 1) w5.drew => (HAT.out _ (HB4.out.drew.trans x.below)).1.2.2.1
      have r3 := fun x : After (w.heap.size + 1 + 1) w5.drew => (HAT.out _ (HB4.out.drew.trans x.below)).1.2.2.2.1
      have r4 := fun x : After (w.heap.size + 1 + 1) w5.drew => (HAT.out _ (HB4.out.drew.trans x.below)).1.2.2.2.2
      have s0 := fun x : After (w.heap.size + 1 + 1) w5.drew => (HAT.out _ (HB4.out.drew.trans x.below)).2.1
      have s1 := fun x : After (w.heap.size + 1 + 1) w5.drew => (HAT.out _ (HB4.out.drew.trans x.below)).2.2.1
      have s2 := fun x : After (w.heap.size + 1 + 1) w5.drew => (HAT.out _ (HB4.out.drew.trans x.below)).2.2.2.1
      have s3 := fun x : After (w.heap.size + 1 + 1) w5.drew => (HAT.out _ (HB4.out.drew.trans x.below)).2.2.2.2.1
      have s4 := fun x : After (w.heap.size + 1 + 1) w5.drew => (HAT.out _ (HB4.out.drew.trans x.below)).2.2.2.2.2
      refine wp_region_eager (w.heap.size + 1 + 1) [(0, true), (1, true), (3, true), (4, true), (2, false), (5, false), (6, true), (7, true)] (by kernel_rfl) (by kernel_rfl) ?_
      repeat (refine eag_read rfl ?_; go_big_quiet_step (fail); refine wpQuiet_nil ?_)
      clear r0 r1 r2 r3 r4 s0 s1 s2 s3 s4
      have hxs : w.heap.size + 1 + 1 ≤ w5.drew.heap.size := by have h1 := HB4.out.size; rw [HSZ.out] at h1; exact h1
      refine eag_does rfl rfl ?_
      intro K hK
      go_simp
      refine (HD _).out.mono ?_
      rintro e w6 ⟨rfl, hb⟩
      refine hK _ _ (hb.mono hxs) ?_
      have HB5 := Lib.hid (HB4.out.drew.trans (hb.mono hxs))
      clear hK K hb hxs HB4
      have hxs : w.heap.size + 1 + 1 ≤ w6.heap.size := by have h1 := HB5.out.size; rw [HSZ.out] at h1; exact h1
      refine eag_does rfl rfl ?_
      intro K hK
      go_simp
      refine (HF _).out.mono ?_
      rintro e w7 ⟨rfl, hb⟩
      refine hK _ _ (hb.mono hxs) ?_
      have HB6 := Lib.hid (HB5.out.trans (hb.mono hxs))
      clear hK K hb hxs HB5
      repeat (refine eag_read rfl ?_; go_big_quiet_step (fail); refine wpQuiet_nil ?_)
      refine eag_end ?_
      go_wp2
      go_ret
      exact ⟨by simp, HB0.out.trans (HB6.out.mono (by omega))⟩
    · have t1 : (c2 != 0) = true := by rw [bne_iff_ne]; exact hz2
      clear hz2
      go_wp2_with fail
      go_ret
      exact ⟨rfl, HB0.out.trans (HB4.out.mono (by omega))⟩
  · have t1 : (c1 != 0) = true := by rw [bne_iff_ne]; exact hz1
    clear hz1
    go_wp2_with fail
    go_ret
    exact ⟨rfl, HB0.out.trans (HB3.out.mono (by omega))⟩
end Go.Proofs.Ytekckijcljgaoaa
