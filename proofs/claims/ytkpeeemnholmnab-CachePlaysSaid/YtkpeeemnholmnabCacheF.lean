/- The fact of the caches in provenancelaw4. -/
import Derived.Test.YtkpeeemnholmnabCacheC
namespace Go.Proofs.Ytkpeeemnholmnab
open Go.RowKit
set_option linter.unusedVariables false
set_option linter.unusedSimpArgs false

set_option maxHeartbeats 2000000 in
theorem cacheFactL_ok (w : World) : Calls Try.prog 7 #[] w fun e w' => e = .returned (.bool true) ∧ Below w.heap.size w w' := by
  have o1 : (Conf.mk 2 1 1 3).Ok := ⟨by decide, by decide, by decide, by decide⟩
  have o2 : (Conf.mk 4 1 1 5).Ok := ⟨by decide, by decide, by decide, by decide⟩
  have HN : ∀ w, Calls Try.prog 8 #[.agg #[.int .i64 2, .int .i64 1, .int .i64 1, .int .i64 3], .agg #[.int .i64 4, .int .i64 1, .int .i64 1, .int .i64 5]] w (NewCPost ⟨2, 1, 1, 3⟩ ⟨4, 1, 1, 5⟩ w) := fun w => cnew_ok ⟨2, 1, 1, 3⟩ ⟨4, 1, 1, 5⟩ o1 o2 w
  go_enter Try.func7, Try.ntmps7
  go_wp2_with fail
  refine (HN _).mono ?_
  rintro e w2 ⟨q, p1, sb1, p2, sb2, rfl, hst, hown, hb2⟩
  have HAC := fun wx hx => Lib.hid (caccess_ok wx q p1 sb1 p2 sb2 ⟨2, 1, 1, 3⟩ ⟨4, 1, 1, 5⟩ (fun _ => .slice none 0 0) (fun _ => .slice none 0 0) (fun _ => []) (fun _ => []) 0 hx o1 o2 (LinesOk.nil _) (by omega) 1 false (by omega))
  have HST := Lib.hid hst
  have HOW := Lib.hid hown
  have HB := Lib.hid hb2
  clear hst hown hb2
  go_wp2_with fail
  refine (HAC _ HST.out).out.mono ?_
  rintro e w3 ⟨sv1', sv2', he, hst3, hf3⟩
  have ee : (extraN ⟨2, 1, 1, 3⟩ ⟨4, 1, 1, 5⟩ 1 (fun _ => []) (fun _ => []) : Int) = 8 := by decide
  have em : mN ⟨2, 1, 1, 3⟩ 1 (fun _ => []) 0 = 1 := by decide
  rw [ee] at he
  rw [em] at hst3
  subst he
  have HAC2 := fun wx hx => Lib.hid (caccess_ok wx q p1 sb1 p2 sb2 ⟨2, 1, 1, 3⟩ ⟨4, 1, 1, 5⟩ sv1' sv2' (stepL ⟨2, 1, 1, 3⟩ 1 false (fun _ => [])) (x2N ⟨2, 1, 1, 3⟩ ⟨4, 1, 1, 5⟩ 1 (fun _ => []) (fun _ => [])) 1 hx o1 o2 ((LinesOk.nil _).step (word := 1) (by omega) false) (by omega) 0 false (by omega))
  have HST3 := Lib.hid hst3
  have HF3 := Lib.hid hf3
  clear hst3 hf3 ee em HAC HST
  go_wp2_with fail
  refine (HAC2 _ HST3.out).out.mono ?_
  rintro e w4 ⟨sv1'', sv2'', he, hst4, hf4⟩
  have ee2 : (extraN ⟨2, 1, 1, 3⟩ ⟨4, 1, 1, 5⟩ 0 (stepL ⟨2, 1, 1, 3⟩ 1 false (fun _ => [])) (x2N ⟨2, 1, 1, 3⟩ ⟨4, 1, 1, 5⟩ 1 (fun _ => []) (fun _ => [])) : Int) = 0 := by decide
  have em2 : mN ⟨2, 1, 1, 3⟩ 0 (stepL ⟨2, 1, 1, 3⟩ 1 false (fun _ => [])) 1 = 1 := by decide
  rw [ee2] at he
  rw [em2] at hst4
  subst he
  have HMS := Lib.hid (cmisses_ok _ q p1 sb1 p2 sb2 _ _ _ _ _ _ _ hst4)
  have HB4 := Lib.hid (HB.out.trans ((HF3.out.trans hf4).below w.heap.size HOW.out HB.out.size))
  clear hst4 hf4 ee2 em2 HAC2 HST3 HF3 HOW HB
  go_wp2_with fail
  refine HMS.out.mono ?_
  rintro e w' ⟨rfl, rfl⟩
  go_wp2
  go_ret
  exact ⟨rfl, HB4.out⟩
theorem confE_out {c0 c1 c2 c3 : Int} (h : ¬ ((1 ≤ c0 ∧ c0 ≤ 64) ∧ (1 ≤ c1 ∧ c1 ≤ 256) ∧ (1 ≤ c2 ∧ c2 ≤ 8) ∧ (0 ≤ c3 ∧ c3 ≤ 1000))) : confE ⟨c0, c1, c2, c3⟩ = 4 := by
  refine confE_bad ?_
  rw [← Bool.not_eq_true]
  intro e
  simp only [confB, Bool.and_eq_true, inB_true] at e
  exact h e
theorem confE_in {c0 c1 c2 c3 : Int} (h : (1 ≤ c0 ∧ c0 ≤ 64) ∧ (1 ≤ c1 ∧ c1 ≤ 256) ∧ (1 ≤ c2 ∧ c2 ≤ 8) ∧ (0 ≤ c3 ∧ c3 ≤ 1000)) : confE ⟨c0, c1, c2, c3⟩ = 0 := by
  refine confE_ok ?_
  simp only [confB, Bool.and_eq_true, inB_true]
  exact h
set_option maxHeartbeats 1000000 in
theorem levelError_any (c0 c1 c2 c3 : Int) (w : World) :
    Calls Try.prog 9 #[.agg #[.int .i64 c0, .int .i64 c1, .int .i64 c2, .int .i64 c3]] w fun e w' => e = .returned (.int .i64 (confE ⟨c0, c1, c2, c3⟩)) ∧ Below w.heap.size w w' := by
  have HB := Lib.hid ((Below.refl w.heap.size w).alloc (Nat.le_refl _) (.cells #[.int .i64 c0, .int .i64 c1, .int .i64 c2, .int .i64 c3] 23))
  have HO := Lib.hid (@confE_out c0 c1 c2 c3)
  have HI := Lib.hid (@confE_in c0 c1 c2 c3)
  obtain ⟨r, hr⟩ : ∃ r, r = confE ⟨c0, c1, c2, c3⟩ := ⟨_, rfl⟩
  rw [← hr] at HO HI ⊢
  clear hr
  by_cases ac0 : c0 < 1
  · have dac0 : decide (c0 < 1) = true := decide_eq_true ac0
    have H := Lib.hid (HO.out (by omega))
    clear HO HI
    go_enter Try.func9, Try.ntmps9
    go_wp2
    go_ret
    exact ⟨ret_int (by rw [H.out]), HB.out⟩
  have dac0 : decide (c0 < 1) = false := decide_eq_false ac0
  by_cases bc0 : 64 < c0
  · have dbc0 : decide (64 < c0) = true := decide_eq_true bc0
    have H := Lib.hid (HO.out (by omega))
    clear HO HI
    go_enter Try.func9, Try.ntmps9
    go_wp2
    go_ret
    exact ⟨ret_int (by rw [H.out]), HB.out⟩
  have dbc0 : decide (64 < c0) = false := decide_eq_false bc0
  by_cases ac1 : c1 < 1
  · have dac1 : decide (c1 < 1) = true := decide_eq_true ac1
    have H := Lib.hid (HO.out (by omega))
    clear HO HI
    go_enter Try.func9, Try.ntmps9
    go_wp2
    go_ret
    exact ⟨ret_int (by rw [H.out]), HB.out⟩
  have dac1 : decide (c1 < 1) = false := decide_eq_false ac1
  by_cases bc1 : 256 < c1
  · have dbc1 : decide (256 < c1) = true := decide_eq_true bc1
    have H := Lib.hid (HO.out (by omega))
    clear HO HI
    go_enter Try.func9, Try.ntmps9
    go_wp2
    go_ret
    exact ⟨ret_int (by rw [H.out]), HB.out⟩
  have dbc1 : decide (256 < c1) = false := decide_eq_false bc1
  by_cases ac2 : c2 < 1
  · have dac2 : decide (c2 < 1) = true := decide_eq_true ac2
    have H := Lib.hid (HO.out (by omega))
    clear HO HI
    go_enter Try.func9, Try.ntmps9
    go_wp2
    go_ret
    exact ⟨ret_int (by rw [H.out]), HB.out⟩
  have dac2 : decide (c2 < 1) = false := decide_eq_false ac2
  by_cases bc2 : 8 < c2
  · have dbc2 : decide (8 < c2) = true := decide_eq_true bc2
    have H := Lib.hid (HO.out (by omega))
    clear HO HI
    go_enter Try.func9, Try.ntmps9
    go_wp2
    go_ret
    exact ⟨ret_int (by rw [H.out]), HB.out⟩
  have dbc2 : decide (8 < c2) = false := decide_eq_false bc2
  by_cases ac3 : c3 < 0
  · have dac3 : decide (c3 < 0) = true := decide_eq_true ac3
    have H := Lib.hid (HO.out (by omega))
    clear HO HI
    go_enter Try.func9, Try.ntmps9
    go_wp2
    go_ret
    exact ⟨ret_int (by rw [H.out]), HB.out⟩
  have dac3 : decide (c3 < 0) = false := decide_eq_false ac3
  by_cases bc3 : 1000 < c3
  · have dbc3 : decide (1000 < c3) = true := decide_eq_true bc3
    have H := Lib.hid (HO.out (by omega))
    clear HO HI
    go_enter Try.func9, Try.ntmps9
    go_wp2
    go_ret
    exact ⟨ret_int (by rw [H.out]), HB.out⟩
  have dbc3 : decide (1000 < c3) = false := decide_eq_false bc3
  have H := Lib.hid (HI.out (by omega))
  clear HO HI
  go_enter Try.func9, Try.ntmps9
  go_wp2
  go_ret
  exact ⟨ret_int (by rw [H.out]), HB.out⟩
end Go.Proofs.Ytkpeeemnholmnab
