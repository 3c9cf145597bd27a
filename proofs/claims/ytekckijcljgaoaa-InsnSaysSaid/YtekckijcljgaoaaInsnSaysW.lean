/- The walk of InsnSays. -/
import Derived.Test.YtekckijcljgaoaaSmallRef
import Derived.Test.YtekckijcljgaoaaReadOp
import Derived.Test.YtekckijcljgaoaaDecLaws
import Derived.Test.YtekckijcljgaoaaEager
import Derived.Test.YtekckijcljgaoaaRefC
namespace Go.Proofs.Ytekckijcljgaoaa
open Go.RowKit
set_option linter.unusedVariables false

set_option maxHeartbeats 1000000 in
theorem insnFactL_ok (w : World) : Calls Try.prog 27 #[] w fun e w' => e = .returned (.bool true) ∧ Below w.heap.size w w' := by
  have hE := fun w => enc_ok 1 1 2 3 0 w (by decide)
  have he : encWords 1 1 2 3 0 = [138985472] := by decide
  rw [he] at hE
  have HE := fun w => Lib.hid (hE w)
  clear hE he
  go_enter Try.func27, Try.ntmps27
  go_wp2_with (go_at_call 16; refine (HE _).out.mono ?_; rintro e w' ⟨g, rfl, hs, hg, hb⟩; have c0 := hs.cell 0; have HB := Lib.hid hb; clear hb hs)
  go_ret
  exact ⟨rfl, HB.out⟩

theorem chk_as' (op d a b n : Int) (w : World) {c : Int} (hc : checkE op d a b n = c) :
    Calls Try.prog 29 #[.agg #[.int .i64 op, .int .i64 d, .int .i64 a, .int .i64 b, .int .i64 n]] w fun e w' => e = .returned (.int .i64 c) ∧ Below w.heap.size w w' := by
  rw [← hc]; exact check_any op d a b n w
theorem size_bel (op d a b n : Int) (w : World) :
    Calls Try.prog 32 #[.agg #[.int .i64 op, .int .i64 d, .int .i64 a, .int .i64 b, .int .i64 n]] w fun e w' => e = .returned (.int .i64 (sizeOfOp n)) ∧ Below w.heap.size w w' := by
  refine (size_any op d a b n w).mono ?_
  rintro e w' ⟨rfl, rfl⟩
  exact ⟨rfl, (Below.refl _ _).alloc (Nat.le_refl _) _⟩
theorem size_one (n : Int) : (sizeOfOp n == 1) = shortB n := by unfold sizeOfOp; cases shortB n <;> rfl

theorem one_hat (op d a b n : Int) (w : World) (t : TypeId) : ∃ w1, w1 = w.alloc (.cells #[.int .i64 op, .int .i64 d, .int .i64 a, .int .i64 b, .int .i64 n] t) ∧ Below w.heap.size w w1 ∧ w1.heap.size = w.heap.size + 1 ∧ ∀ wx, Below (w.heap.size + 1) w1 wx → OpAt wx w.heap.size op d a b n :=
  ⟨_, rfl, (Below.refl _ _).alloc (Nat.le_refl _) _, by simp, fun _ hx => opAt_blk ((Blk.new w (opCells op d a b n) t).below hx (by omega))⟩

set_option maxRecDepth 100000 in
set_option maxHeartbeats 4000000 in
theorem insnSays_walk (op d a b n : Int) (sa : Option Addr) (len cap : Nat) (zs : List Int) (w : World) (h0 : -9223372036854775808 ≤ op ∧ op ≤ 9223372036854775807) (h1 : -9223372036854775808 ≤ d ∧ d ≤ 9223372036854775807) (h2 : -9223372036854775808 ≤ a ∧ a ≤ 9223372036854775807) (h3 : -9223372036854775808 ≤ b ∧ b ≤ 9223372036854775807) (h4 : -9223372036854775808 ≤ n ∧ n ≤ 9223372036854775807) (hz : Came w sa len cap 1 (zs.map intCells) ∧ ∀ z ∈ zs, I64 z) :
    Calls Try.prog 9 #[.agg #[.int .i64 op, .int .i64 d, .int .i64 a, .int .i64 b, .int .i64 n], .slice sa len cap] w fun e w' => e = .returned (.bool true) ∧ Below w.heap.size w w' := by
  obtain ⟨hcm, _⟩ := hz
  clear h0 h1 h2 h3 h4
  have HFACT := fun w => Lib.hid (insnFactL_ok w)
  have HCAME := Lib.hid hcm
  clear hcm
  obtain ⟨c, hc⟩ : ∃ c, c = checkE op d a b n := ⟨_, rfl⟩
  have HERR := fun w => Lib.hid (err_as op d a b n w hc.symm)
  have HCHK := fun w => Lib.hid (chk_as' op d a b n w hc.symm)
  have HSZ := fun w => Lib.hid (size_bel op d a b n w)
  obtain ⟨sz, hsz⟩ : ∃ sz, sz = sizeOfOp n := ⟨_, rfl⟩
  have hs1 := size_one n
  rw [← hsz] at HSZ hs1
  obtain ⟨sb, hsb⟩ : ∃ sb, sb = shortB n := ⟨_, rfl⟩
  rw [← hsb] at hs1
  have HSH := fun w => Lib.hid (isShort_any n w)
  rw [← hsb] at HSH
  have HJ1 := fun w => Lib.hid (jumps_any op w)
  have HJ2 := fun w => Lib.hid (isJump_any op w)
  obtain ⟨jb, hjb⟩ : ∃ jb, jb = jumpB op := ⟨_, rfl⟩
  rw [← hjb] at HJ1 HJ2
  have HCC := Lib.hid hc
  have HSBB := Lib.hid hsb
  have HS1 := Lib.hid hs1
  obtain ⟨w1, hw1, hb0, hsz1, hat⟩ := one_hat op d a b n w 27
  have HB0 := Lib.hid hb0
  have HSZ1 := Lib.hid hsz1
  have p0 := fun wx h => (hat wx h).1
  have p1 := fun wx h => (hat wx h).2.1
  have p2 := fun wx h => (hat wx h).2.2.1
  have p3 := fun wx h => (hat wx h).2.2.2.1
  have p4 := fun wx h => (hat wx h).2.2.2.2
  have r0 := fun b' (h : Below (w.heap.size + 1) w1 b') (x : After (w.heap.size + 1) b') => (hat _ (h.trans x.below)).1
  have r1 := fun b' (h : Below (w.heap.size + 1) w1 b') (x : After (w.heap.size + 1) b') => (hat _ (h.trans x.below)).2.1
  have r2 := fun b' (h : Below (w.heap.size + 1) w1 b') (x : After (w.heap.size + 1) b') => (hat _ (h.trans x.below)).2.2.1
  have r3 := fun b' (h : Below (w.heap.size + 1) w1 b') (x : After (w.heap.size + 1) b') => (hat _ (h.trans x.below)).2.2.2.1
  have r4 := fun b' (h : Below (w.heap.size + 1) w1 b') (x : After (w.heap.size + 1) b') => (hat _ (h.trans x.below)).2.2.2.2
  have d0 := fun b' (h : Below (w.heap.size + 1) w1 b') => h.drew
  clear hc hsz hsb hjb hs1 hb0 hsz1 hat
  go_enter Try.func9, Try.ntmps9
  go_upto_region 1 with fail
  rw [← hw1]
  clear hw1
  go_wp2_with fail
  refine (HFACT _).out.mono ?_
  rintro e w2 ⟨rfl, hb⟩
  have hb2 : Below (w.heap.size + 1) w1 w2 := hb.mono (by rw [HSZ1.out]; omega)
  clear hb
  go_wp2_with fail
  refine (HERR _).out.mono ?_
  rintro e w3 ⟨rfl, hb⟩
  have hb3 : Below (w.heap.size + 1) w1 w3 := hb2.trans (hb.mono (by have h1 := hb2.size; rw [HSZ1.out] at h1; omega))
  clear hb hb2
  go_wp2_with fail
  -- region 4
  refine wp_region_eager (w.heap.size + 1) [(0, true), (2, true), (1, false), (3, true), (4, true), (5, true), (6, true), (8, true), (9, true), (7, false), (10, false), (11, true), (12, true), (13, true), (14, true), (17, true), (18, true), (15, false), (16, true), (19, false), (20, true), (21, true)] (by kernel_rfl) (by kernel_rfl) ?_
  have hb4 := hb3.drew
  clear hb3
  repeat (refine eag_read rfl ?_; go_big_quiet_step (fail); refine wpQuiet_nil ?_)
  refine eag_does rfl rfl ?_
  intro K hK
  go_simp
  refine (HCHK _).out.mono ?_
  rintro e w5 ⟨rfl, hb⟩
  refine hK _ _ (hb.mono (by have h1 := hb4.size; rw [HSZ1.out] at h1; exact h1)) ?_
  have hb5 := hb4.trans (hb.mono (by have h1 := hb4.size; rw [HSZ1.out] at h1; exact h1))
  clear hK K hb
  clear hb4
  repeat (refine eag_read rfl ?_; go_big_quiet_step (fail); refine wpQuiet_nil ?_)
  refine eag_does rfl rfl ?_
  intro K hK
  go_simp
  refine (HJ1 _).out.mono ?_
  rintro e w' ⟨rfl, rfl⟩
  refine hK _ _ (Below.refl _ _) ?_
  clear hK K
  refine eag_does rfl rfl ?_
  intro K hK
  go_simp
  refine (HJ2 _).out.mono ?_
  rintro e w' ⟨rfl, rfl⟩
  refine hK _ _ (Below.refl _ _) ?_
  clear hK K
  repeat (refine eag_read rfl ?_; go_big_quiet_step (fail); refine wpQuiet_nil ?_)
  refine eag_does rfl rfl ?_
  intro K hK
  go_simp
  refine (HSZ _).out.mono ?_
  rintro e w6 ⟨rfl, hb⟩
  refine hK _ _ (hb.mono (by have h1 := hb5.size; rw [HSZ1.out] at h1; exact h1)) ?_
  have hb6 := hb5.trans (hb.mono (by have h1 := hb5.size; rw [HSZ1.out] at h1; exact h1))
  clear hK K hb
  clear hb5
  repeat (refine eag_read rfl ?_; go_big_quiet_step (fail); refine wpQuiet_nil ?_)
  refine eag_does rfl rfl ?_
  intro K hK
  go_simp
  refine (HSH _).out.mono ?_
  rintro e w' ⟨rfl, rfl⟩
  refine hK _ _ (Below.refl _ _) ?_
  clear hK K
  have hs2 := HS1.out
  repeat (refine eag_read rfl ?_; go_big_quiet_step (fail); refine wpQuiet_nil ?_)
  refine eag_end ?_
  have hsx := hb6.size
  rw [HSZ1.out] at hsx
  clear HCHK HSZ HJ1 HJ2
  have HTL : ∀ wx, Below (w.heap.size + 1) w1 wx → w1.heap.size ≤ wx.heap.size := fun wx h => h.size
  have HDEC := fun {wx : World} (h : Below (w.heap.size + 1) w1 wx) => Lib.hid (decode_any wx sa len cap zs (HCAME.out.below (HB0.out.trans (h.mono (by omega)))))
  have HRD := fun {wx : World} (h : Below (w.heap.size + 1) w1 wx) => Lib.hid (readop_any wx sa len cap zs (HCAME.out.below (HB0.out.trans (h.mono (by omega)))))
  obtain ⟨q, hq⟩ : ∃ q, q = decode zs := ⟨_, rfl⟩
  rw [← hq] at HDEC HRD
  clear hq
  by_cases hc0 : c = 0
  · subst hc0
    obtain ⟨g0, g1, g2, g3, g4, _, _⟩ := checkE_ok HCC.out.symm
    have HE1 := fun w => Lib.hid (enc_ok op d a b n w HCC.out.symm)
    have HE2 := fun w => Lib.hid (long_ok op d a b n w HCC.out.symm)
    have HO1 := fun w => Lib.hid (opWords_any op d a b n (!sb) w g0 g1 g2 g3)
    have HO2 := fun w => Lib.hid (opWords_any op d a b n true w g0 g1 g2 g3)
    rw [HSBB.out, refWords_enc] at HO1
    rw [← HSBB.out] at HO1
    rw [show refWords op d a b n true = longWords op d a b n from rfl] at HO2
    have hl1 : (encWords op d a b n).length ≤ 2 := by unfold encWords longWords; split <;> simp
    have hl2 : (longWords op d a b n).length ≤ 2 := by unfold longWords; simp
    obtain ⟨ws, hws⟩ : ∃ ws, ws = encWords op d a b n := ⟨_, rfl⟩
    obtain ⟨wl, hwl⟩ : ∃ wl, wl = longWords op d a b n := ⟨_, rfl⟩
    rw [← hws] at HE1 HO1 hl1
    rw [← hwl] at HE2 HO2 hl2
    clear hws hwl g0 g1 g2 g3 g4
    go_wp2_with fail
    refine (HE1 _).out.mono ?_
    rintro e w7 ⟨g1, rfl, hs1, _, hb⟩
    have hb7 := hb6.trans (hb.mono hsx)
    have HS1' := Lib.hid hs1
    clear hb hb6 hs1
    go_wp2_with fail
    refine (HE2 _).out.mono ?_
    rintro e w8 ⟨g2, rfl, hs2', _, hb⟩
    have hb8 := hb7.trans (hb.mono (by have h1 := hb7.size; rw [HSZ1.out] at h1; exact h1))
    have HS1'' := Lib.hid ((HS1'.out.below hb HS1'.out.lt).drew)
    have HS2' := Lib.hid hs2'.drew
    clear hb hb7 HS1' hs2'
    go_wp2_with fail
    have hb9 := hb8.drew
    clear hb8
    refine wp_region_eager (w.heap.size + 1) [(0, true), (1, true), (2, true), (3, true), (4, true), (5, true), (6, true), (7, true), (8, true), (9, true), (10, true), (11, true), (12, true), (13, true), (14, true), (15, true), (16, true), (17, true), (18, false), (19, true), (20, false), (21, false), (22, true), (23, true), (24, true), (25, true), (26, false), (27, false), (28, true), (29, true), (30, true), (31, true)] (by kernel_rfl) (by kernel_rfl) ?_
    repeat (refine eag_read rfl ?_; go_big_quiet_step (fail); refine wpQuiet_nil ?_)
    refine eag_does rfl rfl ?_
    intro K hK
    go_simp
    refine (HSH _).out.mono ?_
    rintro e w' ⟨rfl, rfl⟩
    refine hK _ _ (Below.refl _ _) ?_
    clear hK K
    repeat (refine eag_read rfl ?_; go_big_quiet_step (fail); refine wpQuiet_nil ?_)
    refine eag_does rfl rfl ?_
    intro K hK
    go_simp
    refine (HO1 _).out.mono ?_
    rintro e w10 ⟨g3, rfl, hs3, _, hb⟩
    have hbm := hb.mono (B' := w.heap.size + 1) (by have h1 := hb9.size; rw [HSZ1.out] at h1; exact h1)
    refine hK _ _ hbm ?_
    have hb10 := hb9.trans hbm
    have HEQ := Lib.hid (same_ints w10 _ _ _ ws _ _ _ ws (came_of_blk (HS1''.out.below hb HS1''.out.lt) (by omega)) (came_of_blk hs3 (by omega)))
    have HS2'' := Lib.hid (HS2'.out.below hb HS2'.out.lt)
    clear hK K hb hb9 HS1'' hs3 hbm HS2'
    refine eag_does rfl rfl ?_
    intro K hK
    go_simp
    refine HEQ.out.mono ?_
    rw [decide_eq_true rfl]
    rintro e w11 ⟨m, rfl, rfl⟩
    refine hK _ _ (below_drewN_self _ _ _) ?_
    have hb11 := hb10.trans (below_drewN_self (w.heap.size + 1) w10 m)
    clear hK K hb10 HEQ
    repeat (refine eag_read rfl ?_; go_big_quiet_step (fail); refine wpQuiet_nil ?_)
    refine eag_does rfl rfl ?_
    intro K hK
    go_simp
    refine (HO2 _).out.mono ?_
    rintro e w12 ⟨g4, rfl, hs4, _, hb⟩
    have hbm := hb.mono (B' := w.heap.size + 1) (by have h1 := hb11.size; rw [HSZ1.out] at h1; exact h1)
    refine hK _ _ hbm ?_
    have hb12 := hb11.trans hbm
    have HEQ := Lib.hid (same_ints w12 _ _ _ wl _ _ _ wl (came_of_blk ((HS2''.out.drewN m).below hb (HS2''.out.drewN m).lt) (by omega)) (came_of_blk hs4 (by omega)))
    clear hK K hb hb11 HS2'' hs4 hbm
    refine eag_does rfl rfl ?_
    intro K hK
    go_simp
    refine HEQ.out.mono ?_
    rw [decide_eq_true rfl]
    rintro e w13 ⟨m2, rfl, rfl⟩
    refine hK _ _ (below_drewN_self _ _ _) ?_
    have hb13 := hb12.trans (below_drewN_self (w.heap.size + 1) w12 m2)
    clear hK K hb12 HEQ
    repeat (refine eag_read rfl ?_; go_big_quiet_step (fail); refine wpQuiet_nil ?_)
    refine eag_end ?_
    go_wp2_with fail
    refine (HDEC hb13).out.mono ?_
    rintro e wd ⟨rfl, hb⟩
    have hbd := hb13.trans (hb.mono (by have h1 := hb13.size; rw [HSZ1.out] at h1; exact h1))
    clear hb
    simp only [Dec.val]
    go_wp2_with fail
    refine (HRD (hbd.alloc (by have h1 := hbd.size; rw [HSZ1.out] at h1; exact h1) _)).out.mono ?_
    rintro e wr ⟨rfl, hb⟩
    simp only [Dec.val]
    obtain ⟨o0, o1, o2, o3, o4⟩ := opAt_blk ((Blk.new wd (opCells q.op q.d q.a q.b q.n) 27).below hb (by simp))
    have hltd : wd.heap.size < wr.heap.size := by have h1 := hb.size; simp at h1; omega
    have HBE := Lib.hid ((hbd.alloc (by have h1 := hbd.size; rw [HSZ1.out] at h1; exact h1) _).trans (hb.mono (B' := w.heap.size + 1) (by have h1 := hbd.size; rw [HSZ1.out] at h1; simp; omega)))
    clear hb
    go_wp2_with fail
    go_ret
    exact ⟨rfl, (HB0.out.trans (HBE.out.mono (B' := w.heap.size) (by omega))).alloc (by have h1 := HBE.out.size; rw [HSZ1.out] at h1; omega) _⟩
  · have t1 : (c != 0) = true := by rw [bne_iff_ne]; exact hc0
    have t2 : (c == 0) = false := beq_eq_false_iff_ne.2 hc0
    have HE1 := fun w => Lib.hid (enc_err op d a b n w (by rw [← HCC.out]; exact hc0))
    have HE2 := fun w => Lib.hid (long_err op d a b n w (by rw [← HCC.out]; exact hc0))
    rw [← HCC.out] at HE1 HE2
    clear hc0
    go_wp2_with fail
    refine (HE1 _).out.mono ?_
    rintro e w7 ⟨rfl, hb⟩
    have hb7 := hb6.trans (hb.mono hsx)
    clear hb hb6
    go_wp2_with fail
    refine (HE2 _).out.mono ?_
    rintro e w8 ⟨rfl, hb⟩
    have hb8 := hb7.trans (hb.mono (by have h1 := hb7.size; rw [HSZ1.out] at h1; exact h1))
    clear hb hb7
    go_wp2_with fail
    have hb9 := hb8.drew
    clear hb8
    refine wp_region_eager (w.heap.size + 1) [(0, true), (1, true), (2, true), (3, true), (4, true), (5, true), (6, true), (7, true), (8, true), (9, true), (10, true), (11, true), (12, true), (13, true), (14, true), (15, true), (16, true), (17, true), (18, false), (19, true), (20, false), (21, false), (22, true), (23, true), (24, true), (25, true), (26, false), (27, false), (28, true), (29, true), (30, true), (31, true)] (by kernel_rfl) (by kernel_rfl) ?_
    repeat (refine eag_read rfl ?_; go_big_quiet_step (fail); refine wpQuiet_nil ?_)
    refine eag_skip rfl rfl ?_
    go_simp
    repeat (refine eag_read rfl ?_; go_big_quiet_step (fail); refine wpQuiet_nil ?_)
    refine eag_skip rfl rfl ?_
    go_simp
    refine eag_skip rfl rfl ?_
    go_simp
    repeat (refine eag_read rfl ?_; go_big_quiet_step (fail); refine wpQuiet_nil ?_)
    refine eag_skip rfl rfl ?_
    go_simp
    refine eag_skip rfl rfl ?_
    go_simp
    repeat (refine eag_read rfl ?_; go_big_quiet_step (fail); refine wpQuiet_nil ?_)
    refine eag_end ?_
    go_wp2_with fail
    refine (HDEC hb9).out.mono ?_
    rintro e wd ⟨rfl, hb⟩
    have hbd := hb9.trans (hb.mono (by have h1 := hb9.size; rw [HSZ1.out] at h1; exact h1))
    clear hb
    simp only [Dec.val]
    go_wp2_with fail
    refine (HRD (hbd.alloc (by have h1 := hbd.size; rw [HSZ1.out] at h1; exact h1) _)).out.mono ?_
    rintro e wr ⟨rfl, hb⟩
    simp only [Dec.val]
    obtain ⟨o0, o1, o2, o3, o4⟩ := opAt_blk ((Blk.new wd (opCells q.op q.d q.a q.b q.n) 27).below hb (by simp))
    have hltd : wd.heap.size < wr.heap.size := by have h1 := hb.size; simp at h1; omega
    have HBE := Lib.hid ((hbd.alloc (by have h1 := hbd.size; rw [HSZ1.out] at h1; exact h1) _).trans (hb.mono (B' := w.heap.size + 1) (by have h1 := hbd.size; rw [HSZ1.out] at h1; simp; omega)))
    clear hb
    go_wp2_with fail
    go_ret
    exact ⟨rfl, (HB0.out.trans (HBE.out.mono (B' := w.heap.size) (by omega))).alloc (by have h1 := HBE.out.size; rw [HSZ1.out] at h1; omega) _⟩
end Go.Proofs.Ytekckijcljgaoaa
