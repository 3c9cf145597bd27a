/- The law TimingSays: the walk. -/
import Derived.Test.YtgcbdndfobiphabLawM
import Derived.Test.YtgcbdndfobiphabSameSt
import Derived.Test.YtgcbdndfobiphabTimFactL
import Derived.Test.YtgcbdndfobiphabOpErr
import Derived.Test.YtgcbdndfobiphabEagerT
namespace Go.Proofs.Ytgcbdndfobiphab
open Go.RowKit
set_option linter.unusedVariables false
set_option linter.unusedSimpArgs false

/-- the boxes of the law -/
structure LawB (w w' : World) (S : TI) (wv : Value) (op d a b n : Int) : Prop where
  below : Below w.heap.size w w'
  st : Blk w' w.heap.size 25 (tiCells S wv)
  op : Blk w' (w.heap.size + 1) 27 [.int .i64 op, .int .i64 d, .int .i64 a, .int .i64 b, .int .i64 n]
theorem LawB.after {w w' w'' : World} {S : TI} {wv : Value} {op d a b n : Int} (h : LawB w w' S wv op d a b n) (hb : Below w'.heap.size w' w'') : LawB w w'' S wv op d a b n :=
  ⟨h.below.trans (hb.mono h.below.size), h.st.below hb h.st.lt, h.op.below hb h.op.lt⟩
theorem LawB.new (w : World) (S : TI) (wv : Value) (op d a b n : Int) : LawB w ((w.alloc (.cells (tiCells S wv).toArray 25)).alloc (.cells #[.int .i64 op, .int .i64 d, .int .i64 a, .int .i64 b, .int .i64 n] 27)) S wv op d a b n := by
  have h1 := Blk.new w (tiCells S wv) 25
  have h2 := Blk.new (w.alloc (.cells (tiCells S wv).toArray 25)) [.int .i64 op, .int .i64 d, .int .i64 a, .int .i64 b, .int .i64 n] 27
  rw [World.size_alloc] at h2
  exact ⟨((Below.refl _ _).alloc (Nat.le_refl _) _).alloc (by simp) _, h1.alloc _, h2⟩

theorem LawB.rd {w w' : World} {S : TI} {wv : Value} {op d a b n : Int} (h : LawB w w' S wv op d a b n) (x : After (w.heap.size + 2) w') : x.world.cell? ⟨w.heap.size + 1, 0, none⟩ = some (.int .i64 op) ∧ x.world.cell? ⟨w.heap.size + 1, 1, none⟩ = some (.int .i64 d) ∧ x.world.cell? ⟨w.heap.size + 1, 2, none⟩ = some (.int .i64 a) ∧ x.world.cell? ⟨w.heap.size + 1, 3, none⟩ = some (.int .i64 b) ∧ x.world.cell? ⟨w.heap.size + 1, 4, none⟩ = some (.int .i64 n) := by
  obtain ⟨p0, p1, p2, p3, p4⟩ := op_cells5 h.op
  refine ⟨?_, ?_, ?_, ?_, ?_⟩
  · rw [x.below.cell (by show _ < _; simp)]; exact p0
  · rw [x.below.cell (by show _ < _; simp)]; exact p1
  · rw [x.below.cell (by show _ < _; simp)]; exact p2
  · rw [x.below.cell (by show _ < _; simp)]; exact p3
  · rw [x.below.cell (by show _ < _; simp)]; exact p4

set_option maxRecDepth 100000 in
set_option maxHeartbeats 8000000 in
theorem timingSays_walk (S : TI) (wv : Value) (op d a b n extra : Int) (w : World) (hS : I64 S.next ∧ I64 S.div ∧ I64 S.done ∧ (∀ i, i < 16 → I64 (S.rd i)) ∧ ∀ z ∈ S.wr, I64 z) (hw : WrI w wv S.wr) (_o1 : I64 op) (_o2 : I64 d) (_o3 : I64 a) (_o4 : I64 b) (_o5 : I64 n) (hx : I64 extra) :
    Calls Try.prog 3 #[.agg (tiCells S wv).toArray, .agg #[.int .i64 op, .int .i64 d, .int .i64 a, .int .i64 b, .int .i64 n], .int .i64 extra] w fun e w' => e = .returned (.bool true) ∧ Below w.heap.size w w' := by
  have HW := Lib.hid hw
  obtain ⟨wa, wc0, hwv, _⟩ := id hw
  subst hwv
  have HBX := Lib.hid (LawB.new w S (.slice wa S.wr.length wc0) op d a b n)
  have HSS := Lib.hid hS
  clear hS hw
  go_enter Try.func3, Try.ntmps3
  go_upto_region 1 with fail
  generalize (w.alloc (.cells (tiCells S (.slice wa S.wr.length wc0)).toArray 25)).alloc (.cells #[.int .i64 op, .int .i64 d, .int .i64 a, .int .i64 b, .int .i64 n] 27) = w0 at HBX ⊢
  go_wp2_with fail
  refine (timingFactL_ok _).mono ?_
  rintro e w1 ⟨rfl, hb1⟩
  replace HBX := Lib.hid (HBX.out.after hb1)
  clear hb1
  have HB2 := Lib.hid (HBX.out.after ((Below.refl _ w1).drew))
  clear HBX
  have HBX := HB2
  clear HB2
  have z1 : ((latOf op : Int) != (latOf op : Int)) = false := by simp
  have z2 : (wrOf op d != wrOf op d) = false := by simp
  have z3 : (strB op != strB op) = false := by simp
  go_upto_region 3 with fail
  refine wp_region_eager (w.heap.size + 2) [(0, true), (1, true), (3, true), (4, true), (2, false), (5, false), (6, true), (7, true), (8, true), (10, true), (9, false), (11, false), (12, true), (13, true), (14, true), (15, true), (17, true), (16, false), (18, false), (19, false), (20, true), (21, true), (22, true), (23, true), (24, true), (26, true), (27, true), (25, false), (28, false), (29, true), (30, true)] (by kernel_rfl) (by kernel_rfl) ?_
  generalize w1.drew = w2 at HBX ⊢
  have r0 := fun x => (HBX.out.rd x).1
  have r1 := fun x => (HBX.out.rd x).2.1
  have r2 := fun x => (HBX.out.rd x).2.2.1
  have r3 := fun x => (HBX.out.rd x).2.2.2.1
  have r4 := fun x => (HBX.out.rd x).2.2.2.2
  repeat (refine eag_read rfl ?_; go_big_quiet_step (fail); refine wpQuiet_nil ?_)
  clear r0 r1 r2 r3 r4
  refine eag_does rfl rfl ?_
  intro K hK
  go_simp
  refine (latency_any op _).mono ?_
  rintro e w' ⟨rfl, rfl⟩
  refine hK _ _ (Below.refl _ _) ?_
  clear hK K
  refine eag_does rfl rfl ?_
  intro K hK
  go_simp
  refine (delay_any op _).mono ?_
  rintro e w3 ⟨rfl, hb1⟩
  refine hK _ _ (hb1.mono HBX.out.op.lt) ?_
  replace HBX := Lib.hid (HBX.out.after hb1)
  clear hK K hb1
  have r0 := fun x => (HBX.out.rd x).1
  have r1 := fun x => (HBX.out.rd x).2.1
  have r2 := fun x => (HBX.out.rd x).2.2.1
  have r3 := fun x => (HBX.out.rd x).2.2.2.1
  have r4 := fun x => (HBX.out.rd x).2.2.2.2
  repeat (refine eag_read rfl ?_; go_big_quiet_step (fail); refine wpQuiet_nil ?_)
  clear r0 r1 r2 r3 r4
  refine eag_does rfl rfl ?_
  intro K hK
  go_simp
  refine (writes_any op d a b n _).mono ?_
  rintro e w' ⟨rfl, rfl⟩
  refine hK _ _ ((Below.refl _ _).alloc HBX.out.op.lt _) ?_
  replace HBX := Lib.hid (HBX.out.after ((Below.refl _ w3).alloc (Nat.le_refl _) (.cells #[.int .i64 op, .int .i64 d, .int .i64 a, .int .i64 b, .int .i64 n] 27)))
  clear hK K
  generalize w3.alloc (.cells #[.int .i64 op, .int .i64 d, .int .i64 a, .int .i64 b, .int .i64 n] 27) = w3a at HBX ⊢
  refine eag_does rfl rfl ?_
  intro K hK
  go_simp
  refine (opw_any op d a b n _).mono ?_
  rintro e w4 ⟨rfl, hb1⟩
  refine hK _ _ (hb1.mono HBX.out.op.lt) ?_
  replace HBX := Lib.hid (HBX.out.after hb1)
  clear hK K hb1
  have r0 := fun x => (HBX.out.rd x).1
  have r1 := fun x => (HBX.out.rd x).2.1
  have r2 := fun x => (HBX.out.rd x).2.2.1
  have r3 := fun x => (HBX.out.rd x).2.2.2.1
  have r4 := fun x => (HBX.out.rd x).2.2.2.2
  repeat (refine eag_read rfl ?_; go_big_quiet_step (fail); refine wpQuiet_nil ?_)
  clear r0 r1 r2 r3 r4
  refine eag_does rfl rfl ?_
  intro K hK
  go_simp
  refine (reads_any op d a b n _).mono ?_
  rintro e w5 ⟨x, rfl, hox, hb1⟩
  refine hK _ _ (hb1.mono HBX.out.op.lt) ?_
  obtain ⟨xa, xc, rfl, xcm⟩ := came_own_int hox
  replace HBX := Lib.hid (HBX.out.after hb1)
  have HX := Lib.hid xcm
  clear hK K hb1 hox xcm
  refine eag_does rfl rfl ?_
  intro K hK
  go_simp
  refine (opr_any op d a b n _).mono ?_
  rintro e w6 ⟨y, rfl, hoy, hb1⟩
  refine hK _ _ (hb1.mono HBX.out.op.lt) ?_
  obtain ⟨ya, yc, rfl, ycm⟩ := came_own_int hoy
  replace HBX := Lib.hid (HBX.out.after hb1)
  replace HX := Lib.hid (HX.out.below hb1)
  have HY := Lib.hid ycm
  clear hK K hb1 hoy ycm
  refine eag_does rfl rfl ?_
  intro K hK
  go_simp
  refine (same_ints _ _ _ _ _ _ _ _ _ HX.out HY.out).mono ?_
  rintro e w' ⟨q7, rfl, rfl⟩
  rw [decide_eq_true rfl]
  refine hK _ _ (below_drewN_self _ _ q7) ?_
  replace HBX := Lib.hid (HBX.out.after (below_drewN_self _ w6 q7))
  clear hK K HX HY
  generalize w6.drewN q7 = w7 at HBX ⊢
  go_simp
  have r0 := fun x => (HBX.out.rd x).1
  have r1 := fun x => (HBX.out.rd x).2.1
  have r2 := fun x => (HBX.out.rd x).2.2.1
  have r3 := fun x => (HBX.out.rd x).2.2.2.1
  have r4 := fun x => (HBX.out.rd x).2.2.2.2
  repeat (refine eag_read rfl ?_; go_big_quiet_step (fail); refine wpQuiet_nil ?_)
  clear r0 r1 r2 r3 r4
  refine eag_does rfl rfl ?_
  intro K hK
  go_simp
  refine (straight_any op _).mono ?_
  rintro e w' ⟨rfl, rfl⟩
  refine hK _ _ (Below.refl _ _) ?_
  clear hK K
  refine eag_does rfl rfl ?_
  intro K hK
  go_simp
  refine (isStraight_any op _).mono ?_
  rintro e w' ⟨rfl, rfl⟩
  refine hK _ _ (Below.refl _ _) ?_
  clear hK K
  repeat (refine eag_read rfl ?_; go_big_quiet_step (fail); refine wpQuiet_nil ?_)
  refine eag_end ?_
  have HWX := Lib.hid (HW.out.below HBX.out.below)
  have HSE := fun w h => Lib.hid (stateErr_any S (.slice wa S.wr.length wc0) w HSS.out.1 h)
  have HTC := fun w h => Lib.hid (tcheck_any S (.slice wa S.wr.length wc0) w HSS.out.1 h)
  have HOE := fun w => Lib.hid (operr_any op d a b n w)
  obtain ⟨se, hse⟩ : ∃ x, x = stE S := ⟨_, rfl⟩
  obtain ⟨ce, hce⟩ : ∃ x, x = checkE op d a b n := ⟨_, rfl⟩
  rw [← hse] at HSE HTC
  rw [← hce] at HOE
  have HSEE := Lib.hid hse
  have HCEE := Lib.hid hce
  clear hse hce
  have HSZ : Hid ((Try.prog.info? 25).map (·.size) = some (tiCells S (.slice wa S.wr.length wc0)).toArray.size) := by unfold Hid; kernel_rfl
  clear z1 z2 z3
  go_wp2_with (refine wpList_load_row rfl 25 _ rfl w.heap.size rfl _ (tiCells S (.slice wa S.wr.length wc0)).toArray _ _ HBX.out.st Try.underlying25 rfl HSZ.out ?_)
  refine (HSE _ HWX.out).out.mono ?_
  rintro e w8 ⟨rfl, hb1⟩
  replace HBX := Lib.hid (HBX.out.after hb1)
  replace HWX := Lib.hid (HW.out.below HBX.out.below)
  clear hb1 HSE
  go_wp2_with (refine wpList_load_row rfl 25 _ rfl w.heap.size rfl _ (tiCells S (.slice wa S.wr.length wc0)).toArray _ _ HBX.out.st Try.underlying25 rfl HSZ.out ?_)
  refine (HTC _ HWX.out).out.mono ?_
  rintro e w9 ⟨rfl, hb1⟩
  replace HBX := Lib.hid (HBX.out.after hb1)
  replace HWX := Lib.hid (HW.out.below HBX.out.below)
  clear hb1 HTC
  have z4 : (se != se) = false := by simp
  have HWEQ : Hid (wantE S op d a b n extra = if se ≠ 0 then se else if ce ≠ 0 then ce else if extra < 0 ∨ 10000 < extra then 1 else 0) := by show _ = _; rw [HSEE.out, HCEE.out]; rfl
  by_cases h1 : se = 0
  · have q1 : (se == 0) = true := by simp [h1]
    have HWEQ2 : Hid (wantE S op d a b n extra = if ce ≠ 0 then ce else if extra < 0 ∨ 10000 < extra then 1 else 0) := by show _ = _; rw [HWEQ.out, if_neg (by simp [h1])]
    have H1 := Lib.hid h1
    clear h1 HWEQ
    obtain ⟨p0, p1, p2, p3, p4⟩ := op_cells5 HBX.out.op
    go_wp2_with fail
    refine (HOE _).out.mono ?_
    rintro e w9b ⟨rfl, hb1⟩
    replace HBX := Lib.hid (HBX.out.after hb1)
    replace HWX := Lib.hid (HW.out.below HBX.out.below)
    clear hb1 p0 p1 p2 p3 p4
    by_cases h2 : ce = 0
    · have q2 : (ce == 0) = true := by simp [h2]
      have HWEQ3 : Hid (wantE S op d a b n extra = if extra < 0 ∨ 10000 < extra then 1 else 0) := by show _ = _; rw [HWEQ2.out, if_neg (by simp [h2])]
      have H2 := Lib.hid h2
      clear h2 HWEQ2
      by_cases h3 : extra < 0 ∨ 10000 < extra
      · have HWE : Hid (wantE S op d a b n extra = 1) := by show _ = _; rw [HWEQ3.out, if_pos h3]
        have HWN : Hid (wantE S op d a b n extra ≠ 0) := by show _ ≠ _; rw [HWE.out]; decide
        have h4 : extra < 0 ∨ (¬ extra < 0 ∧ 10000 < extra) := by omega
        clear h3 HWEQ3
        rcases h4 with h4 | ⟨h4, h5⟩
        all_goals
          as_aux_lemma =>
            --BEGIN
            have HIE := Lib.hid (fun wx hw => issue_err S (.slice wa S.wr.length wc0) op d a b n extra wx HSS.out.1 hw HWN.out)
            rw [HWE.out] at HIE
            obtain ⟨p0, p1, p2, p3, p4⟩ := op_cells5 HBX.out.op
            have z6 : ((1 : Int) == (1 : Int)) = true := by simp
            have HZC : Hid ((Try.prog.info? 25).map (·.size) = some zCells.toArray.size) := by unfold Hid; kernel_rfl
            go_wp2_with (refine wpList_load_row rfl 25 _ rfl w.heap.size rfl _ (tiCells S (.slice wa S.wr.length wc0)).toArray _ _ HBX.out.st Try.underlying25 rfl HSZ.out ?_)
            refine (HIE.out _ HWX.out).mono ?_
            rintro e w10 ⟨rfl, hb1⟩
            replace HBX := Lib.hid (HBX.out.after hb1)
            clear hb1 p0 p1 p2 p3 p4
            have hbx := boxC_new w10 zCells
            have HBZ := Lib.hid hbx.1
            have HBB := Lib.hid (HBX.out.below.trans (hbx.2.mono HBX.out.below.size))
            have HSM := Lib.hid (fun wx => sameState_ok ⟨0, 0, 0, fun _ => 0, []⟩ none 0 none 0 wx ⟨rfl, by simp, by omega, fun _ => ⟨rfl, rfl⟩, fun v hv => by simp at hv, fun h => by simp at h⟩ ⟨rfl, by simp, by omega, fun _ => ⟨rfl, rfl⟩, fun v hv => by simp at hv, fun h => by simp at h⟩)
            clear hbx
            iterate 20 (first
              | (refine wpList_store_rowTo rfl 25 _ _ rfl rfl w10.heap.size zCells.toArray rfl rfl _ _ (newZ w10) HZC.out rfl (by simp [zCells, Value.oneCell']) ?_)
              | go_step | go_simp)
            change (_ : Act → World → Prop) _ (boxS w10 zCells.toArray)
            generalize boxS w10 zCells.toArray = w11 at HBZ HBB ⊢
            go_wp2_with (refine wpList_load_row_g rfl 25 _ rfl w10.heap.size rfl _ zCells.toArray _ _ HBZ.out Try.underlying25 rfl HZC.out ?_)
            refine (HSM.out _).mono ?_
            rintro e w12 ⟨rfl, hb1⟩
            have HBC := Lib.hid (HBB.out.trans (hb1.mono HBB.out.size))
            clear hb1
            go_wp2_with fail
            go_ret
            exact ⟨rfl, HBC.out⟩
            --END
      · as_aux_lemma =>
          obtain ⟨ex, hex⟩ : ∃ ex : Nat, extra = (ex : Int) := ⟨extra.toNat, by omega⟩
          subst hex
          have hexb : ex ≤ 10000 := by omega
          have hst0 : stE S = 0 := by rw [← HSEE.out]; exact H1.out
          have hck0 : checkE op d a b n = 0 := by rw [← HCEE.out]; exact H2.out
          have HIA := Lib.hid (fun wx hw => issue_all S (.slice wa S.wr.length wc0) op d a b n ex wx hexb hck0 HSS.out.1 hst0 hw)
          have HID := Lib.hid (fun wx hw hs => issued_small S (.slice wa S.wr.length wc0) op d a b n ex wx hexb hck0 hst0 hw hs)
          have hwl := (stE_good hst0).1
          have q4 : (ce != 0) = false := by simp [H2.out]
          have q5 : decide ((ex : Int) < 0) = false := decide_eq_false (by omega)
          have q6 : decide ((10000 : Int) < (ex : Int)) = false := decide_eq_false (by omega)
          have q7 : ¬ 10000 < ex := by omega
          clear h3 HWEQ3 hst0 hck0
          obtain ⟨p0, p1, p2, p3, p4⟩ := op_cells5 HBX.out.op
          go_wp2_with (refine wpList_load_row rfl 25 _ rfl w.heap.size rfl _ (tiCells S (.slice wa S.wr.length wc0)).toArray _ _ HBX.out.st Try.underlying25 rfl HSZ.out ?_)
          refine (HIA.out _ HWX.out).mono ?_
          rintro e w10 ⟨S', va, vc, vl, t, rfl, hb1, hsm⟩
          replace HBX := Lib.hid (HBX.out.after hb1)
          have HSM := Lib.hid hsm
          clear hb1 p0 p1 p2 p3 p4 hsm HIA
          have hbx := boxC_new w10 (tiCells S' (.slice va vl vc))
          have HBZ := Lib.hid hbx.1
          have HSN : Hid ((Try.prog.info? 25).map (·.size) = some (tiCells S' (.slice va vl vc)).toArray.size) := by unfold Hid; kernel_rfl
          have HB10 := Lib.hid (HBX.out.after hbx.2)
          have hbx2 := hbx.2
          clear hbx
          iterate 20 (first
            | (refine wpList_store_rowTo rfl 25 _ _ rfl rfl w10.heap.size (tiCells S' (.slice va vl vc)).toArray rfl rfl _ _ (newZ w10) HSN.out rfl (ti_one _ _ rfl) ?_)
            | go_step | go_simp)
          change (_ : Act → World → Prop) _ (boxS w10 (tiCells S' (.slice va vl vc)).toArray)
          obtain ⟨g, hg⟩ : ∃ g, g = w10.heap.size := ⟨_, rfl⟩
          have hgw : w.heap.size + 2 ≤ g := by have := HBX.out.op.lt; omega
          rw [← hg] at HBZ ⊢
          clear HBX hg
          have HBW := Lib.hid hbx2
          clear hbx2
          generalize boxS w10 (tiCells S' (.slice va vl vc)).toArray = w11 at HBZ HB10 HBW ⊢
          go_upto_region 15 with fail
          obtain ⟨B0, hB0⟩ : ∃ B0, B0 = w11.heap.size := ⟨_, rfl⟩
          refine wp_region_eager B0 [(0, true), (1, true), (2, true), (3, true), (4, true), (5, true), (7, true), (8, true), (10, true), (11, true), (14, true), (6, false), (9, false), (12, false), (13, true)] (by kernel_rfl) (by kernel_rfl) ?_
          have hdr : Below w11.heap.size w11 w11.drew := (Below.refl _ _).drew
          have hszd : w11.drew.heap.size = B0 := hB0.symm
          have HB12 := Lib.hid (HB10.out.after hdr)
          have HBZ12 := Lib.hid (HBZ.out.below hdr HBZ.out.lt)
          have HBW12 := Lib.hid (HBW.out.trans (hdr.mono HBW.out.size))
          clear hdr HBZ HB10 HBW hB0
          generalize w11.drew = w12 at HB12 HBZ12 HBW12 hszd ⊢
          obtain ⟨xa2, xc2, hwe, hwcm, _⟩ := HW.out.below HB12.out.below
          simp only [Value.slice.injEq, true_and] at hwe
          obtain ⟨rfl, rfl⟩ := hwe
          obtain ⟨v1, w13, a3, c3, w14, r1, r2, hc14, q1', q2'⟩ := law_apps w12 S.next S.div S.done (rdsL S) S.wr (some ⟨w.heap.size, 3, none⟩) wa S.wr.length wc0 23 23 (came_rds HB12.out.st) hwcm hwl
          have HR1 := Lib.hid r1
          have HR2 := Lib.hid r2
          have HC14 : Hid (Came w14 a3 (19 + S.wr.length) c3 1 ((allL S).map intCells)) := hc14
          have hlt0 : w.heap.size < B0 := by rw [← hszd]; exact HB12.out.st.lt
          have HQ1 : Hid (Below B0 (w12.alloc (.cells #[.int .i64 S.next, .int .i64 S.div, .int .i64 S.done] 3)) w13) := by rw [← hszd]; exact q1'
          have HQ2 : Hid (Below B0 w13 w14) := by rw [← hszd]; exact q2'
          have hq3 : Below w12.heap.size w12 w14 := ((Below.refl _ _).alloc (Nat.le_refl _) _).trans (q1'.trans q2')
          have HB14 := Lib.hid (HB12.out.after hq3)
          have HBZ14 := Lib.hid (HBZ12.out.below hq3 HBZ12.out.lt)
          have HBW14 := Lib.hid (HBW12.out.trans (hq3.mono HBW12.out.size))
          obtain ⟨s0, s1, s2, _, s19⟩ := ti_cells HB12.out.st
          have r0 := fun z : After B0 w12 => (z.below.cell (p := ⟨w.heap.size, 0, none⟩) hlt0).trans s0
          have r4 := fun z : After B0 w12 => (z.below.cell (p := ⟨w.heap.size, 1, none⟩) hlt0).trans s1
          have r5 := fun z : After B0 w12 => (z.below.cell (p := ⟨w.heap.size, 2, none⟩) hlt0).trans s2
          have r6 := fun z : After B0 w12 => (z.below.cell (p := ⟨w.heap.size, 19, none⟩) hlt0).trans s19
          have HSZD : Hid (B0 ≤ w12.heap.size) := Nat.le_of_eq hszd.symm
          clear r1 r2 hc14 q1' q2' hq3 s0 s1 s2 s19 hwcm hszd
          repeat (refine eag_read rfl ?_; go_big_quiet_step (fail); refine wpQuiet_nil ?_)
          clear r0 r4 r5 r6
          refine eag_does rfl rfl ?_
          intro K hK
          go_simp
          refine hK _ _ ((Below.refl _ _).alloc HSZD.out _) ?_
          clear hK K
          refine eag_does rfl rfl ?_
          intro K hK
          refine wp_append_eq _ _ _ 23 23 rfl _ _ rfl rfl HR1.out ?_
          go_simp
          refine hK _ _ HQ1.out ?_
          clear hK K HQ1 HR1
          refine eag_does rfl rfl ?_
          intro K hK
          refine wp_append_eq _ _ _ 23 23 rfl _ _ rfl rfl HR2.out ?_
          go_simp
          refine hK _ _ HQ2.out ?_
          clear hK K HQ2 HR2 HB12 HBZ12 HBW12
          go_simp
          repeat (refine eag_read rfl ?_; go_big_quiet_step (fail); refine wpQuiet_nil ?_)
          refine eag_end ?_
          have hall : (allL S).length = 19 + S.wr.length := by simp [allL, rdsL]; omega
          have HAL := Lib.hid hall
          have hle14 := HC14.out.le
          have hmx14 := HC14.out.max
          clear hall hlt0
          go_wp2_with fail
          go_loop [12, 104] (fun _ u => ∃ k : Nat, k ≤ 19 + S.wr.length ∧ u = .int .i64 (k : Int) ∧ ∀ z ∈ (allL S).take k, z ≤ 1099511627776) (fun _ u => 19 + S.wr.length - (intOf u).toNat)
          case atStart => exact ⟨0, Nat.zero_le _, rfl, by simp⟩
          case round =>
            obtain ⟨k, hk, rfl, hno⟩ := hrel
            have HNO := Lib.hid hno
            clear hno
            by_cases hlt : k < 19 + S.wr.length
            · obtain ⟨b', off, ea, _, hcell⟩ := HC14.out.ints (by omega)
              subst ea
              have hkl : k < (allL S).length := by have := HAL.out; omega
              have cl := hcell k hkl
              have HT := Lib.hid (List.take_succ_eq_append_getElem hkl)
              obtain ⟨z, hz⟩ : ∃ z, z = (allL S)[k] := ⟨_, rfl⟩
              rw [← hz] at cl HT
              have hltI : (k : Int) < 19 + (S.wr.length : Int) := by omega
              clear hcell hz
              by_cases hbig : 1099511627776 < z
              · have q8 : decide (1099511627776 < z) = true := decide_eq_true hbig
                go_wp2_with fail
                go_ret
                exact ⟨rfl, HB14.out.below⟩
              · have q8 : decide (1099511627776 < z) = false := decide_eq_false hbig
                have HN : Hid (∀ y ∈ (allL S).take (k + 1), y ≤ 1099511627776) := by
                  intro y hy
                  rw [HT.out] at hy
                  rcases List.mem_append.1 hy with hy | hy
                  · exact HNO.out y hy
                  · simp at hy; subst hy; omega
                go_wp2_with fail
                go_round
                case rel => exact ⟨k + 1, by omega, by go_num, HN.out⟩
                case measure => simp [intOf]; omega
            · have ek : k = 19 + S.wr.length := by omega
              have hltI : ¬ (k : Int) < 19 + (S.wr.length : Int) := by omega
              have hsmall : smallT S := small_iff (by have := HNO.out; rwa [List.take_of_length_le (by have := HAL.out; omega)] at this)
              obtain ⟨eS, eT, eL, hcmI⟩ := HSM.out hsmall
              have HID2 := Lib.hid (HID.out w14 (HW.out.below HB14.out.below) hsmall)
              obtain ⟨N, hN⟩ : ∃ N, N = nextS (tsOf S) op d a b ex := ⟨_, rfl⟩
              obtain ⟨T0, hT0⟩ : ∃ T0, T0 = startOf (tsOf S) op d a b (latOf op + ex) := ⟨_, rfl⟩
              have HIP2 : Hid (∀ e w', IssuedPost (tsOf S) op d a b ex w14 e w' → ∃ va vc, e = .returned (.tuple #[.agg (stCells N (.slice va N.wr.length vc)).toArray, .int .i64 (T0 : Int)]) ∧ Came w' va N.wr.length vc 1 ((wrL N.wr).map intCells) ∧ Below w14.heap.size w14 w') := fun e w' h => by rw [hN, hT0]; exact h
              rw [← hN] at eS eL hcmI
              rw [← hT0] at eT
              clear hN hT0 HSM HNO hlt ek HID
              subst eS eT eL
              have HCI := Lib.hid (hcmI.below HBW14.out)
              clear hcmI HC14 HAL hle14 hmx14
              obtain ⟨p0, p1, p2, p3, p4⟩ := op_cells5 HB14.out.op
              have HLS := Lib.hid (HB14.out.st)
              go_wp2_with (refine wpList_load_row rfl 25 _ rfl w.heap.size rfl _ (tiCells S (.slice wa S.wr.length wc0)).toArray _ _ HLS.out Try.underlying25 rfl HSZ.out ?_)
              refine HID2.out.mono ?_
              intro e w15 hip
              obtain ⟨ua, uc, rfl, hcu, hb15⟩ := HIP2.out _ _ hip
              have HB15 := Lib.hid (HB14.out.after hb15)
              have HBZ15 := Lib.hid (HBZ14.out.below hb15 HBZ14.out.lt)
              have HCI15 := Lib.hid (HCI.out.below hb15)
              have HCU := Lib.hid hcu
              clear hip hcu hb15 HID2 HIP2 HB14 HBZ14 HBW14 HCI p0 p1 p2 p3 p4 HLS
              have hbx := boxC_new w15 (stCells N (.slice ua N.wr.length uc))
              have HBU := Lib.hid hbx.1
              have HB16 := Lib.hid (HB15.out.after hbx.2)
              have HBZ16 := Lib.hid (HBZ15.out.below hbx.2 HBZ15.out.lt)
              have HCI16 := Lib.hid (HCI15.out.below hbx.2)
              have HCU16 := Lib.hid (HCU.out.below hbx.2)
              have HSU : Hid ((Try.prog.info? 25).map (·.size) = some (stCells N (.slice ua N.wr.length uc)).toArray.size) := by unfold Hid; kernel_rfl
              clear hbx HB15 HBZ15 HCI15 HCU
              iterate 20 (first
                | (refine wpList_store_rowTo rfl 25 _ _ rfl rfl w15.heap.size (stCells N (.slice ua N.wr.length uc)).toArray rfl rfl _ _ (newZ w15) HSU.out rfl (st_one _ _ rfl) ?_)
                | go_step | go_simp)
              change (_ : Act → World → Prop) _ (boxS w15 (stCells N (.slice ua N.wr.length uc)).toArray)
              obtain ⟨gu, hgu⟩ : ∃ gu, gu = w15.heap.size := ⟨_, rfl⟩
              rw [← hgu] at HBU ⊢
              clear hgu
              generalize boxS w15 (stCells N (.slice ua N.wr.length uc)).toArray = w16 at HBU HB16 HBZ16 HCI16 HCU16 ⊢
              have hwlN : (tiOf N).wr.length = N.wr.length := by simp [tiOf, wrL]
              have hsn := sameState_ok (tiOf N) va vc ua uc w16 (by rw [hwlN]; exact HCI16.out) (by rw [hwlN]; exact HCU16.out)
              rw [hwlN] at hsn
              have HSN2 := Lib.hid hsn
              have z7 : ((T0 : Int) == (T0 : Int)) = true := by simp
              clear hsn hwlN HCI16 HCU16 HSZ
              go_wp2_with (first
                | (refine wpList_load_row_g rfl 25 _ rfl g rfl _ (tiCells (tiOf N) (.slice va N.wr.length vc)).toArray _ _ HBZ16.out Try.underlying25 rfl HSN.out ?_)
                | (refine wpList_load_row_g rfl 25 _ rfl gu rfl _ (tiCells (tiOf N) (.slice ua N.wr.length uc)).toArray _ _ HBU.out Try.underlying25 rfl HSU.out ?_))
              refine HSN2.out.mono ?_
              rintro e w17 ⟨rfl, hb1⟩
              have HBC := Lib.hid (HB16.out.below.trans (hb1.mono HB16.out.below.size))
              clear hb1
              go_wp2_with fail
              go_ret
              exact ⟨rfl, HBC.out⟩
  
    · have q2 : (ce == 0) = false := by simp [h2]
      have HWE : Hid (wantE S op d a b n extra = ce) := by show _ = _; rw [HWEQ2.out, if_pos h2]
      have HWN : Hid (wantE S op d a b n extra ≠ 0) := by show _ ≠ _; rw [HWE.out]; exact h2
      have q3 : (ce != 0) = true := by simp [h2]
      clear h2 HWEQ2
      as_aux_lemma =>
        --BEGIN
        have HIE := Lib.hid (fun wx hw => issue_err S (.slice wa S.wr.length wc0) op d a b n extra wx HSS.out.1 hw HWN.out)
        rw [HWE.out] at HIE
        obtain ⟨p0, p1, p2, p3, p4⟩ := op_cells5 HBX.out.op
        have z6 : (ce == ce) = true := by simp
        have HZC : Hid ((Try.prog.info? 25).map (·.size) = some zCells.toArray.size) := by unfold Hid; kernel_rfl
        go_wp2_with (refine wpList_load_row rfl 25 _ rfl w.heap.size rfl _ (tiCells S (.slice wa S.wr.length wc0)).toArray _ _ HBX.out.st Try.underlying25 rfl HSZ.out ?_)
        refine (HIE.out _ HWX.out).mono ?_
        rintro e w10 ⟨rfl, hb1⟩
        replace HBX := Lib.hid (HBX.out.after hb1)
        clear hb1 p0 p1 p2 p3 p4
        have hbx := boxC_new w10 zCells
        have HBZ := Lib.hid hbx.1
        have HBB := Lib.hid (HBX.out.below.trans (hbx.2.mono HBX.out.below.size))
        have HSM := Lib.hid (fun wx => sameState_ok ⟨0, 0, 0, fun _ => 0, []⟩ none 0 none 0 wx ⟨rfl, by simp, by omega, fun _ => ⟨rfl, rfl⟩, fun v hv => by simp at hv, fun h => by simp at h⟩ ⟨rfl, by simp, by omega, fun _ => ⟨rfl, rfl⟩, fun v hv => by simp at hv, fun h => by simp at h⟩)
        clear hbx
        iterate 20 (first
          | (refine wpList_store_rowTo rfl 25 _ _ rfl rfl w10.heap.size zCells.toArray rfl rfl _ _ (newZ w10) HZC.out rfl (by simp [zCells, Value.oneCell']) ?_)
          | go_step | go_simp)
        change (_ : Act → World → Prop) _ (boxS w10 zCells.toArray)
        generalize boxS w10 zCells.toArray = w11 at HBZ HBB ⊢
        go_wp2_with (refine wpList_load_row_g rfl 25 _ rfl w10.heap.size rfl _ zCells.toArray _ _ HBZ.out Try.underlying25 rfl HZC.out ?_)
        refine (HSM.out _).mono ?_
        rintro e w12 ⟨rfl, hb1⟩
        have HBC := Lib.hid (HBB.out.trans (hb1.mono HBB.out.size))
        clear hb1
        go_wp2_with fail
        go_ret
        exact ⟨rfl, HBC.out⟩
        --END
  · have q1 : (se == 0) = false := by simp [h1]
    have HWE : Hid (wantE S op d a b n extra = se) := by show _ = _; rw [HWEQ.out, if_pos h1]
    have HWN : Hid (wantE S op d a b n extra ≠ 0) := by show _ ≠ _; rw [HWE.out]; exact h1
    have q3 : (se != 0) = true := by simp [h1]
    clear h1 HWEQ
    as_aux_lemma =>
      --BEGIN
      have HIE := Lib.hid (fun wx hw => issue_err S (.slice wa S.wr.length wc0) op d a b n extra wx HSS.out.1 hw HWN.out)
      rw [HWE.out] at HIE
      obtain ⟨p0, p1, p2, p3, p4⟩ := op_cells5 HBX.out.op
      have z6 : (se == se) = true := by simp
      have HZC : Hid ((Try.prog.info? 25).map (·.size) = some zCells.toArray.size) := by unfold Hid; kernel_rfl
      go_wp2_with (refine wpList_load_row rfl 25 _ rfl w.heap.size rfl _ (tiCells S (.slice wa S.wr.length wc0)).toArray _ _ HBX.out.st Try.underlying25 rfl HSZ.out ?_)
      refine (HIE.out _ HWX.out).mono ?_
      rintro e w10 ⟨rfl, hb1⟩
      replace HBX := Lib.hid (HBX.out.after hb1)
      clear hb1 p0 p1 p2 p3 p4
      have hbx := boxC_new w10 zCells
      have HBZ := Lib.hid hbx.1
      have HBB := Lib.hid (HBX.out.below.trans (hbx.2.mono HBX.out.below.size))
      have HSM := Lib.hid (fun wx => sameState_ok ⟨0, 0, 0, fun _ => 0, []⟩ none 0 none 0 wx ⟨rfl, by simp, by omega, fun _ => ⟨rfl, rfl⟩, fun v hv => by simp at hv, fun h => by simp at h⟩ ⟨rfl, by simp, by omega, fun _ => ⟨rfl, rfl⟩, fun v hv => by simp at hv, fun h => by simp at h⟩)
      clear hbx
      iterate 20 (first
        | (refine wpList_store_rowTo rfl 25 _ _ rfl rfl w10.heap.size zCells.toArray rfl rfl _ _ (newZ w10) HZC.out rfl (by simp [zCells, Value.oneCell']) ?_)
        | go_step | go_simp)
      change (_ : Act → World → Prop) _ (boxS w10 zCells.toArray)
      generalize boxS w10 zCells.toArray = w11 at HBZ HBB ⊢
      go_wp2_with (refine wpList_load_row_g rfl 25 _ rfl w10.heap.size rfl _ zCells.toArray _ _ HBZ.out Try.underlying25 rfl HZC.out ?_)
      refine (HSM.out _).mono ?_
      rintro e w12 ⟨rfl, hb1⟩
      have HBC := Lib.hid (HBB.out.trans (hb1.mono HBB.out.size))
      clear hb1
      go_wp2_with fail
      go_ret
      exact ⟨rfl, HBC.out⟩
      --END
end Go.Proofs.Ytgcbdndfobiphab
