/- The walk of TileLives. -/
import Derived.Test.YtkpeeemnholmnacVFact
import Derived.Test.YtkpeeemnholmnacVSmall
import Derived.Test.YtkpeeemnholmnacVFnErr
import Derived.Test.YtkpeeemnholmnacVAliveA
import Derived.Test.YtkpeeemnholmnacEager
namespace Go.Proofs.Ytkpeeemnholmnac
open Go.RowKit
set_option linter.unusedVariables false
set_option linter.unusedSimpArgs false

set_option maxRecDepth 100000 in
set_option maxHeartbeats 8000000 in
theorem tileLives_walk (f : VF) (w : World) (hf : f.Ok w) : Calls Try.prog 5 #[f.v] w fun e w' => e = .returned (.bool true) ∧ Below w.heap.size w w' := by
  have HF := Lib.hid hf
  have hlen := hf.len
  have hb0 : BoxV f w (w.alloc (.cells #[.int .i64 f.name, .slice f.pa f.pn f.pc, .int .i64 f.regs, .slice f.sa f.sn f.sc] 45)) f.pa f.sa := ⟨(Below.refl _ _).alloc (Nat.le_refl _) _, Blk.new w [.int .i64 f.name, .slice f.pa f.pn f.pc, .int .i64 f.regs, .slice f.sa f.sn f.sc] 45⟩
  have hV : f.v = .agg #[.int .i64 f.name, .slice f.pa f.pn f.pc, .int .i64 f.regs, .slice f.sa f.sn f.sc] := rfl
  have HTF := tileFact_ok (w.alloc (.cells #[.int .i64 f.name, .slice f.pa f.pn f.pc, .int .i64 f.regs, .slice f.sa f.sn f.sc] 45))
  have HSM := fun wx (h : Below w.heap.size w wx) => small_ok wx f (hf.below h)
  obtain ⟨n, hn⟩ : ∃ n : Nat, n = f.regs.toNat := ⟨_, rfl⟩
  have HCK := fun wx (h : Below w.heap.size w wx) => liveC_any wx f (hf.below h) n (fun h => by omega)
  have HFE := fun wx (h : Below w.heap.size w wx) => fnError_any wx f (hf.below h)
  rw [hV] at HSM HCK HFE ⊢
  obtain ⟨pa, hpa⟩ : ∃ s, s = f.pa := ⟨_, rfl⟩
  obtain ⟨sa, hsa⟩ : ∃ s, s = f.sa := ⟨_, rfl⟩
  rw [← hpa, ← hsa] at hb0 HSM HCK HFE HTF ⊢
  have HB0 := Lib.hid hb0
  have HSA := Lib.hid hsa
  have HPA := Lib.hid hpa
  have HSM := Lib.hid HSM
  have HCK := Lib.hid HCK
  have HFE := Lib.hid HFE
  clear hf hb0 hV hpa hsa
  go_enter Try.func5, Try.ntmps5
  go_wp2_with fail
  refine HTF.mono ?_
  rintro e w1 ⟨rfl, hb1⟩
  have HB1 := Lib.hid (HB0.out.below hb1)
  clear HTF hb1 HB0
  have c0 := HB1.out.box.cell 0
  have c1 := HB1.out.box.cell 1
  have c2 := HB1.out.box.cell 2
  have c3 := HB1.out.box.cell 3
  simp only [List.getElem?_cons_zero, List.getElem?_cons_succ] at c0 c1 c2 c3
  go_wp2_with fail
  refine (HSM.out _ HB1.out.be).mono ?_
  rintro e w2 ⟨sm, rfl, hsm, hb2⟩
  have HB2 := Lib.hid (HB1.out.below hb2)
  clear hb2 HB1 HSM c0 c1 c2 c3
  cases sm
  · go_wp2_with fail
    go_ret
    exact ⟨rfl, HB2.out.be⟩
  · obtain ⟨h40, h12⟩ := hsm rfl
    clear hsm
    have c0 := HB2.out.box.cell 0
    have c1 := HB2.out.box.cell 1
    have c2 := HB2.out.box.cell 2
    have c3 := HB2.out.box.cell 3
    simp only [List.getElem?_cons_zero, List.getElem?_cons_succ] at c0 c1 c2 c3
    have HHN := Lib.hid hn
    clear hn
    go_wp2_with fail
    refine (HCK.out _ HB2.out.be).mono ?_
    rintro e w3 ⟨hb3, ⟨hne, rfl⟩ | ⟨hz, G, bs, X, v, es, rfl, hR, hX, hE⟩⟩
    · have HB3 := Lib.hid (HB2.out.below hb3)
      have HFE3 := HFE.out w3 HB3.out.be
      obtain ⟨fe, hfe⟩ : ∃ fe, fe = fnE f := ⟨_, rfl⟩
      rw [← hfe] at hne HFE3 ⊢
      have hne' : (fe == 0) = false := by simpa using hne
      have c0 := HB3.out.box.cell 0
      have c1 := HB3.out.box.cell 1
      have c2 := HB3.out.box.cell 2
      have c3 := HB3.out.box.cell 3
      simp only [List.getElem?_cons_zero, List.getElem?_cons_succ] at c0 c1 c2 c3
      have HF3 := Lib.hid HFE3
      clear hne hfe HFE3 HFE HCK
      go_wp2_with fail
      refine HF3.out.mono ?_
      rintro e w4 ⟨rfl, hb4⟩
      have HB4 := Lib.hid (HB3.out.below hb4)
      clear hb4 c0 c1 c2 c3
      go_wp2_with fail
      go_ret
      exact ⟨rfl, HB4.out.be⟩
    · have HB3 := Lib.hid (HB2.out.below hb3)
      have HFE3 := HFE.out w3 HB3.out.be
      rw [hz] at HFE3
      obtain ⟨hs1, hs2, hrg, hblk⟩ := fnE_zero hz
      have hnr0 : f.regs = (n : Int) := by have := HHN.out; omega
      have hn2 : 0 < n ∧ n ≤ 8192 := by omega
      obtain ⟨hfit, htos, hins⟩ := fits_of (m := f.sn) hlen.symm rfl hnr0 hn2.1 hblk
      have hnr : ((n : Int) != f.regs) = false := by rw [hnr0]; simp
      have hYl : ((List.range f.sn).map fun i => aftF (f.blk i).e.to X).length = f.sn := by simp
      obtain ⟨a3, cc3, rfl⟩ := ownG_shape hE.own
      rw [hYl] at hE ⊢
      have HYL := Lib.hid hYl
      clear hYl
      have HE := Lib.hid hE
      have HR := Lib.hid hR
      have HX := Lib.hid hX
      have HFT := Lib.hid (And.intro htos hins)
      have HNR := Lib.hid hnr0
      have c0 := HB3.out.box.cell 0
      have c1 := HB3.out.box.cell 1
      have c2 := HB3.out.box.cell 2
      have c3 := HB3.out.box.cell 3
      simp only [List.getElem?_cons_zero, List.getElem?_cons_succ] at c0 c1 c2 c3
      have HF3 := Lib.hid HFE3
      clear hz HFE3 HFE HCK hrg hblk hfit htos hins hb3 hE hR hX hnr0
      go_wp2_with fail
      refine HF3.out.mono ?_
      rintro e w4 ⟨rfl, hb4⟩
      have HB4 := Lib.hid (HB3.out.below hb4)
      have HE4 := Lib.hid (HE.out.below hb4)
      have HR4 := Lib.hid (HR.out.below hb4)
      clear hb4 c0 c1 c2 c3 HB3 HE HR HF3
      have c3 := HB4.out.box.cell 3
      simp only [List.getElem?_cons_zero, List.getElem?_cons_succ] at c3
      go_wp2_with fail
      clear c3
      go_loopw [2, 7, 8, 56] (fun _ _ _ u wr => ∃ k : Nat, k ≤ f.sn ∧ u = .int .i64 (k : Int) ∧ Below w4.heap.size w4 wr) (fun _ _ _ u _ => f.sn - (intOf u).toNat)
      case atStart => exact ⟨0, Nat.zero_le _, rfl, Below.refl _ _⟩
      case round =>
        obtain ⟨k, hk, rfl, hb5⟩ := hrel
        obtain ⟨w5, hw5⟩ : ∃ w5, w5 = wr := ⟨_, rfl⟩
        rw [← hw5] at hb5 ⊢
        clear hw5
        have HB5 := Lib.hid hb5
        by_cases hlt : k < f.sn
        · have hkI : (k : Int) < (f.sn : Int) := by omega
          have hbx5 := HB4.out.below hb5
          have hr5 := HR4.out.below hb5
          have he5 := HE4.out.below hb5
          clear hb5
          have hx0 : ∀ t : Nat, t < f.sn → X t 0 = false := fun t ht => by
            cases h9 : X t 0
            · rfl
            · exact absurd rfl ((HX.out t ht 0 hn2.1).1 h9).pos
          have ha0 : aftF (f.blk k).e.to X 0 = false := by
            unfold aftF
            rw [List.any_eq_false]
            intro t ht
            have := HFT.out.1 k hlt t ht
            rw [hx0 t.toNat (by omega)]
            simp
          have hge := ownG_has he5.own (by rw [HYL.out]; omega)
          rw [HYL.out] at hge
          obtain ⟨ge, ce, hve, _, hgl, _, _⟩ := hge
          injection hve with e1 _ e3
          subst e1 e3
          have howE := he5.own
          rw [HYL.out] at howE
          have cE := howE.cellAt k (by omega)
          rw [List.getElem?_map, List.getElem?_range hlt] at cE
          simp only [Option.map_some] at cE
          have hesr : BRow w5 (es k) n (aftF (f.blk k).e.to X) := by
            have := he5.row k (by rw [HYL.out]; exact hlt)
            rwa [List.getElem_map, List.getElem_range] at this
          have hbsr := hr5.row k hlt
          have cG := Blk.row hr5.blk hlt
          have hGl := Blk.lt hr5.blk
          have c2 := hbx5.box.cell 2
          simp only [List.getElem?_cons_zero, List.getElem?_cons_succ] at c2
          have hwl := hbx5.box.lt
          have cx0 := hbsr.cell hn2.1
          have cy0 := hesr.cell hn2.1
          rw [hx0 k hlt] at cx0
          rw [ha0] at cy0
          have hbl := Blk.lt hbsr
          have hel := Blk.lt hesr
          have q1 := fun z : After w5.heap.size w5.drew => (z.below.cell (p := ⟨G, k, none⟩) hGl).trans cG
          have q2 := fun z : After w5.heap.size w5.drew => (z.below.cell (p := ⟨ge, k, none⟩) hgl).trans cE
          have q3 := fun z : After w5.heap.size w5.drew => (z.below.cell (p := ⟨w.heap.size, 2, none⟩) hwl).trans c2
          have q4 := fun z : After w5.heap.size w5.drew => (z.below.cell (p := ⟨bs k, 0, none⟩) hbl).trans cx0
          have q5 := fun z : After w5.heap.size w5.drew => (z.below.cell (p := ⟨es k, 0, none⟩) hel).trans cy0
          have HBSR := Lib.hid hbsr
          have HESR := Lib.hid hesr
          have HBX5 := Lib.hid hbx5
          have CG := Lib.hid cG
          have CE := Lib.hid cE
          have hnp : (0 : Int) < (n : Int) := by omega
          clear he5 hr5 howE hbsr hesr hbx5 cG cE cx0 cy0 c2 hx0 ha0
          generalize bs k = bk at q1 q4 HBSR CG hbl
          generalize es k = ek at q2 q5 HESR CE hel
          go_wp2_with fail
          refine wp_region_eager w5.heap.size [(0, true), (1, true), (2, true), (3, true), (4, true), (5, true), (6, true), (7, true), (8, true), (9, true), (10, true), (11, true), (12, true), (13, true), (14, true), (15, true), (16, true), (17, true), (18, true), (19, true), (20, true), (21, true), (22, true), (23, true), (24, true), (25, true), (26, true), (27, true), (28, true), (29, true), (30, true), (31, true), (32, true), (33, true)] (by kernel_rfl) (by kernel_rfl) ?_
          repeat (refine eag_read rfl ?_; go_big_quiet_step (fail); refine wpQuiet_nil ?_)
          refine eag_end ?_
          clear q1 q2 q3 q4 q5
          have hb5d : Below w5.heap.size w5 w5.drew := (Below.refl w5.heap.size w5).drew
          have HB5d := Lib.hid hb5d
          clear hb5d
          go_wp2_with fail
          go_loopw [2, 8] (fun _ u wr => ∃ r : Nat, 1 ≤ r ∧ r ≤ n ∧ u = .int .i64 (r : Int) ∧ Below w5.heap.size w5 wr) (fun _ u _ => n - (intOf u).toNat)
          case atStart => exact ⟨1, Nat.le_refl _, hn2.1, rfl, HB5d.out⟩
          case round =>
            obtain ⟨r, hr1, hr2, rfl, hb6⟩ := hrel
            obtain ⟨w6, hw6⟩ : ∃ w6, w6 = wr := ⟨_, rfl⟩
            rw [← hw6] at hb6 ⊢
            clear hw6
            have HB6 := Lib.hid hb6
            have HBX6 := Lib.hid (HBX5.out.below hb6)
            have c0 := HBX6.out.box.cell 0
            have c1 := HBX6.out.box.cell 1
            have c2 := HBX6.out.box.cell 2
            have c3 := HBX6.out.box.cell 3
            simp only [List.getElem?_cons_zero, List.getElem?_cons_succ] at c0 c1 c2 c3
            by_cases hrn : r < n
            · have hrI : (r : Int) < f.regs := by rw [HNR.out]; omega
              have hGl6 : G < w6.heap.size := Nat.lt_of_lt_of_le hGl hb6.size
              have hgl6 : ge < w6.heap.size := Nat.lt_of_lt_of_le hgl hb6.size
              have hbk6 := HBSR.out.below hb6 hbl
              have hek6 := HESR.out.below hb6 hel
              have cG6 := (hb6.cell (p := ⟨G, k, none⟩) hGl).trans CG.out
              have cE6 := (hb6.cell (p := ⟨ge, k, none⟩) hgl).trans CE.out
              have cx := hbk6.cell hrn
              have cy := hek6.cell hrn
              have hbl6 := Blk.lt hbk6
              have hel6 := Blk.lt hek6
              have hwl6 := HBX6.out.box.lt
              have hxl := HX.out k hlt r hrn
              obtain ⟨xr, hxr⟩ : ∃ xr, xr = X k r := ⟨_, rfl⟩
              rw [← hxr] at cx hxl
              have hyl : aftF (f.blk k).e.to X r = true ↔ ∃ t : Nat, (t : Int) ∈ (f.blk k).e.to ∧ LiveI f t r := by
                unfold aftF
                rw [List.any_eq_true]
                constructor
                · rintro ⟨t, ht, h⟩
                  have htb := HFT.out.1 k hlt t ht
                  exact ⟨t.toNat, by rw [Int.toNat_of_nonneg htb.1]; exact ht, (HX.out t.toNat (by omega) r hrn).1 h⟩
                · rintro ⟨t, ht, h⟩
                  have htb := HFT.out.1 k hlt _ ht
                  exact ⟨_, ht, (HX.out t (by omega) r hrn).2 h⟩
              obtain ⟨yr, hyr⟩ : ∃ yr, yr = aftF (f.blk k).e.to X r := ⟨_, rfl⟩
              rw [← hyr] at cy hyl
              have q0 := fun z : After w6.heap.size w6.drew => (z.below.cell (p := ⟨G, k, none⟩) hGl6).trans cG6
              have q1 := fun z : After w6.heap.size w6.drew => (z.below.cell (p := ⟨bk, r, none⟩) hbl6).trans cx
              have q2 := fun z : After w6.heap.size w6.drew => (z.below.cell (p := ⟨w.heap.size, 0, none⟩) hwl6).trans c0
              have q3 := fun z : After w6.heap.size w6.drew => (z.below.cell (p := ⟨w.heap.size, 1, none⟩) hwl6).trans c1
              have q4 := fun z : After w6.heap.size w6.drew => (z.below.cell (p := ⟨w.heap.size, 2, none⟩) hwl6).trans c2
              have q5 := fun z : After w6.heap.size w6.drew => (z.below.cell (p := ⟨w.heap.size, 3, none⟩) hwl6).trans c3
              have hrnI : (r : Int) < (n : Int) := by omega
              have HXL := Lib.hid hxl
              have HYL2 := Lib.hid hyl
              clear hxr hyr hxl hyl
              go_wp2_with fail
              refine wp_region_eager w6.heap.size [(0, true), (1, true), (2, true), (3, true), (4, true), (5, true), (6, true), (7, true), (8, true), (9, true), (10, false), (11, true), (12, true), (13, true), (14, true), (15, true), (16, true), (17, true), (18, true), (19, true), (20, true), (21, true), (22, true), (23, false), (24, true), (25, true)] (by kernel_rfl) (by kernel_rfl) ?_
              repeat (refine eag_read rfl ?_; go_big_quiet_step (fail); refine wpQuiet_nil ?_)
              clear q0 q1 q2 q3 q4 q5
              have hb6d : Below w6.heap.size w6 w6.drew := (Below.refl w6.heap.size w6).drew
              have hbe6 := HBX6.out.be.trans (hb6d.mono HBX6.out.be.size)
              have hAL := alive_any w6.drew f (HF.out.below hbe6) f.sn hlen.symm (by omega) HFT.out.1 HFT.out.2 k 0 r hlt (by omega) (by omega) (by omega)
              unfold VF.v at hAL
              rw [← HSA.out, ← HPA.out, show ((0 : Nat) : Int) = 0 from rfl] at hAL
              refine eag_does rfl rfl ?_
              intro K hK
              go_simp
              refine hAL.mono ?_
              rintro e w7 ⟨bb, rfl, hbb, hb7⟩
              have hb67 : Below w6.heap.size w6 w7 := hb6d.trans hb7
              refine hK _ _ hb7 ?_
              clear hK K hAL
              obtain rfl : bb = xr := by
                have h9 := (hbb.trans (aliveP_zero (by omega))).trans HXL.out.symm
                cases bb <;> cases xr <;> simp_all
              go_simp
              have hbx7 := HBX6.out.below hb67
              have e0 := hbx7.box.cell 0
              have e1 := hbx7.box.cell 1
              have e2 := hbx7.box.cell 2
              have e3 := hbx7.box.cell 3
              simp only [List.getElem?_cons_zero, List.getElem?_cons_succ] at e0 e1 e2 e3
              have cE7 := (hb67.cell (p := ⟨ge, k, none⟩) hgl6).trans cE6
              have cy7 := (hb67.cell (p := ⟨ek, r, none⟩) hel6).trans cy
              have q0 := fun z : After w6.heap.size w7 => (z.below.cell (p := ⟨ge, k, none⟩) hgl6).trans cE7
              have q1 := fun z : After w6.heap.size w7 => (z.below.cell (p := ⟨ek, r, none⟩) hel6).trans cy7
              have q2 := fun z : After w6.heap.size w7 => (z.below.cell (p := ⟨w.heap.size, 0, none⟩) hwl6).trans e0
              have q3 := fun z : After w6.heap.size w7 => (z.below.cell (p := ⟨w.heap.size, 1, none⟩) hwl6).trans e1
              have q4 := fun z : After w6.heap.size w7 => (z.below.cell (p := ⟨w.heap.size, 2, none⟩) hwl6).trans e2
              have q5 := fun z : After w6.heap.size w7 => (z.below.cell (p := ⟨w.heap.size, 3, none⟩) hwl6).trans e3
              have hAA := aliveAfter_any w7 f (HF.out.below hbx7.be) f.sn hlen.symm (by omega) HFT.out.1 HFT.out.2 k r hlt (by omega) (by omega)
              unfold VF.v at hAA
              rw [← HSA.out, ← HPA.out] at hAA
              have HAA := Lib.hid hAA
              have HB67 := Lib.hid hb67
              have HB7 := Lib.hid hb7
              clear hbx7 hAA hb67 hbb hb7 e0 e1 e2 e3 c0 c1 c2 c3 cG6 cE6 cx cy cE7 cy7 hbk6 hek6
              repeat (refine eag_read rfl ?_; go_big_quiet_step (fail); refine wpQuiet_nil ?_)
              clear q0 q1 q2 q3 q4 q5
              refine eag_does rfl rfl ?_
              intro K hK
              go_simp
              refine HAA.out.mono ?_
              rintro e w8 ⟨bb2, rfl, hbb2, hb8⟩
              refine hK _ _ (hb8.mono HB67.out.size) ?_
              clear hK K
              obtain rfl : bb2 = yr := by
                have h9 := hbb2.trans HYL2.out.symm
                cases bb2 <;> cases yr <;> simp_all
              go_simp
              repeat (refine eag_read rfl ?_; go_big_quiet_step (fail); refine wpQuiet_nil ?_)
              refine eag_end ?_
              have HFIN : Hid (Below w5.heap.size w5 w8) := HB6.out.trans ((HB67.out.trans (hb8.mono HB67.out.size)).mono HB6.out.size)
              clear hbb2 hb8 hbe6 hb6d hb6
              go_wp2_with fail
              go_roundw
              case rel => exact ⟨r + 1, by omega, by omega, by go_num, HFIN.out⟩
              case measure => simp [intOf]; omega
            · have hrI : ¬ (r : Int) < f.regs := by rw [HNR.out]; omega
              have HFIN := Lib.hid (HB5.out.trans (hb6.mono HB5.out.size))
              clear hb6
              go_wp2_with fail
              go_roundw
              case rel => exact ⟨k + 1, by omega, by go_num, HFIN.out⟩
              case measure => simp [intOf]; omega
        · have HFIN := Lib.hid (HB4.out.be.trans (hb5.mono HB4.out.be.size))
          clear hb5
          go_wp2_with fail
          go_ret
          exact ⟨rfl, HFIN.out⟩
end Go.Proofs.Ytkpeeemnholmnac
