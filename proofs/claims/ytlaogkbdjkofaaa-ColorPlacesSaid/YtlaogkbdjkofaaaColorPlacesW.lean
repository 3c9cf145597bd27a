/- The walk of ColorPlaces. -/
import Derived.Test.YtlaogkbdjkofaaaColPlace
import Derived.Test.YtlaogkbdjkofaaaColCl
import Derived.Test.YtlaogkbdjkofaaaVSmall
import Derived.Test.YtlaogkbdjkofaaaVFnErr
namespace Go.Proofs.Ytlaogkbdjkofaaa
open Go.RowKit
set_option linter.unusedVariables false
set_option linter.unusedSimpArgs false

set_option maxRecDepth 100000 in
set_option maxHeartbeats 8000000 in
theorem colorPlaces_walk (f : VF) (k : Int) (w : World) (hf : f.Ok w) (hk : -9223372036854775808 ≤ k ∧ k ≤ 9223372036854775807) : Calls Try.prog 6 #[f.v, .int .i64 k] w fun e w' => e = .returned (.bool true) ∧ Below w.heap.size w w' := by
  have hb0 : BoxV f w (w.alloc (.cells #[.int .i64 f.name, .slice f.pa f.pn f.pc, .int .i64 f.regs, .slice f.sa f.sn f.sc] 25)) f.pa f.sa := ⟨(Below.refl _ _).alloc (Nat.le_refl _) _, Blk.new w [.int .i64 f.name, .slice f.pa f.pn f.pc, .int .i64 f.regs, .slice f.sa f.sn f.sc] 25⟩
  have HSM := Lib.hid fun wx (h : Below w.heap.size w wx) => small_ok wx f (hf.below h)
  have HIN := Lib.hid fun wx (h : Below w.heap.size w wx) => allocate_any wx f (hf.below h) k hk
  have HFE := Lib.hid fun wx (h : Below w.heap.size w wx) => fnError_any wx f (hf.below h)
  have HCL := Lib.hid fun wx (h : Below w.heap.size w wx) n nb (h1 : FnOk f n nb) a b (h2 : 1 ≤ a ∧ a < n) (h3 : 1 ≤ b ∧ b < n) (h4 : a ≠ b) => clash_any wx f (hf.below h) n nb h1 a b h2 h3 h4
  have HPL := Lib.hid fun wx (h : Below w.heap.size w wx) a (ha : a.Ok wx) n nb (h1 : FnOk f n nb) (h2 : a.rn = n) (h3 : a.sn = n) (h4 : ∀ z ∈ a.slot, z ≤ 8192) (h5 : PlacedA f n nb k a) => placed_any wx f (hf.below h) a ha n nb k hk h1 h2 h3 h4 h5
  have HPO := Lib.hid fun n nb kn (h1 : FnOk f n nb) (h2 : fnE f = 0) (h3 : n ≤ 8000) (h4 : 1 ≤ kn ∧ kn ≤ 10) a (h5 : a.rn = n) (h6 : a.sn = n) (h7 : AllocLaw f n nb kn a) => placed_of hf h1 h2 h3 h4 h5 h6 h7
  have HCF := Lib.hid fun wx => colorFact_ok wx
  unfold VF.v at HSM HIN HFE HCL HPL ⊢
  obtain ⟨pa, hpa⟩ : ∃ s, s = f.pa := ⟨_, rfl⟩
  obtain ⟨sa, hsa⟩ : ∃ s, s = f.sa := ⟨_, rfl⟩
  rw [← hpa, ← hsa] at hb0 HSM HIN HFE HCL HPL ⊢
  have HB0 := Lib.hid hb0
  obtain ⟨fe, hfe⟩ : ∃ x, x = fnE f := ⟨_, rfl⟩
  have HFQ := Lib.hid hfe
  rw [← hfe] at HFE
  have hk1 := hk.1
  have hk2 := hk.2
  clear hf hb0 hpa hsa hfe hk
  go_enter Try.func6, Try.ntmps6
  go_upto_region 1 with fail
  generalize w.alloc (.cells #[.int .i64 f.name, .slice pa f.pn f.pc, .int .i64 f.regs, .slice sa f.sn f.sc] 25) = w1 at HB0 ⊢
  go_wp2_with fail
  refine (HCF.out w1).mono ?_
  rintro e w2 ⟨rfl, hb2⟩
  have HB2 := Lib.hid (HB0.out.below hb2)
  clear hb2 HB0 HCF
  have c0 := HB2.out.box.cell 0
  have c1 := HB2.out.box.cell 1
  have c2 := HB2.out.box.cell 2
  have c3 := HB2.out.box.cell 3
  simp only [List.getElem?_cons_zero, List.getElem?_cons_succ] at c0 c1 c2 c3
  go_wp2_with fail
  refine (HSM.out w2 HB2.out.be).mono ?_
  rintro e w3 ⟨sm, rfl, hsm, hb3⟩
  have HB3 := Lib.hid (HB2.out.below hb3)
  clear hb3 HB2 c0 c1 c2 c3 HSM
  cases sm with
  | false =>
    go_wp2_with fail
    go_ret
    exact ⟨rfl, HB3.out.be⟩
  | true =>
    obtain ⟨h40, h12⟩ := hsm rfl
    clear hsm
    have c0 := HB3.out.box.cell 0
    have c1 := HB3.out.box.cell 1
    have c2 := HB3.out.box.cell 2
    have c3 := HB3.out.box.cell 3
    simp only [List.getElem?_cons_zero, List.getElem?_cons_succ] at c0 c1 c2 c3
    go_wp2_with fail
    refine (HIN.out w3 HB3.out.be).mono ?_
    rintro e w4 ⟨hb4, h⟩
    have HB4 := Lib.hid (HB3.out.below hb4)
    clear hb4 HB3 c0 c1 c2 c3 HIN
    rcases h with ⟨hne, rfl⟩ | ⟨hz, hkr, rfl⟩ | ⟨hz, hkr, n, nb, a, hok, rfl, hao, hrn, hsn, hlaw⟩
    ·
      unfold noAl
      rw [← HFQ.out] at hne ⊢
      have hne' : (fe == 0) = false := by simpa using hne
      have HB5 : Hid (BoxV f w (w4.alloc (.cells #[.slice none 0 0, .slice none 0 0, .int .i64 0] 27)) pa sa) := HB4.out.below ((Below.refl _ _).alloc (Nat.le_refl _) _)
      have HR5 := Lib.hid (Blk.new w4 [.slice none 0 0, .slice none 0 0, .int .i64 0] 27)
      clear hne
      go_upto_region 6 with fail
      change Code.wp _ _ _ _ (w4.alloc (.cells #[.slice none 0 0, .slice none 0 0, .int .i64 0] 27))
      obtain ⟨pb, hpb⟩ : ∃ x, x = w4.heap.size := ⟨_, rfl⟩
      have HR5' : Hid (Blk (w4.alloc (.cells #[.slice none 0 0, .slice none 0 0, .int .i64 0] 27)) pb 27 [.slice none 0 0, .slice none 0 0, .int .i64 0]) := by rw [hpb]; exact HR5.out
      rw [← hpb]
      clear hpb HR5 HB4
      generalize w4.alloc (.cells #[.slice none 0 0, .slice none 0 0, .int .i64 0] 27) = w5 at HB5 HR5' ⊢
      have c0 := HB5.out.box.cell 0
      have c1 := HB5.out.box.cell 1
      have c2 := HB5.out.box.cell 2
      have c3 := HB5.out.box.cell 3
      simp only [List.getElem?_cons_zero, List.getElem?_cons_succ] at c0 c1 c2 c3
      go_wp2_with fail
      refine (HFE.out w5 HB5.out.be).mono ?_
      rintro e w6 ⟨rfl, hb6⟩
      have HB6 := Lib.hid (HB5.out.below hb6)
      have hr6 := HR5'.out.below hb6 HR5'.out.lt
      have a0 := hr6.cell 0
      have a1 := hr6.cell 1
      have a2 := hr6.cell 2
      simp only [List.getElem?_cons_zero, List.getElem?_cons_succ] at a0 a1 a2
      clear hb6 hr6 HB5 c0 c1 c2 c3 HFE
      go_wp2_with fail
      go_ret
      exact ⟨rfl, HB6.out.be⟩
    ·
      unfold noAl
      obtain rfl : fe = 0 := HFQ.out.trans hz
      have q1 : decide (k < 1) = true ∨ (decide (k < 1) = false ∧ decide (10 < k) = true) := by
        by_cases h : k < 1
        · left; simp [h]
        · right; simp; omega
      have HB5 : Hid (BoxV f w (w4.alloc (.cells #[.slice none 0 0, .slice none 0 0, .int .i64 0] 27)) pa sa) := HB4.out.below ((Below.refl _ _).alloc (Nat.le_refl _) _)
      have HR5 := Lib.hid (Blk.new w4 [.slice none 0 0, .slice none 0 0, .int .i64 0] 27)
      clear hz hkr
      go_upto_region 6 with fail
      change Code.wp _ _ _ _ (w4.alloc (.cells #[.slice none 0 0, .slice none 0 0, .int .i64 0] 27))
      obtain ⟨pb, hpb⟩ : ∃ x, x = w4.heap.size := ⟨_, rfl⟩
      have HR5' : Hid (Blk (w4.alloc (.cells #[.slice none 0 0, .slice none 0 0, .int .i64 0] 27)) pb 27 [.slice none 0 0, .slice none 0 0, .int .i64 0]) := by rw [hpb]; exact HR5.out
      rw [← hpb]
      clear hpb HR5 HB4
      generalize w4.alloc (.cells #[.slice none 0 0, .slice none 0 0, .int .i64 0] 27) = w5 at HB5 HR5' ⊢
      have c0 := HB5.out.box.cell 0
      have c1 := HB5.out.box.cell 1
      have c2 := HB5.out.box.cell 2
      have c3 := HB5.out.box.cell 3
      simp only [List.getElem?_cons_zero, List.getElem?_cons_succ] at c0 c1 c2 c3
      go_wp2_with fail
      refine (HFE.out w5 HB5.out.be).mono ?_
      rintro e w6 ⟨rfl, hb6⟩
      have HB6 := Lib.hid (HB5.out.below hb6)
      have hr6 := HR5'.out.below hb6 HR5'.out.lt
      have a0 := hr6.cell 0
      have a1 := hr6.cell 1
      have a2 := hr6.cell 2
      simp only [List.getElem?_cons_zero, List.getElem?_cons_succ] at a0 a1 a2
      clear hb6 hr6 HB5 c0 c1 c2 c3 HFE
      rcases q1 with q1 | ⟨q1, q2⟩
      all_goals
        go_wp2_with fail
        go_ret
        exact ⟨rfl, HB6.out.be⟩
    · obtain rfl : fe = 0 := HFQ.out.trans hz
      have hn2 := hok.n2
      have hreg := hok.regs
      have hn40 : n ≤ 40 := by omega
      have hpl := HPO.out n nb k.toNat hok hz (by omega) (by omega) a hrn hsn hlaw
      have ek : ((k.toNat : Nat) : Int) = k := by omega
      rw [ek] at hpl
      have hslb : ∀ z ∈ a.slot, z ≤ 8192 := fun z hz => by
        obtain ⟨i, hi, rfl⟩ := List.getElem_of_mem hz
        have hsl : a.slot.length = a.sn := by simpa using hao.scame.count
        obtain ⟨XL, _, reg, slot, _, h2, ⟨l, R, S, _, _, h5, _, h7⟩⟩ := hlaw
        have hin : i < n := by omega
        have e1 : a.slot[i] = slot i := by
          have := map_getD n slot 0 hin
          rw [← h2, List.getD_eq_getElem?_getD, List.getElem?_eq_getElem hi] at this
          exact this
        rw [e1, h7 i hin]
        have := h5.bd.2 ((coalK k.toNat n (blksC n f (fun i => aftF (f.blk i).e.to XL) nb).SL (blksC n f (fun i => aftF (f.blk i).e.to XL) nb).mv (startK (parX n (f.params.map Int.toNat) (XL 0) (blksC n f (fun i => aftF (f.blk i).e.to XL) nb).X f.pn) (fun r => if r = 0 then false else markL (blksC n f (fun i => aftF (f.blk i).e.to XL) nb).TH (f.params.map Int.toNat) r))).rep i)
        omega
      have HRG := Lib.hid hreg
      have HOK := Lib.hid hok
      have HPA := Lib.hid hpl
      have HAO := Lib.hid hao
      have HSB := Lib.hid hslb
      have HRN := Lib.hid hrn
      have HSN := Lib.hid hsn
      unfold AL.v
      obtain ⟨ra, hra⟩ : ∃ s, s = a.ra := ⟨_, rfl⟩
      obtain ⟨la, hla⟩ : ∃ s, s = a.sa := ⟨_, rfl⟩
      have HPLA := Lib.hid fun wx (h : Below w4.heap.size w4 wx) (hw : Below w.heap.size w wx) => HPL.out wx hw a (hao.below h) n nb hok hrn hsn hslb hpl
      have HSPA := Lib.hid fun wx (h : Below w4.heap.size w4 wx) (r : Nat) (h1 : r < n) => spot_any wx a (hao.below h) r (by omega) (by omega) hslb
      unfold AL.v at HPLA HSPA
      rw [hrn, hsn] at HPLA HSPA ⊢
      rw [← hra, ← hla] at HPLA HSPA ⊢
      have q1 : decide (k < 1) = false := by simp; omega
      have q2 : decide (10 < k) = false := by simp; omega
      have HBE := HB4.out.be
      have hb5 : BoxP f a w (w4.alloc (.cells #[.slice ra n a.rc, .slice la n a.sc, .int .i64 a.k] 27)) w.heap.size w4.heap.size pa sa ra la n := ⟨HB4.out.be.alloc HB4.out.be.size _, HB4.out.box.alloc _, Blk.new w4 [.slice ra n a.rc, .slice la n a.sc, .int .i64 a.k] 27⟩
      have HB5 := Lib.hid hb5
      have HW5 : Hid (Below w4.heap.size w4 (w4.alloc (.cells #[.slice ra n a.rc, .slice la n a.sc, .int .i64 a.k] 27))) := (Below.refl _ _).alloc (Nat.le_refl _) _
      clear hz hkr hok hao hrn hsn hlaw hreg hpl ek hslb hra hla HBE hb5 HPL HPO HFQ h40
      go_upto_region 6 with fail
      change Code.wp _ _ _ _ (w4.alloc (.cells #[.slice ra n a.rc, .slice la n a.sc, .int .i64 a.k] 27))
      obtain ⟨w4h, hw4h⟩ : ∃ x, x = w4.heap.size := ⟨_, rfl⟩
      have HB5' : Hid (BoxP f a w (w4.alloc (.cells #[.slice ra n a.rc, .slice la n a.sc, .int .i64 a.k] 27)) w.heap.size w4h pa sa ra la n) := by rw [hw4h]; exact HB5.out
      rw [← hw4h]
      clear hw4h HB5 HB4
      generalize w4.alloc (.cells #[.slice ra n a.rc, .slice la n a.sc, .int .i64 a.k] 27) = w5 at HB5' HW5 ⊢
      have c0 := HB5'.out.bf.cell 0
      have c1 := HB5'.out.bf.cell 1
      have c2 := HB5'.out.bf.cell 2
      have c3 := HB5'.out.bf.cell 3
      simp only [List.getElem?_cons_zero, List.getElem?_cons_succ] at c0 c1 c2 c3
      go_wp2_with fail
      refine (HFE.out w5 HB5'.out.be).mono ?_
      rintro e w6 ⟨rfl, hb6⟩
      have HB6 := Lib.hid (HB5'.out.below hb6)
      have HW6 := Lib.hid (HW5.out.trans (hb6.mono HW5.out.size))
      clear hb6 HB5' HW5 c0 c1 c2 c3 HFE
      have c0 := HB6.out.bf.cell 0
      have c1 := HB6.out.bf.cell 1
      have c2 := HB6.out.bf.cell 2
      have c3 := HB6.out.bf.cell 3
      have a0 := HB6.out.ba.cell 0
      have a1 := HB6.out.ba.cell 1
      have a2 := HB6.out.ba.cell 2
      simp only [List.getElem?_cons_zero, List.getElem?_cons_succ] at c0 c1 c2 c3 a0 a1 a2
      go_wp2_with fail
      refine (HPLA.out w6 HW6.out HB6.out.be).mono ?_
      rintro e w7 ⟨rfl, hb7⟩
      have HB7 := Lib.hid (HB6.out.below hb7)
      have HW7 := Lib.hid (HW6.out.trans (hb7.mono HW6.out.size))
      clear hb7 HB6 HW6 c0 c1 c2 c3 a0 a1 a2 HPLA
      go_wp2_with fail
      go_loopw [8] (fun u wx => ∃ x : Nat, 1 ≤ x ∧ x ≤ n ∧ u = .int .i64 (x : Int) ∧ BoxP f a w wx w.heap.size w4h pa sa ra la n ∧ Below w4.heap.size w4 wx) (fun u _ => n - (intOf u).toNat)
      case atStart => exact ⟨1, Nat.le_refl _, hn2.1, rfl, HB7.out, HW7.out⟩
      case round =>
        clear HB7 HW7
        obtain ⟨x, hx1, hx2, rfl, hbx, hwx⟩ := hrel
        have HBX := Lib.hid hbx
        have HWX := Lib.hid hwx
        clear hbx hwx
        have c2 := HBX.out.bf.cell 2
        simp only [List.getElem?_cons_zero, List.getElem?_cons_succ] at c2
        rw [HRG.out] at c2
        by_cases hlt : x < n
        · go_wp2_with fail
          clear c2
          go_loopw [9] (fun u wx => ∃ y : Nat, x + 1 ≤ y ∧ y ≤ n ∧ u = .int .i64 (y : Int) ∧ BoxP f a w wx w.heap.size w4h pa sa ra la n ∧ Below w4.heap.size w4 wx) (fun u _ => n - (intOf u).toNat)
          case atStart => exact ⟨x + 1, Nat.le_refl _, by omega, by go_num, HBX.out, HWX.out⟩
          case round =>
            clear HBX HWX
            obtain ⟨y, hy1, hy2, rfl, hbx, hwx⟩ := hrel
            have HBX := Lib.hid hbx
            have HWX := Lib.hid hwx
            clear hbx hwx
            by_cases hyl : y < n
            ·
              have hyI : (y : Int) < f.regs := by rw [HRG.out]; omega
              have hap := HPA.out.apart x y ⟨hx1, hlt⟩ ⟨by omega, hyl⟩ (by omega)
              have HCA := Lib.hid fun wx h => HCL.out wx h n nb HOK.out x y ⟨hx1, hlt⟩ ⟨by omega, hyl⟩ (by omega)
              have HSX := Lib.hid fun wx h => HSPA.out wx h x hlt
              have HSY := Lib.hid fun wx h => HSPA.out wx h y hyl
              obtain ⟨px, hpx⟩ : ∃ p, p = plc 100 a x := ⟨_, rfl⟩
              obtain ⟨py, hpy⟩ : ∃ p, p = plc 100 a y := ⟨_, rfl⟩
              rw [← hpx] at HSX hap
              rw [← hpy] at HSY hap
              have HAPQ := Lib.hid hap
              obtain ⟨wd, hwd⟩ : ∃ wd, wd = wr.drew := ⟨_, rfl⟩
              have hde : Below wr.heap.size wr wd := by rw [hwd]; exact (Below.refl _ _).drew
              have HD := Lib.hid (HBX.out.below hde)
              have HWD := Lib.hid (HWX.out.trans (hde.mono HWX.out.size))
              have b2 := HBX.out.bf.cell 2
              simp only [List.getElem?_cons_zero, List.getElem?_cons_succ] at b2
              have c0 := HD.out.bf.cell 0
              have c1 := HD.out.bf.cell 1
              have c2 := HD.out.bf.cell 2
              have c3 := HD.out.bf.cell 3
              have a0 := HD.out.ba.cell 0
              have a1 := HD.out.ba.cell 1
              have a2 := HD.out.ba.cell 2
              simp only [List.getElem?_cons_zero, List.getElem?_cons_succ] at c0 c1 c2 c3 a0 a1 a2
              have hfl := HD.out.bf.lt
              have hal := HD.out.ba.lt
              have r0 := fun z : After wd.heap.size wd => (z.below.cell (p := ⟨w.heap.size, 0, none⟩) hfl).trans c0
              have r1 := fun z : After wd.heap.size wd => (z.below.cell (p := ⟨w.heap.size, 1, none⟩) hfl).trans c1
              have r2 := fun z : After wd.heap.size wd => (z.below.cell (p := ⟨w.heap.size, 2, none⟩) hfl).trans c2
              have r3 := fun z : After wd.heap.size wd => (z.below.cell (p := ⟨w.heap.size, 3, none⟩) hfl).trans c3
              have s0 := fun z : After wd.heap.size wd => (z.below.cell (p := ⟨w4h, 0, none⟩) hal).trans a0
              have s1 := fun z : After wd.heap.size wd => (z.below.cell (p := ⟨w4h, 1, none⟩) hal).trans a1
              have s2 := fun z : After wd.heap.size wd => (z.below.cell (p := ⟨w4h, 2, none⟩) hal).trans a2
              clear hap hpx hpy HBX HWX hde
              go_upto_region 19 with fail
              clear c0 c1 c2 c3 a0 a1 a2
              by_cases h0 : px = 0
              · rw [h0] at HSX
                clear h0 r0 r1 r2 r3
                have r0 := trivial
                have r1 := trivial
                have r2 := trivial
                have r3 := trivial
                refine wp_region_eager wd.heap.size [(0, true), (1, true), (2, false), (3, true), (4, true), (5, true), (6, true), (8, true), (9, true), (7, false), (10, false), (11, true), (12, true), (13, true), (14, true), (15, true), (16, true), (17, false), (18, true)] (by kernel_rfl) (by kernel_rfl) ?_
                rw [← hwd]
                clear hwd
                repeat (refine eag_read rfl ?_; go_big_quiet_step (fail); refine wpQuiet_nil ?_)
                clear r0 r1 r2 r3 s0 s1 s2
                refine eag_does rfl rfl ?_
                intro K hK
                go_simp
                refine (HSX.out _ HWD.out).mono ?_
                rintro e w11 ⟨rfl, hb⟩
                have HD1 := Lib.hid (HD.out.below hb)
                have HWD1 := Lib.hid (HWD.out.trans (hb.mono HWD.out.size))
                have HBB1 := Lib.hid (hb.mono (Nat.le_refl _))
                refine hK _ _ HBB1.out ?_
                clear hK K hb
                go_simp
                have c0 := HD1.out.bf.cell 0
                have c1 := HD1.out.bf.cell 1
                have c2 := HD1.out.bf.cell 2
                have c3 := HD1.out.bf.cell 3
                have a0 := HD1.out.ba.cell 0
                have a1 := HD1.out.ba.cell 1
                have a2 := HD1.out.ba.cell 2
                simp only [List.getElem?_cons_zero, List.getElem?_cons_succ] at c0 c1 c2 c3 a0 a1 a2
                have r0 := fun z : After wd.heap.size w11 => (z.below.cell (p := ⟨w.heap.size, 0, none⟩) hfl).trans c0
                have r1 := fun z : After wd.heap.size w11 => (z.below.cell (p := ⟨w.heap.size, 1, none⟩) hfl).trans c1
                have r2 := fun z : After wd.heap.size w11 => (z.below.cell (p := ⟨w.heap.size, 2, none⟩) hfl).trans c2
                have r3 := fun z : After wd.heap.size w11 => (z.below.cell (p := ⟨w.heap.size, 3, none⟩) hfl).trans c3
                have s0 := fun z : After wd.heap.size w11 => (z.below.cell (p := ⟨w4h, 0, none⟩) hal).trans a0
                have s1 := fun z : After wd.heap.size w11 => (z.below.cell (p := ⟨w4h, 1, none⟩) hal).trans a1
                have s2 := fun z : After wd.heap.size w11 => (z.below.cell (p := ⟨w4h, 2, none⟩) hal).trans a2
                clear c0 c1 c2 c3 a0 a1 a2
                repeat (refine eag_read rfl ?_; go_big_quiet_step (fail); refine wpQuiet_nil ?_)
                refine eag_skip rfl rfl ?_
                go_simp
                refine eag_skip rfl rfl ?_
                go_simp
                repeat (refine eag_read rfl ?_; go_big_quiet_step (fail); refine wpQuiet_nil ?_)
                refine eag_skip rfl rfl ?_
                go_simp
                repeat (refine eag_read rfl ?_; go_big_quiet_step (fail); refine wpQuiet_nil ?_)
                have HDN := HD1
                have HWN := HWD1
                refine eag_end ?_
                clear r0 r1 r2 r3 s0 s1 s2
                go_wp2_with fail
                go_roundw
                case rel => exact ⟨y + 1, by omega, by omega, by go_num, HDN.out, HWN.out⟩
                case measure => simp [intOf]; omega
              · have hx0 : (px != 0) = true := by simpa using h0
                clear r0 r1 r2 r3
                have r0 := trivial
                have r1 := trivial
                have r2 := trivial
                have r3 := trivial
                refine wp_region_eager wd.heap.size [(0, true), (1, true), (2, false), (3, true), (4, true), (5, true), (6, true), (8, true), (9, true), (7, false), (10, false), (11, true), (12, true), (13, true), (14, true), (15, true), (16, true), (17, false), (18, true)] (by kernel_rfl) (by kernel_rfl) ?_
                rw [← hwd]
                clear hwd
                repeat (refine eag_read rfl ?_; go_big_quiet_step (fail); refine wpQuiet_nil ?_)
                clear r0 r1 r2 r3 s0 s1 s2
                refine eag_does rfl rfl ?_
                intro K hK
                go_simp
                refine (HSX.out _ HWD.out).mono ?_
                rintro e w11 ⟨rfl, hb⟩
                have HD1 := Lib.hid (HD.out.below hb)
                have HWD1 := Lib.hid (HWD.out.trans (hb.mono HWD.out.size))
                have HBB1 := Lib.hid (hb.mono (Nat.le_refl _))
                refine hK _ _ HBB1.out ?_
                clear hK K hb
                go_simp
                have c0 := HD1.out.bf.cell 0
                have c1 := HD1.out.bf.cell 1
                have c2 := HD1.out.bf.cell 2
                have c3 := HD1.out.bf.cell 3
                have a0 := HD1.out.ba.cell 0
                have a1 := HD1.out.ba.cell 1
                have a2 := HD1.out.ba.cell 2
                simp only [List.getElem?_cons_zero, List.getElem?_cons_succ] at c0 c1 c2 c3 a0 a1 a2
                have r0 := fun z : After wd.heap.size w11 => (z.below.cell (p := ⟨w.heap.size, 0, none⟩) hfl).trans c0
                have r1 := fun z : After wd.heap.size w11 => (z.below.cell (p := ⟨w.heap.size, 1, none⟩) hfl).trans c1
                have r2 := fun z : After wd.heap.size w11 => (z.below.cell (p := ⟨w.heap.size, 2, none⟩) hfl).trans c2
                have r3 := fun z : After wd.heap.size w11 => (z.below.cell (p := ⟨w.heap.size, 3, none⟩) hfl).trans c3
                have s0 := fun z : After wd.heap.size w11 => (z.below.cell (p := ⟨w4h, 0, none⟩) hal).trans a0
                have s1 := fun z : After wd.heap.size w11 => (z.below.cell (p := ⟨w4h, 1, none⟩) hal).trans a1
                have s2 := fun z : After wd.heap.size w11 => (z.below.cell (p := ⟨w4h, 2, none⟩) hal).trans a2
                clear c0 c1 c2 c3 a0 a1 a2
                repeat (refine eag_read rfl ?_; go_big_quiet_step (fail); refine wpQuiet_nil ?_)
                clear r0 r1 r2 r3 s0 s1 s2
                refine eag_does rfl rfl ?_
                intro K hK
                go_simp
                refine (HSX.out _ HWD1.out).mono ?_
                rintro e w21 ⟨rfl, hb⟩
                have HD2 := Lib.hid (HD1.out.below hb)
                have HWD2 := Lib.hid (HWD1.out.trans (hb.mono HWD1.out.size))
                have HBB2 := Lib.hid (hb.mono HBB1.out.size)
                refine hK _ _ HBB2.out ?_
                clear hK K hb
                go_simp
                refine eag_does rfl rfl ?_
                intro K hK
                go_simp
                refine (HSY.out _ HWD2.out).mono ?_
                rintro e w31 ⟨rfl, hb⟩
                have HD3 := Lib.hid (HD2.out.below hb)
                have HWD3 := Lib.hid (HWD2.out.trans (hb.mono HWD2.out.size))
                have HBB3 := Lib.hid (hb.mono (Nat.le_trans HBB1.out.size HBB2.out.size))
                refine hK _ _ HBB3.out ?_
                clear hK K hb
                go_simp
                have c0 := HD3.out.bf.cell 0
                have c1 := HD3.out.bf.cell 1
                have c2 := HD3.out.bf.cell 2
                have c3 := HD3.out.bf.cell 3
                have a0 := HD3.out.ba.cell 0
                have a1 := HD3.out.ba.cell 1
                have a2 := HD3.out.ba.cell 2
                simp only [List.getElem?_cons_zero, List.getElem?_cons_succ] at c0 c1 c2 c3 a0 a1 a2
                have r0 := fun z : After wd.heap.size w31 => (z.below.cell (p := ⟨w.heap.size, 0, none⟩) hfl).trans c0
                have r1 := fun z : After wd.heap.size w31 => (z.below.cell (p := ⟨w.heap.size, 1, none⟩) hfl).trans c1
                have r2 := fun z : After wd.heap.size w31 => (z.below.cell (p := ⟨w.heap.size, 2, none⟩) hfl).trans c2
                have r3 := fun z : After wd.heap.size w31 => (z.below.cell (p := ⟨w.heap.size, 3, none⟩) hfl).trans c3
                have s0 := fun z : After wd.heap.size w31 => (z.below.cell (p := ⟨w4h, 0, none⟩) hal).trans a0
                have s1 := fun z : After wd.heap.size w31 => (z.below.cell (p := ⟨w4h, 1, none⟩) hal).trans a1
                have s2 := fun z : After wd.heap.size w31 => (z.below.cell (p := ⟨w4h, 2, none⟩) hal).trans a2
                clear c0 c1 c2 c3 a0 a1 a2
                by_cases hxy : px = py
                · have hq : (px == py) = true := by simpa using hxy
                  have HNC := Lib.hid fun h => HAPQ.out h h0 hxy
                  clear hxy h0
                  repeat (refine eag_read rfl ?_; go_big_quiet_step (fail); refine wpQuiet_nil ?_)
                  clear r0 r1 r2 r3 s0 s1 s2
                  refine eag_does rfl rfl ?_
                  intro K hK
                  go_simp
                  refine (HCA.out _ HD3.out.be).mono ?_
                  rintro e w41 ⟨t, rfl, ht, hb⟩
                  have HD4 := Lib.hid (HD3.out.below hb)
                  have HWD4 := Lib.hid (HWD3.out.trans (hb.mono HWD3.out.size))
                  have HBB4 := Lib.hid (hb.mono (Nat.le_trans HBB1.out.size (Nat.le_trans HBB2.out.size HBB3.out.size)))
                  refine hK _ _ HBB4.out ?_
                  clear hK K hb
                  go_simp
                  obtain rfl : t = false := by
                    cases t
                    · rfl
                    · exact absurd (ht.1 rfl) HNC.out
                  clear ht
                  have c0 := HD4.out.bf.cell 0
                  have c1 := HD4.out.bf.cell 1
                  have c2 := HD4.out.bf.cell 2
                  have c3 := HD4.out.bf.cell 3
                  have a0 := HD4.out.ba.cell 0
                  have a1 := HD4.out.ba.cell 1
                  have a2 := HD4.out.ba.cell 2
                  simp only [List.getElem?_cons_zero, List.getElem?_cons_succ] at c0 c1 c2 c3 a0 a1 a2
                  have r0 := fun z : After wd.heap.size w41 => (z.below.cell (p := ⟨w.heap.size, 0, none⟩) hfl).trans c0
                  have r1 := fun z : After wd.heap.size w41 => (z.below.cell (p := ⟨w.heap.size, 1, none⟩) hfl).trans c1
                  have r2 := fun z : After wd.heap.size w41 => (z.below.cell (p := ⟨w.heap.size, 2, none⟩) hfl).trans c2
                  have r3 := fun z : After wd.heap.size w41 => (z.below.cell (p := ⟨w.heap.size, 3, none⟩) hfl).trans c3
                  have s0 := fun z : After wd.heap.size w41 => (z.below.cell (p := ⟨w4h, 0, none⟩) hal).trans a0
                  have s1 := fun z : After wd.heap.size w41 => (z.below.cell (p := ⟨w4h, 1, none⟩) hal).trans a1
                  have s2 := fun z : After wd.heap.size w41 => (z.below.cell (p := ⟨w4h, 2, none⟩) hal).trans a2
                  clear c0 c1 c2 c3 a0 a1 a2
                  repeat (refine eag_read rfl ?_; go_big_quiet_step (fail); refine wpQuiet_nil ?_)
                  have HDN := HD4
                  have HWN := HWD4
                  refine eag_end ?_
                  clear r0 r1 r2 r3 s0 s1 s2
                  go_wp2_with fail
                  go_roundw
                  case rel => exact ⟨y + 1, by omega, by omega, by go_num, HDN.out, HWN.out⟩
                  case measure => simp [intOf]; omega
                · have hq : (px == py) = false := by simpa using hxy
                  clear hxy h0
                  repeat (refine eag_read rfl ?_; go_big_quiet_step (fail); refine wpQuiet_nil ?_)
                  refine eag_skip rfl rfl ?_
                  go_simp
                  repeat (refine eag_read rfl ?_; go_big_quiet_step (fail); refine wpQuiet_nil ?_)
                  have HDN := HD3
                  have HWN := HWD3
                  refine eag_end ?_
                  clear r0 r1 r2 r3 s0 s1 s2
                  go_wp2_with fail
                  go_roundw
                  case rel => exact ⟨y + 1, by omega, by omega, by go_num, HDN.out, HWN.out⟩
                  case measure => simp [intOf]; omega
            · have ey : n = y := by omega
              subst ey
              have hnI : ¬ ((n : Int) < f.regs) := by rw [HRG.out]; omega
              have c2 := HBX.out.bf.cell 2
              simp only [List.getElem?_cons_zero, List.getElem?_cons_succ] at c2
              go_wp2_with fail
              go_roundw
              case rel => exact ⟨x + 1, by omega, by omega, by go_num, HBX.out, HWX.out⟩
              case measure => simp [intOf]; omega
        · have ex : n = x := by omega
          subst ex
          go_wp2_with fail
          go_ret
          exact ⟨rfl, HBX.out.be⟩
end Go.Proofs.Ytlaogkbdjkofaaa
