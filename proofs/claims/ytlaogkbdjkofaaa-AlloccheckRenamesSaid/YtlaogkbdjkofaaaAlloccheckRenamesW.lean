/- The walk of AlloccheckRenames. -/
import Derived.Test.YtlaogkbdjkofaaaRenMem
namespace Go.Proofs.Ytlaogkbdjkofaaa
open Go.RowKit
set_option linter.unusedVariables false
set_option linter.unusedSimpArgs false

set_option maxRecDepth 100000 in
set_option maxHeartbeats 8000000 in
theorem alloccheckRenames_walk (f : VF) (a : AL) (by_ sl : Int) (w : World) (hf : f.Ok w) (hao : a.Ok w) (hk : -9223372036854775808 ≤ by_ ∧ by_ ≤ 9223372036854775807) (hk' : -9223372036854775808 ≤ sl ∧ sl ≤ 9223372036854775807) : Calls Try.prog 11 #[f.v, a.v, .int .i64 by_, .int .i64 sl] w fun e w' => e = .returned (.bool true) ∧ Below w.heap.size w w' := by
 have hb0 : BoxR f a w ((w.alloc (.cells #[.int .i64 f.name, .slice f.pa f.pn f.pc, .int .i64 f.regs, .slice f.sa f.sn f.sc] 25)).alloc (.cells #[.slice a.ra a.rn a.rc, .slice a.sa a.sn a.sc, .int .i64 a.k] 27)) w.heap.size (w.heap.size + 1) f.pa f.sa a.ra a.sa a.rn a.sn := by
  refine ⟨((Below.refl _ _).alloc (Nat.le_refl _) _).alloc (by simp) _, (Blk.new w _ _).alloc _, ?_⟩
  have := Blk.new (w.alloc (.cells #[.int .i64 f.name, .slice f.pa f.pn f.pc, .int .i64 f.regs, .slice f.sa f.sn f.sc] 25)) [.slice a.ra a.rn a.rc, .slice a.sa a.sn a.sc, .int .i64 a.k] 27
  rw [World.size_alloc] at this
  exact this
 have HF := Lib.hid hf
 have HAO := Lib.hid hao
 have HSM := Lib.hid fun wx (h : Below w.heap.size w wx) => smallK_ok wx f (hf.below h)
 have HCK := Lib.hid fun wx (h : Below w.heap.size w wx) => allocCheck_any wx f (hf.below h) a (hao.below h)
 have HAC := Lib.hid fun wx (h : Below w.heap.size w wx) b (hb : AL.Ok wx b) => accept_any wx f (hf.below h) b hb
 have HCF := Lib.hid fun wx => allocFact_ok wx
 unfold VF.v AL.v at HCK
 unfold VF.v at HSM HAC
 unfold VF.v AL.v
 obtain ⟨pa, hpa⟩ : ∃ s, s = f.pa := ⟨_, rfl⟩
 obtain ⟨sa, hsa⟩ : ∃ s, s = f.sa := ⟨_, rfl⟩
 obtain ⟨ra, hra⟩ : ∃ s, s = a.ra := ⟨_, rfl⟩
 obtain ⟨la, hla⟩ : ∃ s, s = a.sa := ⟨_, rfl⟩
 rw [← hpa, ← hsa, ← hra, ← hla] at hb0
 rw [← hpa, ← hsa] at HSM
 rw [← hpa, ← hsa] at HAC
 rw [← hpa, ← hsa, ← hra, ← hla] at HCK
 rw [← hpa, ← hsa, ← hra, ← hla]
 have HRA := Lib.hid hra
 have HLA := Lib.hid hla
 have HB0 := Lib.hid hb0
 have hk1 := hk.1
 have hk2 := hk.2
 have hk3 := hk'.1
 have hk4 := hk'.2
 have hak := hao.k
 unfold I64 at hak
 obtain ⟨hak1, hak2⟩ := hak
 clear hf hb0 hpa hsa hra hla hk hk' hao
 go_enter Try.func11, Try.ntmps11
 go_upto_region 1 with fail
 obtain ⟨pf, hpf⟩ : ∃ x, x = w.heap.size := ⟨_, rfl⟩
 have HB1 : Hid (BoxR f a w ((w.alloc (.cells #[.int .i64 f.name, .slice pa f.pn f.pc, .int .i64 f.regs, .slice sa f.sn f.sc] 25)).alloc (.cells #[.slice ra a.rn a.rc, .slice la a.sn a.sc, .int .i64 a.k] 27)) pf (pf + 1) pa sa ra la a.rn a.sn) := by rw [hpf]; exact HB0.out
 change Code.wp _ _ _ _ ((w.alloc (.cells #[.int .i64 f.name, .slice pa f.pn f.pc, .int .i64 f.regs, .slice sa f.sn f.sc] 25)).alloc (.cells #[.slice ra a.rn a.rc, .slice la a.sn a.sc, .int .i64 a.k] 27))
 rw [← hpf]
 have HPF : Hid (w.heap.size ≤ pf) := Nat.le_of_eq hpf.symm
 clear hpf HB0
 generalize (w.alloc (.cells #[.int .i64 f.name, .slice pa f.pn f.pc, .int .i64 f.regs, .slice sa f.sn f.sc] 25)).alloc (.cells #[.slice ra a.rn a.rc, .slice la a.sn a.sc, .int .i64 a.k] 27) = w1 at HB1 ⊢
 go_wp2_with fail
 refine (HCF.out w1).mono ?_
 rintro e w2 ⟨rfl, hb2⟩
 have HB2 := Lib.hid (HB1.out.below hb2)
 clear hb2 HB1 HCF
 have c0 := HB2.out.bf.cell 0
 have c1 := HB2.out.bf.cell 1
 have c2 := HB2.out.bf.cell 2
 have c3 := HB2.out.bf.cell 3
 simp only [List.getElem?_cons_zero, List.getElem?_cons_succ] at c0 c1 c2 c3
 go_wp2_with fail
 refine (HSM.out w2 HB2.out.be).mono ?_
 rintro e w3 ⟨sm, rfl, hsm, hb3⟩
 have HB3 := Lib.hid (HB2.out.below hb3)
 clear hb3 HB2 c0 c1 c2 c3 HSM
 cases sm with
 | false =>
  go_wp2_with fail
  go_ret
  exact ⟨rfl, HB3.out.be⟩
 | true =>
  obtain ⟨h60, _, hz⟩ := hsm rfl
  have HFN := Lib.hid hz
  have H60 := Lib.hid h60
  clear hsm hz h60
  have c0 := HB3.out.bf.cell 0
  have c1 := HB3.out.bf.cell 1
  have c2 := HB3.out.bf.cell 2
  have c3 := HB3.out.bf.cell 3
  have a0 := HB3.out.ba.cell 0
  have a1 := HB3.out.ba.cell 1
  have a2 := HB3.out.ba.cell 2
  simp only [List.getElem?_cons_zero, List.getElem?_cons_succ] at c0 c1 c2 c3 a0 a1 a2
  go_wp2_with fail
  refine (HCK.out w3 HB3.out.be).mono ?_
  rintro e w4 ⟨rfl, hb4⟩
  have HB4 := Lib.hid (HB3.out.below hb4)
  clear hb4 HB3 c0 c1 c2 c3 a0 a1 a2 HCK
  obtain ⟨ae, hae⟩ : ∃ x, x = allocE f a := ⟨_, rfl⟩
  rw [← hae]
  by_cases hz : ae = 0
  ·subst hz
   have HAE := Lib.hid hae.symm
   clear hae
   obtain ⟨n, hok⟩ := fnOk HF.out HFN.out
   have hlen : a.rn = n ∧ a.sn = n := by
    have h := HAE.out
    unfold allocE at h
    have hr := hok.regs
    split at h
    ·contradiction
    split at h
    ·cases h
    ·rename_i h1
     omega
   have hkk : 0 ≤ a.k ∧ a.k ≤ 8192 := by
    have h := HAE.out
    unfold allocE at h
    split at h
    ·contradiction
    split at h
    ·cases h
    split at h
    ·cases h
    ·omega
   have hn60 : 0 < n ∧ n ≤ 60 := by have h1 := hok.n2; have h2 := hok.regs; have h3 := H60.out; omega
   have HOK := Lib.hid hok
   have HLEN := Lib.hid hlen
   have HKK := Lib.hid hkk
   rw [hlen.1, hlen.2] at HB4
   clear hok hlen hkk
   go_upto_region 5 with fail
   go_cut [9] from 22 (fun v9 wx => ∃ p9 g c g' c', v9 = .pointer (some ⟨p9, 0, none⟩) ∧ BoxR f a w wx pf (pf + 1) pa sa ra la n n ∧ CopR wx w4.heap.size p9 g c g' c' n a.k a.reg a.slot)
   case first =>
    have a0 := HB4.out.ba.cell 0
    have a1 := HB4.out.ba.cell 1
    have a2 := HB4.out.ba.cell 2
    simp only [List.getElem?_cons_zero, List.getElem?_cons_succ] at a0 a1 a2
    have hal := HB4.out.ba.lt
    have r0 := fun z : AfterR (Below w4.heap.size) w4.drew => (z.rel.cell (p := ⟨pf + 1, 0, none⟩) hal).trans a0
    have r1 := fun z : AfterR (Below w4.heap.size) w4.drew => (z.rel.cell (p := ⟨pf + 1, 1, none⟩) hal).trans a1
    have r2 := fun z : AfterR (Below w4.heap.size) w4.drew => (z.rel.cell (p := ⟨pf + 1, 2, none⟩) hal).trans a2
    have HC1 := Lib.hid fun wz (hz : Below w4.heap.size w4 wz) => clone_own a.ra a.rn a.rc a.reg wz (HAO.out.rcame.below (HB4.out.be.trans (hz.mono HB4.out.be.size))) (by have := HLEN.out; omega) HAO.out.rreach
    have HC2 := Lib.hid fun wz (hz : Below w4.heap.size w4 wz) => clone_own a.sa a.sn a.sc a.slot wz (HAO.out.scame.below (HB4.out.be.trans (hz.mono HB4.out.be.size))) (by have := HLEN.out; omega) HAO.out.sreach
    rw [HLEN.out.1, ← HRA.out] at HC1
    rw [HLEN.out.2, ← HLA.out] at HC2
    refine wp_region_forks (Below w4.heap.size) 11 rfl (by kernel_rfl) ?_
    refine forks_read 0 rfl (by kernel_rfl) ?_
    go_big_quiet_step (fail)
    refine wpQuiet_nil ?_
    refine forks_read 1 rfl (by kernel_rfl) ?_
    go_big_quiet_step (fail)
    refine wpQuiet_nil ?_
    refine forks_read 3 rfl (by kernel_rfl) ?_
    go_big_quiet_step (fail)
    refine wpQuiet_nil ?_
    refine forks_read 4 rfl (by kernel_rfl) ?_
    go_big_quiet_step (fail)
    refine wpQuiet_nil ?_
    refine forks_read 6 rfl (by kernel_rfl) ?_
    go_big_quiet_step (fail)
    refine wpQuiet_nil ?_
    refine forks_read 7 rfl (by kernel_rfl) ?_
    go_big_quiet_step (fail)
    refine wpQuiet_nil ?_
    clear r0 r1 r2 a0 a1 a2
    refine forks_two 2 9 (by kernel_rfl) ?_ ?_
    case' refine_1 =>
     refine does_intro rfl rfl ?_
     intro K hK
     go_simp
     refine (HC1.out w4.drew (Below.refl w4.heap.size w4).drew).mono ?_
     rintro e w5 ⟨g, c, rfl, hg_w5, ho_w5, hb_w5⟩
     refine hK _ _ (hb_w5.mono ((Below.refl w4.heap.size w4).drew).size) ?_
     have HO_w5 : Hid (IRw w5 w4.heap.size g c n a.reg) := IRw.base (B := w4.drew.heap.size) ho_w5 ((Below.refl w4.heap.size w4).drew).size
     have HG_w5 : Hid (w4.drew.heap.size ≤ g) := hg_w5
     have HB_w5 : Hid (Below w4.drew.heap.size w4.drew w5) := hb_w5
     have HW_w5 : Hid (Below w4.heap.size w4 w5) := ((Below.refl w4.heap.size w4).drew).trans (hb_w5.mono ((Below.refl w4.heap.size w4).drew).size)
     clear hK K hg_w5 ho_w5 hb_w5
     go_simp
     refine forks_two 5 9 (by kernel_rfl) ?_ ?_
     case' refine_1 =>
      refine does_intro rfl rfl ?_
      intro K hK
      go_simp
      refine (HC2.out w5 HW_w5.out).mono ?_
      rintro e w6 ⟨g', c', rfl, hg_w6, ho_w6, hb_w6⟩
      refine hK _ _ (hb_w6.mono (HW_w5.out).size) ?_
      have HO_w6 : Hid (IRw w6 w4.heap.size g' c' n a.slot) := IRw.base (B := w5.heap.size) ho_w6 (HW_w5.out).size
      have HG_w6 : Hid (w5.heap.size ≤ g') := hg_w6
      have HB_w6 : Hid (Below w5.heap.size w5 w6) := hb_w6
      have HW_w6 : Hid (Below w4.heap.size w4 w6) := (HW_w5.out).trans (hb_w6.mono (HW_w5.out).size)
      clear hK K hg_w6 ho_w6 hb_w6
      go_simp
      refine forks_read 8 rfl (by kernel_rfl) ?_
      go_big_quiet_step (fail)
      refine wpQuiet_nil ?_
      refine forks_one 9 (by kernel_rfl) ?_
      refine does_intro rfl rfl ?_
      intro K hK
      go_simp
      refine hK _ _ ((Below.refl _ _).alloc HW_w6.out.size _) ?_
      clear hK K
      go_simp
      refine forks_one 10 (by kernel_rfl) ?_
      refine does_intro rfl rfl ?_
      intro K hK
      go_simp
      refine hK _ _ (below_altR HW_w6.out.size _ _) ?_
      clear hK K
      go_simp
      refine forks_end (by kernel_rfl) ?_
      have HFIN : Hid (BoxR f a w (w6.alloc (.cells #[.slice (some ⟨g, 0, none⟩) n c, .slice (some ⟨g', 0, none⟩) n c', .int .i64 a.k] 27)) pf (pf + 1) pa sa ra la n n ∧ CopR (w6.alloc (.cells #[.slice (some ⟨g, 0, none⟩) n c, .slice (some ⟨g', 0, none⟩) n c', .int .i64 a.k] 27)) w4.heap.size w6.heap.size g c g' c' n a.k a.reg a.slot) := by
       have hal := (Below.refl w6.heap.size w6).alloc (Nat.le_refl _) (.cells #[.slice (some ⟨g, 0, none⟩) n c, .slice (some ⟨g', 0, none⟩) n c', .int .i64 a.k] 27)
       exact ⟨(HB4.out.below HW_w6.out).below hal, Blk.new w6 _ _, HW_w6.out.size, (HO_w5.out.below HB_w6.out).below hal, HO_w6.out.below hal, fun e => by have h1 := HG_w6.out; have h2 := (HO_w5.out.has (by omega)).2.1; omega⟩
      go_wp2_with fail
      go_meet
      exact ⟨_, _, _, _, _, rfl, HFIN.out⟩
     case' refine_2 =>
      refine does_intro rfl rfl ?_
      intro K hK
      go_simp
      refine hK _ _ ((Below.refl _ _).alloc HW_w5.out.size _) ?_
      clear hK K
      go_simp
      obtain ⟨w5a, hw5a⟩ : ∃ x, x = w5.alloc (.cells #[.slice none 0 0, .slice none 0 0, .int .i64 0] 27) := ⟨_, rfl⟩
      have HA : Hid (Below w5.heap.size w5 w5a) := by rw [hw5a]; exact (Below.refl _ _).alloc (Nat.le_refl _) _
      have HP : Hid (Blk w5a w5.heap.size 27 [.slice none 0 0, .slice none 0 0, .int .i64 0]) := by rw [hw5a]; exact Blk.new w5 _ _
      rw [← hw5a]
      clear hw5a
      have HWA : Hid (Below w4.heap.size w4 w5a) := HW_w5.out.trans (HA.out.mono HW_w5.out.size)
      have HOA := Lib.hid (HO_w5.out.below HA.out)
      obtain ⟨p9, hp9⟩ : ∃ x, x = w5.heap.size := ⟨_, rfl⟩
      have HP9 : Hid (w4.heap.size ≤ p9) := by rw [hp9]; exact HW_w5.out.size
      rw [← hp9] at HP ⊢
      have HGP : Hid (g ≠ p9) := fun e => by have h2 := (HO_w5.out.has (by omega)).2.1; omega
      clear hp9 HA
      refine forks_one 5 (by kernel_rfl) ?_
      refine does_intro rfl rfl ?_
      intro K hK
      go_simp
      refine (HC2.out w5a HWA.out).mono ?_
      rintro e w6 ⟨g', c', rfl, hg_w6, ho_w6, hb_w6⟩
      refine hK _ _ (hb_w6.mono (HWA.out).size) ?_
      have HO_w6 : Hid (IRw w6 w4.heap.size g' c' n a.slot) := IRw.base (B := w5a.heap.size) ho_w6 (HWA.out).size
      have HG_w6 : Hid (w5a.heap.size ≤ g') := hg_w6
      have HB_w6 : Hid (Below w5a.heap.size w5a w6) := hb_w6
      have HW_w6 : Hid (Below w4.heap.size w4 w6) := (HWA.out).trans (hb_w6.mono (HWA.out).size)
      clear hK K hg_w6 ho_w6 hb_w6
      go_simp
      refine forks_read 8 rfl (by kernel_rfl) ?_
      go_big_quiet_step (fail)
      refine wpQuiet_nil ?_
      have HO_R := Lib.hid (HOA.out.below HB_w6.out)
      have HGQ : Hid (g' ≠ p9) := fun e => by have h1 := HG_w6.out; have h2 := HP.out.lt; omega
      have HGG : Hid (g ≠ g') := fun e => by have h1 := HG_w6.out; have h2 := (HOA.out.has (by omega)).2.1; omega
      have HQ := Lib.hid (HP.out.below HB_w6.out HP.out.lt)
      have y0 := HQ.out.cell 0
      have y1 := HQ.out.cell 1
      have y2 := HQ.out.cell 2
      simp only [List.getElem?_cons_zero, List.getElem?_cons_succ] at y0 y1 y2
      have u0 := HQ.out.free 0
      have u1 := HQ.out.free 1
      have u2 := HQ.out.free 2
      have hpl := HQ.out.lt
      have hp9 := HP9.out
      refine forks_one 10 (by kernel_rfl) ?_
      refine does_intro rfl rfl ?_
      intro K hK
      go_simp
      refine hK _ _ ((((Below.refl w4.heap.size w6).setCell HP9.out _).setCell HP9.out _).setCell HP9.out _) ?_
      clear hK K y0 y1 y2 u0 u1 u2
      go_simp
      refine forks_end (by kernel_rfl) ?_
      obtain ⟨wx, hwx⟩ : ∃ wx, wx = ((w6.setCell ⟨p9, 0, none⟩ (.slice (some ⟨g, 0, none⟩) n c)).setCell ⟨p9, 1, none⟩ (.slice (some ⟨g', 0, none⟩) n c')).setCell ⟨p9, 2, none⟩ (.int .i64 a.k) := ⟨_, rfl⟩
      rw [← hwx]
      have HFIN : Hid (BoxR f a w wx pf (pf + 1) pa sa ra la n n ∧ CopR wx w4.heap.size p9 g c g' c' n a.k a.reg a.slot) := by
       rw [hwx]
       have hB : w.heap.size ≤ p9 := Nat.le_trans HB4.out.be.size HP9.out
       have h1 : pf ≠ p9 := by have := HB4.out.bf.lt; omega
       have h2 : pf + 1 ≠ p9 := by have := HB4.out.ba.lt; omega
       have hq := ((HQ.out.set 0 (.slice (some ⟨g, 0, none⟩) n c)).set 1 (.slice (some ⟨g', 0, none⟩) n c')).set 2 (.int .i64 a.k)
       refine ⟨(((HB4.out.below HW_w6.out).set hB h1 h2).set hB h1 h2).set hB h1 h2, hq, HP9.out, ?_, ?_, ?_⟩
       ·exact (((HO_R.out).other HGP.out).other HGP.out).other HGP.out
       ·exact (((HO_w6.out).other HGQ.out).other HGQ.out).other HGQ.out
       ·exact HGG.out
      clear hwx
      go_wp2_with fail
      go_meet
      exact ⟨_, _, _, _, _, rfl, HFIN.out⟩
    case' refine_2 =>
     refine does_intro rfl rfl ?_
     intro K hK
     go_simp
     refine hK _ _ (below_alloc_drewR (Nat.le_refl _) _) ?_
     clear hK K
     go_simp
     obtain ⟨wv, hwv⟩ : ∃ wv, wv = (w4.alloc (.cells #[.slice none 0 0, .slice none 0 0, .int .i64 0] 27)).drew := ⟨_, rfl⟩
     have HWV : Hid (Below w4.heap.size w4 wv) := by rw [hwv]; exact ((Below.refl _ _).alloc (Nat.le_refl _) _).drew
     have HPV : Hid (Blk wv w4.heap.size 27 [.slice none 0 0, .slice none 0 0, .int .i64 0]) := by rw [hwv]; exact Blk.new w4 _ _
     rw [← hwv]
     clear hwv
     have HP9 : Hid (w4.heap.size ≤ w4.heap.size) := Nat.le_refl _
     refine forks_one 2 (by kernel_rfl) ?_
     refine does_intro rfl rfl ?_
     intro K hK
     go_simp
     refine (HC1.out wv HWV.out).mono ?_
     rintro e w5 ⟨g, c, rfl, hg_w5, ho_w5, hb_w5⟩
     refine hK _ _ (hb_w5.mono (HWV.out).size) ?_
     have HO_w5 : Hid (IRw w5 w4.heap.size g c n a.reg) := IRw.base (B := wv.heap.size) ho_w5 (HWV.out).size
     have HG_w5 : Hid (wv.heap.size ≤ g) := hg_w5
     have HB_w5 : Hid (Below wv.heap.size wv w5) := hb_w5
     have HW_w5 : Hid (Below w4.heap.size w4 w5) := (HWV.out).trans (hb_w5.mono (HWV.out).size)
     clear hK K hg_w5 ho_w5 hb_w5
     go_simp
     have HP := Lib.hid (HPV.out.below HB_w5.out HPV.out.lt)
     have HGP : Hid (g ≠ w4.heap.size) := fun e => by have h1 := HG_w5.out; have h2 := HPV.out.lt; omega
     refine forks_one 5 (by kernel_rfl) ?_
     refine does_intro rfl rfl ?_
     intro K hK
     go_simp
     refine (HC2.out w5 HW_w5.out).mono ?_
     rintro e w6 ⟨g', c', rfl, hg_w6, ho_w6, hb_w6⟩
     refine hK _ _ (hb_w6.mono (HW_w5.out).size) ?_
     have HO_w6 : Hid (IRw w6 w4.heap.size g' c' n a.slot) := IRw.base (B := w5.heap.size) ho_w6 (HW_w5.out).size
     have HG_w6 : Hid (w5.heap.size ≤ g') := hg_w6
     have HB_w6 : Hid (Below w5.heap.size w5 w6) := hb_w6
     have HW_w6 : Hid (Below w4.heap.size w4 w6) := (HW_w5.out).trans (hb_w6.mono (HW_w5.out).size)
     clear hK K hg_w6 ho_w6 hb_w6
     go_simp
     refine forks_read 8 rfl (by kernel_rfl) ?_
     go_big_quiet_step (fail)
     refine wpQuiet_nil ?_
     have HO_R := Lib.hid (HO_w5.out.below HB_w6.out)
     have HGQ : Hid (g' ≠ w4.heap.size) := fun e => by have h1 := HG_w6.out; have h2 := HP.out.lt; omega
     have HGG : Hid (g ≠ g') := fun e => by have h1 := HG_w6.out; have h2 := (HO_w5.out.has (by omega)).2.1; omega
     have HQ := Lib.hid (HP.out.below HB_w6.out HP.out.lt)
     have y0 := HQ.out.cell 0
     have y1 := HQ.out.cell 1
     have y2 := HQ.out.cell 2
     simp only [List.getElem?_cons_zero, List.getElem?_cons_succ] at y0 y1 y2
     have u0 := HQ.out.free 0
     have u1 := HQ.out.free 1
     have u2 := HQ.out.free 2
     have hpl := HQ.out.lt
     have hp9 := HP9.out
     refine forks_one 10 (by kernel_rfl) ?_
     refine does_intro rfl rfl ?_
     intro K hK
     go_simp
     refine hK _ _ ((((Below.refl w4.heap.size w6).setCell HP9.out _).setCell HP9.out _).setCell HP9.out _) ?_
     clear hK K y0 y1 y2 u0 u1 u2
     go_simp
     refine forks_end (by kernel_rfl) ?_
     obtain ⟨wx, hwx⟩ : ∃ wx, wx = ((w6.setCell ⟨w4.heap.size, 0, none⟩ (.slice (some ⟨g, 0, none⟩) n c)).setCell ⟨w4.heap.size, 1, none⟩ (.slice (some ⟨g', 0, none⟩) n c')).setCell ⟨w4.heap.size, 2, none⟩ (.int .i64 a.k) := ⟨_, rfl⟩
     rw [← hwx]
     have HFIN : Hid (BoxR f a w wx pf (pf + 1) pa sa ra la n n ∧ CopR wx w4.heap.size w4.heap.size g c g' c' n a.k a.reg a.slot) := by
      rw [hwx]
      have hB : w.heap.size ≤ w4.heap.size := Nat.le_trans HB4.out.be.size HP9.out
      have h1 : pf ≠ w4.heap.size := by have := HB4.out.bf.lt; omega
      have h2 : pf + 1 ≠ w4.heap.size := by have := HB4.out.ba.lt; omega
      have hq := ((HQ.out.set 0 (.slice (some ⟨g, 0, none⟩) n c)).set 1 (.slice (some ⟨g', 0, none⟩) n c')).set 2 (.int .i64 a.k)
      refine ⟨(((HB4.out.below HW_w6.out).set hB h1 h2).set hB h1 h2).set hB h1 h2, hq, HP9.out, ?_, ?_, ?_⟩
      ·exact (((HO_R.out).other HGP.out).other HGP.out).other HGP.out
      ·exact (((HO_w6.out).other HGQ.out).other HGQ.out).other HGQ.out
      ·exact HGG.out
     clear hwx
     go_wp2_with fail
     go_meet
     exact ⟨_, _, _, _, _, rfl, HFIN.out⟩
   case rest =>
    obtain ⟨p9, g, c, g', c', rfl, hbx, hcp⟩ := hcut
    obtain ⟨kk, hkk⟩ : ∃ x, x = a.k := ⟨_, rfl⟩
    obtain ⟨s0, hs0, hs1⟩ : ∃ s0 : Int, (0 < kk → s0 = sl % kk) ∧ 0 ≤ s0 ∧ (0 < kk → s0 < kk) := by
     by_cases h : 0 < kk
     ·exact ⟨sl % kk, fun _ => rfl, Int.emod_nonneg _ (by omega), fun _ => Int.emod_lt_of_pos _ h⟩
     ·exact ⟨0, fun h' => absurd h' h, Int.le_refl _, fun h' => absurd h' h⟩
    obtain ⟨c0, hc0⟩ : ∃ x, x = by_ % 10 := ⟨_, rfl⟩
    have hc1 : 0 ≤ c0 := by rw [hc0]; exact Int.emod_nonneg _ (by omega)
    have hc2 : c0 < 10 := by rw [hc0]; exact Int.emod_lt_of_pos _ (by omega)
    have HC0 := Lib.hid hc0
    have HS0 := Lib.hid hs0
    have HS1 := Lib.hid hs1
    have HKE := Lib.hid hkk
    have hkk1 : 0 ≤ kk ∧ kk ≤ 8192 := by rw [hkk]; exact HKK.out
    obtain ⟨hkk1, hkk2⟩ := hkk1
    rw [← hkk] at hcp
    have hrl : a.reg.length = n := by have h1 := HAO.out.rcame.count; have h2 := HLEN.out.1; simp at h1; omega
    have hsl : a.slot.length = n := by have h1 := HAO.out.scame.count; have h2 := HLEN.out.2; simp at h1; omega
    have HPE : Hid (∀ i (h1 : i < a.reg.length) (h2 : i < a.slot.length), -1 ≤ a.reg[i] ∧ a.reg[i] ≤ 10 ∧ -1 ≤ a.slot[i] ∧ a.slot[i] < kk) := fun i h1 h2 => by
     have h := HAE.out
     unfold allocE at h
     split at h
     ·contradiction
     split at h
     ·cases h
     split at h
     ·cases h
     have := pairsE_ok h i h1 h2
     rw [hkk]
     simpa [List.getD_eq_getElem?_getD, h1, h2] using this
    have HRL := Lib.hid hrl
    have HSL := Lib.hid hsl
    have HBX := Lib.hid hbx
    have HCP := Lib.hid hcp
    have HB9 : Hid (w.heap.size ≤ w4.heap.size) := HB4.out.be.size
    have HPF4 : Hid (pf + 1 < w4.heap.size) := HB4.out.ba.lt
    obtain ⟨B4, hB4⟩ : ∃ x, x = w4.heap.size := ⟨_, rfl⟩
    rw [← hB4] at HCP HB9 HPF4
    clear hbx hcp hs0 hs1 hc0 hkk hrl hsl HB4 hB4
    have b0 := HCP.out.b9.cell 0
    simp only [List.getElem?_cons_zero] at b0
    go_wp2_with fail
    go_loopw [34] (fun u wx => ∃ i : Nat, i ≤ n ∧ u = .int .i64 (i : Int) ∧ BoxR f a w wx pf (pf + 1) pa sa ra la n n ∧ CopR wx B4 p9 g c g' c' n kk (mixL (g1 c0) a.reg i) (mixL (g2 kk s0) a.slot i)) (fun u _ => n - (intOf u).toNat)
    case atStart => exact ⟨0, Nat.zero_le _, rfl, HBX.out, by rw [mixL_zero, mixL_zero]; exact HCP.out⟩
    case round =>
     clear HBX HCP b0
     obtain ⟨i, hi, rfl, hbx, hcp⟩ := hrel
     have HBX := Lib.hid hbx
     have HCP := Lib.hid hcp
     clear hbx hcp
     by_cases hlt : i < n
     ·
      have hir : i < a.reg.length := by rw [HRL.out]; exact hlt
      have his : i < a.slot.length := by rw [HSL.out]; exact hlt
      obtain ⟨hx1, hx2, hz1, hz2⟩ := HPE.out i hir his
      obtain ⟨x, hx⟩ : ∃ x, x = a.reg[i] := ⟨_, rfl⟩
      obtain ⟨z, hz⟩ : ∃ z, z = a.slot[i] := ⟨_, rfl⟩
      rw [← hx] at hx1 hx2
      rw [← hz] at hz1 hz2
      have hgr := (mixL_at (g1 c0) a.reg hir).trans hx.symm
      have hgs := (mixL_at (g2 kk s0) a.slot his).trans hz.symm
      have HRP : Hid ((mixL (g1 c0) a.reg i).set i (g1 c0 x) = mixL (g1 c0) a.reg (i + 1)) := by rw [hx]; exact mixL_put _ _ hir
      have HSP : Hid ((mixL (g2 kk s0) a.slot i).set i (g2 kk s0 z) = mixL (g2 kk s0) a.slot (i + 1)) := by rw [hz]; exact mixL_put _ _ his
      have HRN : Hid (g1 c0 x = x → mixL (g1 c0) a.reg (i + 1) = mixL (g1 c0) a.reg i) := fun e => mixL_skip _ _ hir (by rw [← hx]; exact e)
      have HSN : Hid (g2 kk s0 z = z → mixL (g2 kk s0) a.slot (i + 1) = mixL (g2 kk s0) a.slot i) := fun e => mixL_skip _ _ his (by rw [← hz]; exact e)
      clear hx hz
      obtain ⟨m1, hm1⟩ : ∃ m, m = mixL (g1 c0) a.reg i := ⟨_, rfl⟩
      obtain ⟨m2, hm2⟩ : ∃ m, m = mixL (g2 kk s0) a.slot i := ⟨_, rfl⟩
      rw [← hm1] at hgr HRP HRN HCP
      rw [← hm2] at hgs HSP HSN HCP
      clear hm1 hm2
      obtain ⟨hq1, hq2, hq3, hq4⟩ := HCP.out.r.has (by omega)
      obtain ⟨hq1', hq2', hq3', hq4'⟩ := HCP.out.s.has (by omega)
      have hii : (i : Int) < (n : Int) := by omega
      by_cases hx0 : 0 < x
      ·
       have b0 := HCP.out.b9.cell 0
       have b1 := HCP.out.b9.cell 1
       have b2 := HCP.out.b9.cell 2
       simp only [List.getElem?_cons_zero, List.getElem?_cons_succ] at b0 b1 b2
       have y0 := (HCP.out.r.cell hlt).1
       have y1 := (HCP.out.s.cell hlt).1
       have v0 := (HCP.out.r.cell hlt).2
       have v1 := (HCP.out.s.cell hlt).2
       rw [hgr] at y0
       go_upto_region 10 with fail
       have HCD := Lib.hid (HCP.out.below (Below.refl _ _).drew)
       have HBD := Lib.hid (HBX.out.below (Below.refl _ _).drew)
       clear b0 b1 b2 y0 y1 v0 v1
       have b0 := HCD.out.b9.cell 0
       simp only [List.getElem?_cons_zero] at b0
       have y0 := (HCD.out.r.cell hlt).1
       rw [hgr] at y0
       have v0 := (HCD.out.r.cell hlt).2
       have s1 := fun z : AfterR EqW wr.drew => (congrArg (fun (u : World) => u.cell? ⟨p9, 0, none⟩) (show z.world = wr.drew from z.rel)).trans b0
       have s3 := fun z : AfterR EqW wr.drew => (congrArg (fun (u : World) => u.cell? ⟨g, i, none⟩) (show z.world = wr.drew from z.rel)).trans y0
       clear b0 y0
       refine wp_region_eagerRT EqW [(0, true), (1, true), (2, true), (3, true), (4, true), (5, true), (6, true), (7, true), (8, true), (9, true), (10, false), (11, true), (12, false), (13, true), (14, true), (15, false)] (by kernel_rfl) (by kernel_rfl) ?_
       repeat (refine eagR_readT rfl ?_; go_big_quiet_step (fail); refine wpQuiet_nil ?_)
       clear s1 s3
       refine eagR_doesT rfl rfl ?_
       intro K hK
       go_simp
       refine (rest_any by_ 10 _ (by omega) (by omega)).mono ?_
       rintro e w' ⟨rfl, rfl⟩
       rw [← HC0.out]
       refine hK _ _ (fun _ => rfl) ?_
       clear hK K
       go_simp
       repeat (refine eagR_readT rfl ?_; go_big_quiet_step (fail); refine wpQuiet_nil ?_)
       refine eagR_doesT rfl rfl ?_
       intro K hK
       go_simp
       refine (rest_any (x - 1 + c0) 10 _ (by omega) (by omega)).mono ?_
       rintro e w' ⟨rfl, rfl⟩
       obtain ⟨q, hq⟩ : ∃ q, q = (x - 1 + c0) % 10 := ⟨_, rfl⟩
       have hqa : 0 ≤ q := by rw [hq]; exact Int.emod_nonneg _ (by omega)
       have hqb : q < 10 := by rw [hq]; exact Int.emod_lt_of_pos _ (by omega)
       have HGX : Hid (g1 c0 x = 1 + q) := by show _ = _; unfold g1; rw [if_pos hx0, hq]
       rw [← hq]
       clear hq
       refine hK _ _ (fun _ => rfl) ?_
       clear hK K
       go_simp
       repeat (refine eagR_readT rfl ?_; go_big_quiet_step (fail); refine wpQuiet_nil ?_)
       have HC8 : Hid (CopR (wr.setCell ⟨g, i, none⟩ (.int .i64 (1 + q))).drew B4 p9 g c g' c' n kk (m1.set i (1 + q)) m2) := HCD.out.putR hlt (1 + q)
       have HX8 : Hid (BoxR f a w (wr.setCell ⟨g, i, none⟩ (.int .i64 (1 + q))).drew pf (pf + 1) pa sa ra la n n) := (HBD.out.set (q := g) (i := i) (v := .int .i64 (1 + q)) (by have := HB9.out; omega) (by have := HPF4.out; omega) (by have := HPF4.out; omega))
       have y0 := (HCD.out.r.cell hlt).1
       refine eagR_freeT rfl rfl (by kernel_rfl) ?_
       intro K hK
       go_simp
       refine hK _ _ ?_
       clear hK K y0
       go_simp
       refine eagR_endT ?_
       rw [← HGX.out, HRP.out] at HC8
       rw [← HGX.out] at HX8 ⊢
       clear HCP HBX HCD HBD hqa hqb HGX v0
       generalize (wr.setCell ⟨g, i, none⟩ (.int .i64 (g1 c0 x))).drew = wq at HC8 HX8 ⊢
       obtain ⟨hq1, hq2, hq3, hq4⟩ := HC8.out.r.has (by omega)
       obtain ⟨hq1', hq2', hq3', hq4'⟩ := HC8.out.s.has (by omega)
       have HCP := Lib.hid HC8.out
       have HBX := Lib.hid HX8.out
       clear HC8 HX8
       have b1 := HCP.out.b9.cell 1
       simp only [List.getElem?_cons_zero, List.getElem?_cons_succ] at b1
       have y1 := (HCP.out.s.cell hlt).1
       rw [hgs] at y1
       by_cases hz0 : 0 ≤ z
       ·
        have hkp : 0 < kk := by omega
        go_upto_region 12 with fail
        clear b1 y1
        have HCD := Lib.hid (HCP.out.below (Below.refl _ _).drew)
        have HBD := Lib.hid (HBX.out.below (Below.refl _ _).drew)
        have b1 := HCD.out.b9.cell 1
        have b2 := HCD.out.b9.cell 2
        simp only [List.getElem?_cons_zero, List.getElem?_cons_succ] at b1 b2
        have y1 := (HCD.out.s.cell hlt).1
        rw [hgs] at y1
        have v1 := (HCD.out.s.cell hlt).2
        have s1 := fun z : AfterR EqW wq.drew => (congrArg (fun (u : World) => u.cell? ⟨p9, 1, none⟩) (show z.world = wq.drew from z.rel)).trans b1
        have s2 := fun z : AfterR EqW wq.drew => (congrArg (fun (u : World) => u.cell? ⟨p9, 2, none⟩) (show z.world = wq.drew from z.rel)).trans b2
        have s3 := fun z : AfterR EqW wq.drew => (congrArg (fun (u : World) => u.cell? ⟨g', i, none⟩) (show z.world = wq.drew from z.rel)).trans y1
        clear b1 b2 y1
        refine wp_region_eagerRT EqW [(0, true), (1, true), (2, true), (3, true), (4, true), (5, true), (6, true), (7, true), (8, true), (9, true), (10, true), (13, true), (14, true), (11, false), (12, true), (15, false), (16, true), (17, false)] (by kernel_rfl) (by kernel_rfl) ?_
        repeat (refine eagR_readT rfl ?_; go_big_quiet_step (fail); refine wpQuiet_nil ?_)
        clear s1 s2 s3
        refine eagR_doesT rfl rfl ?_
        intro K hK
        go_simp
        refine (rest_any sl kk _ (by omega) (by omega)).mono ?_
        rintro e w' ⟨rfl, rfl⟩
        rw [← HS0.out hkp]
        refine hK _ _ (fun _ => rfl) ?_
        clear hK K
        go_simp
        have hs2 := HS1.out.1
        have hs3 := HS1.out.2 hkp
        repeat (refine eagR_readT rfl ?_; go_big_quiet_step (fail); refine wpQuiet_nil ?_)
        refine eagR_doesT rfl rfl ?_
        intro K hK
        go_simp
        refine (rest_any (z + s0) kk _ (by omega) (by omega)).mono ?_
        rintro e w' ⟨rfl, rfl⟩
        have hgz : g2 kk s0 z = (z + s0) % kk := by unfold g2; rw [if_pos hz0]
        rw [← hgz]
        refine hK _ _ (fun _ => rfl) ?_
        clear hK K hgz
        go_simp
        repeat (refine eagR_readT rfl ?_; go_big_quiet_step (fail); refine wpQuiet_nil ?_)
        have HC9 := Lib.hid (HCD.out.putS hlt (g2 kk s0 z))
        have HX9 := Lib.hid (HBD.out.set (q := g') (i := i) (v := .int .i64 (g2 kk s0 z)) (by have := HB9.out; omega) (by have := HPF4.out; omega) (by have := HPF4.out; omega))
        have y1 := (HCD.out.s.cell hlt).1
        refine eagR_freeT rfl rfl (by kernel_rfl) ?_
        intro K hK
        go_simp
        refine hK _ _ ?_
        clear hK K y1
        go_simp
        refine eagR_endT ?_
        clear hs2 hs3
        go_wp2_with fail
        go_roundw
        case rel => exact ⟨i + 1, by omega, by go_num, HX9.out, by have h := HC9.out; rw [HSP.out] at h; exact h⟩
        case measure => simp [intOf]; omega
       ·
        have hgz : g2 kk s0 z = z := by unfold g2; rw [if_neg hz0]
        have HSQ := Lib.hid (HSN.out hgz)
        clear hgz HSN
        go_wp2_with fail
        go_roundw
        case rel => exact ⟨i + 1, by omega, by go_num, HBX.out, by have h := HCP.out; rw [HSQ.out]; exact h⟩
        case measure => simp [intOf]; omega
      ·
       have hgx : g1 c0 x = x := by unfold g1; rw [if_neg hx0]
       have HRQ := Lib.hid (HRN.out hgx)
       clear hgx HRN
       have b0 := HCP.out.b9.cell 0
       have b1 := HCP.out.b9.cell 1
       have b2 := HCP.out.b9.cell 2
       simp only [List.getElem?_cons_zero, List.getElem?_cons_succ] at b0 b1 b2
       have y0 := (HCP.out.r.cell hlt).1
       have y1 := (HCP.out.s.cell hlt).1
       have v0 := (HCP.out.r.cell hlt).2
       have v1 := (HCP.out.s.cell hlt).2
       rw [hgr] at y0
       rw [hgs] at y1
       by_cases hz0 : 0 ≤ z
       ·
        have hkp : 0 < kk := by omega
        go_upto_region 12 with fail
        clear b0 b1 b2 y0 y1 v0 v1
        have HCD := Lib.hid (HCP.out.below (Below.refl _ _).drew)
        have HBD := Lib.hid (HBX.out.below (Below.refl _ _).drew)
        have b1 := HCD.out.b9.cell 1
        have b2 := HCD.out.b9.cell 2
        simp only [List.getElem?_cons_zero, List.getElem?_cons_succ] at b1 b2
        have y1 := (HCD.out.s.cell hlt).1
        rw [hgs] at y1
        have v1 := (HCD.out.s.cell hlt).2
        have s1 := fun z : AfterR EqW wr.drew => (congrArg (fun (u : World) => u.cell? ⟨p9, 1, none⟩) (show z.world = wr.drew from z.rel)).trans b1
        have s2 := fun z : AfterR EqW wr.drew => (congrArg (fun (u : World) => u.cell? ⟨p9, 2, none⟩) (show z.world = wr.drew from z.rel)).trans b2
        have s3 := fun z : AfterR EqW wr.drew => (congrArg (fun (u : World) => u.cell? ⟨g', i, none⟩) (show z.world = wr.drew from z.rel)).trans y1
        clear b1 b2 y1
        refine wp_region_eagerRT EqW [(0, true), (1, true), (2, true), (3, true), (4, true), (5, true), (6, true), (7, true), (8, true), (9, true), (10, true), (13, true), (14, true), (11, false), (12, true), (15, false), (16, true), (17, false)] (by kernel_rfl) (by kernel_rfl) ?_
        repeat (refine eagR_readT rfl ?_; go_big_quiet_step (fail); refine wpQuiet_nil ?_)
        clear s1 s2 s3
        refine eagR_doesT rfl rfl ?_
        intro K hK
        go_simp
        refine (rest_any sl kk _ (by omega) (by omega)).mono ?_
        rintro e w' ⟨rfl, rfl⟩
        rw [← HS0.out hkp]
        refine hK _ _ (fun _ => rfl) ?_
        clear hK K
        go_simp
        have hs2 := HS1.out.1
        have hs3 := HS1.out.2 hkp
        repeat (refine eagR_readT rfl ?_; go_big_quiet_step (fail); refine wpQuiet_nil ?_)
        refine eagR_doesT rfl rfl ?_
        intro K hK
        go_simp
        refine (rest_any (z + s0) kk _ (by omega) (by omega)).mono ?_
        rintro e w' ⟨rfl, rfl⟩
        have hgz : g2 kk s0 z = (z + s0) % kk := by unfold g2; rw [if_pos hz0]
        rw [← hgz]
        refine hK _ _ (fun _ => rfl) ?_
        clear hK K hgz
        go_simp
        repeat (refine eagR_readT rfl ?_; go_big_quiet_step (fail); refine wpQuiet_nil ?_)
        have HC9 := Lib.hid (HCD.out.putS hlt (g2 kk s0 z))
        have HX9 := Lib.hid (HBD.out.set (q := g') (i := i) (v := .int .i64 (g2 kk s0 z)) (by have := HB9.out; omega) (by have := HPF4.out; omega) (by have := HPF4.out; omega))
        have y1 := (HCD.out.s.cell hlt).1
        refine eagR_freeT rfl rfl (by kernel_rfl) ?_
        intro K hK
        go_simp
        refine hK _ _ ?_
        clear hK K y1
        go_simp
        refine eagR_endT ?_
        clear hs2 hs3
        go_wp2_with fail
        go_roundw
        case rel => exact ⟨i + 1, by omega, by go_num, HX9.out, by have h := HC9.out; rw [HSP.out, ← HRQ.out] at h; exact h⟩
        case measure => simp [intOf]; omega
       ·
        have hgz : g2 kk s0 z = z := by unfold g2; rw [if_neg hz0]
        have HSQ := Lib.hid (HSN.out hgz)
        clear hgz HSN
        go_wp2_with fail
        go_roundw
        case rel => exact ⟨i + 1, by omega, by go_num, HBX.out, by have h := HCP.out; rw [HSQ.out, HRQ.out]; exact h⟩
        case measure => simp [intOf]; omega
     ·
      have ei : n = i := by omega
      subst ei
      have hcp := HCP.out
      have e1 : mixL (g1 c0) a.reg n = a.reg.map (g1 c0) := by rw [← HRL.out]; exact mixL_all _ _
      have e2 : mixL (g2 kk s0) a.slot n = a.slot.map (g2 kk s0) := by rw [← HSL.out]; exact mixL_all _ _
      rw [e1, e2] at hcp
      clear e1 e2 HCP
      have hs2 := HS1.out
      obtain ⟨b, hb⟩ : ∃ b : AL, b = ⟨some ⟨g, 0, none⟩, n, c, a.reg.map (g1 c0), some ⟨g', 0, none⟩, n, c', a.slot.map (g2 kk s0), kk⟩ := ⟨_, rfl⟩
      have hbo : b.Ok wr := by
       rw [hb]
       refine ⟨(came_of_owns (E := intCells) (fun z => ⟨_, rfl⟩) hcp.r).2, by show n * 8 ≤ _; omega, fun z hz => ?_, (came_of_owns (E := intCells) (fun z => ⟨_, rfl⟩) hcp.s).2, by show n * 8 ≤ _; omega, fun z hz => ?_, by show I64 kk; unfold I64; omega⟩
       ·obtain ⟨x, hx, rfl⟩ := List.mem_map.1 hz
        obtain ⟨q, hq, rfl⟩ := List.getElem_of_mem hx
        have h1 := HPE.out q hq (by rw [HSL.out, ← HRL.out]; exact hq)
        unfold I64 g1
        split <;> omega
       ·obtain ⟨x, hx, rfl⟩ := List.mem_map.1 hz
        obtain ⟨q, hq, rfl⟩ := List.getElem_of_mem hx
        have h1 := HPE.out q (by rw [HRL.out, ← HSL.out]; exact hq) hq
        unfold I64
        by_cases h0 : 0 ≤ a.slot[q]
        ·rw [g2_at ⟨hs2.1, hs2.2 (by omega)⟩ (by omega)]
         split <;> omega
        ·unfold g2; rw [if_neg h0]; omega
      have htu : TurnA c0 s0 a b := by
       rw [hb]
       exact ⟨rfl, by rw [← HKE.out], HKE.out, HLEN.out.1.symm, HLEN.out.2.symm⟩
      have hs3 : 0 ≤ s0 ∧ (0 < a.k → s0 < a.k) := by rw [← HKE.out]; exact hs2
      have HGB := Lib.hid (good_ren HOK.out (htu.ren ⟨hc1, hc2⟩ hs3 HAO.out HOK.out.regs HAE.out))
      have HBE := Lib.hid (htu.err ⟨hc1, hc2⟩ hs3 HAE.out)
      have HBO := Lib.hid hbo
      have hbv : b.v = .agg #[.slice (some ⟨g, 0, none⟩) n c, .slice (some ⟨g', 0, none⟩) n c', .int .i64 kk] := by rw [hb]; rfl
      have hav : a.v = .agg #[.slice ra n a.rc, .slice la n a.sc, .int .i64 kk] := by unfold AL.v; rw [← HRA.out, ← HLA.out, HLEN.out.1, HLEN.out.2, HKE.out]
      have hd : Below wr.heap.size wr wr.drew := (Below.refl _ _).drew
      have HBD := Lib.hid (HBX.out.below hd)
      have HCD := Lib.hid (hcp.below hd)
      have HA1 := Lib.hid fun wx (h : Below wr.heap.size wr wx) => HAC.out wx (HBX.out.be.trans (h.mono HBX.out.be.size)) a (HAO.out.below (HBX.out.be.trans (h.mono HBX.out.be.size)))
      have HA2 := Lib.hid fun wx (h : Below wr.heap.size wr wx) => HAC.out wx (HBX.out.be.trans (h.mono HBX.out.be.size)) b (HBO.out.below h)
      rw [hav] at HA1
      rw [hbv] at HA2
      have HD := Lib.hid hd
      have HBE0 : Hid (Below w.heap.size w wr) := HBX.out.be
      clear hcp hs2 hs3 htu hbo hbv hav hb hd HAC
      go_upto_region 14 with fail
      have f0 := HBD.out.bf.cell 0
      have f1 := HBD.out.bf.cell 1
      have f2 := HBD.out.bf.cell 2
      have f3 := HBD.out.bf.cell 3
      have q0 := HBD.out.ba.cell 0
      have q1 := HBD.out.ba.cell 1
      have q2 := HBD.out.ba.cell 2
      have r0 := HCD.out.b9.cell 0
      have r1 := HCD.out.b9.cell 1
      have r2 := HCD.out.b9.cell 2
      simp only [List.getElem?_cons_zero, List.getElem?_cons_succ] at f0 f1 f2 f3 q0 q1 q2 r0 r1 r2
      rw [← HKE.out] at q2
      have l1 := HBD.out.bf.lt
      have l2 := HBD.out.ba.lt
      have l3 := HCD.out.b9.lt
      obtain ⟨wd, hwd⟩ : ∃ wd, wd = wr.drew := ⟨_, rfl⟩
      rw [← hwd] at f0 f1 f2 f3 q0 q1 q2 r0 r1 r2 l1 l2 l3 HD
      have s1 := fun z : After wd.heap.size wd => (z.below.cell (p := ⟨pf, 0, none⟩) l1).trans f0
      have s2 := fun z : After wd.heap.size wd => (z.below.cell (p := ⟨pf, 1, none⟩) l1).trans f1
      have s3 := fun z : After wd.heap.size wd => (z.below.cell (p := ⟨pf, 2, none⟩) l1).trans f2
      have s4 := fun z : After wd.heap.size wd => (z.below.cell (p := ⟨pf, 3, none⟩) l1).trans f3
      have t1 := fun z : After wd.heap.size wd => (z.below.cell (p := ⟨pf + 1, 0, none⟩) l2).trans q0
      have t2 := fun z : After wd.heap.size wd => (z.below.cell (p := ⟨pf + 1, 1, none⟩) l2).trans q1
      have t3 := fun z : After wd.heap.size wd => (z.below.cell (p := ⟨pf + 1, 2, none⟩) l2).trans q2
      have x1 := fun z : After wd.heap.size wd => (z.below.cell (p := ⟨p9, 0, none⟩) l3).trans r0
      have x2 := fun z : After wd.heap.size wd => (z.below.cell (p := ⟨p9, 1, none⟩) l3).trans r1
      have x3 := fun z : After wd.heap.size wd => (z.below.cell (p := ⟨p9, 2, none⟩) l3).trans r2
      clear f0 f1 f2 f3 q0 q1 q2 r0 r1 r2 HBD HCD
      refine wp_region_eager wd.heap.size [(0, true), (1, true), (3, true), (4, true), (2, false), (5, false), (6, true), (7, true)] (by kernel_rfl) (by kernel_rfl) ?_
      rw [← hwd]
      clear hwd
      repeat (refine eag_read rfl ?_; go_big_quiet_step (fail); refine wpQuiet_nil ?_)
      clear s1 s2 s3 s4 t1 t2 t3 x1 x2 x3
      refine eag_does rfl rfl ?_
      intro K hK
      go_simp
      refine (HA1.out wd HD.out).mono ?_
      rintro e w11 ⟨z1, rfl, hb1, _, hz1⟩
      have HW1 := Lib.hid (HD.out.trans (hb1.mono HD.out.size))
      have HBB1 := Lib.hid (hb1.mono (Nat.le_refl _))
      have HZ1 := Lib.hid (hz1 HAE.out)
      refine hK _ _ HBB1.out ?_
      clear hK K hb1 hz1
      go_simp
      refine eag_does rfl rfl ?_
      intro K hK
      go_simp
      refine (HA2.out w11 HW1.out).mono ?_
      rintro e w21 ⟨z2, rfl, hb2, _, hz2⟩
      have HW2 := Lib.hid (HW1.out.trans (hb2.mono HW1.out.size))
      have HBB2 := Lib.hid (hb2.mono HBB1.out.size)
      have HZ2 := Lib.hid (hz2 HBE.out)
      refine hK _ _ HBB2.out ?_
      clear hK K hb2 hz2
      go_simp
      have hzz : z2 = z1 := by
       rcases HZ1.out with ⟨h1, h2⟩ | ⟨h1, h2⟩
       ·rcases HZ2.out with ⟨h3, h4⟩ | ⟨h3, h4⟩
        ·rw [h1, h3]
        ·exact absurd (HGB.out.1 h2) h4
       ·rcases HZ2.out with ⟨h3, h4⟩ | ⟨h3, h4⟩
        ·exact absurd (HGB.out.2 h4) h2
        ·rw [h1, h3]
      have HEND : Hid (Below w.heap.size w w21) := HBE0.out.trans (HW2.out.mono HBE0.out.size)
      clear HZ1 HZ2
      subst hzz
      repeat (refine eag_read rfl ?_; go_big_quiet_step (fail); refine wpQuiet_nil ?_)
      refine eag_end ?_
      go_wp2_with fail
      go_ret
      exact ⟨by simp, HEND.out⟩
  ·have hz' : (ae == 0) = false := by simpa using hz
   clear hae hz
   go_wp2_with fail
   go_ret
   exact ⟨rfl, HB4.out.be⟩
end Go.Proofs.Ytlaogkbdjkofaaa
