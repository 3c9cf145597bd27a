/- The emitter's ins: the walk. The emitter's ins, but for VMove: the walk. The emitter's end: the walk. The emitter's block: what it keeps while it goes back over the instructions. No function of the program is walked. -/
import Derived.Test.YtdnpoomagjcpfaaGreatEmTwo
import Derived.Test.YtdnpoomagjcpfaaGreatForks
import Derived.StillTailTactics
import Derived.Test.YtdnpoomagjcpfaaGreatFrmAll
import Derived.Test.YtdnpoomagjcpfaaGreatVLive
namespace Go.Proofs.YtdnpoomagjcpfaaGreat
open Go.RowKit
set_option linter.unusedVariables false
set_option linter.unusedSimpArgs false

section
set_option maxRecDepth 100000 in
set_option maxHeartbeats 8000000 in
theorem ins_move (X : EmE) (hX : X.Ok) (w : World) (s : EmS) (v : EmV) (h : EmM X w s v) (x : VI) (hop : x.op = 100) (hr : x.Rng X.n) (lv : Value) (ht : s.tot + 200 ≤ 10000000) :
 Calls Tryz.prog 61 #[.pointer (some ⟨X.p, 0, none⟩), viV x, lv] w (EmP X v w (s.move X.a x)) := by
 obtain ⟨p, hp⟩ : ∃ p, p = X.p := ⟨_, rfl⟩
 rw [← hp]
 obtain ⟨xb, hxb⟩ : ∃ xb, xb = w.heap.size := ⟨_, rfl⟩
 have hba : Below w.heap.size w (w.alloc (.cells (viC x).toArray 48)) := (Below.refl _ _).alloc (Nat.le_refl _) _
 have hbx := Blk.new w (viC x) 48
 rw [← hxb] at hbx
 obtain ⟨sf, hsf⟩ : ∃ sf, sf = s.move X.a x := ⟨_, rfl⟩
 rw [← hsf]
 have hda := hr.d
 have hqa := hr.a
 have HSF := Lib.hid hsf
 have HX2 := Lib.hid hX
 have HDA := Lib.hid hda
 have HQA := Lib.hid hqa
 have HT := Lib.hid ht
 have HO1 := Lib.hid fun wx (hb : Below (w.alloc (.cells (viC x).toArray 48)).heap.size (w.alloc (.cells (viC x).toArray 48)) wx) => of_any X hX wx s v ((h.below hba).below hb) x.d hda
 have HO2 := Lib.hid fun wx (hb : Below (w.alloc (.cells (viC x).toArray 48)).heap.size (w.alloc (.cells (viC x).toArray 48)) wx) => of_any X hX wx s v ((h.below hba).below hb) x.a hqa
 have HM := Lib.hid (h.below hba)
 have HBA := Lib.hid hba
 have HBX := Lib.hid hbx
 have HP := Lib.hid hp
 rw [← hp] at HO1 HO2
 have hxo : (x.op == 100) = true := beq_iff_eq.2 hop
 unfold viV
 unfold viC at HO1 HO2 HBX HM HBA
 clear h hX hop hr ht hba hbx hsf hda hqa hp
 go_enter Tryz.func61, Tryz.ntmps61
 go_upto_region 1 with fail
 rw [← hxb]
 clear hxb
 change Code.wp _ _ _ _ (w.alloc (.cells #[.int .i64 x.op, .int .i64 x.d, .int .i64 x.a, .int .i64 x.b, .int .i64 x.n, .slice x.sa x.sn x.sc] 48))
 change Hid (∀ wx, Below (w.alloc (.cells #[.int .i64 x.op, .int .i64 x.d, .int .i64 x.a, .int .i64 x.b, .int .i64 x.n, .slice x.sa x.sn x.sc] 48)).heap.size (w.alloc (.cells #[.int .i64 x.op, .int .i64 x.d, .int .i64 x.a, .int .i64 x.b, .int .i64 x.n, .slice x.sa x.sn x.sc] 48)) wx → _) at HO1 HO2
 change Hid (Blk (w.alloc (.cells #[.int .i64 x.op, .int .i64 x.d, .int .i64 x.a, .int .i64 x.b, .int .i64 x.n, .slice x.sa x.sn x.sc] 48)) xb _ _) at HBX
 change Hid (EmM X (w.alloc (.cells #[.int .i64 x.op, .int .i64 x.d, .int .i64 x.a, .int .i64 x.b, .int .i64 x.n, .slice x.sa x.sn x.sc] 48)) s v) at HM
 change Hid (Below w.heap.size w (w.alloc (.cells #[.int .i64 x.op, .int .i64 x.d, .int .i64 x.a, .int .i64 x.b, .int .i64 x.n, .slice x.sa x.sn x.sc] 48))) at HBA
 generalize w.alloc (.cells #[.int .i64 x.op, .int .i64 x.d, .int .i64 x.a, .int .i64 x.b, .int .i64 x.n, .slice x.sa x.sn x.sc] 48) = w1 at HO1 HO2 HBX HM HBA ⊢
 have x0 : w1.cell? ⟨xb, 0, none⟩ = some (.int .i64 x.op) := HBX.out.cell 0
 have x1 : w1.cell? ⟨xb, 1, none⟩ = some (.int .i64 x.d) := HBX.out.cell 1
 have x2 : w1.cell? ⟨xb, 2, none⟩ = some (.int .i64 x.a) := HBX.out.cell 2
 have hxl := HBX.out.lt
 rcases hd : ofP X.a x.d with ⟨d1, d2⟩
 rcases ha : ofP X.a x.a with ⟨a1, a2⟩
 rw [hd] at HO1
 rw [ha] at HO2
 go_upto_region 11 with fail
 go_cut [6, 7] from 70 (fun v6 v7 wx => ∃ b6 b7, v6 = .pointer (some ⟨b6, 0, none⟩) ∧ v7 = .pointer (some ⟨b7, 0, none⟩) ∧ Below w1.heap.size w1 wx ∧ Blk wx b6 138 [.int .i64 d1, .int .i64 d2] ∧ Blk wx b7 138 [.int .i64 a1, .int .i64 a2])
 case first => as_aux_lemma =>
  have r1 := fun z : AfterR (KeepE xb xb) w1.drew => (World.cell?_of_block (a := ⟨xb, 1, none⟩) z.rel.1).trans x1
  have r2 := fun z : AfterR (KeepE xb xb) w1.drew => (World.cell?_of_block (a := ⟨xb, 2, none⟩) z.rel.1).trans x2
  go_wp2_with fail
  refine wp_region_forks (KeepE xb xb) 12 rfl (by kernel_rfl) ?_
  refine forks_read 0 rfl (by kernel_rfl) ?_
  go_big_quiet_step (fail)
  refine wpQuiet_nil ?_
  refine forks_read 1 rfl (by kernel_rfl) ?_
  go_big_quiet_step (fail)
  refine wpQuiet_nil ?_
  refine forks_read 2 rfl (by kernel_rfl) ?_
  go_big_quiet_step (fail)
  refine wpQuiet_nil ?_
  refine forks_read 4 rfl (by kernel_rfl) ?_
  go_big_quiet_step (fail)
  refine wpQuiet_nil ?_
  refine forks_read 5 rfl (by kernel_rfl) ?_
  go_big_quiet_step (fail)
  refine wpQuiet_nil ?_
  refine forks_read 6 rfl (by kernel_rfl) ?_
  go_big_quiet_step (fail)
  refine wpQuiet_nil ?_
  clear r1 r2
  have HW : Hid (Below w1.heap.size w1 w1.drew) := (Below.refl _ _).drew
  generalize w1.drew = wx at HW ⊢
  iterate 4
   all_goals first | refine forks_three 3 8 9 (by decide +kernel) ?_ ?_ ?_ | refine forks_three 7 8 9 (by decide +kernel) ?_ ?_ ?_ | refine forks_two 3 8 (by decide +kernel) ?_ ?_ | refine forks_two 3 9 (by decide +kernel) ?_ ?_ | refine forks_two 7 8 (by decide +kernel) ?_ ?_ | refine forks_two 7 9 (by decide +kernel) ?_ ?_ | refine forks_two 8 9 (by decide +kernel) ?_ ?_ | refine forks_one 3 (by decide +kernel) ?_ | refine forks_one 7 (by decide +kernel) ?_ | refine forks_one 8 (by decide +kernel) ?_ | refine forks_one 9 (by decide +kernel) ?_
   all_goals
    first
    | refine does_intro (i := 3) rfl rfl ?_
      intro K hK
      go_simp
      refine (HO1.out _ HW.out).mono ?_
      rintro e wx ⟨rfl, hb⟩
      refine hK _ _ (and_self_iff.mpr (hb.block xb (Nat.lt_of_lt_of_le hxl HW.out.size))) ?_
      have HW := Lib.hid (HW.out.trans (hb.mono HW.out.size))
      try have H6 := Lib.hid (H6.out.below hb H6.out.lt)
      try have H7 := Lib.hid (H7.out.below hb H7.out.lt)
      clear hK K hb
      go_simp
    | refine does_intro (i := 7) rfl rfl ?_
      intro K hK
      go_simp
      refine (HO2.out _ HW.out).mono ?_
      rintro e wx ⟨rfl, hb⟩
      refine hK _ _ (and_self_iff.mpr (hb.block xb (Nat.lt_of_lt_of_le hxl HW.out.size))) ?_
      have HW := Lib.hid (HW.out.trans (hb.mono HW.out.size))
      try have H6 := Lib.hid (H6.out.below hb H6.out.lt)
      try have H7 := Lib.hid (H7.out.below hb H7.out.lt)
      clear hK K hb
      go_simp
    | refine does_intro (i := 8) rfl rfl ?_
      intro K hK
      go_simp
      refine hK _ _ (and_self_iff.mpr (Below.heap_alloc _ _ _ (Nat.lt_of_lt_of_le hxl HW.out.size))) ?_
      clear hK K
      go_simp
      obtain ⟨b6, hb6⟩ : ∃ b, b = wx.heap.size := ⟨_, rfl⟩
      have hba := (Below.refl wx.heap.size wx).alloc (Nat.le_refl _) (.cells #[.int .i64 0, .int .i64 0] 138)
      have H6 : Hid (Blk (wx.alloc (.cells #[.int .i64 0, .int .i64 0] 138)) b6 138 [.int .i64 0, .int .i64 0]) := by rw [hb6]; exact Blk.new wx _ _
      have G6 : Hid (w1.heap.size ≤ b6) := by rw [hb6]; exact HW.out.size
      try have HNE : Hid (b7 ≠ b6) := by rw [hb6]; exact Nat.ne_of_lt H7.out.lt
      try have H7 := Lib.hid (H7.out.below hba H7.out.lt)
      have HW := Lib.hid (HW.out.trans (hba.mono HW.out.size))
      rw [← hb6]
      clear hb6 hba
      generalize wx.alloc (.cells #[.int .i64 0, .int .i64 0] 138) = wx at *
    | refine does_intro (i := 9) rfl rfl ?_
      intro K hK
      go_simp
      refine hK _ _ (and_self_iff.mpr (Below.heap_alloc _ _ _ (Nat.lt_of_lt_of_le hxl HW.out.size))) ?_
      clear hK K
      go_simp
      obtain ⟨b7, hb7⟩ : ∃ b, b = wx.heap.size := ⟨_, rfl⟩
      have hba := (Below.refl wx.heap.size wx).alloc (Nat.le_refl _) (.cells #[.int .i64 0, .int .i64 0] 138)
      have H7 : Hid (Blk (wx.alloc (.cells #[.int .i64 0, .int .i64 0] 138)) b7 138 [.int .i64 0, .int .i64 0]) := by rw [hb7]; exact Blk.new wx _ _
      have G7 : Hid (w1.heap.size ≤ b7) := by rw [hb7]; exact HW.out.size
      try have HNE : Hid (b6 ≠ b7) := by rw [hb7]; exact Nat.ne_of_lt H6.out.lt
      try have H6 := Lib.hid (H6.out.below hba H6.out.lt)
      have HW := Lib.hid (HW.out.trans (hba.mono HW.out.size))
      rw [← hb7]
      clear hb7 hba
      generalize wx.alloc (.cells #[.int .i64 0, .int .i64 0] 138) = wx at *
  all_goals
   have k60 : wx.cell? ⟨b6, 0, none⟩ = some (.int .i64 0) := H6.out.cell 0
   have k61 : wx.cell? ⟨b6, 1, none⟩ = some (.int .i64 0) := H6.out.cell 1
   have k70 : wx.cell? ⟨b7, 0, none⟩ = some (.int .i64 0) := H7.out.cell 0
   have k71 : wx.cell? ⟨b7, 1, none⟩ = some (.int .i64 0) := H7.out.cell 1
   have f60 := H6.out.free 0
   have f61 := H6.out.free 1
   have f70 := H7.out.free 0
   have f71 := H7.out.free 1
   have l6 := H6.out.lt
   have l7 := H7.out.lt
   have hne : b6 ≠ b7 := by first | exact HNE.out | exact HNE.out.symm
   have hne2 := hne.symm
   have hx6 : xb ≠ b6 := by have := G6.out; omega
   have hx7 : xb ≠ b7 := by have := G7.out; omega
   refine forks_one 10 (by kernel_rfl) ?_
   refine does_intro rfl rfl ?_
   intro K hK
   go_simp
   refine hK _ _ (and_self_iff.mpr ((Below.heap_setCell _ _ _ _ hx6).trans (Below.heap_setCell _ _ _ _ hx6))) ?_
   clear hK K
   go_simp
   refine forks_one 11 (by kernel_rfl) ?_
   refine does_intro rfl rfl ?_
   intro K hK
   go_simp
   refine hK _ _ (and_self_iff.mpr ((Below.heap_setCell _ _ _ _ hx7).trans (Below.heap_setCell _ _ _ _ hx7))) ?_
   clear hK K
   go_simp
   refine forks_end (by kernel_rfl) ?_
   have HF : Hid (Below w1.heap.size w1 ((((wx.setCell ⟨b6, 0, none⟩ (.int .i64 d1)).setCell ⟨b6, 1, none⟩ (.int .i64 d2)).setCell ⟨b7, 0, none⟩ (.int .i64 a1)).setCell ⟨b7, 1, none⟩ (.int .i64 a2)) ∧ Blk ((((wx.setCell ⟨b6, 0, none⟩ (.int .i64 d1)).setCell ⟨b6, 1, none⟩ (.int .i64 d2)).setCell ⟨b7, 0, none⟩ (.int .i64 a1)).setCell ⟨b7, 1, none⟩ (.int .i64 a2)) b6 138 [.int .i64 d1, .int .i64 d2] ∧ Blk ((((wx.setCell ⟨b6, 0, none⟩ (.int .i64 d1)).setCell ⟨b6, 1, none⟩ (.int .i64 d2)).setCell ⟨b7, 0, none⟩ (.int .i64 a1)).setCell ⟨b7, 1, none⟩ (.int .i64 a2)) b7 138 [.int .i64 a1, .int .i64 a2]) :=
    ⟨(((HW.out.setCell G6.out _).setCell G6.out _).setCell G7.out _).setCell G7.out _, (((H6.out.set 0 _).set 1 _).setOther (a := ⟨b7, 0, none⟩) hne _).setOther (a := ⟨b7, 1, none⟩) hne _, (((H7.out.setOther (a := ⟨b6, 0, none⟩) hne2 _).setOther (a := ⟨b6, 1, none⟩) hne2 _).set 0 _).set 1 _⟩
   clear k60 k61 k70 k71 f60 f61 f70 f71 l6 l7 hne hne2 hx6 hx7
   go_wp2_with fail
   go_meet
   exact ⟨b6, b7, rfl, rfl, HF.out⟩
 case rest => as_aux_lemma =>
  clear x0 x1 x2 hxl HO1 HO2
  obtain ⟨b6, b7, rfl, rfl, hb, h6, h7⟩ := hcut
  have hq1 := ofB HX2.out HDA.out
  have hq2 := ofB HX2.out HQA.out
  rw [hd] at hq1
  rw [ha] at hq2
  obtain ⟨⟨e1, e2⟩, e3, e4⟩ := hq1
  obtain ⟨⟨e5, e6⟩, e7, e8⟩ := hq2
  have HE : Hid (sf = if d1 < 0 ∧ a1 < 0 then (if d2 = a2 then s else (s.load 11 a2).store d2 11) else if d1 < 0 then s.store d2 a1 else if a1 < 0 then s.load d1 a2 else if d1 = a1 then s else s.put 8 d1 a1 0 0) := by rw [Hid, HSF.out]; unfold EmS.move; rw [hd, ha]
  have HMC := Lib.hid (HM.out.below hb)
  have HBC : Hid (∀ {s2 : EmS} {w2 : World}, EmSt X v wc s2 w2 → EmSt X v w s2 w2) := fun h => EmSt.ofBelow (HBA.out.trans (hb.mono HBA.out.size)) h
  have k60 : wc.cell? ⟨b6, 0, none⟩ = some (.int .i64 d1) := h6.cell 0
  have k61 : wc.cell? ⟨b6, 1, none⟩ = some (.int .i64 d2) := h6.cell 1
  have k70 : wc.cell? ⟨b7, 0, none⟩ = some (.int .i64 a1) := h7.cell 0
  have k71 : wc.cell? ⟨b7, 1, none⟩ = some (.int .i64 a2) := h7.cell 1
  have l6 := h6.lt
  have l7 := h7.lt
  have H6 := Lib.hid h6
  have HNS : Hid (¬ v.S X.p b6) := fun hq => by rcases HMC.out.ty h6 hq with e | e | e | e | e | e <;> exact absurd e (by decide)
  clear hb h6 h7 hd ha
  by_cases g1 : d1 < 0
  ·by_cases g2 : a1 < 0
   ·rw [if_pos ⟨g1, g2⟩] at HE
    by_cases g3 : d2 = a2
    ·rw [if_pos g3] at HE
     have q3 : (d2 != a2) = false := by simp [g3]
     clear g3
     go_wp2_with fail
     refine bodyPost_end (results_none rfl _ _ _) rfl ?_
     rw [HE.out]
     exact ⟨rfl, HBC.out (EmSt.refl HMC.out)⟩
    ·rw [if_neg g3] at HE
     have q3 : (d2 != a2) = true := by simp [g3]
     clear g3
     have HL := Lib.hid (load_any X HX2.out wc s v HMC.out (by have := HT.out; omega) 11 a2 (by omega))
     rw [← HP.out] at HL
     go_wp2_with fail
     refine HL.out.mono ?_
     rintro e w2 ⟨rfl, hs⟩
     obtain ⟨v2, hg2⟩ := hs.split
     have HG2 := Lib.hid hg2
     have h62 := hg2.blk H6.out HNS.out
     have k62 : w2.cell? ⟨b6, 1, none⟩ = some (.int .i64 d2) := h62.cell 1
     have l62 := h62.lt
     have HST := Lib.hid (store_any X HX2.out w2 _ v2 hg2.m (by rw [load_tot]; have := HT.out; omega) d2 11 (by omega))
     rw [← HP.out] at HST
     clear hs hg2 h62 HL k60 k61 k70 k71
     go_wp2_with fail
     refine HST.out.mono ?_
     rintro e w3 ⟨rfl, hs⟩
     have hs3 := HBC.out (HG2.out.next hs)
     clear hs HST
     go_wp2_with fail
     refine bodyPost_end (results_none rfl _ _ _) rfl ?_
     rw [HE.out]
     exact ⟨rfl, hs3⟩
   ·rw [if_neg (fun h => g2 h.2), if_pos g1] at HE
    have HL := Lib.hid (store_any X HX2.out wc s v HMC.out (by have := HT.out; omega) d2 a1 (by omega))
    rw [← HP.out] at HL
    go_wp2_with fail
    refine HL.out.mono ?_
    rintro e w2 ⟨rfl, hs⟩
    have hs3 := HBC.out hs
    clear hs HL
    go_wp2_with fail
    refine bodyPost_end (results_none rfl _ _ _) rfl ?_
    rw [HE.out]
    exact ⟨rfl, hs3⟩
  ·rw [if_neg (fun h => g1 h.1), if_neg g1] at HE
   by_cases g2 : a1 < 0
   ·rw [if_pos g2] at HE
    have HL := Lib.hid (load_any X HX2.out wc s v HMC.out (by have := HT.out; omega) d1 a2 (by omega))
    rw [← HP.out] at HL
    go_wp2_with fail
    refine HL.out.mono ?_
    rintro e w2 ⟨rfl, hs⟩
    have hs3 := HBC.out hs
    clear hs HL
    go_wp2_with fail
    refine bodyPost_end (results_none rfl _ _ _) rfl ?_
    rw [HE.out]
    exact ⟨rfl, hs3⟩
   ·rw [if_neg g2] at HE
    by_cases g3 : d1 = a1
    ·rw [if_pos g3] at HE
     have q3 : (d1 != a1) = false := by simp [g3]
     clear g3
     go_wp2_with fail
     refine bodyPost_end (results_none rfl _ _ _) rfl ?_
     rw [HE.out]
     exact ⟨rfl, HBC.out (EmSt.refl HMC.out)⟩
    ·rw [if_neg g3] at HE
     have q3 : (d1 != a1) = true := by simp [g3]
     clear g3
     have HL := Lib.hid (op_any X HX2.out wc s v HMC.out (by have := HT.out; omega) 8 d1 a1 0 0)
     rw [← HP.out] at HL
     go_wp2_with fail
     refine HL.out.mono ?_
     rintro e w2 ⟨rfl, hs⟩
     have hs3 := HBC.out hs
     clear hs HL
     go_wp2_with fail
     refine bodyPost_end (results_none rfl _ _ _) rfl ?_
     rw [HE.out]
     exact ⟨rfl, hs3⟩
end

section
theorem andNot_bit : ∀ b : Fin 14, bits .andNot .i64 (wrap64 (2 ^ b.val)) 1 = (((1 <<< b.val) &&& ((1 <<< b.val) ^^^ 1) : Nat) : Int) := by decide +kernel
/-- a reference is recorded: behind the append -/
theorem refer_app {X : EmE} {w3 w9 : World} {s : EmS} {v : EmV} (hX : X.Ok) (h : EmM X w3 s v) {m0 n0 g9 cap9 : Nat} {k : Int} (hm : m0 = s.calls.length) (hn : n0 = s.items.length) (ho : w9.ownsRow X.B 62 2 (.slice (some ⟨g9, 0, none⟩) (m0 + 1) cap9) (m0 + 1) (s.calls.flatMap fcC ++ [.int .i64 (n0 : Int), .int .i64 k])) (hg : w3.grownBy w9 v.c.ownBlock) (hat : v.c.ownBlock = some g9 ∨ g9 = w3.heap.size) :
  EmSt X v w3 (s.refer k) (w9.setCell ⟨X.p, 9, none⟩ (.slice (some ⟨g9, 0, none⟩) (m0 + 1) cap9)) := by
 have hown : w9.ownsRow X.B 62 2 (.slice (some ⟨g9, 0, none⟩) (m0 + 1) cap9) (s.calls ++ [(s.items.length, k)]).length ((s.calls ++ [(s.items.length, k)]).flatMap fcC) := by
  rw [List.length_append, ← hm, ← hn, List.flatMap_append]
  simpa [fcC] using ho
 refine ⟨{ v with c := .slice (some ⟨g9, 0, none⟩) (m0 + 1) cap9 }, h.growC hX hown hg, ((RestS.ofGrown hg).mono fun q hq => .inr (.inr (.inl hq))).set (p := ⟨X.p, 9, none⟩) (.inl rfl) _, EmV.S_new (fun _ => .inl) (fun q hq => ?_) (fun _ => .inl) (fun _ => .inl) (fun _ => .inl)⟩
 have : g9 = q := by simpa [Value.ownBlock] using hq
 rw [← this]
 rcases hat with e | e
 ·exact .inl e
 ·right; rw [e]; exact Nat.le_refl _
def needL (op : Int) : Prop := op = 101 ∨ op = 102 ∨ op = 14 ∨ op = 15
theorem fetchR_bd {X : EmE} (hX : X.Ok) {r t : Int} (hr : 0 ≤ r ∧ r < X.n) (ht : 0 ≤ t ∧ t ≤ 13) : 0 ≤ fetchR X.a r t ∧ fetchR X.a r t ≤ 13 := by
 have := ofB hX hr
 unfold fetchR
 split <;> omega
set_option maxRecDepth 100000 in
set_option maxHeartbeats 8000000 in
theorem ins_rest (X : EmE) (hX : X.Ok) (w : World) (s : EmS) (v : EmV) (h : EmM X w s v) (x : VI) (hop : x.op ≠ 100) (hx : x.Ok X.w0) (hr : x.Rng X.n) (lv : Value) (lg lc n : Nat) (L : Nat → Bool) (hn : n = X.n) (hlv : needL x.op → lv = .slice (some ⟨lg, 0, none⟩) n lc ∧ LvM X w v lg lc L) (ht : s.tot + 300 ≤ 10000000) :
 Calls Tryz.prog 61 #[.pointer (some ⟨X.p, 0, none⟩), viV x, lv] w (EmP X v w (s.ins X.a X.n X.a.k.toNat x L)) := by
 obtain ⟨p, hp⟩ : ∃ p, p = X.p := ⟨_, rfl⟩
 rw [← hp]
 obtain ⟨xb, hxb⟩ : ∃ xb, xb = w.heap.size := ⟨_, rfl⟩
 have hba : Below w.heap.size w (w.alloc (.cells (viC x).toArray 48)) := (Below.refl _ _).alloc (Nat.le_refl _) _
 have hbx := Blk.new w (viC x) 48
 rw [← hxb] at hbx
 have hnx : ¬ v.S X.p xb := fun e => by have := (h.lt e).2; omega
 obtain ⟨sf, hsf⟩ : ∃ sf, sf = s.ins X.a X.n X.a.k.toNat x L := ⟨_, rfl⟩
 rw [← hsf]
 have HSF := Lib.hid hsf
 have HX2 := Lib.hid hX
 have HR := Lib.hid hr
 have HXO := Lib.hid hx
 have HM := Lib.hid (h.below hba)
 have HLV : Hid (needL x.op → lv = .slice (some ⟨lg, 0, none⟩) n lc ∧ LvM X (w.alloc (.cells (viC x).toArray 48)) v lg lc L) := fun hq => ⟨(hlv hq).1, (hlv hq).2.below hba⟩
 have HBX := Lib.hid hbx
 have HNX := Lib.hid hnx
 have HBA : Hid (∀ {s2 : EmS} {w2 : World}, EmSt X v (w.alloc (.cells (viC x).toArray 48)) s2 w2 → EmSt X v w s2 w2) := fun h => EmSt.ofBelow hba h
 have HP := Lib.hid hp
 have HN := Lib.hid hn
 have HT := Lib.hid ht
 have HOP := Lib.hid hop
 have hxo : (x.op == 100) = false := beq_eq_false_iff_ne.2 hop
 unfold viV
 unfold viC at HM HLV HBX HBA
 clear h hX hop hx hr hlv ht hn hba hbx hnx hsf hp
 go_enter Tryz.func61, Tryz.ntmps61
 go_upto_region 1 with fail
 rw [← hxb]
 clear hxb
 change Code.wp _ _ _ _ (w.alloc (.cells #[.int .i64 x.op, .int .i64 x.d, .int .i64 x.a, .int .i64 x.b, .int .i64 x.n, .slice x.sa x.sn x.sc] 48))
 change Hid (EmM X (w.alloc (.cells #[.int .i64 x.op, .int .i64 x.d, .int .i64 x.a, .int .i64 x.b, .int .i64 x.n, .slice x.sa x.sn x.sc] 48)) s v) at HM
 change Hid (needL x.op → _ ∧ LvM X (w.alloc (.cells #[.int .i64 x.op, .int .i64 x.d, .int .i64 x.a, .int .i64 x.b, .int .i64 x.n, .slice x.sa x.sn x.sc] 48)) v lg lc L) at HLV
 change Hid (Blk (w.alloc (.cells #[.int .i64 x.op, .int .i64 x.d, .int .i64 x.a, .int .i64 x.b, .int .i64 x.n, .slice x.sa x.sn x.sc] 48)) xb _ _) at HBX
 change Hid (∀ {s2 : EmS} {w2 : World}, EmSt X v (w.alloc (.cells #[.int .i64 x.op, .int .i64 x.d, .int .i64 x.a, .int .i64 x.b, .int .i64 x.n, .slice x.sa x.sn x.sc] 48)) s2 w2 → EmSt X v w s2 w2) at HBA
 generalize w.alloc (.cells #[.int .i64 x.op, .int .i64 x.d, .int .i64 x.a, .int .i64 x.b, .int .i64 x.n, .slice x.sa x.sn x.sc] 48) = w1 at HM HLV HBX HBA ⊢
 have x0 : w1.cell? ⟨xb, 0, none⟩ = some (.int .i64 x.op) := HBX.out.cell 0
 have x1 : w1.cell? ⟨xb, 1, none⟩ = some (.int .i64 x.d) := HBX.out.cell 1
 have x2 : w1.cell? ⟨xb, 2, none⟩ = some (.int .i64 x.a) := HBX.out.cell 2
 have x3 : w1.cell? ⟨xb, 3, none⟩ = some (.int .i64 x.b) := HBX.out.cell 3
 have x4 : w1.cell? ⟨xb, 4, none⟩ = some (.int .i64 x.n) := HBX.out.cell 4
 have x5 : w1.cell? ⟨xb, 5, none⟩ = some (.slice x.sa x.sn x.sc) := HBX.out.cell 5
 have hxl := HBX.out.lt
 by_cases hc1 : x.op = 101 ∨ x.op = 102
 ·have HE : Hid (sf = s.call X.a X.n X.a.k.toNat x L) := by rw [Hid, HSF.out]; unfold EmS.ins; rw [if_neg HOP.out, if_pos hc1]
  obtain ⟨rfl, hlv⟩ := HLV.out (hc1.elim .inl fun h => .inr (.inl h))
  have HC := Lib.hid (call_any X HX2.out w1 s v HM.out x HXO.out HR.out lg lc L hlv n HN.out (by have := HT.out; omega))
  rw [← HE.out, ← HP.out] at HC
  unfold viV at HC
  have hc : (x.op == 101) = true ∨ ((x.op == 101) = false ∧ (x.op == 102) = true) := by
   rcases hc1 with h | h
   ·left; simp [h]
   ·right; simp [h]
  clear hc1 hlv
  rcases hc with q1 | ⟨q1, q2⟩
  all_goals
   go_wp2_with fail
   refine HC.out.mono ?_
   rintro e w2 ⟨rfl, hs⟩
   go_wp2_with fail
   refine bodyPost_end (results_none rfl _ _ _) rfl ?_
   exact ⟨rfl, HBA.out hs⟩
 have q1 : (x.op == 101) = false := beq_eq_false_iff_ne.2 fun h => hc1 (.inl h)
 have q2 : (x.op == 102) = false := beq_eq_false_iff_ne.2 fun h => hc1 (.inr h)
 by_cases hc2 : x.op = 103
 ·as_aux_lemma =>
  have q3 : (x.op == 103) = true := beq_iff_eq.2 hc2
  obtain ⟨td, htd⟩ : ∃ td, td = targR X.a x.d := ⟨_, rfl⟩
  have HE : Hid (sf = ((s.refer x.n).put 11 td 0 0 0).save X.a x.d td) := by rw [Hid, HSF.out, htd]; unfold EmS.ins; rw [if_neg HOP.out, if_neg hc1, if_pos hc2]
  have HTG := Lib.hid (target_any X HX2.out w1 s v HM.out x.d HR.out.d)
  rw [← htd, ← HP.out] at HTG
  clear hc1 hc2 htd x2 x3 x5
  go_wp2_with fail
  refine HTG.out.mono ?_
  rintro e w2 ⟨rfl, hb2⟩
  have hg2 := (⟨HM.out, RestS.refl _ _, fun q hq => .inl hq⟩ : EmG X w1 v w1 s v).below hb2
  have HG2 := Lib.hid hg2
  have hx2 := hg2.blk HBX.out HNX.out
  have HX3 := Lib.hid hx2
  obtain ⟨ai, ci, ac, cc, am, cm, az, cz, aj, cj, e1, e2, e3, e4, e5⟩ := hg2.m.shapes
  have c0 : w2.cell? ⟨X.p, 8, none⟩ = some v.i := hg2.m.box.cell 8
  have c1 : w2.cell? ⟨X.p, 9, none⟩ = some v.c := hg2.m.box.cell 9
  have hpl := hg2.m.box.lt
  rw [e1] at c0
  rw [e2] at c1
  obtain ⟨n0, hn0⟩ : ∃ n0, n0 = s.items.length := ⟨_, rfl⟩
  obtain ⟨m0, hm0⟩ : ∃ n0, n0 = s.calls.length := ⟨_, rfl⟩
  have hn1 : n0 ≤ 10000000 := by have h2 := HT.out; unfold EmS.tot at h2; omega
  have hm1 : m0 ≤ 10000000 := by have h2 := HT.out; unfold EmS.tot at h2; omega
  have HN0 := Lib.hid hn0
  have HM0 := Lib.hid hm0
  rw [← hn0] at c0
  rw [← hm0] at c1
  rw [← HP.out] at c0 c1 hpl
  have HE2 := Lib.hid e2
  have z4 : w2.cell? ⟨xb, 4, none⟩ = some (.int .i64 x.n) := hx2.cell 4
  have hxl2 := hx2.lt
  have hrow := hg2.m.oc
  rw [e2, ← hm0] at hrow
  have HROW := Lib.hid hrow
  have hnew := (Blk.new w2 [.int .i64 (n0 : Int), .int .i64 x.n] 62).cell
  have HNEW := Lib.hid hnew
  have HBW : Hid (X.B ≤ w2.heap.size) := Nat.le_trans hg2.m.hp (Nat.le_of_lt hg2.m.box.lt)
  have r0 := fun z : AfterR (KeepE p xb) w2.drew => (World.cell?_of_block (a := ⟨p, 9, none⟩) z.rel.1).trans c1
  have r1 := fun z : AfterR (KeepE p xb) w2.drew => (World.cell?_of_block (a := ⟨xb, 4, none⟩) z.rel.2).trans z4
  have r2 := fun z : AfterR (KeepE p xb) w2.drew => (World.cell?_of_block (a := ⟨p, 8, none⟩) z.rel.1).trans c0
  obtain ⟨iv, hiv, hzv, hzs, hzy⟩ := info_parts Tryz.infoLC
  clear hrow hnew hg2 hx2 e1 e2 e3 e4 e5 hn0 hm0 HTG hb2 z4 c0 c1
  go_wp2_with fail
  refine wp_region_eagerRT (KeepE p xb) [(0, true), (1, true), (2, true), (3, true), (4, true), (5, true), (6, true), (7, true), (8, true), (9, true), (10, true), (11, true), (12, true), (13, true), (14, true), (15, false), (16, false), (17, true), (18, true), (19, true), (20, false)] (by kernel_rfl) (by kernel_rfl) ?_
  repeat (refine eagR_readT rfl ?_; go_big_quiet_step (fail); refine wpQuiet_nil ?_)
  clear r0 r1 r2
  refine eagR_doesT rfl rfl ?_
  intro K hK
  go_simp
  refine hK _ _ (fun _ => ⟨Below.heap_alloc _ _ _ hpl, Below.heap_alloc _ _ _ hxl2⟩) ?_
  clear hK K
  have hba : Below w2.heap.size w2 (w2.alloc (.cells #[.int .i64 (n0 : Int), .int .i64 x.n] 62)).drew := ((Below.refl _ _).alloc (Nat.le_refl _) _).drew
  have HNW : Hid (∀ i, (w2.alloc (.cells #[.int .i64 (n0 : Int), .int .i64 x.n] 62)).drew.cell? ⟨w2.heap.size, i, none⟩ = [Value.int .i64 (n0 : Int), .int .i64 x.n][i]?) := HNEW.out
  have HG3 := Lib.hid (HG2.out.below hba)
  have HBA3 := Lib.hid hba
  have hrow := ownG_below HROW.out hba
  have hxl3 : xb < (w2.alloc (.cells #[.int .i64 (n0 : Int), .int .i64 x.n] 62)).drew.heap.size := Nat.lt_of_lt_of_le hxl2 hba.size
  have HXBT : Hid (v.c.ownBlock ≠ some xb) := fun e => own_noBox HG2.out.m.oc HX3.out (by decide) e
  clear hba HNEW HROW
  generalize (w2.alloc (.cells #[.int .i64 (n0 : Int), .int .i64 x.n] 62)).drew = w3 at HNW HG3 HBA3 hrow hxl3 ⊢
  refine eagR_doesT rfl rfl ?_
  intro K hK
  refine wp_append_lies _ _ _ 36 rfl X.B 62 iv (.agg #[.int .i64 0, .int .i64 0]) 2 16 Tryz.underlying36 hiv hzv hzs hzy rfl (by decide) (Value.slice ac m0 cc) m0 _ rfl hrow ⟨w2.heap.size, 0, none⟩ 1 1 [.int .i64 (n0 : Int), .int .i64 x.n] rfl rfl ?_ ?_ (by decide) ?_ ?_ (Nat.le_trans HBW.out HBA3.out.size) w3.heap.size rfl ?_
  ·intro jj u hju; rw [Addr.add_lit, Nat.zero_add]; exact (HNW.out jj).trans hju
  ·intro u hu; simp at hu; rcases hu with rfl | rfl <;> rfl
  ·unfold maxLen; omega
  ·omega
  intro g9 cap9 w9 ho hg hat hlt9
  rw [HM0.out, ← HE2.out] at hg hat
  have hm3 := HG3.out.m
  have hpk : w9.heap[X.p]? = w3.heap[X.p]? := hg.block X.p hm3.box.lt fun e => own_noBox hm3.oc hm3.box (by decide) e.symm
  have hxk : w9.heap[xb]? = w3.heap[xb]? := hg.block xb hxl3 fun e => HXBT.out e.symm
  have hbx := hm3.box.of_heap hpk
  rw [← HP.out] at hpk
  have f0 := hbx.free 9
  have f0c : w9.cell? ⟨X.p, 9, none⟩ = some v.c := hbx.cell 9
  have hpl9 := hbx.lt
  rw [← HP.out] at f0 f0c hpl9
  have hs4 := HG3.out.next (refer_app HX2.out hm3 HM0.out HN0.out ho hg hat)
  obtain ⟨v4, hg4⟩ := hs4.split
  have HG4 := Lib.hid hg4
  have HO := Lib.hid (op_any X HX2.out _ _ v4 hg4.m (by rw [refer_tot]; have := HT.out; omega) 11 td 0 0 0)
  rw [← HP.out] at HO HG4
  clear ho hg hat hm3 hbx hs4 hg4 hrow
  go_simp
  refine hK _ _ (fun _ => ⟨hpk, hxk⟩) ?_
  clear hK K hpk hxk
  repeat (refine eagR_readT rfl ?_; go_big_quiet_step (fail); refine wpQuiet_nil ?_)
  refine eagR_freeT rfl rfl (by kernel_rfl) ?_
  intro K hK
  go_simp
  refine hK _ _ ?_
  clear hK K f0 f0c
  go_simp
  refine eagR_endT ?_
  go_wp2_with fail
  refine HO.out.mono ?_
  rintro e w5 ⟨rfl, hs⟩
  have hs5 := HG4.out.next hs
  obtain ⟨v5, hg5⟩ := hs5.split
  have HG5 := Lib.hid hg5
  have hx5 := hg5.blk HBX.out HNX.out
  have z1 : w5.cell? ⟨xb, 1, none⟩ = some (.int .i64 x.d) := hx5.cell 1
  have hxl5 := hx5.lt
  have HSV := Lib.hid (save_any X HX2.out w5 _ v5 hg5.m (by rw [put_tot, refer_tot]; have := HT.out; omega) x.d td HR.out.d)
  rw [← HP.out, ← HE.out] at HSV
  clear hs hs5 hg5 hx5 HO
  go_wp2_with fail
  refine HSV.out.mono ?_
  rintro e w6 ⟨rfl, hs⟩
  have hs6 := HBA.out (HG5.out.next hs)
  clear hs HSV
  go_wp2_with fail
  refine bodyPost_end (results_none rfl _ _ _) rfl ?_
  exact ⟨rfl, hs6⟩
 have q3 : (x.op == 103) = false := beq_eq_false_iff_ne.2 hc2
 by_cases hc3 : x.op = 13 ∨ x.op = 23
 ·as_aux_lemma =>
  obtain ⟨fa, hfa⟩ : ∃ td, td = fetchR X.a x.a 11 := ⟨_, rfl⟩
  obtain ⟨fb, hfb⟩ : ∃ td, td = fetchR X.a x.b 12 := ⟨_, rfl⟩
  have HE : Hid (sf = ((s.fetch X.a x.a 11).fetch X.a x.b 12).put x.op 0 fa fb x.n) := by rw [Hid, HSF.out, hfa, hfb]; unfold EmS.ins; rw [if_neg HOP.out, if_neg hc1, if_neg hc2, if_pos hc3]
  have HF1 := Lib.hid (fetch_any X HX2.out w1 s v HM.out (by have := HT.out; omega) x.a 11 HR.out.a)
  have ht1 := fetch_tot s X.a x.a 11
  have ht2 := fetch_tot (s.fetch X.a x.a 11) X.a x.b 12
  obtain ⟨s1, hs1⟩ : ∃ s1, s1 = s.fetch X.a x.a 11 := ⟨_, rfl⟩
  rw [← hs1] at HE HF1 ht1 ht2
  rw [← hfa, ← HP.out] at HF1
  have HT1 : Hid (s1.tot ≤ s.tot + 1) := ht1
  have HT2 : Hid ((s1.fetch X.a x.b 12).tot ≤ s.tot + 2) := by show _ ≤ _; omega
  have HFB := Lib.hid hfb
  have hc : (x.op == 13) = true ∨ ((x.op == 13) = false ∧ (x.op == 23) = true) := by
   rcases hc3 with h | h
   ·left; simp [h]
   ·right; simp [h]
  clear hc1 hc2 hc3 hfa hfb hs1 ht1 ht2 x5
  rcases hc with q4 | ⟨q4, q5⟩
  all_goals
   go_wp2_with fail
   refine HF1.out.mono ?_
   rintro e w2 ⟨rfl, hs⟩
   obtain ⟨v2, hg2⟩ := hs.split
   have hx2 := hg2.blk HBX.out HNX.out
   have HG2 := Lib.hid (hg2.below ((Below.refl _ w2).drew))
   have HX3 : Hid (Blk w2.drew xb 48 (viC x)) := hx2.drew
   have HNS : Hid (¬ v2.S X.p xb) := fun hq => (hg2.sub xb hq).elim HNX.out fun h => by omega
   have z0 : w2.cell? ⟨xb, 0, none⟩ = some (.int .i64 x.op) := hx2.cell 0
   have z3 : w2.cell? ⟨xb, 3, none⟩ = some (.int .i64 x.b) := hx2.cell 3
   have z4 : w2.cell? ⟨xb, 4, none⟩ = some (.int .i64 x.n) := hx2.cell 4
   have r0 := fun z : AfterR (KeepE xb xb) w2.drew => (World.cell?_of_block (a := ⟨xb, 0, none⟩) z.rel.1).trans z0
   have r3 := fun z : AfterR (KeepE xb xb) w2.drew => (World.cell?_of_block (a := ⟨xb, 3, none⟩) z.rel.1).trans z3
   have r4 := fun z : AfterR (KeepE xb xb) w2.drew => (World.cell?_of_block (a := ⟨xb, 4, none⟩) z.rel.1).trans z4
   have hxl2 := hx2.lt
   have HF2 := Lib.hid (fetch_any X HX2.out w2.drew s1 v2 HG2.out.m (by have := HT1.out; have := HT.out; omega) x.b 12 HR.out.b)
   rw [← HFB.out, ← HP.out] at HF2
   clear hs hg2 hx2 z0 z3 z4 HF1
   go_wp2_with fail
   refine wp_region_eagerRT (KeepE xb xb) [(0, true), (1, true), (2, true), (3, true), (4, true), (5, true), (6, true), (8, true), (9, true), (7, false), (10, false)] (by kernel_rfl) (by kernel_rfl) ?_
   repeat (refine eagR_readT rfl ?_; go_big_quiet_step (fail); refine wpQuiet_nil ?_)
   clear r0 r3 r4
   refine eagR_doesT rfl rfl ?_
   intro K hK
   go_simp
   refine HF2.out.mono ?_
   rintro e w3 ⟨rfl, hs⟩
   have hk3 : w3.heap[xb]? = w2.drew.heap[xb]? := by obtain ⟨_, _, r9, _⟩ := hs; exact r9.block xb hxl2 HNS.out
   have hs3 := HG2.out.next hs
   obtain ⟨v3, hg3⟩ := hs3.split
   have HG3 := Lib.hid hg3
   have HO := Lib.hid (op_any X HX2.out w3 _ v3 hg3.m (by have := HT2.out; have := HT.out; omega) x.op 0 fa fb x.n)
   rw [← HP.out, ← HE.out] at HO
   have hxl3 : xb < w3.heap.size := (hg3.blk HBX.out HNX.out).lt
   have HNS3 : Hid (¬ v3.S X.p xb) := fun hq => (hg3.sub xb hq).elim HNX.out fun h => by omega
   refine hK _ _ (fun _ => ⟨hk3, hk3⟩) ?_
   clear hK K hs hs3 hg3 hk3
   refine eagR_doesT rfl rfl ?_
   intro K hK
   go_simp
   refine HO.out.mono ?_
   rintro e w4 ⟨rfl, hs⟩
   have hk4 : w4.heap[xb]? = w3.heap[xb]? := by obtain ⟨_, _, r9, _⟩ := hs; exact r9.block xb hxl3 HNS3.out
   have hs4 := HBA.out (HG3.out.next hs)
   refine hK _ _ (fun _ => ⟨hk4, hk4⟩) ?_
   clear hK K hs hk4
   go_simp
   refine eagR_endT ?_
   go_wp2_with fail
   refine bodyPost_end (results_none rfl _ _ _) rfl ?_
   exact ⟨rfl, hs4⟩
 have q4 : (x.op == 13) = false := beq_eq_false_iff_ne.2 fun h => hc3 (.inl h)
 have q5 : (x.op == 23) = false := beq_eq_false_iff_ne.2 fun h => hc3 (.inr h)
 obtain ⟨fa, hfa⟩ : ∃ td, td = fetchR X.a x.a 11 := ⟨_, rfl⟩
 have hfb0 := fetchR_bd HX2.out HR.out.b (t := 12) (by omega)
 obtain ⟨fb, hfb⟩ : ∃ fb : Nat, (fb : Int) = fetchR X.a x.b 12 := ⟨(fetchR X.a x.b 12).toNat, by omega⟩
 have hfb13 : fb ≤ 13 := by omega
 obtain ⟨td, htd⟩ : ∃ td, td = targR X.a x.d := ⟨_, rfl⟩
 obtain ⟨s1, hs1⟩ : ∃ s1, s1 = s.fetch X.a x.a 11 := ⟨_, rfl⟩
 obtain ⟨s2, hs2⟩ : ∃ s2, s2 = s1.fetch X.a x.b 12 := ⟨_, rfl⟩
 obtain ⟨s3, hs3⟩ : ∃ s3, s3 = if x.op = 14 then s2.keep X.a X.n X.a.k.toNat s2.items.length false L 0 else if x.op = 15 then s2.keep X.a X.n X.a.k.toNat s2.items.length false L (1 <<< fb &&& ((1 <<< fb) ^^^ 1)) else s2 := ⟨_, rfl⟩
 have HE : Hid (sf = (s3.put x.op td fa (fb : Int) x.n).save X.a x.d td) := by
  rw [Hid, HSF.out, hs3, hs2, hs1, hfa, htd, hfb]
  unfold EmS.ins
  rw [if_neg HOP.out, if_neg hc1, if_neg hc2, if_neg hc3, ← hfb]
  rfl
 have HS3 := Lib.hid hs3
 have ht1 := fetch_tot s X.a x.a 11
 have ht2 := fetch_tot s1 X.a x.b 12
 rw [← hs1] at ht1
 rw [← hs2] at ht2
 have HT2 : Hid (s1.tot ≤ s.tot + 1 ∧ s2.tot ≤ s.tot + 2) := ⟨ht1, by omega⟩
 have ht3 : s3.tot ≤ s2.tot + 1 := by
  rw [hs3]
  split
  ·rw [keep_tot]; omega
  ·split
   ·rw [keep_tot]; omega
   ·omega
 have HT3 : Hid (s3.tot ≤ s.tot + 3) := by show _ ≤ _; omega
 have HF1 := Lib.hid (fetch_any X HX2.out w1.drew s v (HM.out.below ((Below.refl _ _).drew)) (by have := HT.out; omega) x.a 11 HR.out.a)
 rw [← hfa, ← hs1, ← HP.out] at HF1
 have HS2 := Lib.hid hs2
 have HFB := Lib.hid hfb
 have HTD := Lib.hid htd
 have r1 := fun z : AfterR (KeepE xb xb) w1.drew => (World.cell?_of_block (a := ⟨xb, 1, none⟩) z.rel.1).trans x1
 have r2 := fun z : AfterR (KeepE xb xb) w1.drew => (World.cell?_of_block (a := ⟨xb, 2, none⟩) z.rel.1).trans x2
 have r3 := fun z : AfterR (KeepE xb xb) w1.drew => (World.cell?_of_block (a := ⟨xb, 3, none⟩) z.rel.1).trans x3
 clear hfa hfb hfb0 htd hs1 hs2 hs3 ht1 ht2 ht3 hc1 hc2 hc3
 go_wp2_with fail
 refine wp_region_eagerRT (KeepE xb xb) [(0, true), (1, true), (2, true), (4, true), (5, true), (6, true), (8, true), (9, true), (10, true), (3, false), (7, false), (11, false), (12, true), (13, true), (14, true)] (by kernel_rfl) (by kernel_rfl) ?_
 repeat (refine eagR_readT rfl ?_; go_big_quiet_step (fail); refine wpQuiet_nil ?_)
 clear r1 r2 r3
 refine eagR_doesT rfl rfl ?_
 intro K hK
 go_simp
 refine HF1.out.mono ?_
 rintro e w2 ⟨rfl, hs⟩
 have hk2 : w2.heap[xb]? = w1.drew.heap[xb]? := by obtain ⟨_, _, r9, _⟩ := hs; exact r9.block xb hxl HNX.out
 have hg1 := (⟨HM.out, RestS.refl _ _, fun q hq => .inl hq⟩ : EmG X w1 v w1 s v).below ((Below.refl _ _).drew)
 obtain ⟨v2, hg2⟩ := (hg1.next hs).split
 have HG2 := Lib.hid hg2
 have hxl2 : xb < w2.heap.size := (hg2.blk HBX.out HNX.out).lt
 have HN2 : Hid (¬ v2.S X.p xb) := fun hq => (hg2.sub xb hq).elim HNX.out fun h => by omega
 have HF2 := Lib.hid (fetch_any X HX2.out w2 s1 v2 hg2.m (by have := HT2.out.1; have := HT.out; omega) x.b 12 HR.out.b)
 rw [← HFB.out, ← HS2.out, ← HP.out] at HF2
 refine hK _ _ (fun _ => ⟨hk2, hk2⟩) ?_
 clear hK K hs hg1 hg2 hk2 HF1
 refine eagR_doesT rfl rfl ?_
 intro K hK
 go_simp
 refine HF2.out.mono ?_
 rintro e w3 ⟨rfl, hs⟩
 have hk3 : w3.heap[xb]? = w2.heap[xb]? := by obtain ⟨_, _, r9, _⟩ := hs; exact r9.block xb hxl2 HN2.out
 obtain ⟨v3, hg3⟩ := (HG2.out.next hs).split
 have HG3 := Lib.hid hg3
 have hxl3 : xb < w3.heap.size := (hg3.blk HBX.out HNX.out).lt
 have HTG := Lib.hid (target_any X HX2.out w3 s2 v3 hg3.m x.d HR.out.d)
 rw [← HTD.out, ← HP.out] at HTG
 refine hK _ _ (fun _ => ⟨hk3, hk3⟩) ?_
 clear hK K hs hg3 hk3 HF2 HN2 HG2 hxl2
 refine eagR_doesT rfl rfl ?_
 intro K hK
 go_simp
 refine HTG.out.mono ?_
 rintro e w4 ⟨rfl, hb4⟩
 have hk4 : w4.heap[xb]? = w3.heap[xb]? := hb4.block xb hxl3
 have hg4 := HG3.out.below hb4
 have HG4 := Lib.hid hg4
 have hx4 := hg4.blk HBX.out HNX.out
 have z0 : w4.cell? ⟨xb, 0, none⟩ = some (.int .i64 x.op) := hx4.cell 0
 have hxl4 := hx4.lt
 refine hK _ _ (fun _ => ⟨hk4, hk4⟩) ?_
 clear hK K hb4 hg4 hk4 hx4 HTG HG3 hxl3 x0 x1 x2 x3 x4 x5 hxl
 repeat (refine eagR_readT rfl ?_; go_big_quiet_step (fail); refine wpQuiet_nil ?_)
 refine eagR_endT ?_
 obtain ⟨ai, ci, ac, cc, am, cm, az, cz, aj, cj, e1, e2, e3, e4, e5⟩ := HG4.out.m.shapes
 have c0 : w4.cell? ⟨X.p, 8, none⟩ = some v3.i := HG4.out.m.box.cell 8
 have hpl := HG4.out.m.box.lt
 rw [e1] at c0
 obtain ⟨n0, hn0⟩ : ∃ n0, n0 = s2.items.length := ⟨_, rfl⟩
 rw [← hn0] at c0 HS3
 rw [← HP.out] at c0 hpl
 clear e1 e2 e3 e4 e5 hn0
 go_simp
 go_step
 go_step
 go_cut [] from 27 (fun wx => EmSt X v w1 s3 wx)
 case first => as_aux_lemma =>
  have HKP : needL x.op → ∀ more : Nat, more < 65536 → ∀ wx, Below w4.heap.size w4 wx → Hid (Calls Tryz.prog 88 #[.pointer (some ⟨p, 0, none⟩), .int .i64 (n0 : Int), .bool false, lv, .int .i64 (more : Int)] wx (EmP X v3 wx (s2.keep X.a X.n X.a.k.toNat n0 false L more))) := fun hq more hm wx hbx => by
   obtain ⟨rfl, hl⟩ := HLV.out hq
   have hl4 := (hl.next HG4.out).below hbx
   rw [HP.out]
   exact keep_any X HX2.out wx s2 v3 (HG4.out.m.below hbx) n0 false lg lc n L (fun r hr => hl4.cell r (by have := HN.out; omega)) hl4.lt HN.out (by rw [HN.out]; exact hl4.le) more hm (by have := HT2.out.2; have := HT.out; omega)
  by_cases g1 : x.op = 14
  ·have q6 : (x.op == 14) = true := beq_iff_eq.2 g1
   have HK := HKP (.inr (.inr (.inl g1))) 0 (by omega) w4 (Below.refl _ _)
   rw [show ((0 : Nat) : Int) = 0 from rfl] at HK
   have HE3 : Hid (s3 = s2.keep X.a X.n X.a.k.toNat n0 false L 0) := by rw [Hid, HS3.out, if_pos g1]
   clear g1 HKP
   go_wp2_with fail
   refine HK.out.mono ?_
   rintro e w5 ⟨rfl, hs⟩
   have hs5 := HG4.out.next hs
   clear hs HK
   go_wp2_with fail
   go_meet
   rw [HE3.out]
   exact hs5
  ·have q6 : (x.op == 14) = false := beq_eq_false_iff_ne.2 g1
   by_cases g2 : x.op = 15
   ·have q7 : (x.op == 15) = true := beq_iff_eq.2 g2
    have hmb : (1 <<< fb &&& ((1 <<< fb) ^^^ 1)) < 65536 := Nat.lt_of_le_of_lt Nat.and_le_left (by rw [Nat.one_shiftLeft]; exact Nat.pow_lt_pow_right (by omega) (by omega : fb < 16))
    have HK := HKP (.inr (.inr (.inr g2))) _ hmb w4.drew ((Below.refl _ _).drew)
    rw [← andNot_bit ⟨fb, by omega⟩] at HK
    have HE3 : Hid (s3 = s2.keep X.a X.n X.a.k.toNat n0 false L (1 <<< fb &&& ((1 <<< fb) ^^^ 1))) := by rw [Hid, HS3.out, if_neg g1, if_pos g2]
    have HNP : Hid (∀ {s' : EmS} {w' : World}, EmSt X v3 w4.drew s' w' → EmSt X v w1 s' w') := fun h => (HG4.out.below ((Below.refl _ _).drew)).next h
    clear g1 g2 HKP hmb
    go_wp2_with fail
    go_still_tail 11, (by kernel_rfl)
    change wpList _ _ _ _ _ w4.drew
    generalize w4.drew = wy at HK HNP ⊢
    go_wp2_with fail
    refine HK.out.mono ?_
    rintro e w5 ⟨rfl, hs⟩
    have hs5 := HNP.out hs
    clear hs HK
    go_wp2_with fail
    go_meet
    rw [HE3.out]
    exact hs5
   ·have q7 : (x.op == 15) = false := beq_eq_false_iff_ne.2 g2
    have HE3 : Hid (s3 = s2) := by rw [Hid, HS3.out, if_neg g1, if_neg g2]
    clear g1 g2 HKP
    go_wp2_with fail
    go_meet
    rw [HE3.out]
    exact HG4.out.done
 case rest => as_aux_lemma =>
  clear z0 c0 hpl HG4
  obtain ⟨v5, hg5⟩ := hcut.split
  have HG5 := Lib.hid hg5
  have hx5 := hg5.blk HBX.out HNX.out
  have z0 : wc.cell? ⟨xb, 0, none⟩ = some (.int .i64 x.op) := hx5.cell 0
  have z4 : wc.cell? ⟨xb, 4, none⟩ = some (.int .i64 x.n) := hx5.cell 4
  have hxl5 := hx5.lt
  have HO := Lib.hid (op_any X HX2.out wc s3 v5 hg5.m (by have := HT3.out; have := HT.out; omega) x.op td fa (fb : Int) x.n)
  rw [← HP.out] at HO
  clear hcut hg5 hx5
  go_wp2_with fail
  refine HO.out.mono ?_
  rintro e w6 ⟨rfl, hs⟩
  obtain ⟨v6, hg6⟩ := (HG5.out.next hs).split
  have HG6 := Lib.hid hg6
  have hx6 := hg6.blk HBX.out HNX.out
  have z1 : w6.cell? ⟨xb, 1, none⟩ = some (.int .i64 x.d) := hx6.cell 1
  have hxl6 := hx6.lt
  have HSV := Lib.hid (save_any X HX2.out w6 _ v6 hg6.m (by rw [put_tot]; have := HT3.out; have := HT.out; omega) x.d td HR.out.d)
  rw [← HP.out, ← HE.out] at HSV
  clear hs hg6 hx6 HO HG5 z0 z4
  go_wp2_with fail
  refine HSV.out.mono ?_
  rintro e w7 ⟨rfl, hs⟩
  have hs7 := HBA.out (HG6.out.next hs)
  clear hs HSV
  go_wp2_with fail
  refine bodyPost_end (results_none rfl _ _ _) rfl ?_
  exact ⟨rfl, hs7⟩
end

section
/-- an end whose registers there are -/
structure VE.Rng (x : VE) (n : Nat) : Prop where
 a : 0 ≤ x.a ∧ x.a < n
 b : 0 ≤ x.b ∧ x.b < n
 t1 : x.kind ≠ 0 → x.kind ≠ 3 → 1 ≤ x.to.length
 t2 : x.kind = 2 → 2 ≤ x.to.length
set_option maxRecDepth 100000 in
set_option maxHeartbeats 8000000 in
theorem fin_any (X : EmE) (hX : X.Ok) (w : World) (s : EmS) (v : EmV) (h : EmM X w s v) (x : VE) (hx : x.Ok X.w0) (hr : x.Rng X.n) (i : Nat) (hi : i ≤ 100000) (ht : s.tot + 100 ≤ 10000000) :
 Calls Tryz.prog 62 #[.pointer (some ⟨X.p, 0, none⟩), .int .i64 (i : Int), veV x] w (EmP X v w (s.fin X.a (X.a.k + 1) i x)) := by
 obtain ⟨p, hp⟩ : ∃ p, p = X.p := ⟨_, rfl⟩
 rw [← hp]
 obtain ⟨xb, hxb⟩ : ∃ xb, xb = w.heap.size := ⟨_, rfl⟩
 have hba : Below w.heap.size w (w.alloc (.cells (veC x).toArray 44)) := (Below.refl _ _).alloc (Nat.le_refl _) _
 have hbx := Blk.new w (veC x) 44
 rw [← hxb] at hbx
 have hnx : ¬ v.S X.p xb := fun e => by have := (h.lt e).2; omega
 obtain ⟨K, hK⟩ : ∃ K, K = X.a.k := ⟨_, rfl⟩
 have hkb := hX.k
 rw [← hK] at hkb ⊢
 have hk1 := hkb.1
 have hk2 := hkb.2
 obtain ⟨sf, hsf⟩ : ∃ sf, sf = s.fin X.a (K + 1) i x := ⟨_, rfl⟩
 rw [← hsf]
 have HSF := Lib.hid hsf
 have HX2 := Lib.hid hX
 have HR := Lib.hid hr
 have HM := Lib.hid (h.below hba)
 have HBX := Lib.hid hbx
 have HNX := Lib.hid hnx
 have HBA : Hid (∀ {s2 : EmS} {w2 : World}, EmSt X v (w.alloc (.cells (veC x).toArray 44)) s2 w2 → EmSt X v w s2 w2) := fun h => EmSt.ofBelow hba h
 have HP := Lib.hid hp
 have HT := Lib.hid ht
 have HTO : Hid (1 ≤ x.to.length → ∃ g o, x.sa = some ⟨g, o, none⟩ ∧ g < X.w0.heap.size ∧ ∀ wx, Below X.w0.heap.size X.w0 wx → ∀ j, j < x.to.length → wx.cell? ⟨g, o + j, none⟩ = some (.int .i64 (x.to.getD j 0))) := fun h1 => by
  have hl : x.to.length = x.sn := by simpa using hx.came.count
  obtain ⟨g, o, hs, hg, hc⟩ := hx.came.ints (by omega)
  exact ⟨g, o, hs, hg, fun wx hb j hj => by rw [hb.cell (p := ⟨g, o + j, none⟩) hg, hc j hj, List.getD_eq_getElem?_getD, List.getElem?_eq_getElem hj]; rfl⟩
 have hsn : x.to.length = x.sn := by simpa using hx.came.count
 have hsl := hx.came.le
 have hsm := hx.came.max
 have HSN := Lib.hid hsn
 have HCE : Hid (∀ wx s' v', EmM X wx s' v' → wx.cell? ⟨X.p, 11, none⟩ = some (.int .i64 (K + 1)) ∧ X.p < wx.heap.size) := fun wx s' v' h => ⟨by rw [hK]; exact h.box.cell 11, h.box.lt⟩
 rw [← hp] at HCE
 unfold veV
 unfold veC at HM HBX HBA
 clear h hX hx hr ht hba hbx hnx hsf hp hK hkb hsn
 go_enter Tryz.func62, Tryz.ntmps62
 go_upto_region 1 with fail
 rw [← hxb]
 clear hxb
 change Code.wp _ _ _ _ (w.alloc (.cells #[.int .i64 x.kind, .int .i64 x.op, .int .i64 x.a, .int .i64 x.b, .int .i64 x.n, .slice x.sa x.sn x.sc] 44))
 change Hid (EmM X (w.alloc (.cells #[.int .i64 x.kind, .int .i64 x.op, .int .i64 x.a, .int .i64 x.b, .int .i64 x.n, .slice x.sa x.sn x.sc] 44)) s v) at HM
 change Hid (Blk (w.alloc (.cells #[.int .i64 x.kind, .int .i64 x.op, .int .i64 x.a, .int .i64 x.b, .int .i64 x.n, .slice x.sa x.sn x.sc] 44)) xb _ _) at HBX
 change Hid (∀ {s2 : EmS} {w2 : World}, EmSt X v (w.alloc (.cells #[.int .i64 x.kind, .int .i64 x.op, .int .i64 x.a, .int .i64 x.b, .int .i64 x.n, .slice x.sa x.sn x.sc] 44)) s2 w2 → EmSt X v w s2 w2) at HBA
 generalize w.alloc (.cells #[.int .i64 x.kind, .int .i64 x.op, .int .i64 x.a, .int .i64 x.b, .int .i64 x.n, .slice x.sa x.sn x.sc] 44) = w1 at HM HBX HBA ⊢
 have x0 : w1.cell? ⟨xb, 0, none⟩ = some (.int .i64 x.kind) := HBX.out.cell 0
 have x2 : w1.cell? ⟨xb, 2, none⟩ = some (.int .i64 x.a) := HBX.out.cell 2
 have x4 : w1.cell? ⟨xb, 4, none⟩ = some (.int .i64 x.n) := HBX.out.cell 4
 have x5 : w1.cell? ⟨xb, 5, none⟩ = some (.slice x.sa x.sn x.sc) := HBX.out.cell 5
 have hxl := HBX.out.lt
 have HG1 : Hid (EmG X w1 v w1 s v) := ⟨HM.out, RestS.refl _ _, fun q hq => .inl hq⟩
 by_cases k0 : x.kind = 0
 ·as_aux_lemma =>
  have q0 : (x.kind == 0) = true := beq_iff_eq.2 k0
  obtain ⟨fa, hfa⟩ : ∃ td, td = fetchR X.a x.a 1 := ⟨_, rfl⟩
  have HF := Lib.hid (fetch_any X HX2.out w1 s v HM.out (by have := HT.out; omega) x.a 1 HR.out.a)
  rw [← hfa, ← HP.out] at HF
  have ht1 := fetch_tot s X.a x.a 1
  obtain ⟨s1, hs1⟩ : ∃ s1, s1 = s.fetch X.a x.a 1 := ⟨_, rfl⟩
  obtain ⟨s2, hs2⟩ : ∃ s2, s2 = if fa = 1 then s1 else s1.put 8 1 fa 0 0 := ⟨_, rfl⟩
  rw [← hs1] at ht1 HF
  have ht2 : s2.tot ≤ s.tot + 2 := by
   rw [hs2]; split
   ·omega
   ·rw [put_tot]; omega
  have HE : Hid (sf = ((s2.load 15 K).put 8 14 14 0 (2 * (K + 1))).put 22 0 0 0 0) := by
   rw [Hid, HSF.out, hs2, hs1, hfa]; unfold EmS.fin; rw [if_pos k0, show K + 1 - 1 = K by omega]
  have HS2 := Lib.hid hs2
  have HT1 := Lib.hid ht1
  have HT2 := Lib.hid ht2
  clear k0 hfa hs1 hs2 ht1 ht2 x4 x5
  go_upto_region 5 with fail
  go_wp2_with fail
  refine HF.out.mono ?_
  rintro e w2 ⟨rfl, hs⟩
  obtain ⟨v2, hg2⟩ := (HG1.out.next hs).split
  have HG2 := Lib.hid hg2
  clear hs hg2 HF
  go_upto_if 30 with fail
  go_cut [] from 29 (fun wx => EmSt X v w1 s2 wx)
  case first =>
   by_cases h1 : fa = 1
   ·have q1 : (fa != 1) = false := by simp [h1]
    have HE2 : Hid (s2 = s1) := by rw [Hid, HS2.out, if_pos h1]
    clear h1
    go_wp2_with fail
    go_meet
    rw [HE2.out]
    exact HG2.out.done
   ·have q1 : (fa != 1) = true := by simp [h1]
    have HE2 : Hid (s2 = s1.put 8 1 fa 0 0) := by rw [Hid, HS2.out, if_neg h1]
    have HO := Lib.hid (op_any X HX2.out w2 s1 v2 HG2.out.m (by have := HT1.out; have := HT.out; omega) 8 1 fa 0 0)
    rw [← HP.out] at HO
    clear h1
    go_wp2_with fail
    refine HO.out.mono ?_
    rintro e w3 ⟨rfl, hs⟩
    have hs3 := HG2.out.next hs
    clear hs HO
    go_wp2_with fail
    go_meet
    rw [HE2.out]
    exact hs3
  case rest =>
   obtain ⟨v3, hg3⟩ := hcut.split
   have HG3 := Lib.hid hg3
   obtain ⟨c11, hpl⟩ := HCE.out wc _ _ hg3.m
   have HL := Lib.hid (load_any X HX2.out wc s2 v3 hg3.m (by have := HT2.out; have := HT.out; omega) 15 K (by omega))
   rw [← HP.out] at HL
   clear hcut hg3
   go_wp2_with fail
   refine HL.out.mono ?_
   rintro e w4 ⟨rfl, hs⟩
   obtain ⟨v4, hg4⟩ := (HG3.out.next hs).split
   have HG4 := Lib.hid hg4
   obtain ⟨c12, hpl4⟩ := HCE.out w4 _ _ hg4.m
   have HO := Lib.hid (op_any X HX2.out w4 _ v4 hg4.m (by rw [load_tot]; have := HT2.out; have := HT.out; omega) 8 14 14 0 (2 * (K + 1)))
   rw [← HP.out] at HO
   clear hs hg4 HL c11
   go_wp2_with fail
   refine HO.out.mono ?_
   rintro e w5 ⟨rfl, hs⟩
   obtain ⟨v5, hg5⟩ := (HG4.out.next hs).split
   have HG5 := Lib.hid hg5
   have HO2 := Lib.hid (op_any X HX2.out w5 _ v5 hg5.m (by rw [put_tot, load_tot]; have := HT2.out; have := HT.out; omega) 22 0 0 0 0)
   rw [← HP.out, ← HE.out] at HO2
   clear hs hg5 HO c12
   go_wp2_with fail
   refine HO2.out.mono ?_
   rintro e w6 ⟨rfl, hs⟩
   have hs6 := HBA.out (HG5.out.next hs)
   clear hs HO2
   go_wp2_with fail
   refine bodyPost_end (results_none rfl _ _ _) rfl ?_
   exact ⟨rfl, hs6⟩
 have q0 : (x.kind == 0) = false := beq_eq_false_iff_ne.2 k0
 by_cases k3 : x.kind = 3
 ·as_aux_lemma =>
  have q3 : (x.kind == 3) = true := beq_iff_eq.2 k3
  have HE : Hid (sf = s.put 24 0 0 0 x.n) := by rw [Hid, HSF.out]; unfold EmS.fin; rw [if_neg k0, if_pos k3]
  have HO := Lib.hid (op_any X HX2.out w1 s v HM.out (by have := HT.out; omega) 24 0 0 0 x.n)
  rw [← HP.out, ← HE.out] at HO
  clear k0 k3
  go_wp2_with fail
  refine HO.out.mono ?_
  rintro e w6 ⟨rfl, hs⟩
  have hs6 := HBA.out hs
  clear hs HO
  go_wp2_with fail
  refine bodyPost_end (results_none rfl _ _ _) rfl ?_
  exact ⟨rfl, hs6⟩
 have q3 : (x.kind == 3) = false := beq_eq_false_iff_ne.2 k3
 have hl1 := HR.out.t1 k0 k3
 by_cases k2 : x.kind = 2
 ·as_aux_lemma =>
  have q2 : (x.kind == 2) = true := beq_iff_eq.2 k2
  have hl2 := HR.out.t2 k2
  obtain ⟨fa, hfa⟩ : ∃ td, td = fetchR X.a x.a 11 := ⟨_, rfl⟩
  obtain ⟨fb, hfb⟩ : ∃ td, td = fetchR X.a x.b 12 := ⟨_, rfl⟩
  obtain ⟨t0, ht0⟩ : ∃ t, t = x.to.getD 0 0 := ⟨_, rfl⟩
  obtain ⟨t1, ht1⟩ : ∃ t, t = x.to.getD 1 0 := ⟨_, rfl⟩
  obtain ⟨s1, hs1⟩ : ∃ s1, s1 = s.fetch X.a x.a 11 := ⟨_, rfl⟩
  obtain ⟨s2, hs2⟩ : ∃ s2, s2 = s1.fetch X.a x.b 12 := ⟨_, rfl⟩
  obtain ⟨s3, hs3⟩ : ∃ s3, s3 = s2.jump x.op fa fb t0 := ⟨_, rfl⟩
  have HE : Hid (sf = if t1 = (i : Int) + 1 then s3 else s3.jump 19 0 0 t1) := by rw [Hid, HSF.out, hs3, hs2, hs1, hfa, hfb, ht0, ht1]; unfold EmS.fin; rw [if_neg k0, if_neg k3, if_pos k2]
  obtain ⟨g, o, hsa, hg, hc⟩ := HTO.out hl1
  have hgn : ∀ {w' : World} {s' : EmS} {v' : EmV}, EmM X w' s' v' → ¬ v'.S X.p g ∧ g < w'.heap.size := fun h => ⟨fun hq => by have h1 := (h.lt hq).1; have h2 := HX2.out.hB; omega, Nat.lt_of_lt_of_le hg h.be.size⟩
  have HGN : Hid (∀ {w' : World} {s' : EmS} {v' : EmV}, EmM X w' s' v' → ¬ v'.S X.p g ∧ g < w'.heap.size) := hgn
  have hc0 := fun wx hb => hc wx hb 0 (by omega)
  have hc1 := fun wx hb => hc wx hb 1 (by omega)
  rw [← ht0, Nat.add_zero] at hc0
  rw [← ht1] at hc1
  have HC0 := Lib.hid hc0
  have HC1 := Lib.hid hc1
  have hs12 : 2 ≤ x.sn := by have := HSN.out; omega
  rw [hsa] at HBX
  have HF1 := Lib.hid (fetch_any X HX2.out w1 s v HM.out (by have := HT.out; omega) x.a 11 HR.out.a)
  have hq1 := fetch_tot s X.a x.a 11
  have hq2 := fetch_tot s1 X.a x.b 12
  rw [← hs1] at HF1 hq1
  rw [← hs2] at hq2
  rw [← hfa, ← HP.out] at HF1
  have HT1 : Hid (s1.tot ≤ s.tot + 1) := hq1
  have HT2 : Hid (s2.tot ≤ s.tot + 2) := by show _ ≤ _; omega
  have HT3 : Hid (s3.tot ≤ s.tot + 4) := by show _ ≤ _; rw [hs3, jump_tot]; omega
  have HS2 := Lib.hid hs2
  have HS3 := Lib.hid hs3
  have HFB := Lib.hid hfb
  clear k0 k2 k3 hfa hfb ht0 ht1 hs1 hs2 hs3 hq1 hq2 hsa hg hc hgn hc0 hc1 hl1 hl2 x4 x5
  go_wp2_with fail
  refine HF1.out.mono ?_
  rintro e w2 ⟨rfl, hs⟩
  obtain ⟨v2, hg2⟩ := (HG1.out.next hs).split
  have hx2 := hg2.blk HBX.out HNX.out
  have z1 : w2.cell? ⟨xb, 1, none⟩ = some (.int .i64 x.op) := hx2.cell 1
  have z3 : w2.cell? ⟨xb, 3, none⟩ = some (.int .i64 x.b) := hx2.cell 3
  have z5 : w2.cell? ⟨xb, 5, none⟩ = some (.slice (some ⟨g, o, none⟩) x.sn x.sc) := hx2.cell 5
  have z6 := HC0.out w2 hg2.m.be
  have r1 := fun z : AfterR (KeepE xb g) w2.drew => (World.cell?_of_block (a := ⟨xb, 1, none⟩) z.rel.1).trans z1
  have r3 := fun z : AfterR (KeepE xb g) w2.drew => (World.cell?_of_block (a := ⟨xb, 3, none⟩) z.rel.1).trans z3
  have r5 := fun z : AfterR (KeepE xb g) w2.drew => (World.cell?_of_block (a := ⟨xb, 5, none⟩) z.rel.1).trans z5
  have r6 := fun z : AfterR (KeepE xb g) w2.drew => (World.cell?_of_block (a := ⟨g, o, none⟩) z.rel.2).trans z6
  have hxl2 := hx2.lt
  have HG2 := Lib.hid (hg2.below ((Below.refl _ w2).drew))
  obtain ⟨hgn2, hgl2⟩ := HGN.out HG2.out.m
  have HNG2 := Lib.hid hgn2
  have HNS : Hid (¬ v2.S X.p xb) := fun hq => (hg2.sub xb hq).elim HNX.out fun h => by omega
  have HF2 := Lib.hid (fetch_any X HX2.out w2.drew s1 v2 HG2.out.m (by have := HT1.out; have := HT.out; omega) x.b 12 HR.out.b)
  rw [← HFB.out, ← HS2.out, ← HP.out] at HF2
  clear hs hg2 hx2 z1 z3 z5 z6 HF1 hgn2
  go_wp2_with fail
  refine wp_region_eagerRT (KeepE xb g) [(0, true), (1, true), (2, true), (3, true), (4, true), (5, true), (6, true), (8, true), (9, true), (10, true), (11, true), (7, false), (12, false)] (by kernel_rfl) (by kernel_rfl) ?_
  repeat (refine eagR_readT rfl ?_; go_big_quiet_step (fail); refine wpQuiet_nil ?_)
  clear r1 r3 r5 r6
  refine eagR_doesT rfl rfl ?_
  intro K hK
  go_simp
  refine HF2.out.mono ?_
  rintro e w3 ⟨rfl, hs⟩
  have hk3 : KeepE xb g w2.drew w3 := by obtain ⟨_, _, r9, _⟩ := hs; exact ⟨r9.block xb hxl2 HNS.out, r9.block g hgl2 HNG2.out⟩
  obtain ⟨v3, hg3⟩ := (HG2.out.next hs).split
  have HG3 := Lib.hid hg3
  have hxl3 : xb < w3.heap.size := (hg3.blk HBX.out HNX.out).lt
  have HNS3 : Hid (¬ v3.S X.p xb) := fun hq => (hg3.sub xb hq).elim HNX.out fun h => by omega
  obtain ⟨hgn3, hgl3⟩ := HGN.out hg3.m
  have HNG3 := Lib.hid hgn3
  have HJ := Lib.hid (jump_any X HX2.out w3 s2 v3 hg3.m (by have := HT2.out; have := HT.out; omega) x.op fa fb t0)
  rw [← HP.out, ← HS3.out] at HJ
  refine hK _ _ (fun _ => hk3) ?_
  clear hK K hs hg3 hk3 hgn3 HF2 HG2 HNS HNG2
  refine eagR_doesT rfl rfl ?_
  intro K hK
  go_simp
  refine HJ.out.mono ?_
  rintro e w4 ⟨rfl, hs⟩
  have hk4 : KeepE xb g w3 w4 := by obtain ⟨_, _, r9, _⟩ := hs; exact ⟨r9.block xb hxl3 HNS3.out, r9.block g hgl3 HNG3.out⟩
  obtain ⟨v4, hg4⟩ := (HG3.out.next hs).split
  have HG4 := Lib.hid hg4
  have hx4 := hg4.blk HBX.out HNX.out
  have z5 : w4.cell? ⟨xb, 5, none⟩ = some (.slice (some ⟨g, o, none⟩) x.sn x.sc) := hx4.cell 5
  have z6 := HC1.out w4 hg4.m.be
  have hxl4 := hx4.lt
  have hgl4 := (HGN.out hg4.m).2
  have HJ2 := Lib.hid (jump_any X HX2.out w4 s3 v4 hg4.m (by have := HT3.out; have := HT.out; omega) 19 0 0 t1)
  rw [← HP.out] at HJ2
  refine hK _ _ (fun _ => hk4) ?_
  clear hK K hs hg4 hk4 hx4 HJ HG3
  go_simp
  refine eagR_endT ?_
  by_cases he : t1 = (i : Int) + 1
  ·have q4 : (t1 != (i : Int) + 1) = false := by simp [he]
   rw [if_pos he] at HE
   clear he
   go_wp2_with fail
   refine bodyPost_end (results_none rfl _ _ _) rfl ?_
   rw [HE.out]
   exact ⟨rfl, HBA.out HG4.out.done⟩
  ·have q4 : (t1 != (i : Int) + 1) = true := by simp [he]
   rw [if_neg he] at HE
   clear he
   go_wp2_with fail
   refine HJ2.out.mono ?_
   rintro e w5 ⟨rfl, hs⟩
   have hs5 := HBA.out (HG4.out.next hs)
   clear hs HJ2
   go_wp2_with fail
   refine bodyPost_end (results_none rfl _ _ _) rfl ?_
   rw [HE.out]
   exact ⟨rfl, hs5⟩
 ·as_aux_lemma =>
  have q2 : (x.kind == 2) = false := beq_eq_false_iff_ne.2 k2
  obtain ⟨t0, ht0⟩ : ∃ t, t = x.to.getD 0 0 := ⟨_, rfl⟩
  have HE : Hid (sf = if t0 = (i : Int) + 1 then s else s.jump 19 0 0 t0) := by rw [Hid, HSF.out, ht0]; unfold EmS.fin; rw [if_neg k0, if_neg k3, if_neg k2]
  obtain ⟨g, o, hsa, hg, hc⟩ := HTO.out hl1
  have z6 := hc w1 HM.out.be 0 (by omega)
  rw [← ht0, Nat.add_zero] at z6
  have hgl : g < w1.heap.size := Nat.lt_of_lt_of_le hg HM.out.be.size
  have hs11 : 1 ≤ x.sn := by have := HSN.out; omega
  rw [hsa] at x5
  have HJ2 := Lib.hid (jump_any X HX2.out w1 s v HM.out (by have := HT.out; omega) 19 0 0 t0)
  rw [← HP.out] at HJ2
  clear k0 k2 k3 ht0 hc hsa hg hl1
  by_cases he : t0 = (i : Int) + 1
  ·have q4 : (t0 != (i : Int) + 1) = false := by simp [he]
   rw [if_pos he] at HE
   clear he
   go_wp2_with fail
   refine bodyPost_end (results_none rfl _ _ _) rfl ?_
   rw [HE.out]
   exact ⟨rfl, HBA.out HG1.out.done⟩
  ·have q4 : (t0 != (i : Int) + 1) = true := by simp [he]
   rw [if_neg he] at HE
   clear he
   go_wp2_with fail
   refine HJ2.out.mono ?_
   rintro e w5 ⟨rfl, hs⟩
   have hs5 := HBA.out hs
   clear hs HJ2
   go_wp2_with fail
   refine bodyPost_end (results_none rfl _ _ _) rfl ?_
   rw [HE.out]
   exact ⟨rfl, hs5⟩
end

section
def mapO (op : Int) : Bool := callB op || op == 14 || op == 15
def VB.at (b : VB) (k : Nat) : VI := b.ins.getD k ⟨0, 0, 0, 0, 0, none, 0, 0, []⟩
theorem VB.at_eq {b : VB} {k : Nat} (h : k < b.ins.length) : b.at k = b.ins[k] := by unfold VB.at; rw [List.getD_eq_getElem?_getD, List.getElem?_eq_getElem h]; rfl
/-- what is live ahead of the instructions from k on -/
def lvB (b : VB) (l : Nat → Bool) (k : Nat) : Nat → Bool := (b.ins.drop k).foldr insF (markF (endV b.e) l)
/-- what is live behind instruction k, without what it defines -/
def afB (b : VB) (l : Nat → Bool) (k r : Nat) : Bool := if (r : Int) = defV (b.at k) then false else lvB b l (k + 1) r
theorem lvB_step {b : VB} {l : Nat → Bool} {k : Nat} (hk : k < b.ins.length) : lvB b l k = markF (usesV b.ins[k]) (afB b l k) := by
 unfold lvB
 rw [List.drop_eq_getElem_cons hk]
 funext r
 show insF b.ins[k] _ r = _
 unfold insF markF afB
 rw [VB.at_eq hk]
 rfl
theorem lvB_end (b : VB) (l : Nat → Bool) {k : Nat} (hk : b.ins.length ≤ k) : lvB b l k = markF (endV b.e) l := by unfold lvB; rw [List.drop_of_length_le hk]; rfl
/-- the sets that are kept for the instructions -/
structure AftM (n m : Nat) (b : VB) (l : Nat → Bool) (B : Nat) (w : World) (ab k : Nat) (cl cc : Nat → Nat) : Prop where
 blk : Blk w ab 51 (rowL m fun j => if k ≤ j ∧ mapO (b.at j).op = true then .slice (some ⟨cl j, 0, none⟩) n (cc j) else .slice none 0 0)
 row : ∀ j, k ≤ j → j < m → mapO (b.at j).op = true → GRow w (cl j) n (cc j) (afB b l j) ∧ B ≤ cl j
section
variable {n m : Nat} {b : VB} {l : Nat → Bool} {B : Nat} {w w' : World} {ab k : Nat} {cl cc : Nat → Nat}
theorem AftM.kept (h : AftM n m b l B w ab k cl cc) (h1 : w'.heap[ab]? = w.heap[ab]?) (h2 : ∀ q, B ≤ q → q < w.heap.size → (∃ n c l, GRow w q n c l) → w'.heap[q]? = w.heap[q]?) : AftM n m b l B w' ab k cl cc :=
 ⟨h.blk.of_heap h1, fun j hj hm ho => ⟨(h.row j hj hm ho).1.of_heap (h2 _ (h.row j hj hm ho).2 (h.row j hj hm ho).1.lt ⟨_, _, _, (h.row j hj hm ho).1⟩), (h.row j hj hm ho).2⟩⟩
theorem AftM.below (h : AftM n m b l B w ab k cl cc) (hb : Below w.heap.size w w') : AftM n m b l B w' ab k cl cc :=
 h.kept (hb.block ab h.blk.lt) fun q _ hq _ => hb.block q hq
theorem aft_key {k j : Nat} (ho : mapO (b.at k).op = false) (hj : k ≤ j) (hm : mapO (b.at j).op = true) : k + 1 ≤ j := by
 rcases Nat.lt_or_ge k j with h | h
 ·omega
 ·have : j = k := by omega
  rw [this, ho] at hm; exact absurd hm (by decide)
/-- nothing is kept for instruction k -/
theorem AftM.skip (h : AftM n m b l B w ab (k + 1) cl cc) (ho : mapO (b.at k).op = false) : AftM n m b l B w ab k cl cc := by
 refine ⟨Blk.rowCongr h.blk fun j _ => ?_, fun j hj hm ho' => h.row j (aft_key ho hj ho') hm ho'⟩
 by_cases h1 : k + 1 ≤ j ∧ mapO (b.at j).op = true
 ·rw [if_pos h1, if_pos ⟨by omega, h1.2⟩]
 ·rw [if_neg h1, if_neg fun h2 => h1 ⟨aft_key ho h2.1 h2.2, h2.2⟩]
/-- a clone is kept for instruction k -/
theorem AftM.put (h : AftM n m b l B w ab (k + 1) cl cc) (ho : mapO (b.at k).op = true) {g c : Nat} (hg : GRow w g n c (afB b l k)) (hB : B ≤ g) :
  AftM n m b l B (w.setCell ⟨ab, k, none⟩ (.slice (some ⟨g, 0, none⟩) n c)) ab k (fun j => if j = k then g else cl j) (fun j => if j = k then c else cc j) := by
 refine ⟨Blk.rowCongr (Blk.rowSet h.blk k _) fun j _ => ?_, fun j hj hm ho' => ?_⟩
 ·by_cases e : j = k
  ·rw [if_pos e, if_pos ⟨by omega, by rw [e]; exact ho⟩, if_pos e, if_pos e]
  ·rw [if_neg e, if_neg e, if_neg e]
   by_cases h1 : k + 1 ≤ j ∧ mapO (b.at j).op = true
   ·rw [if_pos h1, if_pos ⟨by omega, h1.2⟩]
   ·rw [if_neg h1, if_neg fun h2 => h1 ⟨by omega, h2.2⟩]
 ·by_cases e : j = k
  ·subst e
   simp only [if_pos]
   exact ⟨hg.setOther (p := ⟨ab, j, none⟩) (hg.ne h.blk) _, hB⟩
  ·simp only [if_neg e]
   obtain ⟨a1, a2⟩ := h.row j (by omega) hm ho'
   exact ⟨a1.setOther (p := ⟨ab, k, none⟩) (a1.ne h.blk) _, a2⟩
end
/-- block's memory while it goes back: the emitter, the row of what is live, the block, the sets kept -/
structure BkM (X : EmE) (b : VB) (l : Nat → Bool) (w : World) (s : EmS) (v : EmV) (lg bb ab m : Nat) (wr : World) (L : Nat → Bool) (k : Nat) (cl cc : Nat → Nat) : Prop where
 rest : RestS (fun q => q = lg) w wr
 live : BRow wr lg X.n L
 box : Blk wr bb 46 (vbC b)
 aft : AftM X.n m b l w.heap.size wr ab k cl cc
 nb : w.heap.size ≤ bb ∧ w.heap.size ≤ ab
 lo : lg < w.heap.size
section
variable {X : EmE} {b : VB} {l : Nat → Bool} {w wr wx : World} {s : EmS} {v : EmV} {lg bb ab m : Nat} {L : Nat → Bool} {k : Nat} {cl cc : Nat → Nat}
theorem BkM.below (h : BkM X b l w s v lg bb ab m wr L k cl cc) (hb : Below wr.heap.size wr wx) : BkM X b l w s v lg bb ab m wx L k cl cc :=
 ⟨h.rest.trans (below_refl_of hb _), h.live.below hb (Blk.lt h.live), h.box.below hb h.box.lt, h.aft.below hb, h.nb, h.lo⟩
theorem BkM.mark (h : BkM X b l w s v lg bb ab m wr L k cl cc) (r : Nat) (y : Bool) : BkM X b l w s v lg bb ab m (wr.setCell ⟨lg, r, none⟩ (.bool y)) (fun q => if q = r then y else L q) k cl cc :=
 ⟨h.rest.set (p := ⟨lg, r, none⟩) rfl _, h.live.set r y, h.box.setOther (a := ⟨lg, r, none⟩) (by have := h.nb; have := h.lo; show bb ≠ lg; omega) _, h.aft.kept (Below.heap_setCell _ _ _ _ (by have := h.nb; have := h.lo; show ab ≠ lg; omega)) (fun q hq _ _ => Below.heap_setCell _ _ _ _ (by have := h.lo; show q ≠ lg; omega)), h.nb, h.lo⟩
theorem BkM.congr {L' : Nat → Bool} (h : BkM X b l w s v lg bb ab m wr L k cl cc) (e : ∀ r, r < X.n → L r = L' r) : BkM X b l w s v lg bb ab m wr L' k cl cc := ⟨h.rest, h.live.congr e, h.box, h.aft, h.nb, h.lo⟩
theorem BkM.skip (h : BkM X b l w s v lg bb ab m wr L (k + 1) cl cc) (ho : mapO (b.at k).op = false) : BkM X b l w s v lg bb ab m wr L k cl cc := ⟨h.rest, h.live, h.box, h.aft.skip ho, h.nb, h.lo⟩
theorem BkM.put (h : BkM X b l w s v lg bb ab m wr L (k + 1) cl cc) (ho : mapO (b.at k).op = true) {g c : Nat} (hg : GRow wr g X.n c (afB b l k)) (hB : w.heap.size ≤ g) : BkM X b l w s v lg bb ab m (wr.setCell ⟨ab, k, none⟩ (.slice (some ⟨g, 0, none⟩) X.n c)) L k (fun j => if j = k then g else cl j) (fun j => if j = k then c else cc j) := by
 have hla : lg ≠ ab := by have := h.nb; have := h.lo; omega
 refine ⟨⟨h.rest.os, h.rest.tape, h.rest.output, by simpa [World.setCell] using h.rest.size, fun q hq hs => (Below.heap_setCell _ _ _ _ (by have := h.nb; show q ≠ ab; omega)).trans (h.rest.block q hq hs)⟩, h.live.setOther (a := ⟨ab, k, none⟩) hla _, h.box.setOther (a := ⟨ab, k, none⟩) (fun e => ?_) _, h.aft.put ho hg hB, h.nb, h.lo⟩
 have h1 : wr.heap[bb]? = _ := h.box
 have h2 : wr.heap[ab]? = _ := h.aft.blk
 have e : bb = ab := e
 rw [e, h2] at h1
 injection h1 with h1
 injection h1 with _ h1 _
 exact absurd h1 (by decide)
theorem BkM.em (h : BkM X b l w s v lg bb ab m wr L k cl cc) (hm : EmM X w s v) (hl : ¬ v.S X.p lg) (hl2 : ∀ x ∈ v.mc, x.sv.ownBlock ≠ some lg) (hl3 : X.w0.heap.size ≤ lg) : EmM X wr s v :=
 hm.rest h.rest (fun q e => by rw [e]; exact hl3) (fun q hq e => by rw [e] at hq; exact hl hq) (fun x hx g hg e => by rw [e] at hg; exact hl2 x hx hg)
end
end
end Go.Proofs.YtdnpoomagjcpfaaGreat
