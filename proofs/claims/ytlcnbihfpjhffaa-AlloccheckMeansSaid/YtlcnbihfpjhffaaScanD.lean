/- linear's enter and free. -/
import Derived.Test.YtlcnbihfpjhffaaScanC
namespace Go.Proofs.Ytlcnbihfpjhffaa
open Go.RowKit
set_option linter.unusedVariables false
set_option linter.unusedSimpArgs false

/-- blocks of ranges and of allocations but one are kept -/
structure KeepRgX (o : Option Nat) (w w' : World) : Prop where
 size : w.heap.size ≤ w'.heap.size
 keep : ∀ k, k < w.heap.size → o ≠ some k → (∃ cur t, (t = 97 ∨ t = 34) ∧ w.heap[k]? = some (.cells cur t (0, 0))) → w'.heap[k]? = w.heap[k]?
theorem KeepRgX.trans {o : Option Nat} {w w' w'' : World} (h : KeepRgX o w w') (k : KeepRgX o w' w'') : KeepRgX o w w'' := ⟨Nat.le_trans h.size k.size, fun q hq ho ⟨cur, t, ht, hc⟩ => by
 have h1 := h.keep q hq ho ⟨cur, t, ht, hc⟩
 exact (k.keep q (Nat.lt_of_lt_of_le hq h.size) ho ⟨cur, t, ht, h1.trans hc⟩).trans h1⟩
theorem KeepRg.x {w w' : World} (h : KeepRg w w') (o : Option Nat) : KeepRgX o w w' := ⟨h.size, fun k hk _ hc => h.keep k hk hc⟩
theorem KeepRgX.ofRest {o : Option Nat} {w w' : World} (h : RestS (fun k => o = some k) w w') : KeepRgX o w w' := ⟨h.size, fun k hk ho _ => h.block k hk ho⟩
theorem KeepRgX.blk {o : Option Nat} {w w' : World} (h : KeepRgX o w w') {b : Nat} {cs : List Value} (hb : Blk w b 97 cs) (ho : o ≠ some b) : Blk w' b 97 cs := Blk.of_heap hb (h.keep b (Blk.lt hb) ho ⟨_, _, .inl rfl, hb⟩)
theorem KeepRgX.blkA {o : Option Nat} {w w' : World} (h : KeepRgX o w w') {b : Nat} {cs : List Value} (hb : Blk w b 34 cs) (ho : o ≠ some b) : Blk w' b 34 cs := Blk.of_heap hb (h.keep b (Blk.lt hb) ho ⟨_, _, .inr rfl, hb⟩)
theorem KeepRgX.row {o : Option Nat} {w w' : World} (h : KeepRgX o w w') {base g c : Nat} {xs : List RG} (hr : RgRow w base (some ⟨g, 0, none⟩) c xs) (ho : o ≠ some g) : RgRow w' base (some ⟨g, 0, none⟩) c xs := ownG_kept hr fun q hq => by
 have e : g = q := by injection hq
 subst e
 exact h.keep g (hr.lt g rfl).2 ho (by obtain ⟨cur, hc⟩ := own_blkTy hr rfl; exact ⟨cur, _, .inl rfl, hc⟩)
def EnterPost (w0 : World) (n sb rb tb : Nat) (aa : Option Addr) (ac : Nat) (ca : Option Addr) (cc : Nat) (s : LS) (x : RG) (m : Int) (w : World) (e : Ending) (w' : World) : Prop :=
 e = .returned (.tuple #[]) ∧ ∃ g c s', ScM w0 w' n sb rb tb (some ⟨g, 0, none⟩) c ca cc s' ∧ EnterP s x m s' ∧ KeepRgX (Value.slice aa s.act.length ac).ownBlock w w' ∧ ((Value.slice aa s.act.length ac).ownBlock = some g ∨ w.heap.size ≤ g) ∧ s'.act.length = s.act.length + 1
set_option maxRecDepth 100000 in
set_option maxHeartbeats 8000000 in
theorem enter_any (w0 w : World) (n sb rb tb : Nat) (aa : Option Addr) (ac : Nat) (ca : Option Addr) (cc : Nat) (s : LS) (h : ScM w0 w n sb rb tb aa ac ca cc s) (x : RG) (r : Nat) (hxr : x.r = (r : Int)) (hr : r < n) (hn : n ≤ 8192) (hal : s.act.length ≤ 10000) (m : Int) :
  Calls Try.prog 45 #[.pointer (some ⟨sb, 0, none⟩), rgV x, .int .i64 m] w (EnterPost w0 n sb rb tb aa ac ca cc s x m w) := by
 have hb0 : Below w.heap.size w (w.alloc (.cells (rgC x).toArray 97)) := (Below.refl _ _).alloc (Nat.le_refl _) _
 have HS0 := Lib.hid (h.below hb0)
 have HX0 : Hid (Blk (w.alloc (.cells (rgC x).toArray 97)) w.heap.size 97 (rgC x)) := Blk.new w _ _
 have HK0 := Lib.hid (KeepRg.ofBelow hb0)
 have HSZ : Hid ((w.alloc (.cells (rgC x).toArray 97)).heap.size = w.heap.size + 1) := by show _ = _; simp
 have HOW : Hid (∀ q, (Value.slice aa s.act.length ac).ownBlock = some q → q < w.heap.size) := fun q hq => (h.act.lt q hq).2
 obtain ⟨xr, xb, xe, xs⟩ := x
 simp only at hxr
 subst hxr
 unfold rgV
 obtain ⟨W, hW⟩ : ∃ W, W = w := ⟨_, rfl⟩
 clear h hb0
 go_enter Try.func45, Try.ntmps45
 go_upto_region 1 with fail
 change Code.wp _ _ _ _ (w.alloc (.cells (rgC ⟨(r : Int), xb, xe, xs⟩).toArray 97))
 obtain ⟨xp, hxp⟩ : ∃ xp, xp = w.heap.size := ⟨_, rfl⟩
 have HXW := Lib.hid hxp
 rw [← hxp] at HX0 ⊢
 clear hxp hW
 generalize w.alloc (.cells (rgC ⟨(r : Int), xb, xe, xs⟩).toArray 97) = w1 at HS0 HX0 HK0 HSZ ⊢
 have b0 := HS0.out.box.cell 0
 have b1 := HS0.out.box.cell 1
 have x0 := HX0.out.cell 0
 simp only [rgC, List.getElem?_cons_zero, List.getElem?_cons_succ] at b0 b1 x0
 have r1 := Blk.row HS0.out.reg hr
 have r2 := HS0.out.reg.free r
 have t1 := Blk.row HS0.out.slo hr
 have t2 := HS0.out.slo.free r
 have hnb : rb ≠ tb := HS0.out.ne
 have hnb2 : tb ≠ rb := fun e => HS0.out.ne e.symm
 have hn3 : xp ≠ rb := blk_tyne HX0.out HS0.out.reg (by decide)
 have hn4 : xp ≠ tb := blk_tyne HX0.out HS0.out.slo (by decide)
 have hn5 : sb ≠ rb := blk_tyne HS0.out.box HS0.out.reg (by decide)
 have hn6 : sb ≠ tb := blk_tyne HS0.out.box HS0.out.slo (by decide)
 have HS1 := Lib.hid ((HS0.out.setR r m).setT r (-1))
 have HX1 : Hid (Blk ((w1.setCell ⟨rb, r, none⟩ (.int .i64 m)).setCell ⟨tb, r, none⟩ (.int .i64 (-1))) xp 97 (rgC ⟨(r : Int), xb, xe, xs⟩)) := (HX0.out.setOther (a := ⟨rb, r, none⟩) hn3 _).setOther (a := ⟨tb, r, none⟩) hn4 _
 have HK1 := Lib.hid ((HK0.out.trans (KeepRg.set HS0.out.reg (by decide) r (.int .i64 m))).trans (KeepRg.set (HS0.out.setR r m).slo (by decide) r (.int .i64 (-1))))
 have HSZ1 : Hid (((w1.setCell ⟨rb, r, none⟩ (.int .i64 m)).setCell ⟨tb, r, none⟩ (.int .i64 (-1))).heap.size = w.heap.size + 1) := by show _ = _; simpa using HSZ.out
 go_region
 all_goals go_upto_region 2 with fail
 have hd : Below ((w1.setCell ⟨rb, r, none⟩ (.int .i64 m)).setCell ⟨tb, r, none⟩ (.int .i64 (-1))).heap.size ((w1.setCell ⟨rb, r, none⟩ (.int .i64 m)).setCell ⟨tb, r, none⟩ (.int .i64 (-1))) ((w1.setCell ⟨rb, r, none⟩ (.int .i64 m)).setCell ⟨tb, r, none⟩ (.int .i64 (-1))).drew := (Below.refl _ _).drew
 have HS2 := Lib.hid (HS1.out.below hd)
 have HX2 := Lib.hid (HX1.out.below hd (Blk.lt HX1.out))
 have HK2 := Lib.hid (HK1.out.trans (KeepRg.ofBelow hd))
 have HSZ2 : Hid (((w1.setCell ⟨rb, r, none⟩ (.int .i64 m)).setCell ⟨tb, r, none⟩ (.int .i64 (-1))).drew.heap.size = w.heap.size + 1) := HSZ1.out
 clear hd HS1 HX1 HK1 HSZ1 HS0 HX0 HK0 HSZ b0 b1 x0 r1 r2 t1 t2 hnb hnb2 hn3 hn4 hn5 hn6
 generalize ((w1.setCell ⟨rb, r, none⟩ (.int .i64 m)).setCell ⟨tb, r, none⟩ (.int .i64 (-1))).drew = w2 at HS2 HX2 HK2 HSZ2 ⊢
 have b3 := HS2.out.box.cell 3
 simp only [List.getElem?_cons_zero, List.getElem?_cons_succ] at b3
 have hmf : ∀ (fn : Fn) (first cap : Array Value) (w : World), (Instr.makeFunc fn first cap).run Try.prog w = .ok (.func fn first cap) w := fun _ _ _ _ => rfl
 have HIX := Lib.hid (ixf_later w2 w0.heap.size aa ac s.act.length s.act HS2.out.act rfl hal xp (fun y => decide (xe < y.e)) fun wx y _ hb => later_any wx xp ⟨(r : Int), xb, xe, xs⟩ y (HX2.out.below hb (Blk.lt HX2.out)))
 go_wp2_with fail
 refine HIX.out.mono ?_
 rintro e w3 ⟨i, rfl, hi, hb3⟩
 have HS3 := Lib.hid (HS2.out.below hb3)
 have HX3 := Lib.hid (HX2.out.below hb3 (Blk.lt HX2.out))
 have HK3 := Lib.hid (HK2.out.trans (KeepRg.ofBelow hb3))
 have HSZ3 : Hid (w.heap.size + 1 ≤ w3.heap.size) := by show _ ≤ _; have := HSZ2.out; have := hb3.size; omega
 have HI := Lib.hid hi
 have HLT : Hid (∀ k : Nat, i = (k : Int) → k < s.act.length) := fun k e => (hi.some k e).1
 have hige := hi.ge
 clear hi hb3 HS2 HX2 HK2 HSZ2 HIX b3
 have b3 := HS3.out.box.cell 3
 simp only [List.getElem?_cons_zero, List.getElem?_cons_succ] at b3
 go_upto_if 31 with fail
 go_cut [6] from 30 (fun v wx => ∃ k : Nat, k ≤ s.act.length ∧ v = .int .i64 (k : Int) ∧ wx = w3)
 case first => as_aux_lemma =>
  by_cases hz : i < 0
  ·go_wp2_with fail
   go_meet
   exact ⟨s.act.length, Nat.le_refl _, rfl, rfl⟩
  ·obtain ⟨k, rfl⟩ : ∃ k : Nat, i = k := ⟨i.toNat, by omega⟩
   have hk := HLT.out k rfl
   have HKL := Lib.hid hk
   clear hk
   go_wp2_with fail
   go_meet
   exact ⟨k, Nat.le_of_lt HKL.out, rfl, rfl⟩
 case rest => as_aux_lemma =>
  obtain ⟨k, hk, rfl, hwc⟩ := hcut
  subst hwc
  clear b3 HI HLT hige
  go_upto_region 5 with fail
  obtain ⟨wd, hwd⟩ : ∃ wd, wd = wc.drew := ⟨_, rfl⟩
  have hde : Below wc.heap.size wc wd := by rw [hwd]; exact (Below.refl _ _).drew
  have HD := Lib.hid (HS3.out.below hde)
  have HXD := Lib.hid (HX3.out.below hde (Blk.lt HX3.out))
  have HKD := Lib.hid (HK3.out.trans (KeepRg.ofBelow hde))
  have HSZD : Hid (w.heap.size + 1 ≤ wd.heap.size) := Nat.le_trans HSZ3.out hde.size
  have b3 := HD.out.box.cell 3
  have x0 := HXD.out.cell 0
  have x1 := HXD.out.cell 1
  have x2 := HXD.out.cell 2
  have x3 := HXD.out.cell 3
  simp only [rgC, List.getElem?_cons_zero, List.getElem?_cons_succ] at b3 x0 x1 x2 x3
  have hl1 := Blk.lt HD.out.box
  have hl2 := Blk.lt HXD.out
  have q3 := fun z : AfterR (Keep2C sb xp) wd => (World.cell?_of_block (a := ⟨sb, 3, none⟩) z.rel.1).trans b3
  have p0 := fun z : AfterR (Keep2C sb xp) wd => (World.cell?_of_block (a := ⟨xp, 0, none⟩) z.rel.2).trans x0
  have p1 := fun z : AfterR (Keep2C sb xp) wd => (World.cell?_of_block (a := ⟨xp, 1, none⟩) z.rel.2).trans x1
  have p2 := fun z : AfterR (Keep2C sb xp) wd => (World.cell?_of_block (a := ⟨xp, 2, none⟩) z.rel.2).trans x2
  have p3 := fun z : AfterR (Keep2C sb xp) wd => (World.cell?_of_block (a := ⟨xp, 3, none⟩) z.rel.2).trans x3
  clear b3 x0 x1 x2 x3 hde HS3 HX3 HK3 HSZ3
  refine wp_region_eagerRT (Keep2C sb xp) [(0, true), (1, true), (2, true), (3, true), (4, true), (5, true), (6, true), (7, false), (8, false), (9, true), (10, true), (11, false)] (by kernel_rfl) (by kernel_rfl) ?_
  rw [← hwd]
  clear hwd
  repeat (refine eagR_readT rfl ?_; go_big_quiet_step (fail); refine wpQuiet_nil ?_)
  clear q3 p0 p1 p2 p3
  refine eagR_doesT rfl rfl ?_
  intro K hK
  go_simp
  refine hK _ _ (fun _ => ⟨Below.heap_alloc _ _ _ hl1, Below.heap_alloc _ _ _ hl2⟩) ?_
  clear hK K
  go_simp
  have hba : Below wd.heap.size wd (wd.alloc (.cells #[.int .i64 (r : Int), .int .i64 xb, .int .i64 xe, .bool xs] 97)) := (Below.refl _ _).alloc (Nat.le_refl _) _
  have HS4 := Lib.hid (HD.out.below hba)
  have HX4 := Lib.hid (HXD.out.below hba (Blk.lt HXD.out))
  have HK4 := Lib.hid (HKD.out.trans (KeepRg.ofBelow hba))
  have HNEW : Hid (Blk (wd.alloc (.cells #[.int .i64 (r : Int), .int .i64 xb, .int .i64 xe, .bool xs] 97)) wd.heap.size 97 (rgC ⟨(r : Int), xb, xe, xs⟩)) := Blk.new wd (rgC ⟨(r : Int), xb, xe, xs⟩) 97
  obtain ⟨nw, hnw⟩ : ∃ x, x = wd.heap.size := ⟨_, rfl⟩
  rw [← hnw] at HNEW ⊢
  have HNW : Hid (w.heap.size < nw ∧ xp < nw) := ⟨by have := HSZD.out; omega, by have := hl2; omega⟩
  clear hba hnw HD HXD HKD hl1 hl2 HSZD
  generalize wd.alloc (.cells #[.int .i64 (r : Int), .int .i64 xb, .int .i64 xe, .bool xs] 97) = w4 at HS4 HX4 HK4 HNEW ⊢
  have HIN := Lib.hid (insr_any w4 w0.heap.size k aa ac s.act.length s.act ⟨(r : Int), xb, xe, xs⟩ nw HS4.out.act rfl hk (by omega) HS4.out.be.size HNEW.out (fun e => by have := HOW.out nw e; have := HNW.out.1; omega))
  refine eagR_doesT rfl rfl ?_
  intro K hK
  go_simp
  refine HIN.out.mono ?_
  rintro e w5 ⟨g, c, rfl, hrow, hgrow, hwh⟩
  have hln := insR_length s.act k ⟨(r : Int), xb, xe, xs⟩
  have hrs := RestS.ofGrown hgrow
  have hp := HS4.out.putA hrow hrs
  have hox : (Value.slice aa s.act.length ac).ownBlock ≠ some xp := fun e => by have := HOW.out xp e; have := HXW.out; omega
  have hq1 : w5.heap[sb]? = w4.heap[sb]? := hrs.block _ (Blk.lt HS4.out.box) (blk_noOwn HS4.out.box HS4.out.act (by decide))
  have hq2 : w5.heap[xp]? = w4.heap[xp]? := hrs.block _ (Blk.lt HX4.out) hox
  have hbox5 : Blk w5 sb 95 _ := Blk.of_heap HS4.out.box hq1
  have z4 := hbox5.cell 3
  have z5 := hbox5.free 3
  simp only [List.getElem?_cons_zero, List.getElem?_cons_succ] at z4
  have hkx := ((HK4.out.x (Value.slice aa s.act.length ac).ownBlock).trans (KeepRgX.ofRest hrs)).trans ((KeepRg.set hbox5 (by decide) 3 (.slice (some ⟨g, 0, none⟩) (insR s.act k ⟨(r : Int), xb, xe, xs⟩).length c)).x _)
  have HP := Lib.hid hp
  have HKX := Lib.hid hkx
  have HWH : Hid ((Value.slice aa s.act.length ac).ownBlock = some g ∨ w.heap.size ≤ g) := hwh.imp id fun h => by have := HNW.out.1; have := HNEW.out.lt; omega
  have HLN := Lib.hid hln
  have hsb5 := Blk.lt hbox5
  obtain ⟨act', hact'⟩ : ∃ a, a = insR s.act k ⟨(r : Int), xb, xe, xs⟩ := ⟨_, rfl⟩
  have HPM : Hid (act'.Perm (⟨(r : Int), xb, xe, xs⟩ :: s.act)) := by rw [hact']; exact insR_perm _ _ _
  rw [← hact'] at HP HKX HLN ⊢
  obtain ⟨AL, hAL⟩ : ∃ x, x = act'.length := ⟨_, rfl⟩
  rw [← hAL] at HP HKX HLN ⊢
  have HAL := Lib.hid hAL
  clear hAL hact' hrow hgrow hwh hln hrs hp hox hbox5 hkx HIN HS4 HX4 HK4 HNEW
  refine hK _ _ (fun _ => ⟨hq1, hq2⟩) ?_
  clear hK K hq1 hq2
  go_simp
  repeat (refine eagR_readT rfl ?_; go_big_quiet_step (fail); refine wpQuiet_nil ?_)
  refine eagR_freeT rfl rfl (by kernel_rfl) ?_
  intro K hK
  go_simp
  refine hK _ _ ?_
  clear hK K z4 z5
  go_simp
  refine eagR_endT ?_
  go_wp2_with fail
  refine bodyPost_end (results_none rfl _ _ _) rfl ?_
  exact ⟨rfl, g, c, ⟨updI s.R (r : Int) m, updI s.S (r : Int) (-1), act', s.sl⟩, HP.out, ⟨rfl, rfl, rfl, HPM.out⟩, HKX.out, HWH.out, by show act'.length = _; rw [← HAL.out, HLN.out]⟩
end Go.Proofs.Ytlcnbihfpjhffaa
