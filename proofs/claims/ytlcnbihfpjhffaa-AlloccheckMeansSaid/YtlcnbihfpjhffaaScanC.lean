/- linear's slot, spill, enter and free. -/
import Derived.Test.YtlcnbihfpjhffaaScanB
namespace Go.Proofs.Ytlcnbihfpjhffaa
open Go.RowKit
set_option linter.unusedVariables false
set_option linter.unusedSimpArgs false

def SlotPost (w0 : World) (n sb rb tb : Nat) (aa : Option Addr) (ac : Nat) (s : LS) (x : RG) (w : World) (e : Ending) (w' : World) : Prop :=
 e = .returned (.tuple #[]) ∧ ∃ ca cc s', ScM w0 w' n sb rb tb aa ac ca cc s' ∧ SlotP s x s' ∧ KeepRg w w'
set_option maxRecDepth 100000 in
set_option maxHeartbeats 8000000 in
theorem slot_any (w0 w : World) (n sb rb tb : Nat) (aa : Option Addr) (ac : Nat) (ca : Option Addr) (cc : Nat) (s : LS) (h : ScM w0 w n sb rb tb aa ac ca cc s) (x : RG) (r : Nat) (hxr : x.r = (r : Int)) (hr : r < n) (hn : n ≤ 8192) (hsl : s.sl.length ≤ 100000) :
  Calls Try.prog 43 #[.pointer (some ⟨sb, 0, none⟩), rgV x] w (SlotPost w0 n sb rb tb aa ac s x w) := by
 have hb0 : Below w.heap.size w (w.alloc (.cells (rgC x).toArray 97)) := (Below.refl _ _).alloc (Nat.le_refl _) _
 have HS0 := Lib.hid (h.below hb0)
 have HX0 : Hid (Blk (w.alloc (.cells (rgC x).toArray 97)) w.heap.size 97 (rgC x)) := Blk.new w _ _
 have HK0 := Lib.hid (KeepRg.ofBelow hb0)
 obtain ⟨xr, xb, xe, xs⟩ := x
 simp only at hxr
 subst hxr
 unfold rgV
 obtain ⟨i0, hi0, hz0, hz1, hz2⟩ : ∃ i, Try.prog.info? 3 = some i ∧ i.zero = some (.int .i64 0) ∧ i.size = 1 ∧ i.bytes = 8 := info_partsV (by kernel_rfl)
 clear h hb0
 go_enter Try.func43, Try.ntmps43
 go_upto_region 1 with fail
 change Code.wp _ _ _ _ (w.alloc (.cells (rgC ⟨(r : Int), xb, xe, xs⟩).toArray 97))
 obtain ⟨xp, hxp⟩ : ∃ xp, xp = w.heap.size := ⟨_, rfl⟩
 rw [← hxp] at HX0 ⊢
 clear hxp
 generalize w.alloc (.cells (rgC ⟨(r : Int), xb, xe, xs⟩).toArray 97) = w1 at HS0 HX0 HK0 ⊢
 have b4 := HS0.out.box.cell 4
 simp only [List.getElem?_cons_zero, List.getElem?_cons_succ] at b4
 have hmf : ∀ (fn : Fn) (first cap : Array Value) (w : World), (Instr.makeFunc fn first cap).run Try.prog w = .ok (.func fn first cap) w := fun _ _ _ _ => rfl
 have HIX := Lib.hid (ixs_any w1 ca s.sl.length cc s.sl (came_owns_ints HS0.out.sl) xp ⟨(r : Int), xb, xe, xs⟩ HX0.out)
 go_wp2_with fail
 refine HIX.out.mono ?_
 rintro e w' ⟨i, rfl, hw', hi⟩
 rw [← hw']
 clear hw' w' HIX
 rcases hi with ⟨k, rfl, e, hk, hek⟩ | rfl
 ·
  have hkl := (List.getElem?_eq_some_iff.1 hk).1
  obtain ⟨g, c', hv, hg1, hg2, hg3, hg4⟩ := ownG_has HS0.out.sl (by omega)
  injection hv with e1 _ e3
  subst e1 e3
  unfold maxLen at hg4
  have HE : Hid (∃ e, s.sl[k]? = some e ∧ e < xb) := ⟨e, hk, hek⟩
  have x2 := HX0.out.cell 2
  simp only [rgC, List.getElem?_cons_zero, List.getElem?_cons_succ] at x2
  have y1 := (ownR_cellAt HS0.out.sl (j := k) (by omega))
  obtain ⟨y1, y2⟩ := y1
  rw [List.getElem?_map, hk] at y1
  simp only [Option.map_some] at y1
  have HS1 := Lib.hid (HS0.out.setS hkl xe)
  have HX1 : Hid (Blk (w1.setCell ⟨g, k, none⟩ (.int .i64 xe)) xp 97 (rgC ⟨(r : Int), xb, xe, xs⟩)) := HX0.out.setOther (a := ⟨g, k, none⟩) (fun e => blk_noOwn HX0.out HS0.out.sl (by decide) (by rw [e]; rfl)) _
  have HK1 := Lib.hid (HK0.out.trans (KeepRg.setOwn HS0.out.sl (b := g) rfl (by decide) k (.int .i64 xe)))
  clear hk hek
  go_upto_region 5 with fail
  go_region
  all_goals go_upto_region 6 with fail
  have hd : Below (w1.setCell ⟨g, k, none⟩ (.int .i64 xe)).heap.size (w1.setCell ⟨g, k, none⟩ (.int .i64 xe)) (w1.setCell ⟨g, k, none⟩ (.int .i64 xe)).drew := (Below.refl _ _).drew
  have HS2 := Lib.hid (HS1.out.below hd)
  have HX2 := Lib.hid (HX1.out.below hd (Blk.lt HX1.out))
  have HK2 := Lib.hid (HK1.out.trans (KeepRg.ofBelow hd))
  clear hd HS1 HX1 HK1
  generalize (w1.setCell ⟨g, k, none⟩ (.int .i64 xe)).drew = w2 at HS2 HX2 HK2 ⊢
  have b0 := HS2.out.box.cell 0
  have b1 := HS2.out.box.cell 1
  have x0 := HX2.out.cell 0
  simp only [rgC, List.getElem?_cons_zero, List.getElem?_cons_succ] at b0 b1 x0
  have r1 := Blk.row HS2.out.reg hr
  have r2 := HS2.out.reg.free r
  have t1 := Blk.row HS2.out.slo hr
  have t2 := HS2.out.slo.free r
  have hnb : rb ≠ tb := HS2.out.ne
  have hnb2 : tb ≠ rb := fun e => HS2.out.ne e.symm
  have hn3 : xp ≠ rb := blk_tyne HX2.out HS2.out.reg (by decide)
  have hn4 : xp ≠ tb := blk_tyne HX2.out HS2.out.slo (by decide)
  have hn5 : sb ≠ rb := blk_tyne HS2.out.box HS2.out.reg (by decide)
  have hn6 : sb ≠ tb := blk_tyne HS2.out.box HS2.out.slo (by decide)
  have HS3 := Lib.hid ((HS2.out.setR r (-1)).setT r (k : Int))
  have HK3 := Lib.hid ((HK2.out.trans (KeepRg.set HS2.out.reg (by decide) r (.int .i64 (-1)))).trans (KeepRg.set (HS2.out.setR r (-1)).slo (by decide) r (.int .i64 (k : Int))))
  go_region
  all_goals go_wp2_with fail
  have hd3 := Lib.hid (HS3.out.below (Below.refl _ _).drew)
  have hk3 := Lib.hid (HK3.out.trans (KeepRg.ofBelow (Below.refl _ _).drew))
  refine bodyPost_end (results_none rfl _ _ _) rfl ?_
  exact ⟨rfl, some ⟨g, 0, none⟩, cc, ⟨updI s.R (r : Int) (-1), updI s.S (r : Int) (k : Int), s.act, s.sl.set k xe⟩, hd3.out, ⟨k, .inl ⟨HE.out, rfl⟩, rfl, rfl, rfl⟩, hk3.out⟩
 ·
  have hba : Below w1.heap.size w1 (w1.alloc (.cells #[.int .i64 0] 3)) := (Below.refl _ _).alloc (Nat.le_refl _) _
  have HS1 := Lib.hid (HS0.out.below hba)
  have HX1 := Lib.hid (HX0.out.below hba (Blk.lt HX0.out))
  have HK1 := Lib.hid (HK0.out.trans (KeepRg.ofBelow hba))
  have HA2 : Hid (∀ j u, ([Value.int .i64 0] : List Value)[j]? = some u → (w1.alloc (.cells #[.int .i64 0] 3)).cell? ((⟨w1.heap.size, 0, none⟩ : Addr).add j) = some u) := fun j u hj => by
   cases j with
   | zero => simp at hj; subst hj; rw [Addr.add_lit, World.cell?_alloc_new]; rfl
   | succ j => simp at hj
  have HA3 : Hid (∀ u ∈ ([Value.int .i64 0] : List Value), u.oneCell' = true) := fun u hu => by simp at hu; subst hu; rfl
  have HBZ := Lib.hid HS1.out.be.size
  clear hba
  go_wp2_with (at_builtin; refine wpList_append_lies _ rfl _ _ 22 rfl w0.heap.size 3 i0 (.int .i64 0) 1 8 Try.underlying22 hi0 hz0 hz1 hz2 rfl (by decide) _ _ _ rfl HS1.out.sl ⟨w1.heap.size, 0, none⟩ 1 1 [.int .i64 0] rfl rfl HA2.out HA3.out (by decide) (by unfold maxLen; omega) (by omega) HBZ.out _ rfl ?_)
  intro g cap w3 hown' hgrow hwh hlt9
  have hwh2 : (Value.slice ca s.sl.length cc).ownBlock = some g ∨ (w1.alloc (.cells #[.int .i64 0] 3)).heap.size ≤ g := hwh.imp id fun e => by rw [e]; simp
  have hp := HS1.out.pushS hown' hgrow hwh2
  have hrs := RestS.ofGrown hgrow
  have hbox3 : Blk w3 sb 95 _ := Blk.of_heap HS1.out.box (hrs.block _ (Blk.lt HS1.out.box) (blk_noOwn HS1.out.box HS1.out.sl (by decide)))
  have z4 := hbox3.cell 4
  have z5 := hbox3.free 4
  simp only [List.getElem?_cons_zero, List.getElem?_cons_succ] at z4
  have hkg := HK1.out.trans (KeepRg.ofGrown HS1.out.sl (by decide) hgrow)
  have hx3 : Blk w3 xp 97 (rgC ⟨(r : Int), xb, xe, xs⟩) := (KeepRg.ofGrown HS1.out.sl (by decide) hgrow).blk HX1.out
  have HS4 := Lib.hid hp
  have HK4 := Lib.hid (hkg.trans (KeepRg.set hbox3 (by decide) 4 (.slice (some ⟨g, 0, none⟩) (s.sl.length + 1) cap)))
  have HX4 : Hid (Blk (w3.setCell ⟨sb, 4, none⟩ (.slice (some ⟨g, 0, none⟩) (s.sl.length + 1) cap)) xp 97 (rgC ⟨(r : Int), xb, xe, xs⟩)) := hx3.setOther (a := ⟨sb, 4, none⟩) (blk_tyne hx3 hbox3 (by decide)) _
  have hll : (s.sl ++ [(0 : Int)]).length = s.sl.length + 1 := by simp
  have hgcap := ownG_has hp.sl (by rw [hll]; omega)
  rw [hll] at hgcap
  obtain ⟨g9, c9, hv9, _, _, hg3, hg4⟩ := hgcap
  injection hv9 with e1 _ e3
  injection e1 with e1
  injection e1 with e1 _ _
  subst e1 e3
  unfold maxLen at hg4
  have hsb3 := Blk.lt hbox3
  clear hown' hgrow hwh hwh2 hp hrs hkg hx3 HS1 HX1 HK1 HA2 HA3 HBZ hbox3 b4
  go_upto_region 5 with fail
  clear z4 z5
  generalize w3.setCell ⟨sb, 4, none⟩ (.slice (some ⟨g, 0, none⟩) (s.sl.length + 1) cap) = w5 at HS4 HX4 HK4 ⊢
  have b4 := HS4.out.box.cell 4
  have x2 := HX4.out.cell 2
  simp only [rgC, List.getElem?_cons_zero, List.getElem?_cons_succ] at b4 x2
  rw [hll] at b4
  obtain ⟨y1, y2⟩ := ownR_cellAt HS4.out.sl (j := s.sl.length) (by rw [hll]; omega)
  rw [List.getElem?_map, show (s.sl ++ [(0 : Int)])[s.sl.length]? = some 0 by simp] at y1
  simp only [Option.map_some] at y1
  have hst : (s.sl ++ [(0 : Int)]).set s.sl.length xe = s.sl ++ [xe] := by rw [List.set_append_right _ _ (Nat.le_refl _), Nat.sub_self]; rfl
  have HS1 : Hid (ScM w0 (w5.setCell ⟨g, s.sl.length, none⟩ (.int .i64 xe)) n sb rb tb aa ac (some ⟨g, 0, none⟩) cap ⟨s.R, s.S, s.act, s.sl ++ [xe]⟩) := by
   have h9 := HS4.out.setS (i := s.sl.length) (by rw [hll]; omega) xe
   show ScM _ _ _ _ _ _ _ _ _ _ _
   rw [← hst]
   exact h9
  have HX1 : Hid (Blk (w5.setCell ⟨g, s.sl.length, none⟩ (.int .i64 xe)) xp 97 (rgC ⟨(r : Int), xb, xe, xs⟩)) := HX4.out.setOther (a := ⟨g, s.sl.length, none⟩) (fun e => blk_noOwn HX4.out HS4.out.sl (by decide) (by rw [e]; rfl)) _
  have HK1 := Lib.hid (HK4.out.trans (KeepRg.setOwn HS4.out.sl (b := g) rfl (by decide) s.sl.length (.int .i64 xe)))
  have hlsi : (s.sl.length : Int) < (s.sl.length : Int) + 1 := by omega
  clear hll hst HS4 HX4 HK4
  go_region
  all_goals go_upto_region 6 with fail
  have hd : Below (w5.setCell ⟨g, s.sl.length, none⟩ (.int .i64 xe)).heap.size (w5.setCell ⟨g, s.sl.length, none⟩ (.int .i64 xe)) (w5.setCell ⟨g, s.sl.length, none⟩ (.int .i64 xe)).drew := (Below.refl _ _).drew
  have HS2 := Lib.hid (HS1.out.below hd)
  have HX2 := Lib.hid (HX1.out.below hd (Blk.lt HX1.out))
  have HK2 := Lib.hid (HK1.out.trans (KeepRg.ofBelow hd))
  clear hd HS1 HX1 HK1
  generalize (w5.setCell ⟨g, s.sl.length, none⟩ (.int .i64 xe)).drew = w2 at HS2 HX2 HK2 ⊢
  have b0 := HS2.out.box.cell 0
  have b1 := HS2.out.box.cell 1
  have x0 := HX2.out.cell 0
  simp only [rgC, List.getElem?_cons_zero, List.getElem?_cons_succ] at b0 b1 x0
  have r1 := Blk.row HS2.out.reg hr
  have r2 := HS2.out.reg.free r
  have t1 := Blk.row HS2.out.slo hr
  have t2 := HS2.out.slo.free r
  have hnb : rb ≠ tb := HS2.out.ne
  have hnb2 : tb ≠ rb := fun e => HS2.out.ne e.symm
  have hn3 : xp ≠ rb := blk_tyne HX2.out HS2.out.reg (by decide)
  have hn4 : xp ≠ tb := blk_tyne HX2.out HS2.out.slo (by decide)
  have hn5 : sb ≠ rb := blk_tyne HS2.out.box HS2.out.reg (by decide)
  have hn6 : sb ≠ tb := blk_tyne HS2.out.box HS2.out.slo (by decide)
  have HS3 := Lib.hid ((HS2.out.setR r (-1)).setT r (s.sl.length : Int))
  have HK3 := Lib.hid ((HK2.out.trans (KeepRg.set HS2.out.reg (by decide) r (.int .i64 (-1)))).trans (KeepRg.set (HS2.out.setR r (-1)).slo (by decide) r (.int .i64 (s.sl.length : Int))))
  go_region
  all_goals go_wp2_with fail
  have hd3 := Lib.hid (HS3.out.below (Below.refl _ _).drew)
  have hk3 := Lib.hid (HK3.out.trans (KeepRg.ofBelow (Below.refl _ _).drew))
  refine bodyPost_end (results_none rfl _ _ _) rfl ?_
  exact ⟨rfl, some ⟨g, 0, none⟩, cap, ⟨updI s.R (r : Int) (-1), updI s.S (r : Int) (s.sl.length : Int), s.act, s.sl ++ [xe]⟩, hd3.out, ⟨s.sl.length, .inr ⟨rfl, rfl⟩, rfl, rfl, rfl⟩, hk3.out⟩
def SpillPost (w0 : World) (n sb rb tb : Nat) (aa : Option Addr) (ac : Nat) (s : LS) (x : RG) (w : World) (e : Ending) (w' : World) : Prop :=
 e = .returned (.tuple #[]) ∧ ∃ ca cc, ScM w0 w' n sb rb tb aa ac ca cc (spillS s x) ∧ KeepRg w w'
set_option maxRecDepth 100000 in
set_option maxHeartbeats 8000000 in
theorem spill_any (w0 w : World) (n sb rb tb : Nat) (aa : Option Addr) (ac : Nat) (ca : Option Addr) (cc : Nat) (s : LS) (h : ScM w0 w n sb rb tb aa ac ca cc s) (x : RG) (r : Nat) (hxr : x.r = (r : Int)) (hr : r < n) (hn : n ≤ 8192) (hsl : s.sl.length ≤ 100000) :
  Calls Try.prog 46 #[.pointer (some ⟨sb, 0, none⟩), rgV x] w (SpillPost w0 n sb rb tb aa ac s x w) := by
 have hb0 : Below w.heap.size w (w.alloc (.cells (rgC x).toArray 97)) := (Below.refl _ _).alloc (Nat.le_refl _) _
 have HS0 := Lib.hid (h.below hb0)
 have HX0 : Hid (Blk (w.alloc (.cells (rgC x).toArray 97)) w.heap.size 97 (rgC x)) := Blk.new w _ _
 have HK0 := Lib.hid (KeepRg.ofBelow hb0)
 obtain ⟨xr, xb, xe, xs⟩ := x
 simp only at hxr
 subst hxr
 unfold rgV
 obtain ⟨i0, hi0, hz0, hz1, hz2⟩ : ∃ i, Try.prog.info? 3 = some i ∧ i.zero = some (.int .i64 0) ∧ i.size = 1 ∧ i.bytes = 8 := info_partsV (by kernel_rfl)
 clear h hb0
 go_enter Try.func46, Try.ntmps46
 go_upto_region 1 with fail
 change Code.wp _ _ _ _ (w.alloc (.cells (rgC ⟨(r : Int), xb, xe, xs⟩).toArray 97))
 obtain ⟨xp, hxp⟩ : ∃ xp, xp = w.heap.size := ⟨_, rfl⟩
 rw [← hxp] at HX0 ⊢
 clear hxp
 generalize w.alloc (.cells (rgC ⟨(r : Int), xb, xe, xs⟩).toArray 97) = w1 at HS0 HX0 HK0 ⊢
 obtain ⟨wd, hwd⟩ : ∃ wd, wd = w1.drew := ⟨_, rfl⟩
 have hde : Below w1.heap.size w1 wd := by rw [hwd]; exact (Below.refl _ _).drew
 have HD := Lib.hid (HS0.out.below hde)
 have HXD := Lib.hid (HX0.out.below hde (Blk.lt HX0.out))
 have HKD := Lib.hid (HK0.out.trans (KeepRg.ofBelow hde))
 have b4 := HD.out.box.cell 4
 have x2 := HXD.out.cell 2
 simp only [rgC, List.getElem?_cons_zero, List.getElem?_cons_succ] at b4 x2
 have hl1 := Blk.lt HD.out.box
 have hl2 := Blk.lt HXD.out
 have r4 := fun z : AfterR (Keep2C sb xp) wd => (World.cell?_of_block (a := ⟨sb, 4, none⟩) z.rel.1).trans b4
 have r2 := fun z : AfterR (Keep2C sb xp) wd => (World.cell?_of_block (a := ⟨xp, 2, none⟩) z.rel.2).trans x2
 clear b4 x2 hde HS0 HX0 HK0
 refine wp_region_eagerRT (Keep2C sb xp) [(0, true), (1, true), (2, true), (3, true), (4, true), (5, true), (6, true), (7, false), (8, false), (9, true), (10, true), (11, false)] (by kernel_rfl) (by kernel_rfl) ?_
 rw [← hwd]
 clear hwd
 repeat (refine eagR_readT rfl ?_; go_big_quiet_step (fail); refine wpQuiet_nil ?_)
 clear r2 r4
 refine eagR_doesT rfl rfl ?_
 intro K hK
 go_simp
 refine hK _ _ (fun _ => ⟨Below.heap_alloc _ _ _ hl1, Below.heap_alloc _ _ _ hl2⟩) ?_
 clear hK K
 go_simp
 have hba : Below wd.heap.size wd (wd.alloc (.cells #[.int .i64 xe] 3)) := (Below.refl _ _).alloc (Nat.le_refl _) _
 have HS1 := Lib.hid (HD.out.below hba)
 have HX1 := Lib.hid (HXD.out.below hba (Blk.lt HXD.out))
 have HK1 := Lib.hid (HKD.out.trans (KeepRg.ofBelow hba))
 have HNEW : Hid (Blk (wd.alloc (.cells #[.int .i64 xe] 3)) wd.heap.size 3 [.int .i64 xe]) := Blk.new wd [.int .i64 xe] 3
 obtain ⟨nw, hnw⟩ : ∃ x, x = wd.heap.size := ⟨_, rfl⟩
 rw [← hnw] at HNEW ⊢
 clear hba hnw HD HXD HKD hl1 hl2
 generalize wd.alloc (.cells #[.int .i64 xe] 3) = w2 at HS1 HX1 HK1 HNEW ⊢
 have hbz := HS1.out.be.size
 refine eagR_doesT rfl rfl ?_
 intro K hK
 refine wp_append_lies _ _ _ 22 rfl w0.heap.size 3 i0 (.int .i64 0) 1 8 Try.underlying22 hi0 hz0 hz1 hz2 rfl (by decide) _ _ _ rfl HS1.out.sl ⟨nw, 0, none⟩ 1 1 [.int .i64 xe] rfl rfl ?_ ?_ (by decide) ?_ ?_ hbz w2.heap.size rfl ?_
 ·intro j u hj
  rw [Addr.add_lit, Nat.zero_add, HNEW.out.cell]
  exact hj
 ·intro u hu; simp at hu; subst hu; rfl
 ·unfold maxLen; omega
 ·omega
 intro g cap w3 hown' hgrow hwh hlt9
 have hwh2 : (Value.slice ca s.sl.length cc).ownBlock = some g ∨ w2.heap.size ≤ g := hwh.imp id fun e => by omega
 have hp := HS1.out.pushS hown' hgrow hwh2
 have hrs := RestS.ofGrown hgrow
 have hq1 : w3.heap[sb]? = w2.heap[sb]? := hrs.block _ (Blk.lt HS1.out.box) (blk_noOwn HS1.out.box HS1.out.sl (by decide))
 have hq2 : w3.heap[xp]? = w2.heap[xp]? := hrs.block _ (Blk.lt HX1.out) (blk_noOwn HX1.out HS1.out.sl (by decide))
 have hbox3 : Blk w3 sb 95 _ := Blk.of_heap HS1.out.box hq1
 have z4 := hbox3.cell 4
 have z5 := hbox3.free 4
 simp only [List.getElem?_cons_zero, List.getElem?_cons_succ] at z4
 have hkg := HK1.out.trans (KeepRg.ofGrown HS1.out.sl (by decide) hgrow)
 have hx3 : Blk w3 xp 97 (rgC ⟨(r : Int), xb, xe, xs⟩) := Blk.of_heap HX1.out hq2
 have HS4 := Lib.hid hp
 have HK4 := Lib.hid (hkg.trans (KeepRg.set hbox3 (by decide) 4 (.slice (some ⟨g, 0, none⟩) (s.sl.length + 1) cap)))
 have HX4 : Hid (Blk (w3.setCell ⟨sb, 4, none⟩ (.slice (some ⟨g, 0, none⟩) (s.sl.length + 1) cap)) xp 97 (rgC ⟨(r : Int), xb, xe, xs⟩)) := hx3.setOther (a := ⟨sb, 4, none⟩) (blk_tyne hx3 hbox3 (by decide)) _
 have hsb3 := Blk.lt hbox3
 go_simp
 refine hK _ _ (fun _ => ⟨hq1, hq2⟩) ?_
 clear hK K
 go_simp
 clear hown' hgrow hwh hwh2 hp hrs hkg hx3 HS1 HX1 HK1 HNEW hbox3 hq1 hq2 hbz
 repeat (refine eagR_readT rfl ?_; go_big_quiet_step (fail); refine wpQuiet_nil ?_)
 refine eagR_freeT rfl rfl (by kernel_rfl) ?_
 intro K hK
 go_simp
 refine hK _ _ ?_
 clear hK K z4 z5
 go_simp
 refine eagR_endT ?_
 have hll : (s.sl ++ [xe]).length = s.sl.length + 1 := by simp
 have HLL := Lib.hid hll
 have HS1 := HS4
 have HX1 := HX4
 have HK1 := HK4
 clear HS4 HX4 HK4 hll
 generalize w3.setCell ⟨sb, 4, none⟩ (.slice (some ⟨g, 0, none⟩) (s.sl.length + 1) cap) = w5 at HS1 HX1 HK1 ⊢
 have b0 := HS1.out.box.cell 0
 have b1 := HS1.out.box.cell 1
 have b4 := HS1.out.box.cell 4
 have x0 := HX1.out.cell 0
 simp only [rgC, List.getElem?_cons_zero, List.getElem?_cons_succ] at b0 b1 b4 x0
 rw [HLL.out] at b4
 have r1 := Blk.row HS1.out.reg hr
 have r2 := HS1.out.reg.free r
 have t1 := Blk.row HS1.out.slo hr
 have t2 := HS1.out.slo.free r
 have hnb : rb ≠ tb := HS1.out.ne
 have hnb2 : tb ≠ rb := fun e => HS1.out.ne e.symm
 have hn3 : xp ≠ rb := blk_tyne HX1.out HS1.out.reg (by decide)
 have hn4 : xp ≠ tb := blk_tyne HX1.out HS1.out.slo (by decide)
 have hn5 : sb ≠ rb := blk_tyne HS1.out.box HS1.out.reg (by decide)
 have hn6 : sb ≠ tb := blk_tyne HS1.out.box HS1.out.slo (by decide)
 have HS3 := Lib.hid ((HS1.out.setR r (-1)).setT r (s.sl.length : Int))
 have HK3 := Lib.hid ((HK1.out.trans (KeepRg.set HS1.out.reg (by decide) r (.int .i64 (-1)))).trans (KeepRg.set (HS1.out.setR r (-1)).slo (by decide) r (.int .i64 (s.sl.length : Int))))
 go_upto_region 2 with fail
 go_region
 all_goals go_wp2_with fail
 have hd3 := Lib.hid (HS3.out.below (Below.refl _ _).drew)
 have hk3 := Lib.hid (HK3.out.trans (KeepRg.ofBelow (Below.refl _ _).drew))
 refine bodyPost_end (results_none rfl _ _ _) rfl ?_
 exact ⟨rfl, some ⟨g, 0, none⟩, cap, hd3.out, hk3.out⟩
end Go.Proofs.Ytlcnbihfpjhffaa
