/- linear.Allocate at the law's function of one parameter: the scan. -/
import Derived.Test.YtdnpoomagjcpfaaGreatLinOne
import Derived.Test.YtdnpoomagjcpfaaGreatColAlloc
namespace Go.Proofs.YtdnpoomagjcpfaaGreat
open Go.RowKit
set_option linter.unusedVariables false
set_option linter.unusedSimpArgs false

theorem blk_tyne {w : World} {a b : Nat} {t u : TypeId} {cs ds : List Value} (h : Blk w a t cs) (k : Blk w b u ds) (ht : t ≠ u) : a ≠ b := fun e => by
 subst e
 have h1 : w.heap[a]? = _ := h
 have h2 : w.heap[a]? = _ := k
 rw [h1] at h2
 injection h2 with h2
 injection h2 with _ h2 _
 exact ht h2
theorem three_heapS (w : World) (o0 o1 o2 : Obj) (k : Nat) (hk : k < 3) : (((w.alloc o0).alloc o1).alloc o2).drew.heap[w.heap.size + k]? = [o0, o1, o2][k]? := by
 have e : (((w.alloc o0).alloc o1).alloc o2).drew.heap = w.heap ++ #[o0, o1, o2] := by
  show (((w.heap.push o0).push o1).push o2) = _
  apply Array.ext'
  simp
 rw [e, Array.getElem?_append_right (by omega), Nat.add_sub_cancel_left]
 simp
theorem scan_three {w : World} {n : Nat} {o0 o1 o2 : Obj} (kr kt ks : Nat) (h3 : (kr < 3 ∧ kt < 3 ∧ ks < 3) ∧ kr ≠ kt)
  (e1 : [o0, o1, o2][ks]? = some (.cells #[.slice (some ⟨w.heap.size + kr, 0, none⟩) n n, .slice (some ⟨w.heap.size + kt, 0, none⟩) n n, .int .i64 0, .slice none 0 0, .slice none 0 0] 119)) (e2 : [o0, o1, o2][kr]? = some (.cells (rowL n fun _ => .int .i64 0).toArray 3)) (e3 : [o0, o1, o2][kt]? = some (.cells (rowL n fun _ => .int .i64 0).toArray 3)) :
  ∃ sb rb tb, Value.pointer (some ⟨w.heap.size + ks, 0, none⟩) = .pointer (some ⟨sb, 0, none⟩) ∧ Below w.heap.size w (((w.alloc o0).alloc o1).alloc o2).drew ∧ Blk (((w.alloc o0).alloc o1).alloc o2).drew sb 119 [.slice (some ⟨rb, 0, none⟩) n n, .slice (some ⟨tb, 0, none⟩) n n, .int .i64 0, .slice none 0 0, .slice none 0 0] ∧ Blk (((w.alloc o0).alloc o1).alloc o2).drew rb 3 (rowL n fun _ => .int .i64 0) ∧ Blk (((w.alloc o0).alloc o1).alloc o2).drew tb 3 (rowL n fun _ => .int .i64 0) ∧ rb ≠ tb ∧ w.heap.size ≤ sb ∧ w.heap.size ≤ rb ∧ w.heap.size ≤ tb :=
 ⟨_, w.heap.size + kr, w.heap.size + kt, rfl, ((((Below.refl _ w).alloc (Nat.le_refl _) o0).alloc (by simp) o1).alloc (by simp; omega) o2).drew, (three_heapS w o0 o1 o2 ks h3.1.2.2).trans e1, (three_heapS w o0 o1 o2 kr h3.1.1).trans e2, (three_heapS w o0 o1 o2 kt h3.1.2.1).trans e3, by omega, by omega, by omega, by omega⟩
theorem ins0_any (w : World) (x : RG) (vb : Nat) (hv : Blk w vb 121 (rgC x)) :
  Calls Tryz.prog 98 #[.slice none 0 0, .int .i64 0, .slice (some ⟨vb, 0, none⟩) 1 1] w (fun e w' => ∃ a n c, e = .returned (.slice a n c) ∧ Below w.heap.size w w') := by
 obtain ⟨i0, hi0, hz0, hz1, hz2⟩ := info_partsV Tryz.infoRg
 have HA2 : Hid (∀ j u, (rgC x)[j]? = some u → w.cell? ((⟨vb, 0, none⟩ : Addr).add j) = some u) := fun j u hu => by
  rw [Addr.add_lit, Nat.zero_add]
  simp only [World.cell?, show w.heap[vb]? = some (.cells (rgC x).toArray 121 (0, 0)) from hv]
  simpa using hu
 have HA3 : Hid (∀ u ∈ rgC x, u.oneCell' = true) := fun u hu => by
  simp only [rgC, List.mem_cons, List.not_mem_nil, or_false] at hu
  rcases hu with rfl | rfl | rfl | rfl <;> rfl
 have HOWN : Hid (w.ownsRow w.heap.size 121 4 (.slice none 0 0) 0 []) := ⟨rfl, .inl ⟨rfl, rfl⟩⟩
 clear hv
 go_enter Tryz.func98, Tryz.ntmps98
 go_wp2_with (at_builtin; refine wpList_append_lies _ rfl _ _ 114 rfl w.heap.size 121 i0 zRG 4 32 Tryz.underlying114 hi0 hz0 hz1 hz2 rfl (by decide) _ _ _ rfl HOWN.out ⟨vb, 0, none⟩ 1 1 (rgC x) rfl rfl HA2.out HA3.out (by decide) (by unfold maxLen; omega) (by omega) (Nat.le_refl _) w.heap.size rfl ?_)
 intro g cap w' hown' hgrow hat _
 have HG : Hid (Below w.heap.size w w') := ⟨hgrow.os, hgrow.tape, hgrow.output, hgrow.size, fun k hk => hgrow.block k hk (fun e => by cases e)⟩
 clear hown' hgrow hat
 go_wp2_with fail
 go_ret
 exact ⟨_, _, _, rfl, HG.out⟩
set_option maxRecDepth 100000 in
set_option maxHeartbeats 8000000 in
theorem free1_any (w : World) (sb rb tb : Nat) (hbox : Blk w sb 119 [.slice (some ⟨rb, 0, none⟩) 2 2, .slice (some ⟨tb, 0, none⟩) 2 2, .int .i64 0, .slice none 0 0, .slice none 0 0]) :
  Calls Tryz.prog 67 #[.pointer (some ⟨sb, 0, none⟩), .int .i64 1] w (fun e w' => e = .returned (.int .i64 1) ∧ Below w.heap.size w w') := by
 have hb0 : Below w.heap.size w (w.alloc (.cells #[.pointer (some ⟨sb, 0, none⟩)] 117)) := (Below.refl _ _).alloc (Nat.le_refl _) _
 have hmf : ∀ (fn : Fn) (first cap : Array Value) (w : World), (Instr.makeFunc fn first cap).run Tryz.prog w = .ok (.func fn first cap) w := fun _ _ _ _ => rfl
 have HC := fun wx fv => Lib.hid (conn_any wx none 0 fv)
 have HS := Lib.hid (hbox.below hb0 hbox.lt)
 have HB0 := Lib.hid hb0
 have HP := Lib.hid (Blk.new w [.pointer (some ⟨sb, 0, none⟩)] 117)
 clear hb0 hbox
 go_enter Tryz.func67, Tryz.ntmps67
 go_upto_region 1 with fail
 obtain ⟨sp, hsp⟩ : ∃ sp, sp = w.heap.size := ⟨_, rfl⟩
 rw [← hsp] at HP ⊢
 clear hsp
 change Hid (Blk (w.alloc (.cells #[.pointer (some ⟨sb, 0, none⟩)] 117)) sp 117 [.pointer (some ⟨sb, 0, none⟩)]) at HP
 generalize w.alloc (.cells #[.pointer (some ⟨sb, 0, none⟩)] 117) = w1 at HP HB0 HS ⊢
 have hb1 : Below w1.heap.size w1 (w1.alloc (.cells #[.int .i64 1] 3)) := (Below.refl _ _).alloc (Nat.le_refl _) _
 have n0 := (Blk.new w1 [.int .i64 1] 3).cell 0
 change (w1.alloc (.cells #[.int .i64 1] 3)).cell? _ = _ at n0
 have p0 := (HP.out.below hb1 HP.out.lt).cell 0
 have a3 := (HS.out.below hb1 HS.out.lt).cell 3
 simp only [List.getElem?_cons_zero, List.getElem?_cons_succ] at n0 p0 a3
 have HB1 := Lib.hid (HB0.out.trans (hb1.mono HB0.out.size))
 obtain ⟨np, hnp⟩ : ∃ x, x = w1.heap.size := ⟨_, rfl⟩
 go_upto_block 0 with fail
 rw [← hnp] at n0 ⊢
 clear hnp hb1 HB0 HP HS
 generalize w1.alloc (.cells #[.int .i64 1] 3) = w2 at n0 p0 a3 HB1 ⊢
 go_wp2_with fail
 refine wp_loop_rounds 1 ?_
 rw [rounds_succ]
 go_wp2_with fail
 refine (HC _ _).out.mono ?_
 rintro e w3 ⟨rfl, rfl⟩
 go_wp2_with fail
 go_ret
 exact ⟨rfl, HB1.out⟩
set_option maxRecDepth 100000 in
set_option maxHeartbeats 8000000 in
theorem ent1_any (w0 w : World) (sb rb tb : Nat) (R S : Nat → Int) (be : Below w0.heap.size w0 w) (box : Blk w sb 119 [.slice (some ⟨rb, 0, none⟩) 2 2, .slice (some ⟨tb, 0, none⟩) 2 2, .int .i64 0, .slice none 0 0, .slice none 0 0])
  (reg : Blk w rb 3 (rowL 2 fun i => .int .i64 (R i))) (slo : Blk w tb 3 (rowL 2 fun i => .int .i64 (S i))) (ne : rb ≠ tb) (lo : w0.heap.size ≤ sb ∧ w0.heap.size ≤ rb ∧ w0.heap.size ≤ tb) (b e : Int) (ob : Nat) (oc : List Value) (out : Blk w ob 31 oc) :
  Calls Tryz.prog 68 #[.pointer (some ⟨sb, 0, none⟩), .agg #[.int .i64 1, .int .i64 b, .int .i64 e, .bool false], .int .i64 1] w (fun en w' => en = .returned (.tuple #[]) ∧ Below w0.heap.size w0 w' ∧ w'.cell? ⟨rb, 1, none⟩ = some (.int .i64 1) ∧ rb < w'.heap.size ∧ Blk w' ob 31 oc ∧ ∃ aa an ac, Blk w' sb 119 [.slice (some ⟨rb, 0, none⟩) 2 2, .slice (some ⟨tb, 0, none⟩) 2 2, .int .i64 0, .slice aa an ac, .slice none 0 0]) := by
 have hb0 : Below w.heap.size w (w.alloc (.cells #[.int .i64 1, .int .i64 b, .int .i64 e, .bool false] 121)) := (Below.refl _ _).alloc (Nat.le_refl _) _
 have HBE := Lib.hid (be.trans (hb0.mono be.size))
 have HBX := Lib.hid (box.below hb0 box.lt)
 have HRG := Lib.hid (reg.below hb0 reg.lt)
 have HSL := Lib.hid (slo.below hb0 slo.lt)
 have HOB := Lib.hid (out.below hb0 out.lt)
 have HX0 := Lib.hid (Blk.new w [.int .i64 1, .int .i64 b, .int .i64 e, .bool false] 121)
 have HIX := fun wx fv => Lib.hid (ixn_any wx none 0 fv)
 have hmf : ∀ (fn : Fn) (first cap : Array Value) (w : World), (Instr.makeFunc fn first cap).run Tryz.prog w = .ok (.func fn first cap) w := fun _ _ _ _ => rfl
 clear be box reg slo hb0 out
 go_enter Tryz.func68, Tryz.ntmps68
 go_upto_region 1 with fail
 obtain ⟨xp, hxp⟩ : ∃ xp, xp = w.heap.size := ⟨_, rfl⟩
 rw [← hxp] at HX0 ⊢
 change Hid (Blk (w.alloc (.cells #[.int .i64 1, .int .i64 b, .int .i64 e, .bool false] 121)) xp _ _) at HX0
 clear hxp
 generalize w.alloc (.cells #[.int .i64 1, .int .i64 b, .int .i64 e, .bool false] 121) = w1 at HBE HBX HRG HSL HX0 HOB ⊢
 have b0 := HBX.out.cell 0
 have b1 := HBX.out.cell 1
 have x0 := HX0.out.cell 0
 simp only [List.getElem?_cons_zero, List.getElem?_cons_succ] at b0 b1 x0
 have r1 := Blk.row HRG.out (show 1 < 2 by omega)
 have r2 := HRG.out.free 1
 have t1 := Blk.row HSL.out (show 1 < 2 by omega)
 have t2 := HSL.out.free 1
 have hnb2 : tb ≠ rb := fun e => ne e.symm
 have hn3 : xp ≠ rb := blk_tyne HX0.out HRG.out (by decide)
 have hn4 : xp ≠ tb := blk_tyne HX0.out HSL.out (by decide)
 have hn5 : sb ≠ rb := blk_tyne HBX.out HRG.out (by decide)
 have hn6 : sb ≠ tb := blk_tyne HBX.out HSL.out (by decide)
 have HBE2 : Hid (Below w0.heap.size w0 ((w1.setCell ⟨rb, 1, none⟩ (.int .i64 1)).setCell ⟨tb, 1, none⟩ (.int .i64 (-1))).drew) := ((HBE.out.setCell (p := ⟨rb, 1, none⟩) lo.2.1 _).setCell (p := ⟨tb, 1, none⟩) lo.2.2 _).drew
 have HBX2 : Hid (Blk ((w1.setCell ⟨rb, 1, none⟩ (.int .i64 1)).setCell ⟨tb, 1, none⟩ (.int .i64 (-1))).drew sb 119 [.slice (some ⟨rb, 0, none⟩) 2 2, .slice (some ⟨tb, 0, none⟩) 2 2, .int .i64 0, .slice none 0 0, .slice none 0 0]) := ((HBX.out.setOther (a := ⟨rb, 1, none⟩) hn5 (.int .i64 1)).setOther (a := ⟨tb, 1, none⟩) hn6 (.int .i64 (-1))).drew
 have HX2 : Hid (Blk ((w1.setCell ⟨rb, 1, none⟩ (.int .i64 1)).setCell ⟨tb, 1, none⟩ (.int .i64 (-1))).drew xp 121 [.int .i64 1, .int .i64 b, .int .i64 e, .bool false]) := ((HX0.out.setOther (a := ⟨rb, 1, none⟩) hn3 (.int .i64 1)).setOther (a := ⟨tb, 1, none⟩) hn4 (.int .i64 (-1))).drew
 have HR2 : Hid (Blk ((w1.setCell ⟨rb, 1, none⟩ (.int .i64 1)).setCell ⟨tb, 1, none⟩ (.int .i64 (-1))).drew rb 3 (rowL 2 fun i => if i = 1 then .int .i64 1 else .int .i64 (R i))) := ((HRG.out.rowSet 1 (.int .i64 1)).setOther (a := ⟨tb, 1, none⟩) ne (.int .i64 (-1))).drew
 have HOB2 : Hid (Blk ((w1.setCell ⟨rb, 1, none⟩ (.int .i64 1)).setCell ⟨tb, 1, none⟩ (.int .i64 (-1))).drew ob 31 oc) := ((HOB.out.setOther (a := ⟨rb, 1, none⟩) (blk_tyne HOB.out HRG.out (by decide)) (.int .i64 1)).setOther (a := ⟨tb, 1, none⟩) (blk_tyne HOB.out HSL.out (by decide)) (.int .i64 (-1))).drew
 clear HBE HRG HSL HOB
 go_region
 all_goals go_upto_region 2 with fail
 clear b0 b1 x0 r1 r2 t1 t2 hnb2 hn3 hn4 hn5 hn6 HBX HX0
 generalize ((w1.setCell ⟨rb, 1, none⟩ (.int .i64 1)).setCell ⟨tb, 1, none⟩ (.int .i64 (-1))).drew = w2 at HBE2 HBX2 HX2 HR2 HOB2 ⊢
 have b3 := HBX2.out.cell 3
 simp only [List.getElem?_cons_zero, List.getElem?_cons_succ] at b3
 go_wp2_with fail
 refine (HIX _ _).out.mono ?_
 rintro e3 w3 ⟨rfl, rfl⟩
 go_upto_region 5 with fail
 obtain ⟨wd, hwd⟩ : ∃ wd, wd = w2.drew := ⟨_, rfl⟩
 have HBE3 : Hid (Below w0.heap.size w0 wd) := by rw [hwd]; exact HBE2.out.drew
 have HBX3 : Hid (Blk wd sb 119 [.slice (some ⟨rb, 0, none⟩) 2 2, .slice (some ⟨tb, 0, none⟩) 2 2, .int .i64 0, .slice none 0 0, .slice none 0 0]) := by rw [hwd]; exact HBX2.out.drew
 have HX3 : Hid (Blk wd xp 121 [.int .i64 1, .int .i64 b, .int .i64 e, .bool false]) := by rw [hwd]; exact HX2.out.drew
 have HR3 : Hid (Blk wd rb 3 (rowL 2 fun i => if i = 1 then .int .i64 1 else .int .i64 (R i))) := by rw [hwd]; exact HR2.out.drew
 have HOB3 : Hid (Blk wd ob 31 oc) := by rw [hwd]; exact HOB2.out.drew
 have b3 := HBX3.out.cell 3
 have x0 := HX3.out.cell 0
 have x1 := HX3.out.cell 1
 have x2 := HX3.out.cell 2
 have x3 := HX3.out.cell 3
 simp only [List.getElem?_cons_zero, List.getElem?_cons_succ] at b3 x0 x1 x2 x3
 have hl1 := HBX3.out.lt
 have hl2 := HX3.out.lt
 have q3 := fun z : AfterR (Keep2C sb xp) wd => (World.cell?_of_block (a := ⟨sb, 3, none⟩) z.rel.1).trans b3
 have p0 := fun z : AfterR (Keep2C sb xp) wd => (World.cell?_of_block (a := ⟨xp, 0, none⟩) z.rel.2).trans x0
 have p1 := fun z : AfterR (Keep2C sb xp) wd => (World.cell?_of_block (a := ⟨xp, 1, none⟩) z.rel.2).trans x1
 have p2 := fun z : AfterR (Keep2C sb xp) wd => (World.cell?_of_block (a := ⟨xp, 2, none⟩) z.rel.2).trans x2
 have p3 := fun z : AfterR (Keep2C sb xp) wd => (World.cell?_of_block (a := ⟨xp, 3, none⟩) z.rel.2).trans x3
 clear b3 x0 x1 x2 x3 HBE2 HBX2 HX2 HR2 HOB2
 refine wp_region_eagerRT (Keep2C sb xp) [(0, true), (1, true), (2, true), (3, true), (4, true), (5, true), (6, true), (7, false), (8, false), (9, true), (10, true), (11, false)] (by kernel_rfl) (by kernel_rfl) ?_
 rw [← hwd]
 clear hwd
 repeat (refine eagR_readT rfl ?_; go_big_quiet_step (fail); refine wpQuiet_nil ?_)
 clear q3 p0 p1 p2 p3
 refine eagR_doesT rfl rfl ?_
 intro K hK
 go_simp
 refine hK _ _ (fun _ => ⟨Below.heap_alloc _ _ _ hl1, Below.heap_alloc _ _ _ hl2⟩) ?_
 clear hK K
 go_simp
 have hba : Below wd.heap.size wd (wd.alloc (.cells #[.int .i64 1, .int .i64 b, .int .i64 e, .bool false] 121)) := (Below.refl _ _).alloc (Nat.le_refl _) _
 have HBE4 := Lib.hid (HBE3.out.trans (hba.mono HBE3.out.size))
 have HBX4 := Lib.hid (HBX3.out.below hba HBX3.out.lt)
 have HX4 := Lib.hid (HX3.out.below hba HX3.out.lt)
 have HR4 := Lib.hid (HR3.out.below hba HR3.out.lt)
 have HOB4 := Lib.hid (HOB3.out.below hba HOB3.out.lt)
 have HIN := Lib.hid (ins0_any _ ⟨1, b, e, false⟩ _ (Blk.new wd (rgC ⟨1, b, e, false⟩) 121))
 change Hid (Calls Tryz.prog 98 _ (wd.alloc (.cells #[.int .i64 1, .int .i64 b, .int .i64 e, .bool false] 121)) (fun e' w' => ∃ a n c, e' = .returned (.slice a n c) ∧ Below (wd.alloc (.cells #[.int .i64 1, .int .i64 b, .int .i64 e, .bool false] 121)).heap.size (wd.alloc (.cells #[.int .i64 1, .int .i64 b, .int .i64 e, .bool false] 121)) w')) at HIN
 obtain ⟨nw, hnw⟩ : ∃ x, x = wd.heap.size := ⟨_, rfl⟩
 rw [← hnw] at HIN ⊢
 clear hba hnw HBE3 HBX3 HX3 HR3 hl1 hl2 HOB3
 generalize wd.alloc (.cells #[.int .i64 1, .int .i64 b, .int .i64 e, .bool false] 121) = w4 at HBE4 HBX4 HX4 HR4 HOB4 HIN ⊢
 refine eagR_doesT rfl rfl ?_
 intro K hK
 go_simp
 refine HIN.out.mono ?_
 rintro e5 w5 ⟨aa, an, ac, rfl, hb5⟩
 have HBE5 := Lib.hid (HBE4.out.trans (hb5.mono HBE4.out.size))
 have HBX5 := Lib.hid (HBX4.out.below hb5 HBX4.out.lt)
 have HR5 := Lib.hid (HR4.out.below hb5 HR4.out.lt)
 have z4 := HBX5.out.cell 3
 have z5 := HBX5.out.free 3
 simp only [List.getElem?_cons_zero, List.getElem?_cons_succ] at z4
 have hsb5 := HBX5.out.lt
 have hsr : rb ≠ sb := fun q => blk_tyne HBX5.out HR5.out (by decide) q.symm
 have HBX6 := Lib.hid (HBX5.out.set 3 (.slice aa an ac))
 have HOB6 := Lib.hid ((HOB4.out.below hb5 HOB4.out.lt).setOther (a := ⟨sb, 3, none⟩) (fun q => blk_tyne HBX5.out (HOB4.out.below hb5 HOB4.out.lt) (by decide) q.symm) (.slice aa an ac))
 have HR6 := Lib.hid (HR5.out.setOther (a := ⟨sb, 3, none⟩) hsr (.slice aa an ac))
 have HBE6 := Lib.hid (HBE5.out.setCell (p := ⟨sb, 3, none⟩) lo.1 (.slice aa an ac))
 refine hK _ _ (fun _ => ⟨hb5.block _ HBX4.out.lt, hb5.block _ HX4.out.lt⟩) ?_
 clear hK K hb5 HIN HBE4 HBX4 HX4 HR4 HOB4 HBE5 HBX5 HR5
 go_simp
 repeat (refine eagR_readT rfl ?_; go_big_quiet_step (fail); refine wpQuiet_nil ?_)
 refine eagR_freeT rfl rfl (by kernel_rfl) ?_
 intro K hK
 go_simp
 refine hK _ _ ?_
 clear hK K z4 z5
 go_simp
 refine eagR_endT ?_
 go_wp2_with fail
 refine bodyPost_end (results_none rfl _ _ _) rfl ?_
 exact ⟨rfl, HBE6.out, (Blk.row HR6.out (show 1 < 2 by omega)).trans rfl, HR6.out.lt, HOB6.out, aa, an, ac, HBX6.out⟩
set_option maxRecDepth 100000 in
set_option maxHeartbeats 8000000 in
theorem lal1_any (w : World) (p q : Nat) (hf : (f1V p q).Ok w) : Calls Tryz.prog 33 #[.agg #[.int .i64 0, .slice (some ⟨p, 0, none⟩) 1 1, .int .i64 2, .slice (some ⟨q, 0, none⟩) 1 1], .int .i64 1] w (fun e w' => ∃ rb tb, e = .returned (.tuple #[.agg #[.slice (some ⟨rb, 0, none⟩) 2 2, .slice (some ⟨tb, 0, none⟩) 2 2, .int .i64 0], .int .i64 0]) ∧ rb < w'.heap.size ∧ w'.cell? ⟨rb, 1, none⟩ = some (.int .i64 1) ∧ Below w.heap.size w w') := by
 have hb0 : Below w.heap.size w ((w.alloc (.cells #[.int .i64 0, .slice (some ⟨p, 0, none⟩) 1 1, .int .i64 2, .slice (some ⟨q, 0, none⟩) 1 1] 25)).alloc (.cells #[.slice none 0 0, .slice none 0 0, .int .i64 0] 31)) := ((Below.refl _ _).alloc (Nat.le_refl _) _).alloc (by simp) _
 have hbf := (Blk.new w [.int .i64 0, .slice (some ⟨p, 0, none⟩) 1 1, .int .i64 2, .slice (some ⟨q, 0, none⟩) 1 1] 25).alloc (.cells #[.slice none 0 0, .slice none 0 0, .int .i64 0] 31)
 have hbr := Blk.new (w.alloc (.cells #[.int .i64 0, .slice (some ⟨p, 0, none⟩) 1 1, .int .i64 2, .slice (some ⟨q, 0, none⟩) 1 1] 25)) [.slice none 0 0, .slice none 0 0, .int .i64 0] 31
 rw [World.size_alloc] at hbr
 have HCK := Lib.hid fun wx (h : Below w.heap.size w wx) => rng1_any wx p q (hf.below h)
 have HSZ : Hid ((Tryz.prog.info? 31).map (·.size) = some 3) := by unfold Hid; kernel_rfl
 have HB0 := Lib.hid hb0
 have HBF := Lib.hid hbf
 have HBR := Lib.hid hbr
 clear hf hb0 hbf hbr
 go_enter Tryz.func33, Tryz.ntmps33
 go_upto_region 1 with fail
 obtain ⟨pf, hpf⟩ : ∃ x, x = w.heap.size := ⟨_, rfl⟩
 have HB1 : Hid (Below w.heap.size w ((w.alloc (.cells #[.int .i64 0, .slice (some ⟨p, 0, none⟩) 1 1, .int .i64 2, .slice (some ⟨q, 0, none⟩) 1 1] 25)).alloc (.cells #[.slice none 0 0, .slice none 0 0, .int .i64 0] 31))) := HB0.out
 change Hid (Blk ((w.alloc (.cells #[.int .i64 0, .slice (some ⟨p, 0, none⟩) 1 1, .int .i64 2, .slice (some ⟨q, 0, none⟩) 1 1] 25)).alloc (.cells #[.slice none 0 0, .slice none 0 0, .int .i64 0] 31)) _ _ _) at HBF
 change Hid (Blk ((w.alloc (.cells #[.int .i64 0, .slice (some ⟨p, 0, none⟩) 1 1, .int .i64 2, .slice (some ⟨q, 0, none⟩) 1 1] 25)).alloc (.cells #[.slice none 0 0, .slice none 0 0, .int .i64 0] 31)) _ _ _) at HBR
 rw [← hpf] at HBF HBR ⊢
 have HPF : Hid (w.heap.size ≤ pf + 1) := by show _ ≤ _; omega
 generalize (w.alloc (.cells #[.int .i64 0, .slice (some ⟨p, 0, none⟩) 1 1, .int .i64 2, .slice (some ⟨q, 0, none⟩) 1 1] 25)).alloc (.cells #[.slice none 0 0, .slice none 0 0, .int .i64 0] 31) = w1 at HB1 HBF HBR ⊢
 clear HB0 hpf
 have c0 := HBF.out.cell 0
 have c1 := HBF.out.cell 1
 have c2 := HBF.out.cell 2
 have c3 := HBF.out.cell 3
 simp only [List.getElem?_cons_zero, List.getElem?_cons_succ] at c0 c1 c2 c3
 go_wp2_with fail
 refine (HCK.out w1 HB1.out).mono ?_
 rintro e w2 ⟨lg, x, rfl, hrow, hxr, hxs, hb2⟩
 have HB2 := Lib.hid (HB1.out.trans (hb2.mono HB1.out.size))
 have HBF2 := Lib.hid (HBF.out.below hb2 HBF.out.lt)
 have HBR2 := Lib.hid (HBR.out.below hb2 HBR.out.lt)
 have HROW : Hid (RgRow w2 w.heap.size (some ⟨lg, 0, none⟩) 2 [x]) := ownG_base hrow HB1.out.size
 have HXX := Lib.hid (And.intro hxr hxs)
 clear hb2 HB1 HBF HBR c0 c1 c2 c3 HCK hrow hxr hxs
 go_upto_region 6 with fail
 have c2 := HBF2.out.cell 2
 simp only [List.getElem?_cons_zero, List.getElem?_cons_succ] at c2
 have hmk : ∀ w : World, (Instr.makeSlice 22 (.int .i64 2) (.int .i64 2)).run Tryz.prog w = .ok (.slice (some ⟨w.heap.size, 0, none⟩) 2 2) (w.alloc (.cells (rowL 2 fun _ => .int .i64 0).toArray 3)) := fun w => run_make_rep (P := Tryz.prog) 22 3 (.int .i64 0) 8 Tryz.underlying22 (by kernel_rfl) rfl 2 (by omega) (by omega) w
 go_cut [8] from 31 (fun v wx => ∃ sb rb tb, v = .pointer (some ⟨sb, 0, none⟩) ∧ Below w2.heap.size w2 wx ∧ Blk wx sb 119 [.slice (some ⟨rb, 0, none⟩) 2 2, .slice (some ⟨tb, 0, none⟩) 2 2, .int .i64 0, .slice none 0 0, .slice none 0 0] ∧ Blk wx rb 3 (rowL 2 fun _ => .int .i64 0) ∧ Blk wx tb 3 (rowL 2 fun _ => .int .i64 0) ∧ rb ≠ tb ∧ w2.heap.size ≤ sb ∧ w2.heap.size ≤ rb ∧ w2.heap.size ≤ tb)
 case first => as_aux_lemma =>
  have hpl := Blk.lt HBF2.out
  go_region
  all_goals go_wp2_with fail
  all_goals go_meet
  ·exact scan_three 0 1 2 (by decide) rfl rfl rfl
  ·exact scan_three 1 0 2 (by decide) rfl rfl rfl
 case rest => as_aux_lemma =>
  obtain ⟨sb, rb, tb, rfl, hb3, hbox, hreg, hslo, hrt, hl1, hl2, hl3⟩ := hcut
  have HBE := Lib.hid (HB2.out.trans (hb3.mono HB2.out.size))
  have HRES := Lib.hid (HBR2.out.below hb3 (Blk.lt HBR2.out))
  have HROW3 := Lib.hid (HROW.out.below hb3)
  have HBOX := Lib.hid hbox
  have HREG3 := Lib.hid hreg
  have HSLO := Lib.hid hslo
  have HLO : Hid (w.heap.size ≤ sb ∧ w.heap.size ≤ rb ∧ w.heap.size ≤ tb) := by have := HB2.out.size; exact ⟨by omega, by omega, by omega⟩
  have HRT := Lib.hid hrt
  have b0 := hbox.cell 0
  simp only [List.getElem?_cons_zero] at b0
  clear hb3 hbox hreg hslo hrt hl1 hl2 hl3 c2 hmk HBF2 HBR2 HROW HB2
  go_wp2_with fail
  clear b0
  go_loopw [46] (fun u wr => ∃ j : Nat, j ≤ 2 ∧ u = .int .i64 (j : Int) ∧ Below w.heap.size w wr ∧ Blk wr sb 119 [.slice (some ⟨rb, 0, none⟩) 2 2, .slice (some ⟨tb, 0, none⟩) 2 2, .int .i64 0, .slice none 0 0, .slice none 0 0] ∧ Blk wr rb 3 (rowL 2 fun r => .int .i64 (if r < j then -1 else 0)) ∧ Blk wr tb 3 (rowL 2 fun r => .int .i64 (if r < j then -1 else 0)) ∧ Blk wr (pf + 1) 31 [.slice none 0 0, .slice none 0 0, .int .i64 0] ∧ RgRow wr w.heap.size (some ⟨lg, 0, none⟩) 2 [x]) (fun u _ => 2 - (intOf u).toNat)
  case atStart => exact ⟨0, Nat.zero_le _, rfl, HBE.out, HBOX.out, HREG3.out, HSLO.out, HRES.out, HROW3.out⟩
  case round =>
   clear HBE HBOX HREG3 HSLO HRES HROW3
   obtain ⟨j, hj, rfl, hbe, hbox, hreg, hslo, hres, hrow⟩ := hrel
   by_cases hlt : j < 2
   ·have b0 := hbox.cell 0
    have b1 := hbox.cell 1
    simp only [List.getElem?_cons_zero, List.getElem?_cons_succ] at b0 b1
    have r1 := Blk.row hreg hlt
    have r2 := hreg.free j
    have t1 := Blk.row hslo hlt
    have t2 := hslo.free j
    have hnb : rb ≠ tb := HRT.out
    have hnb2 : tb ≠ rb := fun e => HRT.out e.symm
    have hn5 : sb ≠ rb := blk_tyne hbox hreg (by decide)
    have hn6 : sb ≠ tb := blk_tyne hbox hslo (by decide)
    have hlo := HLO.out
    have hd : ∀ wx : World, Below wx.heap.size wx wx.drew := fun wx => (Below.refl _ _).drew
    have HB4 : Hid (Below w.heap.size w ((wr.setCell ⟨rb, j, none⟩ (.int .i64 (-1))).setCell ⟨tb, j, none⟩ (.int .i64 (-1))).drew) := ((hbe.setCell (p := ⟨rb, j, none⟩) hlo.2.1 _).setCell (p := ⟨tb, j, none⟩) hlo.2.2 _).drew
    have HX4 := Lib.hid ((hbox.setOther (a := ⟨rb, j, none⟩) hn5 (.int .i64 (-1))).setOther (a := ⟨tb, j, none⟩) hn6 (.int .i64 (-1)))
    have hc : ∀ i, (if i = j then Value.int .i64 (-1) else .int .i64 (if i < j then -1 else 0)) = .int .i64 (if i < j + 1 then -1 else 0) := fun i => by
     by_cases e : i = j
     ·rw [if_pos e, if_pos (by omega)]
     ·rw [if_neg e]
      by_cases e2 : i < j
      ·rw [if_pos e2, if_pos (by omega)]
      ·rw [if_neg e2, if_neg (by omega)]
    have HR4 := Lib.hid (((hreg.rowSet j (.int .i64 (-1))).rowCongr fun i _ => hc i).setOther (a := ⟨tb, j, none⟩) hnb (.int .i64 (-1)))
    have HT4 := Lib.hid (((hslo.setOther (a := ⟨rb, j, none⟩) hnb2 (.int .i64 (-1))).rowSet j (.int .i64 (-1))).rowCongr fun i _ => hc i)
    have HS4 := Lib.hid ((hres.setOther (a := ⟨rb, j, none⟩) (blk_tyne hres hreg (by decide)) (.int .i64 (-1))).setOther (a := ⟨tb, j, none⟩) (blk_tyne hres hslo (by decide)) (.int .i64 (-1)))
    have HW4 : Hid (RgRow ((wr.setCell ⟨rb, j, none⟩ (.int .i64 (-1))).setCell ⟨tb, j, none⟩ (.int .i64 (-1))) w.heap.size (some ⟨lg, 0, none⟩) 2 [x]) := by
     have h1 : RgRow (wr.setCell ⟨rb, j, none⟩ (.int .i64 (-1))) w.heap.size (some ⟨lg, 0, none⟩) 2 [x] := ownG_other (a := ⟨rb, j, none⟩) hrow (blk_noOwn hreg hrow (by decide)) _
     exact ownG_other (a := ⟨tb, j, none⟩) h1 (blk_noOwn (hslo.setOther (a := ⟨rb, j, none⟩) hnb2 (.int .i64 (-1))) h1 (by decide)) _
    have hji : (j : Int) < 2 := by omega
    clear hc hd hlo hbe hbox hreg hslo hres hrow
    go_upto_region 10 with fail
    go_region
    all_goals go_wp2_with fail
    go_roundw
    case rel => exact ⟨j + 1, by omega, by go_num, HB4.out, HX4.out.drew, HR4.out.drew, HT4.out.drew, HS4.out.drew, HW4.out.below (Below.refl _ _).drew⟩
    case measure => simp [intOf]; omega
   ·have ej : j = 2 := by omega
    subst ej
    clear hlt
    have HBE := Lib.hid hbe
    have HBOX := Lib.hid hbox
    have HREG := Lib.hid hreg
    have HSLO := Lib.hid hslo
    have HRES := Lib.hid hres
    have HROW := Lib.hid hrow
    obtain ⟨c0, c1, c2, c3⟩ : wr.cell? ⟨lg, 0, none⟩ = some (.int .i64 x.r) ∧ wr.cell? ⟨lg, 1, none⟩ = some (.int .i64 x.b) ∧ wr.cell? ⟨lg, 2, none⟩ = some (.int .i64 x.e) ∧ wr.cell? ⟨lg, 3, none⟩ = some (.bool x.s) := hrow.cells (i := 0) (by simp)
    rw [HXX.out.1] at c0
    rw [HXX.out.2] at c3
    clear hbe hbox hreg hslo hres hrow
    go_wp2_with fail
    refine wp_loop_rounds 2 ?_
    rw [rounds_succ]
    go_upto_region 15 with fail
    have hab : Below wr.heap.size wr (wr.alloc (.cells #[.int .i64 1, .int .i64 x.b, .int .i64 x.e, .bool false] 121)) := (Below.refl _ _).alloc (Nat.le_refl _) _
    have HBE1 := Lib.hid (HBE.out.trans (hab.mono HBE.out.size))
    have HBOX1 := Lib.hid (HBOX.out.below hab HBOX.out.lt)
    have HREG1 := Lib.hid (HREG.out.below hab HREG.out.lt)
    have HSLO1 := Lib.hid (HSLO.out.below hab HSLO.out.lt)
    have HRES1 := Lib.hid (HRES.out.below hab HRES.out.lt)
    have HXB := Lib.hid (Blk.new wr [.int .i64 1, .int .i64 x.b, .int .i64 x.e, .bool false] 121)
    change Hid (Blk (wr.alloc (.cells #[.int .i64 1, .int .i64 x.b, .int .i64 x.e, .bool false] 121)) _ _ _) at HXB
    obtain ⟨xp, hxp⟩ : ∃ xp, xp = wr.heap.size := ⟨_, rfl⟩
    rw [← hxp] at HXB ⊢
    clear hxp hab c0 c1 c2 c3 HBE HBOX HREG HSLO HRES HROW
    generalize wr.alloc (.cells #[.int .i64 1, .int .i64 x.b, .int .i64 x.e, .bool false] 121) = w3 at HBE1 HBOX1 HREG1 HSLO1 HRES1 HXB ⊢
    have b3 := HBOX1.out.cell 3
    have z5 := HBOX1.out.free 3
    simp only [List.getElem?_cons_zero, List.getElem?_cons_succ] at b3
    have hsb := HBOX1.out.lt
    have hmf : ∀ (fn : Fn) (first cap : Array Value) (w : World), (Instr.makeFunc fn first cap).run Tryz.prog w = .ok (.func fn first cap) w := fun _ _ _ _ => rfl
    have HDE := fun wx fv => Lib.hid (deln_any wx none 0 fv)
    have hxsb : xp ≠ sb := blk_tyne HXB.out HBOX1.out (by decide)
    have HBE2 := Lib.hid (HBE1.out.setCell (p := ⟨sb, 3, none⟩) HLO.out.1 (.slice none 0 0))
    have HBOX2 := Lib.hid (HBOX1.out.set 3 (.slice none 0 0))
    have HREG2 := Lib.hid (HREG1.out.setOther (a := ⟨sb, 3, none⟩) (fun e => blk_tyne HBOX1.out HREG1.out (by decide) e.symm) (.slice none 0 0))
    have HSLO2 := Lib.hid (HSLO1.out.setOther (a := ⟨sb, 3, none⟩) (fun e => blk_tyne HBOX1.out HSLO1.out (by decide) e.symm) (.slice none 0 0))
    have HRES2 := Lib.hid (HRES1.out.setOther (a := ⟨sb, 3, none⟩) (fun e => blk_tyne HBOX1.out HRES1.out (by decide) e.symm) (.slice none 0 0))
    have HXB2 := Lib.hid (HXB.out.setOther (a := ⟨sb, 3, none⟩) hxsb (.slice none 0 0))
    change Hid (Blk _ _ _ [.slice (some ⟨rb, 0, none⟩) 2 2, .slice (some ⟨tb, 0, none⟩) 2 2, .int .i64 0, .slice none 0 0, .slice none 0 0]) at HBOX2
    go_wp2_with fail
    refine (HDE _ _).out.mono ?_
    rintro e w4 ⟨rfl, rfl⟩
    go_upto_region 16 with fail
    clear b3 z5 hsb HBE1 HBOX1 HREG1 HSLO1 HRES1 HXB HDE hxsb
    generalize w3.setCell ⟨sb, 3, none⟩ (.slice none 0 0) = w5 at HBE2 HBOX2 HREG2 HSLO2 HRES2 HXB2 ⊢
    have x3 := HXB2.out.cell 3
    simp only [List.getElem?_cons_zero, List.getElem?_cons_succ] at x3
    have HFR := Lib.hid (free1_any w5 sb rb tb HBOX2.out)
    go_wp2_with fail
    refine HFR.out.mono ?_
    rintro e w6 ⟨rfl, hb6⟩
    have HBE6 := Lib.hid (HBE2.out.trans (hb6.mono HBE2.out.size))
    have HBOX6 := Lib.hid (HBOX2.out.below hb6 HBOX2.out.lt)
    have HREG6 := Lib.hid (HREG2.out.below hb6 HREG2.out.lt)
    have HSLO6 := Lib.hid (HSLO2.out.below hb6 HSLO2.out.lt)
    have HRES6 := Lib.hid (HRES2.out.below hb6 HRES2.out.lt)
    have HXB6 := Lib.hid (HXB2.out.below hb6 HXB2.out.lt)
    clear hb6 HFR x3 HBE2 HBOX2 HREG2 HSLO2 HRES2 HXB2
    have x0 := HXB6.out.cell 0
    have x1 := HXB6.out.cell 1
    have x2 := HXB6.out.cell 2
    have x3 := HXB6.out.cell 3
    simp only [List.getElem?_cons_zero, List.getElem?_cons_succ] at x0 x1 x2 x3
    have HEN := Lib.hid (ent1_any w w6 sb rb tb _ _ HBE6.out HBOX6.out HREG6.out HSLO6.out HRT.out HLO.out x.b x.e _ _ HRES6.out)
    go_wp2_with fail
    refine HEN.out.mono ?_
    rintro e w7 ⟨rfl, hb7, hc7, hr7, ho7, aa, an, ac, hx7⟩
    have HB7 := Lib.hid hb7
    have HC7 := Lib.hid hc7
    have HL7 := Lib.hid hr7
    have HO7 := Lib.hid ho7
    have HX7 := Lib.hid hx7
    clear hb7 hc7 hr7 ho7 hx7 HEN x0 x1 x2 x3 HBE6 HBOX6 HREG6 HSLO6 HRES6 HXB6
    go_wp2_with fail
    rw [rounds_succ]
    have b0 := HX7.out.cell 0
    have b1 := HX7.out.cell 1
    have b2 := HX7.out.cell 2
    have b4 := HX7.out.cell 4
    have z2 := HX7.out.free 2
    simp only [List.getElem?_cons_zero, List.getElem?_cons_succ] at b0 b1 b2 b4
    have hsb := HX7.out.lt
    have hbs : pf + 1 ≠ sb := fun e => blk_tyne HX7.out HO7.out (by decide) e.symm
    have hrs : rb ≠ sb := by
     intro e
     have h1 : w7.heap[sb]? = _ := HX7.out
     have h2 := HC7.out
     rw [e] at h2
     rw [b1] at h2
     cases h2
    have HB8 := Lib.hid (HB7.out.setCell (p := ⟨sb, 2, none⟩) HLO.out.1 (.int .i64 0))
    have HO8 := Lib.hid (HO7.out.setOther (a := ⟨sb, 2, none⟩) hbs (.int .i64 0))
    have HX8 := Lib.hid (HX7.out.set 2 (.int .i64 0))
    have HC8 : Hid ((w7.setCell ⟨sb, 2, none⟩ (.int .i64 0)).cell? ⟨rb, 1, none⟩ = some (.int .i64 1)) := (World.cell?_of_block (a := ⟨rb, 1, none⟩) (Below.heap_setCell _ _ _ _ (fun e => hrs e))).trans HC7.out
    have HL8 : Hid (rb < (w7.setCell ⟨sb, 2, none⟩ (.int .i64 0)).heap.size) := by have := HL7.out; show _ < _; simpa [World.setCell] using this
    change Hid (Blk _ _ _ [.slice (some ⟨rb, 0, none⟩) 2 2, .slice (some ⟨tb, 0, none⟩) 2 2, .int .i64 0, .slice aa an ac, .slice none 0 0]) at HX8
    go_upto_region 30 with fail
    clear b0 b1 b2 b4 z2 hsb hbs hrs HB7 HO7 HX7 HC7 HL7
    generalize w7.setCell ⟨sb, 2, none⟩ (.int .i64 0) = w8 at HB8 HO8 HX8 HC8 HL8 ⊢
    have b0 := HX8.out.cell 0
    have b1 := HX8.out.cell 1
    have b2 := HX8.out.cell 2
    simp only [List.getElem?_cons_zero, List.getElem?_cons_succ] at b0 b1 b2
    go_wp2_with (refine wpList_store_rowTo rfl 31 _ _ rfl rfl (pf + 1) #[.slice (some ⟨rb, 0, none⟩) 2 2, .slice (some ⟨tb, 0, none⟩) 2 2, .int .i64 0] rfl rfl _ _ HO8.out HSZ.out rfl (oneC _ _ _ _ _ _ _) ?_)
    have hr9 := setRowBlkC HO8.out [.slice (some ⟨rb, 0, none⟩) 2 2, .slice (some ⟨tb, 0, none⟩) 2 2, .int .i64 0]
    have hrp : rb ≠ pf + 1 := by
     intro e
     have h2 := HC8.out
     have h3 := HO8.out.cell 1
     rw [← e, h2] at h3
     cases h3
    refine bodyPost_ret (results_row_oneC rfl _ _ (pf + 1) _ _ _ _ rfl hr9 Tryz.underlying31 rfl HSZ.out) rfl ⟨rb, tb, rfl, ?_, ?_, setRowBelowC HB8.out HPF.out _⟩
    ·have := HL8.out; simpa [World.setRow] using this
    ·refine (World.cell?_of_block (a := ⟨rb, 1, none⟩) ?_).trans HC8.out
     simp only [World.setRow, Array.getElem?_modify]
     rw [if_neg (fun e => hrp e.symm)]
end Go.Proofs.YtdnpoomagjcpfaaGreat
