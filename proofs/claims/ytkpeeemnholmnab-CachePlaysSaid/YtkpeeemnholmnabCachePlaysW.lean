/- The walk of CachePlays. -/
import Derived.Test.YtkpeeemnholmnabCachePlay
import Derived.Test.YtkpeeemnholmnabSameLines
import Derived.Test.YtkpeeemnholmnabForks
import Derived.Deep.Cut
import Derived.Deep.CutRange
namespace Go.Proofs.Ytkpeeemnholmnab
open Go.RowKit
set_option linter.unusedVariables false
set_option linter.unusedSimpArgs false

theorem box_cells {w wx : World} {b B0 : Nat} {t : TypeId} {a0 a1 a2 a3 : Int} (h : Blk w b t [.int .i64 a0, .int .i64 a1, .int .i64 a2, .int .i64 a3]) (hb : Below B0 w wx) (hlt : b < B0) :
    wx.cell? ⟨b, 0, none⟩ = some (.int .i64 a0) ∧ wx.cell? ⟨b, 1, none⟩ = some (.int .i64 a1) ∧ wx.cell? ⟨b, 2, none⟩ = some (.int .i64 a2) ∧ wx.cell? ⟨b, 3, none⟩ = some (.int .i64 a3) ∧ b < wx.heap.size := by
  have h2 := h.below hb hlt
  exact ⟨h2.cell 0, h2.cell 1, h2.cell 2, h2.cell 3, h2.lt⟩

structure LoopC (B0 : Nat) (w0 : World) (q p1 sb1 p2 sb2 pa pb : Nat) (c1 c2 : Conf) (i m : Nat) (w : World) (sv1 sv2 : Nat → Value) (x1 x2 : Nat → List CLine) (va vb : Value) (na nb : Nat) (ua ub : List UL) : Prop where
  p : Play B0 w q p1 sb1 p2 sb2 pa pb c1 c2 sv1 sv2 x1 x2 m va vb na nb ua ub
  ra : RelL c1.sets na ua x1
  rb : RelL c2.sets nb ub x2
  lo : LinesOk c1 x1
  ba : Bnd na ua
  bb : Bnd nb ub
  m : m ≤ i
  na : na ≤ i
  nb : nb ≤ 2 * i
  be : Below B0 w0 w
def LoopE (B0 : Nat) (w0 : World) (q p1 sb1 p2 sb2 pa pb : Nat) (c1 c2 : Conf) (i m : Nat) (w : World) : Prop := ∃ sv1 sv2 x1 x2 va vb na nb ua ub, LoopC B0 w0 q p1 sb1 p2 sb2 pa pb c1 c2 i m w sv1 sv2 x1 x2 va vb na nb ua ub

structure TwoL (c1 c2 : Conf) (w wx : World) (pa pb : Nat) : Prop where
  a : Blk wx pa 35 [.int .i64 (c1.words : Int), .int .i64 (c1.sets : Int), .int .i64 (c1.ways : Int), .int .i64 (c1.miss : Int), .int .i64 0, .slice none 0 0]
  b : Blk wx pb 35 [.int .i64 (c2.words : Int), .int .i64 (c2.sets : Int), .int .i64 (c2.ways : Int), .int .i64 (c2.miss : Int), .int .i64 0, .slice none 0 0]
  ne : pa ≠ pb
  la : w.heap.size ≤ pa
  lb : w.heap.size ≤ pb
  be : Below w.heap.size w wx
theorem fact_below {w : World} : Calls Try.prog 7 #[] w fun e w' => e = .returned (.bool true) ∧ Below w.heap.size w w' := cacheFactL_ok w

set_option maxRecDepth 100000 in
set_option maxHeartbeats 4000000 in
theorem plays_bad (a0 a1 a2 a3 b0 b1 b2 b3 : Int) (A : Option Addr) (la ca : Nat) (X : Option Addr) (lx cx : Nat) (st : Int) (w : World) (h : confB ⟨a0, a1, a2, a3⟩ = false ∨ confB ⟨b0, b1, b2, b3⟩ = false) :
    Calls Try.prog 3 #[.agg #[.int .i64 a0, .int .i64 a1, .int .i64 a2, .int .i64 a3], .agg #[.int .i64 b0, .int .i64 b1, .int .i64 b2, .int .i64 b3], .slice A la ca, .slice X lx cx, .int .i64 st] w fun e w' => e = .returned (.bool true) ∧ Below w.heap.size w w' := by
  have HNB := fun wx => Lib.hid (cnew_bad a0 a1 a2 a3 b0 b1 b2 b3 wx h)
  have HL1 := fun wx => Lib.hid (levelError_any a0 a1 a2 a3 wx)
  have HL2 := fun wx => Lib.hid (levelError_any b0 b1 b2 b3 wx)
  have HA : Hid (Blk ((w.alloc (.cells #[.int .i64 a0, .int .i64 a1, .int .i64 a2, .int .i64 a3] 23)).alloc (.cells #[.int .i64 b0, .int .i64 b1, .int .i64 b2, .int .i64 b3] 23)) w.heap.size 23 [.int .i64 a0, .int .i64 a1, .int .i64 a2, .int .i64 a3]) :=
    (Blk.new w [.int .i64 a0, .int .i64 a1, .int .i64 a2, .int .i64 a3] 23).alloc (.cells #[.int .i64 b0, .int .i64 b1, .int .i64 b2, .int .i64 b3] 23)
  have hB := Blk.new (w.alloc (.cells #[.int .i64 a0, .int .i64 a1, .int .i64 a2, .int .i64 a3] 23)) [.int .i64 b0, .int .i64 b1, .int .i64 b2, .int .i64 b3] 23
  rw [World.size_alloc] at hB
  have HBk := Lib.hid hB
  have HB0 : Hid (Below w.heap.size w ((w.alloc (.cells #[.int .i64 a0, .int .i64 a1, .int .i64 a2, .int .i64 a3] 23)).alloc (.cells #[.int .i64 b0, .int .i64 b1, .int .i64 b2, .int .i64 b3] 23))) := ((Below.refl _ _).alloc (Nat.le_refl _) _).alloc (by simp) _
  have HSZ : Hid (((w.alloc (.cells #[.int .i64 a0, .int .i64 a1, .int .i64 a2, .int .i64 a3] 23)).alloc (.cells #[.int .i64 b0, .int .i64 b1, .int .i64 b2, .int .i64 b3] 23)).heap.size = w.heap.size + 2) := by unfold Hid; simp
  clear hB
  cases ha : confB ⟨a0, a1, a2, a3⟩
  case' false => rw [confE_bad ha] at HL1
  case' true =>
    have hb : confB ⟨b0, b1, b2, b3⟩ = false := by rcases h with h | h; (rw [ha] at h; cases h); exact h
    rw [confE_ok ha] at HL1
    rw [confE_bad hb] at HL2
    clear hb
  all_goals
    clear ha h
    go_enter Try.func3, Try.ntmps3
    go_wp2_with fail
    generalize (w.alloc (.cells #[.int .i64 a0, .int .i64 a1, .int .i64 a2, .int .i64 a3] 23)).alloc (.cells #[.int .i64 b0, .int .i64 b1, .int .i64 b2, .int .i64 b3] 23) = w2 at HA HBk HB0 HSZ ⊢
    refine fact_below.mono ?_
    rintro e w3 ⟨rfl, hb3⟩
    have hb3' : Below (w.heap.size + 2) w2 w3 := hb3.mono (by rw [HSZ.out]; exact Nat.le_refl _)
    obtain ⟨za0, za1, za2, za3, hza⟩ := box_cells HA.out hb3' (by omega)
    obtain ⟨zb0, zb1, zb2, zb3, hzb⟩ := box_cells HBk.out hb3' (by omega)
    have HB3 := Lib.hid hb3'
    clear hb3 hb3'
    go_wp2_with fail
    refine (HNB _).out.mono ?_
    rintro e w4 ⟨rfl, hb⟩
    have hb4 := HB3.out.trans (hb.mono (by omega))
    clear za0 za1 za2 za3 zb0 zb1 zb2 zb3
    obtain ⟨za0, za1, za2, za3, hza⟩ := box_cells HA.out hb4 (by omega)
    obtain ⟨zb0, zb1, zb2, zb3, hzb⟩ := box_cells HBk.out hb4 (by omega)
    have HB4 := Lib.hid hb4
    clear hb hb4
    go_wp2_with fail
    refine (HL1 _).out.mono ?_
    rintro e w5 ⟨rfl, hb⟩
    have hb5 := HB4.out.trans (hb.mono (by omega))
    clear za0 za1 za2 za3 zb0 zb1 zb2 zb3
    obtain ⟨za0, za1, za2, za3, hza⟩ := box_cells HA.out hb5 (by omega)
    obtain ⟨zb0, zb1, zb2, zb3, hzb⟩ := box_cells HBk.out hb5 (by omega)
    have HB5 := Lib.hid hb5
    clear hb hb5
    go_wp2_with fail
    first
      | (go_ret; exact ⟨rfl, HB0.out.trans (HB5.out.mono (by omega))⟩)
      | (refine (HL2 _).out.mono ?_
         rintro e w6 ⟨rfl, hb⟩
         have hb6 := HB5.out.trans (hb.mono (by omega))
         have HB6 := Lib.hid hb6
         clear hb hb6 za0 za1 za2 za3 zb0 zb1 zb2 zb3
         go_wp2_with fail
         go_ret
         exact ⟨rfl, HB0.out.trans (HB6.out.mono (by omega))⟩)

set_option maxRecDepth 100000 in
set_option maxHeartbeats 8000000 in
theorem plays_ok (cw1 cs1 cy1 cm1 cw2 cs2 cy2 cm2 : Nat) (ok1 : (Conf.mk cw1 cs1 cy1 cm1).Ok) (ok2 : (Conf.mk cw2 cs2 cy2 cm2).Ok) (A : Option Addr) (la ca : Nat) (zs : List Int) (X : Option Addr) (lx cx : Nat) (ts : List Bool) (st : Int) (w : World)
    (w1 : Came w A la ca 1 (zs.map intCells)) (w2' : Came w X lx cx 1 (ts.map boolCells)) :
    Calls Try.prog 3 #[.agg #[.int .i64 (cw1 : Int), .int .i64 (cs1 : Int), .int .i64 (cy1 : Int), .int .i64 (cm1 : Int)], .agg #[.int .i64 (cw2 : Int), .int .i64 (cs2 : Int), .int .i64 (cy2 : Int), .int .i64 (cm2 : Int)], .slice A la ca, .slice X lx cx, .int .i64 st] w fun e w' => e = .returned (.bool true) ∧ Below w.heap.size w w' := by
  have HNW := fun wx => Lib.hid (cnew_ok ⟨cw1, cs1, cy1, cm1⟩ ⟨cw2, cs2, cy2, cm2⟩ ok1 ok2 wx)
  have HL1 := fun wx => Lib.hid (levelError_any cw1 cs1 cy1 cm1 wx)
  have HL2 := fun wx => Lib.hid (levelError_any cw2 cs2 cy2 cm2 wx)
  simp only [Conf.val] at HNW
  have hc1 := w1.count
  have hc2 := w2'.count
  simp only [List.length_map] at hc1 hc2
  have hm1 := w1.max
  have hm2 := w2'.max
  have hl1 := w1.le
  have hl2 := w2'.le
  have W1 := Lib.hid w1
  have W2 := Lib.hid w2'
  have C1 := Lib.hid hc1
  have C2 := Lib.hid hc2
  clear w1 w2' hc1 hc2
  have OK1 := Lib.hid ok1
  have OK2 := Lib.hid ok2
  obtain ⟨⟨o1, o2⟩, ⟨o3, o4⟩, ⟨o5, o6⟩, o7⟩ := ok1
  obtain ⟨⟨p1, p2⟩, ⟨p3, p4⟩, ⟨p5, p6⟩, p7⟩ := ok2
  simp only at o1 o2 o3 o4 o5 o6 o7 p1 p2 p3 p4 p5 p6 p7
  rw [confE_in (by omega)] at HL1 HL2
  have HA : Hid (Blk ((w.alloc (.cells #[.int .i64 (cw1 : Int), .int .i64 (cs1 : Int), .int .i64 (cy1 : Int), .int .i64 (cm1 : Int)] 23)).alloc (.cells #[.int .i64 (cw2 : Int), .int .i64 (cs2 : Int), .int .i64 (cy2 : Int), .int .i64 (cm2 : Int)] 23)) w.heap.size 23 [.int .i64 (cw1 : Int), .int .i64 (cs1 : Int), .int .i64 (cy1 : Int), .int .i64 (cm1 : Int)]) :=
    (Blk.new w [.int .i64 (cw1 : Int), .int .i64 (cs1 : Int), .int .i64 (cy1 : Int), .int .i64 (cm1 : Int)] 23).alloc (.cells #[.int .i64 (cw2 : Int), .int .i64 (cs2 : Int), .int .i64 (cy2 : Int), .int .i64 (cm2 : Int)] 23)
  have hB := Blk.new (w.alloc (.cells #[.int .i64 (cw1 : Int), .int .i64 (cs1 : Int), .int .i64 (cy1 : Int), .int .i64 (cm1 : Int)] 23)) [.int .i64 (cw2 : Int), .int .i64 (cs2 : Int), .int .i64 (cy2 : Int), .int .i64 (cm2 : Int)] 23
  rw [World.size_alloc] at hB
  have HBk := Lib.hid hB
  have HB0 : Hid (Below w.heap.size w ((w.alloc (.cells #[.int .i64 (cw1 : Int), .int .i64 (cs1 : Int), .int .i64 (cy1 : Int), .int .i64 (cm1 : Int)] 23)).alloc (.cells #[.int .i64 (cw2 : Int), .int .i64 (cs2 : Int), .int .i64 (cy2 : Int), .int .i64 (cm2 : Int)] 23))) := ((Below.refl _ _).alloc (Nat.le_refl _) _).alloc (by simp) _
  have HSZ : Hid (((w.alloc (.cells #[.int .i64 (cw1 : Int), .int .i64 (cs1 : Int), .int .i64 (cy1 : Int), .int .i64 (cm1 : Int)] 23)).alloc (.cells #[.int .i64 (cw2 : Int), .int .i64 (cs2 : Int), .int .i64 (cy2 : Int), .int .i64 (cm2 : Int)] 23)).heap.size = w.heap.size + 2) := by unfold Hid; simp
  clear hB
  go_enter Try.func3, Try.ntmps3
  go_wp2_with fail
  generalize (w.alloc (.cells #[.int .i64 (cw1 : Int), .int .i64 (cs1 : Int), .int .i64 (cy1 : Int), .int .i64 (cm1 : Int)] 23)).alloc (.cells #[.int .i64 (cw2 : Int), .int .i64 (cs2 : Int), .int .i64 (cy2 : Int), .int .i64 (cm2 : Int)] 23) = w2 at HA HBk HB0 HSZ ⊢
  refine fact_below.mono ?_
  rintro e w3 ⟨rfl, hb3⟩
  have hb3' : Below (w.heap.size + 2) w2 w3 := hb3.mono (by rw [HSZ.out]; exact Nat.le_refl _)
  obtain ⟨za0, za1, za2, za3, hza⟩ := box_cells HA.out hb3' (by omega)
  obtain ⟨zb0, zb1, zb2, zb3, hzb⟩ := box_cells HBk.out hb3' (by omega)
  have HB3 := Lib.hid hb3'
  clear hb3 hb3'
  go_wp2_with fail
  refine (HNW _).out.mono ?_
  rintro e w4 ⟨q, pp1, sb1, pp2, sb2, rfl, hcs, hown, hb⟩
  have hb4 := HB3.out.trans (hb.mono (by omega))
  have HC4 := Lib.hid hcs
  have HO4 : Hid (∀ k, OwnC q pp1 sb1 pp2 sb2 cs1 cs2 (fun _ => .slice none 0 0) (fun _ => .slice none 0 0) k → w.heap.size + 2 ≤ k) := fun k hk => by have := hown k hk; omega
  clear za0 za1 za2 za3 zb0 zb1 zb2 zb3 hown hcs
  obtain ⟨za0, za1, za2, za3, hza⟩ := box_cells HA.out hb4 (by omega)
  obtain ⟨zb0, zb1, zb2, zb3, hzb⟩ := box_cells HBk.out hb4 (by omega)
  have HB4 := Lib.hid hb4
  clear hb hb4
  go_wp2_with fail
  refine (HL1 _).out.mono ?_
  rintro e w5 ⟨rfl, hb⟩
  have hb5 := HB4.out.trans (hb.mono (by omega))
  have HC5 := Lib.hid (HC4.out.later hb)
  clear za0 za1 za2 za3 zb0 zb1 zb2 zb3 HC4
  obtain ⟨za0, za1, za2, za3, hza⟩ := box_cells HA.out hb5 (by omega)
  obtain ⟨zb0, zb1, zb2, zb3, hzb⟩ := box_cells HBk.out hb5 (by omega)
  have HB5 := Lib.hid hb5
  clear hb hb5
  go_wp2_with fail
  refine (HL2 _).out.mono ?_
  rintro e w6 ⟨rfl, hb⟩
  have hb6 := HB5.out.trans (hb.mono (by omega))
  have HC6 := Lib.hid (HC5.out.later hb)
  clear za0 za1 za2 za3 zb0 zb1 zb2 zb3 HC5
  obtain ⟨za0, za1, za2, za3, hza⟩ := box_cells HA.out hb6 (by omega)
  obtain ⟨zb0, zb1, zb2, zb3, hzb⟩ := box_cells HBk.out hb6 (by omega)
  have HB6 := Lib.hid hb6
  clear hb hb6
  go_upto_region 11 with fail
  go_cut [14, 15] from 61 (fun v1 v2 wx => ∃ pa pb, v1 = .pointer (some ⟨pa, 0, none⟩) ∧ v2 = .pointer (some ⟨pb, 0, none⟩) ∧ TwoL ⟨cw1, cs1, cy1, cm1⟩ ⟨cw2, cs2, cy2, cm2⟩ w6 wx pa pb)
  case first =>
    --BEGIN
    have ra0 := fun x : AfterR (KeptB w6.heap.size w.heap.size) w6.drew => (x.rel.1.cell (p := ⟨w.heap.size, 0, none⟩) hza).trans za0
    have ra1 := fun x : AfterR (KeptB w6.heap.size w.heap.size) w6.drew => (x.rel.1.cell (p := ⟨w.heap.size, 1, none⟩) hza).trans za1
    have ra2 := fun x : AfterR (KeptB w6.heap.size w.heap.size) w6.drew => (x.rel.1.cell (p := ⟨w.heap.size, 2, none⟩) hza).trans za2
    have ra3 := fun x : AfterR (KeptB w6.heap.size w.heap.size) w6.drew => (x.rel.1.cell (p := ⟨w.heap.size, 3, none⟩) hza).trans za3
    have rb0 := fun x : AfterR (KeptB w6.heap.size w.heap.size) w6.drew => (x.rel.1.cell (p := ⟨w.heap.size + 1, 0, none⟩) hzb).trans zb0
    have rb1 := fun x : AfterR (KeptB w6.heap.size w.heap.size) w6.drew => (x.rel.1.cell (p := ⟨w.heap.size + 1, 1, none⟩) hzb).trans zb1
    have rb2 := fun x : AfterR (KeptB w6.heap.size w.heap.size) w6.drew => (x.rel.1.cell (p := ⟨w.heap.size + 1, 2, none⟩) hzb).trans zb2
    have rb3 := fun x : AfterR (KeptB w6.heap.size w.heap.size) w6.drew => (x.rel.1.cell (p := ⟨w.heap.size + 1, 3, none⟩) hzb).trans zb3
    refine wp_region_forks (KeptB w6.heap.size w.heap.size) 8 rfl (by kernel_rfl) ?_
    refine forks_read 0 rfl (by kernel_rfl) ?_
    go_big_quiet_step (fail)
    refine wpQuiet_nil ?_
    refine forks_read 1 rfl (by kernel_rfl) ?_
    go_big_quiet_step (fail)
    refine wpQuiet_nil ?_
    refine forks_read 3 rfl (by kernel_rfl) ?_
    go_big_quiet_step (fail)
    refine wpQuiet_nil ?_
    refine forks_read 4 rfl (by kernel_rfl) ?_
    go_big_quiet_step (fail)
    refine wpQuiet_nil ?_
    clear ra0 ra1 ra2 ra3 rb0 rb1 rb2 rb3 za0 za1 za2 za3 zb0 zb1 zb2 zb3
    refine forks_two 2 5 (by kernel_rfl) ?_ ?_
    · refine does_intro rfl rfl ?_
      intro K hK
      go_simp
      refine hK _ _ ⟨below_alloc_drew (Nat.le_refl _) _, Below.heap_alloc _ _ _ hza⟩ ?_
      clear hK K
      go_simp
      refine forks_read 6 rfl (by kernel_rfl) ?_
      go_big_quiet_step (fail)
      refine wpQuiet_nil ?_
      refine forks_one 5 (by kernel_rfl) ?_
      refine does_intro rfl rfl ?_
      intro K hK
      go_simp
      refine hK _ _ ⟨below_alloc_drew (by simp) _, Below.heap_alloc _ _ _ (by simp; omega)⟩ ?_
      clear hK K
      go_simp
      refine forks_read 7 rfl (by kernel_rfl) ?_
      go_big_quiet_step (fail)
      refine wpQuiet_nil ?_
      refine forks_end (by kernel_rfl) ?_
      go_wp2_with fail
      go_meet
      exact ⟨w6.heap.size, w6.heap.size + 1, rfl, rfl, (Blk.new w6 [.int .i64 (cw1 : Int), .int .i64 (cs1 : Int), .int .i64 (cy1 : Int), .int .i64 (cm1 : Int), .int .i64 0, .slice none 0 0] 35).alloc (.cells #[.int .i64 (cw2 : Int), .int .i64 (cs2 : Int), .int .i64 (cy2 : Int), .int .i64 (cm2 : Int), .int .i64 0, .slice none 0 0] 35), by have := Blk.new (w6.alloc (.cells #[.int .i64 (cw1 : Int), .int .i64 (cs1 : Int), .int .i64 (cy1 : Int), .int .i64 (cm1 : Int), .int .i64 0, .slice none 0 0] 35)) [.int .i64 (cw2 : Int), .int .i64 (cs2 : Int), .int .i64 (cy2 : Int), .int .i64 (cm2 : Int), .int .i64 0, .slice none 0 0] 35; rw [World.size_alloc] at this; exact this, by omega, Nat.le_refl _, by omega, (((Below.refl _ w6).alloc (Nat.le_refl _) (.cells #[.int .i64 (cw1 : Int), .int .i64 (cs1 : Int), .int .i64 (cy1 : Int), .int .i64 (cm1 : Int), .int .i64 0, .slice none 0 0] 35)).alloc (by simp) (.cells #[.int .i64 (cw2 : Int), .int .i64 (cs2 : Int), .int .i64 (cy2 : Int), .int .i64 (cm2 : Int), .int .i64 0, .slice none 0 0] 35)).drew⟩
    · refine does_intro rfl rfl ?_
      intro K hK
      go_simp
      refine hK _ _ ⟨below_alloc_drew (Nat.le_refl _) _, Below.heap_alloc _ _ _ hza⟩ ?_
      clear hK K
      go_simp
      refine forks_one 2 (by kernel_rfl) ?_
      refine does_intro rfl rfl ?_
      intro K hK
      go_simp
      refine hK _ _ ⟨below_alloc_drew (by simp) _, Below.heap_alloc _ _ _ (by simp; omega)⟩ ?_
      clear hK K
      go_simp
      refine forks_read 6 rfl (by kernel_rfl) ?_
      go_big_quiet_step (fail)
      refine wpQuiet_nil ?_
      refine forks_read 7 rfl (by kernel_rfl) ?_
      go_big_quiet_step (fail)
      refine wpQuiet_nil ?_
      refine forks_end (by kernel_rfl) ?_
      go_wp2_with fail
      go_meet
      exact ⟨w6.heap.size + 1, w6.heap.size, rfl, rfl, by have := Blk.new (w6.alloc (.cells #[.int .i64 (cw2 : Int), .int .i64 (cs2 : Int), .int .i64 (cy2 : Int), .int .i64 (cm2 : Int), .int .i64 0, .slice none 0 0] 35)) [.int .i64 (cw1 : Int), .int .i64 (cs1 : Int), .int .i64 (cy1 : Int), .int .i64 (cm1 : Int), .int .i64 0, .slice none 0 0] 35; rw [World.size_alloc] at this; exact this, (Blk.new w6 [.int .i64 (cw2 : Int), .int .i64 (cs2 : Int), .int .i64 (cy2 : Int), .int .i64 (cm2 : Int), .int .i64 0, .slice none 0 0] 35).alloc (.cells #[.int .i64 (cw1 : Int), .int .i64 (cs1 : Int), .int .i64 (cy1 : Int), .int .i64 (cm1 : Int), .int .i64 0, .slice none 0 0] 35), by omega, by omega, Nat.le_refl _, (((Below.refl _ w6).alloc (Nat.le_refl _) (.cells #[.int .i64 (cw2 : Int), .int .i64 (cs2 : Int), .int .i64 (cy2 : Int), .int .i64 (cm2 : Int), .int .i64 0, .slice none 0 0] 35)).alloc (by simp) (.cells #[.int .i64 (cw1 : Int), .int .i64 (cs1 : Int), .int .i64 (cy1 : Int), .int .i64 (cm1 : Int), .int .i64 0, .slice none 0 0] 35)).drew⟩
    --END
  case rest =>
  obtain ⟨pa, pb, rfl, rfl, hmade⟩ := hcut
  have HPL : Hid (LoopE (w.heap.size + 2) w2 q pp1 sb1 pp2 sb2 pa pb ⟨cw1, cs1, cy1, cm1⟩ ⟨cw2, cs2, cy2, cm2⟩ 0 0 wc) := by
    have hsz6 := HB6.out.size
    rw [HSZ.out] at hsz6
    obtain ⟨m1, m2, m3, m4, m5, m6⟩ := hmade
    refine ⟨_, _, _, _, .slice none 0 0, .slice none 0 0, 0, 0, [], [], ⟨⟨HC6.out.later m6, ⟨m1, World.ownsRow_nil _ _ _ _, by simp [Value.ownBlock]⟩, ⟨m2, World.ownsRow_nil _ _ _ _, by simp [Value.ownBlock]⟩, fun k h1 h2 => ?_, fun k h1 h2 => ?_, fun k h1 h2 => ?_, HO4.out, fun k h1 => ?_, fun k h1 => ?_⟩, RelL.nil _ _, RelL.nil _ _, LinesOk.nil _, ⟨Nat.le_refl _, fun u hu => by cases hu⟩, ⟨Nat.le_refl _, fun u hu => by cases hu⟩, Nat.le_refl _, Nat.le_refl _, Nat.le_refl _, HB6.out.trans (m6.mono (by omega))⟩⟩
    all_goals simp only [OwnR, Value.ownBlock, reduceCtorEq, or_false] at *
    · have := HC6.out.lt h1; omega
    · have := HC6.out.lt h1; omega
    · omega
    · omega
    · omega
  clear hmade HC6 HO4 HB6 HNW HL1 HL2
  go_wp2_with fail
  go_loopw [16, 17] (fun mv iv wr => ∃ (i m : Nat), i ≤ 60 ∧ mv = .int .i64 (m : Int) ∧ iv = .int .i64 (i : Int) ∧ LoopE (w.heap.size + 2) w2 q pp1 sb1 pp2 sb2 pa pb ⟨cw1, cs1, cy1, cm1⟩ ⟨cw2, cs2, cy2, cm2⟩ i m wr) (fun _ iv _ => 60 - (intOf iv).toNat)
  case atStart => exact ⟨0, 0, by omega, rfl, rfl, HPL.out⟩
  case round =>
    obtain ⟨i, m, hi, rfl, rfl, hst⟩ := hrel
    obtain ⟨sv1, sv2, x1, x2, va, vb, na, nb, ua, ub, hst⟩ := hst
    have HST := Lib.hid hst
    clear hst HPL
    have hb := HST.out.be
    have hszr := hb.size
    have hmi := HST.out.m
    have hnai := HST.out.na
    have hnbi := HST.out.nb
    rw [HSZ.out] at hszr
    by_cases hgo : i < la ∧ i < lx ∧ i < 60
    ·
      --BEGIN
      obtain ⟨g1, g2, g3⟩ := hgo
      have n1 : i < zs.length := by have := C1.out; omega
      have n2 : i < ts.length := by have := C2.out; omega
      obtain ⟨b1, f1, ha1, hb1, hcell1⟩ := W1.out.ints (by omega)
      obtain ⟨b2, f2, ha2, hb2, hcell2⟩ := W2.out.bools (by omega)
      subst ha1
      subst ha2
      obtain ⟨zi, hzi⟩ : ∃ zi, zi = zs[i] := ⟨_, rfl⟩
      obtain ⟨ti, hti⟩ : ∃ ti, ti = ts[i] := ⟨_, rfl⟩
      have HZ : Hid (∀ wx, Below (w.heap.size + 2) w2 wx → wx.cell? ⟨b1, f1 + i, none⟩ = some (.int .i64 zi)) := fun wx hbx => by
        have := hcell1 i n1
        rw [← hzi] at this
        exact ((HB0.out.trans (hbx.mono (by omega))).cell (p := ⟨b1, f1 + i, none⟩) hb1).trans this
      have HT : Hid (∀ wx, Below (w.heap.size + 2) w2 wx → wx.cell? ⟨b2, f2 + i, none⟩ = some (.bool ti)) := fun wx hbx => by
        have := hcell2 i n2
        rw [← hti] at this
        exact ((HB0.out.trans (hbx.mono (by omega))).cell (p := ⟨b2, f2 + i, none⟩) hb2).trans this
      clear hcell1 hcell2 W1 W2 hzi hti
      have HBE := Lib.hid hb
      have q1 := HZ.out wr hb
      have q2 := HT.out wr hb
      clear hb
      have hgi1 : (i : Int) < (la : Int) := by omega
      have hgi2 : (i : Int) < (lx : Int) := by omega
      have hgi3 : (i : Int) < 60 := by omega
      by_cases hbad : zi < 0 ∨ 65535 < zi
      · have HAB := fun wx => Lib.hid (caccess_bad wx q zi ti hbad)
        go_wp2_with fail
        have r1 := fun x : After w.heap.size wr.drew => (x.below.cell (p := ⟨b1, f1 + i, none⟩) hb1).trans q1
        have r2 := fun x : After w.heap.size wr.drew => (x.below.cell (p := ⟨b2, f2 + i, none⟩) hb2).trans q2
        refine wp_region_eager w.heap.size [(0, true), (1, true), (2, true), (3, true), (4, true), (5, true), (6, true), (7, true), (8, true), (9, false), (10, true), (11, true), (12, true), (13, true), (14, true)] (by kernel_rfl) (by kernel_rfl) ?_
        repeat (refine eag_read rfl ?_; go_big_quiet_step (fail); refine wpQuiet_nil ?_)
        clear r1 r2
        refine eag_does rfl rfl ?_
        intro K hK
        go_simp
        refine (HAB _).out.mono ?_
        rintro e w8 ⟨rfl, rfl⟩
        refine hK _ _ (Below.refl _ _) ?_
        clear hK K
        go_simp
        repeat (refine eag_read rfl ?_; go_big_quiet_step (fail); refine wpQuiet_nil ?_)
        refine eag_end ?_
        have HL9 : Hid (LoopE (w.heap.size + 2) w2 q pp1 sb1 pp2 sb2 pa pb ⟨cw1, cs1, cy1, cm1⟩ ⟨cw2, cs2, cy2, cm2⟩ (i + 1) m wr.drew) := by
          have h9 := HST.out
          exact ⟨sv1, sv2, x1, x2, va, vb, na, nb, ua, ub, h9.p.later ((Below.refl _ _).drew), h9.ra, h9.rb, h9.lo, h9.ba, h9.bb, by omega, by omega, by omega, h9.be.drew⟩
        clear HST HAB
        rcases hbad with hbad | hbad
        · go_wp2_with fail
          go_roundw
          case rel => exact ⟨i + 1, m, by omega, rfl, by go_num, HL9.out⟩
          case measure => simp [intOf]; omega
        · have hnn : ¬ zi < 0 := by omega
          have hge : 65536 ≤ zi := by omega
          go_wp2_with fail
          go_roundw
          case rel => exact ⟨i + 1, m, by omega, rfl, by go_num, HL9.out⟩
          case measure => simp [intOf]; omega
      · obtain ⟨word, hword⟩ : ∃ word : Nat, (word : Int) = zi := ⟨zi.toNat, by omega⟩
        have hwd : word ≤ 65535 := by omega
        have hnn : ¬ zi < 0 := by omega
        have hng : ¬ 65536 ≤ zi := by omega
        have HWD := Lib.hid hwd
        have HW := Lib.hid hword
        clear hbad hword hwd
        have hlo := HST.out.lo
        have HAC := fun wx hx => Lib.hid (caccess_ok wx q pp1 sb1 pp2 sb2 ⟨cw1, cs1, cy1, cm1⟩ ⟨cw2, cs2, cy2, cm2⟩ sv1 sv2 x1 x2 m hx OK1.out OK2.out hlo (by omega) word ti HWD.out)
        rw [HW.out] at HAC
        obtain ⟨on, hon, hob⟩ := hlo.old word
        have HLO := Lib.hid hlo
        have HON := Lib.hid hon
        clear hlo hon
        go_wp2_with fail
        have r1 := fun x : After w.heap.size wr.drew => (x.below.cell (p := ⟨b1, f1 + i, none⟩) hb1).trans q1
        have r2 := fun x : After w.heap.size wr.drew => (x.below.cell (p := ⟨b2, f2 + i, none⟩) hb2).trans q2
        refine wp_region_eager w.heap.size [(0, true), (1, true), (2, true), (3, true), (4, true), (5, true), (6, true), (7, true), (8, true), (9, false), (10, true), (11, true), (12, true), (13, true), (14, true)] (by kernel_rfl) (by kernel_rfl) ?_
        repeat (refine eag_read rfl ?_; go_big_quiet_step (fail); refine wpQuiet_nil ?_)
        clear r1 r2
        refine eag_does rfl rfl ?_
        intro K hK
        go_simp
        refine (HAC _ (HST.out.p.c.later ((Below.refl _ _).drew))).out.mono ?_
        rintro e w8 ⟨sv1', sv2', rfl, hc8, hf8⟩
        obtain ⟨hp8, hb8⟩ := (HST.out.p.later ((Below.refl _ _).drew)).cache (by simpa using hszr) hc8 hf8
        refine hK _ _ (hb8.mono (by omega)) ?_
        have HP8 := Lib.hid hp8
        have hbe8 := HBE.out.drew.trans hb8
        have HB8 := Lib.hid hbe8
        clear q1 q2 hc8 hf8 hp8 hb8 HAC HBE
        have q1 := HZ.out _ hbe8
        have q2 := HT.out _ hbe8
        have hsz8 := hbe8.size
        rw [HSZ.out] at hsz8
        clear hbe8
        clear hK K
        go_simp
        repeat (refine eag_read rfl ?_; go_big_quiet_step (fail); refine wpQuiet_nil ?_)
        refine eag_end ?_
        obtain ⟨E, hE⟩ : ∃ E, E = extraN ⟨cw1, cs1, cy1, cm1⟩ ⟨cw2, cs2, cy2, cm2⟩ word x1 x2 := ⟨_, rfl⟩
        rw [← hE]
        have HE := Lib.hid hE
        clear hE
        go_wp2_with fail
        have r1 := fun x : After w.heap.size w8.drew => (x.below.cell (p := ⟨b1, f1 + i, none⟩) hb1).trans q1
        have r2 := fun x : After w.heap.size w8.drew => (x.below.cell (p := ⟨b2, f2 + i, none⟩) hb2).trans q2
        refine wp_region_eager w.heap.size [(0, true), (1, true), (2, true), (3, true), (4, true), (5, true), (6, true), (7, true), (8, true), (9, false), (10, true), (11, true), (12, true), (13, true), (14, true)] (by kernel_rfl) (by kernel_rfl) ?_
        repeat (refine eag_read rfl ?_; go_big_quiet_step (fail); refine wpQuiet_nil ?_)
        clear r1 r2
        refine eag_does rfl rfl ?_
        intro K hK
        go_simp
        have HU1 := fun wx hx => Lib.hid (use_ok wx pa va ⟨cw1, cs1, cy1, cm1⟩ na ua hx OK1.out (by have := HST.out.ba.len; omega) (by omega) (fun u hu => by have := HST.out.ba.el u hu; omega) word ti HWD.out)
        rw [HW.out] at HU1
        refine (HU1 _ (HP8.out.a.later ((Below.refl _ _).drew))).out.mono ?_
        rintro e w9 ⟨ua', va', hit, out, rfl, hu9, hl9, hf9⟩
        obtain ⟨hp9, hb9⟩ := (HP8.out.later ((Below.refl _ _).drew)).first (by simpa using hsz8) hl9 hf9
        refine hK _ _ (hb9.mono (by omega)) ?_
        obtain ⟨hra, hhit', hout'⟩ := HST.out.ra.use hu9 OK1.out
        have HHIT := Lib.hid hhit'
        have HOUT := Lib.hid hout'
        clear hhit' hout'
        have HRA := Lib.hid hra
        have HBA := Lib.hid (HST.out.ba.use hu9 (Nat.le_trans (Nat.div_le_self _ _) HWD.out))
        have HLO2 := Lib.hid (HLO.out.step HWD.out ti)
        have HP9 := Lib.hid hp9
        have hbe9 := HB8.out.drew.trans hb9
        have HB9 := Lib.hid hbe9
        clear q1 q2 hl9 hf9 hp9 hb9 HU1 HP8 HB8 hu9 hra
        have q1 := HZ.out _ hbe9
        obtain ⟨za0, za1, za2, za3, hza⟩ := box_cells HA.out hbe9 (by omega)
        obtain ⟨zb0, zb1, zb2, zb3, hzb⟩ := box_cells HBk.out hbe9 (by omega)
        have hsz9 := hbe9.size
        rw [HSZ.out] at hsz9
        clear hbe9
        clear hK K
        go_simp
        repeat (refine eag_read rfl ?_; go_big_quiet_step (fail); refine wpQuiet_nil ?_)
        refine eag_end ?_
        have hhit := HHIT.out
        have hout := HOUT.out
        clear HHIT HOUT
        cases hit
        case true =>
          have HX : Hid (x2N ⟨cw1, cs1, cy1, cm1⟩ ⟨cw2, cs2, cy2, cm2⟩ word x1 x2 = x2 ∧ mN ⟨cw1, cs1, cy1, cm1⟩ word x1 m = m ∧ E = 0) := ⟨by unfold x2N; rw [if_pos hhit.symm], by unfold mN; rw [if_pos hhit.symm], by rw [HE.out]; unfold extraN; rw [if_pos hhit.symm]⟩
          obtain ⟨e1, e2, e3⟩ := HX.out
          rw [e1, e2] at HP9
          subst e3
          have HL9 : Hid (LoopE (w.heap.size + 2) w2 q pp1 sb1 pp2 sb2 pa pb ⟨cw1, cs1, cy1, cm1⟩ ⟨cw2, cs2, cy2, cm2⟩ (i + 1) m w9) := by
            have h9 := HST.out
            exact ⟨_, _, _, _, _, _, _, _, _, _, HP9.out, HRA.out, h9.rb, HLO2.out, HBA.out, h9.bb, by omega, by omega, by omega, HB9.out⟩
          clear HX e1 e2 HE HP9 HRA HBA HLO2 HLO HST hhit hout q1 za0 za1 za2 za3 zb0 zb1 zb2 zb3
          go_wp2_with fail
          go_roundw
          case rel => exact ⟨i + 1, m, by omega, rfl, by go_num, HL9.out⟩
          case measure => simp [intOf]; omega
        case false =>
          have HX : Hid (x2N ⟨cw1, cs1, cy1, cm1⟩ ⟨cw2, cs2, cy2, cm2⟩ word x1 x2 = stepL ⟨cw2, cs2, cy2, cm2⟩ word false (x2A ⟨cw1, cs1, cy1, cm1⟩ ⟨cw2, cs2, cy2, cm2⟩ word x1 x2) ∧ mN ⟨cw1, cs1, cy1, cm1⟩ word x1 m = m + 1 ∧ E = cm1 + (if hitL ⟨cw2, cs2, cy2, cm2⟩ word (x2A ⟨cw1, cs1, cy1, cm1⟩ ⟨cw2, cs2, cy2, cm2⟩ word x1 x2) = true then 0 else cm2)) := ⟨by unfold x2N; rw [if_neg (by simp [← hhit])], by unfold mN; rw [if_neg (by simp [← hhit])], by rw [HE.out]; unfold extraN; rw [if_neg (by simp [← hhit])]⟩
          obtain ⟨e1, e2, e3⟩ := HX.out
          rw [e1, e2] at HP9
          have HE2 := Lib.hid e3
          clear HX e1 e2 e3 HE hhit
          have ho := hout rfl
          clear hout
          have HXA : Hid (x2A ⟨cw1, cs1, cy1, cm1⟩ ⟨cw2, cs2, cy2, cm2⟩ word x1 x2 = if (oldL ⟨cw1, cs1, cy1, cm1⟩ word x1).2 = true then stepL ⟨cw2, cs2, cy2, cm2⟩ (on * cw1) true x2 else x2) := by unfold Hid x2A; rw [HON.out]; rfl
          obtain ⟨y2, hy2⟩ : ∃ y2, y2 = x2A ⟨cw1, cs1, cy1, cm1⟩ ⟨cw2, cs2, cy2, cm2⟩ word x1 x2 := ⟨_, rfl⟩
          rw [← hy2] at HP9 HE2 HXA
          clear hy2
          cases hd : (oldL ⟨cw1, cs1, cy1, cm1⟩ word x1).2
          case' false =>
            rw [hd, if_neg (by simp)] at ho HXA
            subst ho
            have HRB : Hid (RelL cs2 nb ub y2) := by rw [HXA.out]; exact HST.out.rb
            have HBB := Lib.hid HST.out.bb
            have hnb2 : nb ≤ 2 * i + 1 := by omega
            have HP10 := HP9
            have HB10 := HB9
            clear HP9 HXA hd HB9 HON
            go_wp2_with fail
            obtain ⟨w10, hw10⟩ : ∃ w10, w10 = w9 := ⟨_, rfl⟩
            rw [← hw10] at HP10 HB10 ⊢
            clear hw10 q1 za0 za1 za2 za3 zb0 zb1 zb2 zb3
            obtain ⟨vb2, hvb2⟩ : ∃ x, x = vb := ⟨_, rfl⟩
            obtain ⟨nb2, hnb2e⟩ : ∃ x, x = nb := ⟨_, rfl⟩
            obtain ⟨ub2, hub2⟩ : ∃ x, x = ub := ⟨_, rfl⟩
            rw [← hvb2, ← hnb2e, ← hub2] at HP10
            rw [← hnb2e, ← hub2] at HRB HBB
            rw [← hnb2e] at hnb2
            clear hvb2 hnb2e hub2
          case' true =>
            rw [hd, if_pos rfl] at ho HXA
            rw [HON.out] at ho
            subst ho
            obtain ⟨W, hW⟩ : ∃ W, W = on * cw1 := ⟨_, rfl⟩
            have hWb : W ≤ 65535 := by rw [hW]; exact hob
            rw [← hW] at HXA
            have hW2 : (on : Int) * (cw1 : Int) = (W : Int) := by rw [hW]; push_cast; rfl
            have hW1 : IntKind.i64.wrap ((on : Int) * (cw1 : Int)) = (W : Int) := by rw [hW2, IntKind.wrap_i64]; omega
            have HU2 := fun wx hx => Lib.hid (use_ok wx pb vb ⟨cw2, cs2, cy2, cm2⟩ nb ub hx OK2.out (by have := HST.out.bb.len; omega) (by omega) (fun u hu => by have := HST.out.bb.el u hu; omega) W true hWb)
            clear hW hob hd HON
            go_wp2_with fail
            refine (HU2 _ HP9.out.b).out.mono ?_
            rintro e w10 ⟨ub2, vb2, hit2, out2, rfl, hu10, hl10, hf10⟩
            obtain ⟨hp10, hb10⟩ := HP9.out.second hsz9 hl10 hf10
            obtain ⟨hrb, _, _⟩ := HST.out.rb.use hu10 OK2.out
            have HRB : Hid (RelL cs2 (nb + 1) ub2 y2) := by rw [HXA.out]; exact hrb
            have HBB := Lib.hid (HST.out.bb.use hu10 (Nat.le_trans (Nat.div_le_self _ _) hWb))
            have HP10 := Lib.hid hp10
            have HB10 := Lib.hid (HB9.out.trans hb10)
            have hnb2 : nb + 1 ≤ 2 * i + 1 := by omega
            clear HU2 hW1 hW2 q1 za0 za1 za2 za3 zb0 zb1 zb2 zb3 HP9 HB9 HXA hrb hu10 hl10 hf10 hp10 hb10
            have q1 := HZ.out _ HB10.out
            go_wp2_with fail
            clear q1
            obtain ⟨nb2, hnb2e⟩ : ∃ x, x = nb + 1 := ⟨_, rfl⟩
            rw [← hnb2e] at HP10 HRB HBB hnb2
            clear hnb2e
          all_goals
            have HU3 := fun wx hx => Lib.hid (use_ok wx pb vb2 ⟨cw2, cs2, cy2, cm2⟩ nb2 ub2 hx OK2.out (by have := HBB.out.len; omega) (by omega) (fun u hu => by have := HBB.out.el u hu; omega) word false HWD.out)
            rw [HW.out] at HU3
            have hsz10 := HB10.out.size
            rw [HSZ.out] at hsz10
            refine (HU3 _ HP10.out.b).out.mono ?_
            rintro e w11 ⟨ub3, vb3, hit3, out3, rfl, hu11, hl11, hf11⟩
            obtain ⟨hp11, hb11⟩ := HP10.out.second hsz10 hl11 hf11
            obtain ⟨hrb, hhit3, _⟩ := HRB.out.use hu11 OK2.out
            have hbe11 := HB10.out.trans hb11
            have HL9 : Hid (LoopE (w.heap.size + 2) w2 q pp1 sb1 pp2 sb2 pa pb ⟨cw1, cs1, cy1, cm1⟩ ⟨cw2, cs2, cy2, cm2⟩ (i + 1) (m + 1) w11) :=
              ⟨_, _, _, _, _, _, _, _, _, _, hp11, HRA.out, hrb, HLO2.out, HBA.out, HBB.out.use hu11 (Nat.le_trans (Nat.div_le_self _ _) HWD.out), by omega, by omega, by omega, hbe11⟩
            rw [← hhit3] at HE2
            obtain ⟨za0, za1, za2, za3, hza⟩ := box_cells HA.out hbe11 (by omega)
            obtain ⟨zb0, zb1, zb2, zb3, hzb⟩ := box_cells HBk.out hbe11 (by omega)
            clear hbe11 hrb hhit3 hp11 hb11 hu11 hl11 hf11 HU3 HP10 HRB HBB HB10 HRA HBA HLO HLO2 HST
            cases hit3
            all_goals
              have hE3 := HE2.out
              simp only [if_true, if_false, Bool.false_eq_true, Nat.add_zero] at hE3
              subst hE3
              clear HE2
              go_wp2_with fail
              go_roundw
              case rel => exact ⟨i + 1, m + 1, by omega, by go_num, by go_num, HL9.out⟩
              case measure => simp [intOf]; omega
      --END
    · have hlo := HST.out.m
      have HP := Lib.hid HST.out.p
      have HBE := Lib.hid HST.out.be
      have HRA := Lib.hid HST.out.ra
      have HRB := Lib.hid HST.out.rb
      have HBA := Lib.hid HST.out.ba
      have HBB := Lib.hid HST.out.bb
      obtain ⟨r1, hr1⟩ : ∃ r1 : Nat, st % (cs1 : Int) = (r1 : Int) := ⟨(st % (cs1 : Int)).toNat, by have := Int.emod_nonneg st (show (cs1 : Int) ≠ 0 by omega); omega⟩
      obtain ⟨r2, hr2⟩ : ∃ r2 : Nat, st % (cs2 : Int) = (r2 : Int) := ⟨(st % (cs2 : Int)).toNat, by have := Int.emod_nonneg st (show (cs2 : Int) ≠ 0 by omega); omega⟩
      have hr1b : r1 < cs1 := by have := Int.emod_lt_of_pos st (show 0 < (cs1 : Int) by omega); omega
      have hr2b : r2 < cs2 := by have := Int.emod_lt_of_pos st (show 0 < (cs2 : Int) by omega); omega
      have HE1 := fun wx => Lib.hid (rest_any st cs1 wx (by omega) (by omega))
      have HE2 := fun wx => Lib.hid (rest_any st cs2 wx (by omega) (by omega))
      rw [hr1] at HE1
      rw [hr2] at HE2
      obtain ⟨ys1, hys1⟩ := HRA.out.st r1
      obtain ⟨ys2, hys2⟩ := HRB.out.st r2
      have HY1 := Lib.hid hys1
      have HY2 := Lib.hid hys2
      have HG : Hid ((i < la ∧ i < lx ∧ ¬ i < 60) ∨ (i < la ∧ ¬ i < lx) ∨ ¬ i < la) := by unfold Hid; omega
      have hb := HST.out.be
      obtain ⟨za0, za1, za2, za3, hza⟩ := box_cells HA.out hb (by omega)
      obtain ⟨zb0, zb1, zb2, zb3, hzb⟩ := box_cells HBk.out hb (by omega)
      clear HST hr1 hr2 hys1 hys2 hgo HRA HRB hb W1 W2
      rcases HG.out with ⟨g1, g2, g3⟩ | ⟨g1, g2⟩ | g1
      all_goals
        go_wp2_with fail
        refine (HE1 _).out.mono ?_
        rintro e w' ⟨rfl, rfl⟩
        go_wp2_with fail
        refine (clines_one _ q pp1 sb1 pp2 sb2 ⟨cw1, cs1, cy1, cm1⟩ ⟨cw2, cs2, cy2, cm2⟩ sv1 sv2 x1 x2 m HP.out.c OK1.out r1 hr1b).mono ?_
        rintro e w20 ⟨vx, rfl, hlx, hbx⟩
        have HLX := Lib.hid hlx
        obtain ⟨ax, kx, rfl, _, _⟩ := hlx.form
        clear hlx
        have hbe := HBE.out.trans (hbx.mono (by have := HBE.out.size; rw [HSZ.out] at this; exact this))
        have HP' := Lib.hid (HP.out.later hbx)
        clear HP HBE za0 za1 za2 za3 zb0 zb1 zb2 zb3
        have HP := HP'
        have HBE := Lib.hid hbe
        obtain ⟨za0, za1, za2, za3, hza⟩ := box_cells HA.out hbe (by omega)
        obtain ⟨zb0, zb1, zb2, zb3, hzb⟩ := box_cells HBk.out hbe (by omega)
        clear HP' hbx hbe
        go_wp2_with fail
        refine (HE2 _).out.mono ?_
        rintro e w' ⟨rfl, rfl⟩
        go_wp2_with fail
        refine (clines_two _ q pp1 sb1 pp2 sb2 ⟨cw1, cs1, cy1, cm1⟩ ⟨cw2, cs2, cy2, cm2⟩ sv1 sv2 x1 x2 m HP.out.c OK2.out r2 hr2b).mono ?_
        rintro e w21 ⟨vy, rfl, hly, hbx⟩
        have HLY := Lib.hid hly
        obtain ⟨ay, ky, rfl, _, _⟩ := hly.form
        clear hly
        have hbe := HBE.out.trans (hbx.mono (by have := HBE.out.size; rw [HSZ.out] at this; exact this))
        have HP' := Lib.hid (HP.out.later hbx)
        have HLX' := Lib.hid (HLX.out.below hbx)
        clear HLX
        have HLX := HLX'
        clear HLX'
        clear HP HBE za0 za1 za2 za3 zb0 zb1 zb2 zb3
        have HP := HP'
        have HBE := Lib.hid hbe
        obtain ⟨za0, za1, za2, za3, hza⟩ := box_cells HA.out hbe (by omega)
        obtain ⟨zb0, zb1, zb2, zb3, hzb⟩ := box_cells HBk.out hbe (by omega)
        clear HP' hbx hbe
        go_wp2_with fail
        refine (clines_none _ q pp1 sb1 pp2 sb2 ⟨cw1, cs1, cy1, cm1⟩ ⟨cw2, cs2, cy2, cm2⟩ sv1 sv2 x1 x2 m HP.out.c OK1.out).mono ?_
        rintro e w' ⟨rfl, rfl⟩
        go_wp2_with fail
        refine (clines_arg _ q pp1 sb1 pp2 sb2 ⟨cw1, cs1, cy1, cm1⟩ ⟨cw2, cs2, cy2, cm2⟩ sv1 sv2 x1 x2 m HP.out.c 0).mono ?_
        rintro e w' ⟨rfl, rfl⟩
        go_wp2_with fail
        refine (cmisses_ok _ q pp1 sb1 pp2 sb2 ⟨cw1, cs1, cy1, cm1⟩ ⟨cw2, cs2, cy2, cm2⟩ sv1 sv2 x1 x2 m HP.out.c).mono ?_
        rintro e w' ⟨rfl, rfl⟩
        go_wp2_with fail
        refine (HE1 _).out.mono ?_
        rintro e w' ⟨rfl, rfl⟩
        go_wp2_with fail
        refine (set_ok _ pa va ⟨cw1, cs1, cy1, cm1⟩ na ua HP.out.a OK1.out (by have := HBA.out.len; omega) (by omega) (fun u hu => by have := HBA.out.el u hu; omega) r1 hr1b _ ys1 HY1.out).mono ?_
        rintro e w22 ⟨vs, rfl, hls, hbx⟩
        have HLS := Lib.hid hls
        obtain ⟨asx, ks, rfl, _, _⟩ := hls.form
        clear hls
        have hbe := HBE.out.trans (hbx.mono (by have := HBE.out.size; rw [HSZ.out] at this; exact this))
        have HP' := Lib.hid (HP.out.later hbx)
        have HLX' := Lib.hid (HLX.out.below hbx)
        clear HLX
        have HLX := HLX'
        clear HLX'
        have HLY' := Lib.hid (HLY.out.below hbx)
        clear HLY
        have HLY := HLY'
        clear HLY'
        clear HP HBE za0 za1 za2 za3 zb0 zb1 zb2 zb3
        have HP := HP'
        have HBE := Lib.hid hbe
        obtain ⟨za0, za1, za2, za3, hza⟩ := box_cells HA.out hbe (by omega)
        obtain ⟨zb0, zb1, zb2, zb3, hzb⟩ := box_cells HBk.out hbe (by omega)
        clear HP' hbx hbe
        go_wp2_with fail
        refine (same_lines _ _ _ _ _ HLX.out HLS.out).mono ?_
        rintro e w23 ⟨n1, rfl, hw23⟩
        have hbx := below_drewN_self w22.heap.size w22 n1
        rw [← hw23] at hbx
        rw [decide_eq_true rfl]
        clear hw23 HLS HLX
        have hbe := HBE.out.trans (hbx.mono (by have := HBE.out.size; rw [HSZ.out] at this; exact this))
        have HP' := Lib.hid (HP.out.later hbx)
        have HLY' := Lib.hid (HLY.out.below hbx)
        clear HLY
        have HLY := HLY'
        clear HLY'
        clear HP HBE za0 za1 za2 za3 zb0 zb1 zb2 zb3
        have HP := HP'
        have HBE := Lib.hid hbe
        obtain ⟨za0, za1, za2, za3, hza⟩ := box_cells HA.out hbe (by omega)
        obtain ⟨zb0, zb1, zb2, zb3, hzb⟩ := box_cells HBk.out hbe (by omega)
        clear HP' hbx hbe
        go_wp2_with fail
        refine (HE2 _).out.mono ?_
        rintro e w' ⟨rfl, rfl⟩
        go_wp2_with fail
        refine (set_ok _ pb vb ⟨cw2, cs2, cy2, cm2⟩ nb ub HP.out.b OK2.out (by have := HBB.out.len; omega) (by omega) (fun u hu => by have := HBB.out.el u hu; omega) r2 hr2b _ ys2 HY2.out).mono ?_
        rintro e w24 ⟨vs, rfl, hls, hbx⟩
        have HLS := Lib.hid hls
        obtain ⟨asx, ks, rfl, _, _⟩ := hls.form
        clear hls
        have hbe := HBE.out.trans (hbx.mono (by have := HBE.out.size; rw [HSZ.out] at this; exact this))
        have HP' := Lib.hid (HP.out.later hbx)
        have HLY' := Lib.hid (HLY.out.below hbx)
        clear HLY
        have HLY := HLY'
        clear HLY'
        clear HP HBE za0 za1 za2 za3 zb0 zb1 zb2 zb3
        have HP := HP'
        have HBE := Lib.hid hbe
        obtain ⟨za0, za1, za2, za3, hza⟩ := box_cells HA.out hbe (by omega)
        obtain ⟨zb0, zb1, zb2, zb3, hzb⟩ := box_cells HBk.out hbe (by omega)
        clear HP' hbx hbe
        go_wp2_with fail
        refine (same_lines _ _ _ _ _ HLY.out HLS.out).mono ?_
        rintro e w25 ⟨n1, rfl, hw25⟩
        have hbx := below_drewN_self w24.heap.size w24 n1
        rw [← hw25] at hbx
        rw [decide_eq_true rfl]
        clear hw25 HLS HLY
        have hbe := HBE.out.trans (hbx.mono (by have := HBE.out.size; rw [HSZ.out] at this; exact this))
        have HBF := Lib.hid hbe
        clear hbe hbx
        go_wp2_with fail
        go_ret
        exact ⟨rfl, HB0.out.trans (HBF.out.mono (by omega))⟩

theorem cachePlays_walk (a0 a1 a2 a3 b0 b1 b2 b3 : Int) (A : Option Addr) (la ca : Nat) (zs : List Int) (X : Option Addr) (lx cx : Nat) (ts : List Bool) (st : Int) (w : World)
    (_ : -9223372036854775808 ≤ a0 ∧ a0 ≤ 9223372036854775807) (_ : -9223372036854775808 ≤ a1 ∧ a1 ≤ 9223372036854775807) (_ : -9223372036854775808 ≤ a2 ∧ a2 ≤ 9223372036854775807) (_ : -9223372036854775808 ≤ a3 ∧ a3 ≤ 9223372036854775807)
    (_ : -9223372036854775808 ≤ b0 ∧ b0 ≤ 9223372036854775807) (_ : -9223372036854775808 ≤ b1 ∧ b1 ≤ 9223372036854775807) (_ : -9223372036854775808 ≤ b2 ∧ b2 ≤ 9223372036854775807) (_ : -9223372036854775808 ≤ b3 ∧ b3 ≤ 9223372036854775807)
    (h2 : Came w A la ca 1 (zs.map intCells) ∧ ∀ z ∈ zs, I64 z) (h3 : Came w X lx cx 1 (ts.map boolCells) ∧ ∀ z ∈ ts, True) (_ : -9223372036854775808 ≤ st ∧ st ≤ 9223372036854775807) :
    Calls Try.prog 3 #[.agg #[.int .i64 a0, .int .i64 a1, .int .i64 a2, .int .i64 a3], .agg #[.int .i64 b0, .int .i64 b1, .int .i64 b2, .int .i64 b3], .slice A la ca, .slice X lx cx, .int .i64 st] w fun e w' => e = .returned (.bool true) ∧ Below w.heap.size w w' := by
  cases ha : confB ⟨a0, a1, a2, a3⟩
  · exact plays_bad a0 a1 a2 a3 b0 b1 b2 b3 A la ca X lx cx st w (.inl ha)
  · cases hb : confB ⟨b0, b1, b2, b3⟩
    · exact plays_bad a0 a1 a2 a3 b0 b1 b2 b3 A la ca X lx cx st w (.inr hb)
    · obtain ⟨⟨cw1, cs1, cy1, cm1⟩, ok1, _, e1, e2, e3, e4⟩ := conf_ok ha
      obtain ⟨⟨cw2, cs2, cy2, cm2⟩, ok2, _, f1, f2, f3, f4⟩ := conf_ok hb
      simp only at e1 e2 e3 e4 f1 f2 f3 f4
      subst e1 e2 e3 e4 f1 f2 f3 f4
      exact plays_ok cw1 cs1 cy1 cm1 cw2 cs2 cy2 cm2 ok1 ok2 A la ca zs X lx cx ts st w h2.1 h3.1
end Go.Proofs.Ytkpeeemnholmnab
