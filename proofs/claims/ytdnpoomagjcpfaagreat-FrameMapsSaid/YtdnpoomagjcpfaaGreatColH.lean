/- color's coalesce: the walk. -/
import Derived.Test.YtdnpoomagjcpfaaGreatColLaw
namespace Go.Proofs.YtdnpoomagjcpfaaGreat
open Go.RowKit
set_option linter.unusedVariables false
set_option linter.unusedSimpArgs false

theorem mvs_cells {w : World} {B : Nat} {ma : Option Addr} {mc : Nat} {mvs : List (Int × Int)} (h : w.ownsRow B 85 2 (.slice ma mvs.length mc) mvs.length (mvs.flatMap wpC)) {i : Nat} (hi : i < mvs.length) :
  ∃ q, ma = some ⟨q, 0, none⟩ ∧ q < w.heap.size ∧ mvs.length ≤ mc ∧ mc ≤ maxLen ∧ w.cell? ⟨q, i * 2, none⟩ = some (.int .i64 mvs[i].1) ∧ w.cell? ⟨q, i * 2 + 1, none⟩ = some (.int .i64 mvs[i].2) := by
 obtain ⟨q, cap, hv, _, hl, h1, h2⟩ := ownG_has h (by omega)
 injection hv with e1 _ e3
 subst e1 e3
 have c0 := h.cellAt (i * 2) (by omega)
 have c1 := h.cellAt (i * 2 + 1) (by omega)
 have g0 := flatN_get (E := wpC) (k := 2) (fun _ => rfl) mvs i 0 hi (by omega)
 have g1 := flatN_get (E := wpC) (k := 2) (fun _ => rfl) mvs i 1 hi (by omega)
 rw [Nat.add_zero] at g0
 rw [g0] at c0
 rw [g1] at c1
 exact ⟨q, rfl, hl, h1, h2, c0, c1⟩
theorem joinK_snoc (a b k : Nat) (X : Nat → Nat → Bool) : joinK a b (k + 1) X = if joinK a b k X b k = true then addE (joinK a b k X) a k else joinK a b k X := rfl
theorem undoK_snoc (was : Nat → Bool) (a k : Nat) (X : Nat → Nat → Bool) : undoK was a (k + 1) X = if undoK was a k X a k = true ∧ was k = false then cutK (undoK was a k X) a k else undoK was a k X := rfl
theorem dropK_snoc (b k : Nat) (X : Nat → Nat → Bool) : dropK b (k + 1) X = cutK (dropK b k X) b k := rfl
set_option maxRecDepth 100000 in
set_option maxHeartbeats 8000000 in
theorem coalesce_any (w : World) (B n : Nat) (g : GP) (X : Nat → Nat → Bool) (SL TH : Nat → Bool) (mv : Value) (mvs : List (Int × Int)) (h : GrM w B n g X SL TH mv) (hmo : w.ownsRow B 85 2 mv mvs.length (mvs.flatMap wpC)) (hms : ∀ m ∈ mvs, MvOk n m) (hml : mvs.length ≤ 20000000) (hk0 : KInv n (startK X TH)) (k : Nat) (hk : k ≤ 8192) (hn : 0 < n ∧ n ≤ 8192) :
  Calls Tryz.prog 23 #[.pointer (some ⟨g.gb, 0, none⟩), .int .i64 (k : Int)] w (CoalPost B n g SL mv mvs (coalK k n SL mvs (startK X TH)) w) := by
 have hmk : ∀ w : World, (Instr.makeSlice 69 (.int .i64 (n : Int)) (.int .i64 (n : Int))).run Tryz.prog w = .ok (.slice (some ⟨w.heap.size, 0, none⟩) n n) (w.alloc (.cells (rowL n fun _ => .int .i64 0).toArray 3)) := fun w => run_make_rep (P := Tryz.prog) 69 3 (.int .i64 0) 8 Tryz.underlying69 Tryz.infoT3 rfl n (by omega) (by omega) w
 have hcap := h.cap
 have hcm := hcap.2
 unfold maxLen at hcm
 have hc1 := hcap.1
 obtain ⟨ma, mc, rfl⟩ := ownG_shape hmo
 have k0 := h.box.cell 0
 simp only [List.getElem?_cons_zero] at k0
 have hnr : NRow (w.alloc (.cells (rowL n fun _ => .int .i64 0).toArray 3)) w.heap.size n (fun r => ((if r < 0 then r else 0 : Nat) : Int)) := (Blk.new w (rowL n fun _ => .int .i64 0) 3 : _)
 have hb1 : Below w.heap.size w (w.alloc (.cells (rowL n fun _ => .int .i64 0).toArray 3)) := (Below.refl _ _).alloc (Nat.le_refl _) _
 have HI1 : Hid (CoI w (w.alloc (.cells (rowL n fun _ => .int .i64 0).toArray 3)) B n g SL (.slice ma mvs.length mc) mvs w.heap.size ⟨X, TH, fun r => if r < 0 then r else 0, fun r => r⟩) := ⟨h.below hb1, ownG_below hmo hb1, hnr, Nat.le_refl _, below_refl_of hb1 _⟩
 have HMS := Lib.hid hms
 have HK0 := Lib.hid hk0
 obtain ⟨gb, hgb⟩ : ∃ x, x = g.gb := ⟨_, rfl⟩
 rw [← hgb] at k0 ⊢
 have HGB := Lib.hid hgb
 clear h hmo hms hk0 hcap hgb hnr hb1
 go_enter Tryz.func23, Tryz.ntmps23
 go_wp2_with fail
 change Code.wp _ _ _ _ (w.alloc (.cells (rowL n fun _ => .int .i64 0).toArray 3))
 obtain ⟨cb, hcb⟩ : ∃ x, x = w.heap.size := ⟨_, rfl⟩
 rw [← hcb] at HI1 ⊢
 clear hcb hmk k0
 generalize w.alloc (.cells (rowL n fun _ => .int .i64 0).toArray 3) = w1 at HI1 ⊢
 go_loopw [27] (fun u wr => ∃ j : Nat, j ≤ n ∧ u = .int .i64 (j : Int) ∧ CoI w wr B n g SL (.slice ma mvs.length mc) mvs cb ⟨X, TH, fun r => if r < j then r else 0, fun r => r⟩) (fun u _ => n - (intOf u).toNat)
 case atStart => exact ⟨0, Nat.zero_le _, rfl, HI1.out⟩
 case round =>
  clear HI1
  obtain ⟨j, hj, rfl, hi⟩ := hrel
  have HI := Lib.hid hi
  clear hi
  by_cases hlt : j < n
  ·have c0 := HI.out.cls.cell hlt
   have f0 := Blk.free HI.out.cls j
   have HS := Lib.hid (HI.out.setC j j)
   go_wp2_with fail
   go_roundw
   case rel => exact ⟨j + 1, by omega, by go_num, by
    have h1 := HS.out
    refine ⟨h1.gr, h1.mo, h1.cls.congr fun r hr => ?_, h1.lo, h1.rs⟩
    dsimp only
    by_cases e : r = j
    ·subst e; rw [if_pos rfl, if_pos (by omega)]
    ·rw [if_neg e]
     by_cases e2 : r < j
     ·rw [if_pos e2, if_pos (by omega)]
     ·rw [if_neg e2, if_neg (by omega)]⟩
   case measure => simp [intOf]; omega
  ·have ej : j = n := by omega
   subst ej
   have HI2 : Hid (CoI w wr B j g SL (.slice ma mvs.length mc) mvs cb (startK X TH)) := by
    have h1 := HI.out
    exact ⟨h1.gr, h1.mo, h1.cls.congr fun r hr => by show ((if r < j then r else 0 : Nat) : Int) = (r : Int); rw [if_pos hr], h1.lo, h1.rs⟩
   have k3 := HI2.out.gr.box.cell 3
   simp only [List.getElem?_cons_zero, List.getElem?_cons_succ] at k3
   rw [← HGB.out] at k3
   clear HI
   go_wp2_with fail
   clear k3
   go_loopw [40] (fun u wr => ∃ (i : Nat) (s : KS), i ≤ mvs.length ∧ u = .int .i64 (i : Int) ∧ s = coalK k j SL (mvs.take i) (startK X TH) ∧ CoI w wr B j g SL (.slice ma mvs.length mc) mvs cb s) (fun u _ => mvs.length - (intOf u).toNat)
   case atStart => exact ⟨0, _, Nat.zero_le _, rfl, rfl, HI2.out⟩
   case round =>
    clear HI2 hlt
    obtain ⟨i, s, hi0, rfl, hs, hi⟩ := hrel
    have HI := Lib.hid hi
    have HS := Lib.hid hs
    clear hi hs
    by_cases hlt : i < mvs.length
    ·obtain ⟨q, rfl, hql, hq1, hq2, m0, m1⟩ := mvs_cells HI.out.mo hlt
     have hm := HMS.out _ (List.getElem_mem hlt)
     have HT : Hid (mvs.take (i + 1) = mvs.take i ++ [mvs[i]]) := List.take_succ_eq_append_getElem hlt
     have HKV : Hid (KInv j s) := by
      show KInv j s
      rw [HS.out]
      exact HK0.out.coal k SL fun m hm => HMS.out m (List.mem_of_mem_take hm)
     obtain ⟨m, hme⟩ : ∃ m, m = mvs[i] := ⟨_, rfl⟩
     rw [← hme] at m0 m1 hm HT
     have HSN : Hid (stepK k j SL s m = coalK k j SL (mvs.take (i + 1)) (startK X TH)) := by
      show _ = _
      rw [HT.out, HS.out]
      unfold coalK
      rw [List.foldl_append]
      rfl
     obtain ⟨x, y⟩ := m
     obtain ⟨p1, hp1⟩ : ∃ p : Nat, x = (p : Int) := ⟨x.toNat, by have := hm.1; simp only at this; omega⟩
     obtain ⟨p2, hp2⟩ : ∃ p : Nat, y = (p : Int) := ⟨y.toNat, by have := hm.2; simp only at this; omega⟩
     subst hp1 hp2
     have hab := HKV.out.ab hm
     obtain ⟨a, ha⟩ : ∃ a, a = s.a ((p1 : Int), (p2 : Int)) := ⟨_, rfl⟩
     obtain ⟨b, hb⟩ : ∃ b, b = s.b ((p1 : Int), (p2 : Int)) := ⟨_, rfl⟩
     rw [← ha, ← hb] at hab
     have HAB := Lib.hid hab
     have han := hab.1.1
     have hbn := hab.2.1
     have hm1 : p1 < j ∧ p2 < j := by obtain ⟨⟨_, h1⟩, _, h2⟩ := hm; dsimp only at h1 h2; omega
     have HST : Hid (stepK k j SL s ((p1 : Int), (p2 : Int)) = if s.skip SL a b then s else if s.many k j SL a b then s else s.join j a b) := by show _ = _; rw [ha, hb]; rfl
     have hb2 : Below wr.heap.size wr (wr.alloc (.cells #[.int .i64 (p1 : Int), .int .i64 (p2 : Int)] 85)) := (Below.refl _ _).alloc (Nat.le_refl _) _
     have HI2 := Lib.hid (HI.out.below hb2)
     have HBX := Lib.hid (Blk.new wr [.int .i64 (p1 : Int), .int .i64 (p2 : Int)] 85)
     clear hm hme HT hb2 hab
     go_upto_region 10 with fail
     have HBX2 : Hid (Blk (wr.alloc (.cells #[.int .i64 (p1 : Int), .int .i64 (p2 : Int)] 85)) wr.heap.size 85 [.int .i64 (p1 : Int), .int .i64 (p2 : Int)]) := HBX.out
     clear HBX
     obtain ⟨xb, hxb⟩ : ∃ x, x = wr.heap.size := ⟨_, rfl⟩
     rw [← hxb] at HBX2 ⊢
     clear hxb m0 m1 HI
     generalize wr.alloc (.cells #[.int .i64 (p1 : Int), .int .i64 (p2 : Int)] 85) = w2 at HI2 HBX2 ⊢
     go_cut [9, 10] from 44 to 217 (fun v9 v10 wx => v9 = .int .i64 (a : Int) ∧ v10 = .int .i64 (b : Int) ∧ wx = w2.drew)
     case first => as_aux_lemma =>
      have x0 := HBX2.out.cell 0
      have x1 := HBX2.out.cell 1
      simp only [List.getElem?_cons_zero, List.getElem?_cons_succ] at x0 x1
      have hxl := HBX2.out.lt
      obtain ⟨rank, hcr⟩ := HKV.out.cr
      have hI3 := HI2.out.below (Below.refl w2.heap.size w2).drew
      have h1 := cof_any w2.drew cb j s.c s.rep rank hI3.cls hcr hn.2 (min p1 p2) (by omega)
      have h2 := cof_any w2.drew cb j s.c s.rep rank hI3.cls hcr hn.2 (max p1 p2) (by omega)
      have e1 : ((min p1 p2 : Nat) : Int) = if p2 < p1 then (p2 : Int) else (p1 : Int) := by split <;> omega
      have e2 : ((max p1 p2 : Nat) : Int) = if p1 < p2 then (p2 : Int) else (p1 : Int) := by split <;> omega
      have e3 : s.rep (min p1 p2) = a := by rw [ha]; show _ = s.rep (min (p1 : Int) (p2 : Int)).toNat; congr 1; omega
      have e4 : s.rep (max p1 p2) = b := by rw [hb]; show _ = s.rep (max (p1 : Int) (p2 : Int)).toNat; congr 1; omega
      rw [e1, e3] at h1
      rw [e2, e4] at h2
      have H1 := Lib.hid h1
      have H2 := Lib.hid h2
      have q0 := fun z : After w2.heap.size w2.drew => (z.below.cell (p := ⟨xb, 0, none⟩) hxl).trans x0
      have q1 := fun z : After w2.heap.size w2.drew => (z.below.cell (p := ⟨xb, 1, none⟩) hxl).trans x1
      clear h1 h2 e1 e2 e3 e4 ha hb x0 x1 hI3
      refine wp_region_eager w2.heap.size [(0, true), (1, true), (2, true), (3, true), (4, true), (5, true), (7, true), (8, true), (9, true), (10, true), (11, true), (12, true), (6, false), (13, false), (14, true), (15, true)] (by kernel_rfl) (by kernel_rfl) ?_
      repeat (refine eag_read rfl ?_; go_big_quiet_step (fail); refine wpQuiet_nil ?_)
      refine eag_does rfl rfl ?_
      intro K hK
      go_simp
      refine H1.out.mono ?_
      rintro e w7 ⟨rfl, hw7⟩
      rw [hw7]
      clear hw7 w7
      refine hK _ _ (Below.refl _ _) ?_
      clear hK K H1
      go_simp
      refine eag_does rfl rfl ?_
      intro K hK
      go_simp
      refine H2.out.mono ?_
      rintro e w7 ⟨rfl, hw7⟩
      rw [hw7]
      clear hw7 w7
      refine hK _ _ (Below.refl _ _) ?_
      clear hK K H2
      go_simp
      repeat (refine eag_read rfl ?_; go_big_quiet_step (fail); refine wpQuiet_nil ?_)
      refine eag_end ?_
      go_wp2_with fail
      all_goals
       go_meet
       exact ⟨rfl, rfl, rfl⟩
     case rest => as_aux_lemma =>
      obtain ⟨rfl, rfl, hwx⟩ := hcut
      have hb3 : Below w2.heap.size w2 wc := by rw [hwx]; exact (Below.refl _ _).drew
      have HI3 := Lib.hid (HI2.out.below hb3)
      clear hb3 hwx HI2 HBX2 ha hb
      have hia := HI3.out.gr.rowCell han
      have g0 := HI3.out.gr.box.cell 0
      have g1 := HI3.out.gr.box.cell 1
      simp only [List.getElem?_cons_zero, List.getElem?_cons_succ] at g0 g1
      rw [← HGB.out] at g0 g1
      go_upto_region 11 with fail
      obtain ⟨wa, rfl⟩ : ∃ x, x = wc := ⟨_, rfl⟩
      go_cut [89] from 58 to 217 (fun v wx => v = .bool (decide (s.skip SL a b)) ∧ ∃ m, wx = wa.drewN m)
      case first => as_aux_lemma =>
       have hsk : s.skip SL a b ↔ (a = b ∨ s.X a b = true ∨ SL a ≠ SL b) := Iff.rfl
       have x2 := (HI3.out.gr.row a han).cell hbn
       have x3 := HI3.out.gr.slot.cell han
       have x4 := HI3.out.gr.slot.cell hbn
       have hgl := HI3.out.gr.box.lt
       have hGl := (HI3.out.gr.rows.lt g.G rfl).2
       have hal := Blk.lt (HI3.out.gr.row a han)
       have hsl := Blk.lt HI3.out.gr.slot
       rw [← HGB.out] at hgl
       obtain ⟨G, hG⟩ : ∃ x, x = g.G := ⟨_, rfl⟩
       obtain ⟨ba, hba⟩ : ∃ x, x = g.bs a := ⟨_, rfl⟩
       obtain ⟨sb, hsb⟩ : ∃ x, x = g.sb := ⟨_, rfl⟩
       obtain ⟨rc, hrc⟩ : ∃ x, x = g.rc := ⟨_, rfl⟩
       rw [← hG, ← hba] at hia
       rw [← hG, ← hrc] at g0
       rw [← hsb] at g1 x3 x4 hsl
       rw [← hba] at x2 hal
       rw [← hG] at hGl
       rw [← hrc] at hcm hc1
       obtain ⟨xab, hxab⟩ : ∃ x, x = s.X a b := ⟨_, rfl⟩
       obtain ⟨sa, hsa⟩ : ∃ x, x = SL a := ⟨_, rfl⟩
       obtain ⟨sv, hsv⟩ : ∃ x, x = SL b := ⟨_, rfl⟩
       rw [← hxab] at x2 hsk
       rw [← hsa] at x3 hsk
       rw [← hsv] at x4 hsk
       have HSK := Lib.hid hsk
       clear hG hba hsb hrc hxab hsa hsv hsk
       have q0 := fun z : After wa.heap.size wa.drew => (z.below.cell (p := ⟨gb, 0, none⟩) hgl).trans g0
       have q1 := fun z : After wa.heap.size wa.drew => (z.below.cell (p := ⟨gb, 1, none⟩) hgl).trans g1
       have q2 := fun z : After wa.heap.size wa.drew => (z.below.cell (p := ⟨G, a, none⟩) hGl).trans hia
       have q3 := fun z : After wa.heap.size wa.drew => (z.below.cell (p := ⟨ba, b, none⟩) hal).trans x2
       have q4 := fun z : After wa.heap.size wa.drew => (z.below.cell (p := ⟨sb, a, none⟩) hsl).trans x3
       have q5 := fun z : After wa.heap.size wa.drew => (z.below.cell (p := ⟨sb, b, none⟩) hsl).trans x4
       clear g0 g1 hia x2 x3 x4
       have hz : ((a : Int) == (b : Int)) = true ∨ ((a : Int) == (b : Int)) = false := by cases ((a : Int) == (b : Int)) <;> simp
       rcases hz with hz | hz
       ·have HD : Hid (decide (s.skip SL a b) = true) := decide_eq_true (HSK.out.2 (.inl (by have h9 : (a : Int) = b := (by simpa using hz); omega)))
        refine wp_region_eager wa.heap.size [(0, true), (1, true), (2, true), (3, true), (4, true), (5, true), (6, true), (7, true), (8, true), (9, true), (10, true), (11, true), (12, true), (13, true), (14, true), (15, true), (16, true), (17, true), (18, true), (19, true), (20, true), (21, true), (22, true), (23, true), (24, true), (25, true), (26, true), (27, true), (28, true), (29, true), (30, true), (31, true)] (by kernel_rfl) (by kernel_rfl) ?_
        repeat (refine eag_read rfl ?_; go_big_quiet_step (fail); refine wpQuiet_nil ?_)
        refine eag_end ?_
        go_wp2_with fail
        go_meet
        exact ⟨by rw [HD.out], 1, rfl⟩
       ·have hne : a ≠ b := fun e => by subst e; simp at hz
        cases xab
        ·have HD : Hid (decide (s.skip SL a b) = decide (sa ≠ sv)) := decide_eq_decide.2 (by rw [HSK.out]; simp [hne])
         cases sa <;> cases sv
         all_goals
          clear hne
          refine wp_region_eager wa.heap.size [(0, true), (1, true), (2, true), (3, true), (4, true), (5, true), (6, true), (7, true), (8, true), (9, true), (10, true), (11, true), (12, true), (13, true), (14, true), (15, true), (16, true), (17, true), (18, true), (19, true), (20, true), (21, true), (22, true), (23, true), (24, true), (25, true), (26, true), (27, true), (28, true), (29, true), (30, true), (31, true)] (by kernel_rfl) (by kernel_rfl) ?_
          repeat (refine eag_read rfl ?_; go_big_quiet_step (fail); refine wpQuiet_nil ?_)
          refine eag_end ?_
          go_wp2_with fail
          go_meet
          exact ⟨by rw [HD.out]; rfl, 1, rfl⟩
        ·have HD : Hid (decide (s.skip SL a b) = true) := decide_eq_true (HSK.out.2 (.inr (.inl rfl)))
         clear hne
         refine wp_region_eager wa.heap.size [(0, true), (1, true), (2, true), (3, true), (4, true), (5, true), (6, true), (7, true), (8, true), (9, true), (10, true), (11, true), (12, true), (13, true), (14, true), (15, true), (16, true), (17, true), (18, true), (19, true), (20, true), (21, true), (22, true), (23, true), (24, true), (25, true), (26, true), (27, true), (28, true), (29, true), (30, true), (31, true)] (by kernel_rfl) (by kernel_rfl) ?_
         repeat (refine eag_read rfl ?_; go_big_quiet_step (fail); refine wpQuiet_nil ?_)
         refine eag_end ?_
         go_wp2_with fail
         go_meet
         exact ⟨by rw [HD.out], 1, rfl⟩
      case rest => as_aux_lemma =>
       obtain ⟨rfl, mm, hwx⟩ := hcut
       have hb4 : Below wa.heap.size wa wc := by rw [hwx]; exact below_drewN_self _ _ _
       have HI4 := Lib.hid (HI3.out.below hb4)
       clear hb4 hwx HI3 hia g0 g1
       by_cases hsk : s.skip SL a b
       ·have HE : Hid (stepK k j SL s ((p1 : Int), (p2 : Int)) = s) := HST.out.trans (if_pos hsk)
        rw [show decide (s.skip SL a b) = true from decide_eq_true hsk]
        clear hsk
        go_wp2_with fail
        go_roundw
        case rel => exact ⟨i + 1, s, by omega, by go_num, HE.out.symm.trans HSN.out, HI4.out⟩
        case measure => simp [intOf]; omega
       ·rw [show decide (s.skip SL a b) = false from decide_eq_false hsk]
        have HSK := Lib.hid hsk
        clear hsk
        have hia := HI4.out.gr.rowCell han
        have hib := HI4.out.gr.rowCell hbn
        have g0 := HI4.out.gr.box.cell 0
        simp only [List.getElem?_cons_zero] at g0
        rw [← HGB.out] at g0
        have HCL := Lib.hid (clone_bools (g.bs a) j j (s.X a) wc (GRow.ofB (HI4.out.gr.row a han) (by omega)) hn)
        obtain ⟨G, hG⟩ : ∃ x, x = g.G := ⟨_, rfl⟩
        obtain ⟨ba, hba⟩ : ∃ x, x = g.bs a := ⟨_, rfl⟩
        obtain ⟨bb, hbb⟩ : ∃ x, x = g.bs b := ⟨_, rfl⟩
        obtain ⟨rc, hrc⟩ : ∃ x, x = g.rc := ⟨_, rfl⟩
        rw [← hG, ← hba] at hia
        rw [← hG, ← hbb] at hib
        rw [← hG, ← hrc] at g0
        rw [← hrc] at hcm hc1
        rw [← hba] at HCL
        have HG := Lib.hid hG
        have HBA := Lib.hid hba
        have HBB := Lib.hid hbb
        have HRC := Lib.hid hrc
        clear hG hba hbb hrc hib
        go_wp2_with fail
        refine HCL.out.mono ?_
        rintro e w5 ⟨gq, cq, rfl, hgq, hgl, hb5⟩
        have HI5 := Lib.hid (HI4.out.below hb5)
        have HGQ := Lib.hid hgq
        have HAP : Hid (¬ inB' j g.bs gq) := fun ⟨r, hr, e⟩ => by have := Blk.lt (HI4.out.gr.row r hr); omega
        have hcq := hgq.le
        have hcq1 := hcq.1
        have hcq2 := hcq.2
        unfold maxLen at hcq2
        clear HCL hgq hgl hb5 HI4 hia g0 hcq
        have hib := HI5.out.gr.rowCell hbn
        have g0 := HI5.out.gr.box.cell 0
        simp only [List.getElem?_cons_zero] at g0
        rw [← HGB.out, ← HG.out, ← HRC.out] at g0
        rw [← HG.out, ← HBB.out] at hib
        go_wp2_with fail
        clear g0 hib
        go_loopw [106] (fun u wx => ∃ p : Nat, p ≤ j ∧ u = .int .i64 (p : Int) ∧ CoI w wx B j g SL (.slice (some ⟨q, 0, none⟩) mvs.length mc) mvs cb { s with X := joinK a b p s.X } ∧ RestS (inB' j g.bs) w5 wx) (fun u _ => j - (intOf u).toNat)
        case atStart => exact ⟨0, Nat.zero_le _, rfl, HI5.out, RestS.refl _ _⟩
        case round =>
         clear HI5
         obtain ⟨p, hp, rfl, hi, hr⟩ := hrel
         have HI := Lib.hid hi
         have HR := Lib.hid hr
         clear hi hr
         by_cases hplt : p < j
         ·have hrow : BRow wr (g.bs b) j (joinK a b p s.X b) := HI.out.gr.row b hbn
          have cl := hrow.cell hplt
          rw [← HBB.out] at cl
          obtain ⟨l, hle⟩ : ∃ l, l = joinK a b p s.X b p := ⟨_, rfl⟩
          rw [← hle] at cl
          have HCA := Lib.hid (cadd_any wr B j g (joinK a b p s.X) SL s.TH _ HI.out.gr a p han hplt hn.2)
          rw [← HGB.out] at HCA
          clear hrow
          cases l with
          | false =>
           have HN : Hid (joinK a b (p + 1) s.X = joinK a b p s.X) := by show _ = _; rw [joinK_snoc, if_neg (by rw [← hle]; simp)]
           clear hle
           go_wp2_with fail
           go_roundw
           case rel => exact ⟨p + 1, by omega, by go_num, by rw [HN.out]; exact HI.out, HR.out⟩
           case measure => simp [intOf]; omega
          | true =>
           have HN : Hid (joinK a b (p + 1) s.X = addE (joinK a b p s.X) a p) := by show _ = _; rw [joinK_snoc, if_pos hle.symm]
           clear hle
           go_wp2_with fail
           refine HCA.out.mono ?_
           rintro e w7 ⟨rfl, hg7, hr7⟩
           have HI7 := Lib.hid (HI.out.edges hr7 hg7)
           have HR7 := Lib.hid (HR.out.trans hr7)
           clear hg7 hr7 HCA HI HR
           go_wp2_with fail
           go_roundw
           case rel => exact ⟨p + 1, by omega, by go_num, by rw [HN.out]; exact HI7.out, HR7.out⟩
           case measure => simp [intOf]; omega
         ·have ep : j = p := by omega
          subst ep
          have HI6 : Hid (CoI w wr B j g SL (.slice (some ⟨q, 0, none⟩) mvs.length mc) mvs cb { s with X := joinK a b j s.X }) := HI.out
          clear HI
          obtain ⟨Y, hY⟩ : ∃ Y, Y = joinK a b j s.X := ⟨_, rfl⟩
          have HY := Lib.hid hY
          rw [← hY] at HI6
          clear hY
          have HDG := Lib.hid (degree_any wr B j g Y SL s.TH _ HI6.out.gr a k han hk hn.2)
          rw [← HGB.out] at HDG
          obtain ⟨hi, hhi⟩ : ∃ x, x = highN j Y a k := ⟨_, rfl⟩
          rw [← hhi] at HDG
          have hhl : hi ≤ j := by rw [hhi]; exact cntY_le _ _
          have HMN : Hid (s.many k j SL a b ↔ k ≤ hi ∧ SL a = false) := by rw [hhi, HY.out]; exact Iff.rfl
          clear hhi
          obtain ⟨wb, rfl⟩ : ∃ x, x = wr := ⟨_, rfl⟩
          go_wp2_with fail
          refine HDG.out.mono ?_
          rintro e w7 ⟨rfl, hw7⟩
          rw [hw7]
          clear hw7 w7 HDG
          go_upto_region 20 with fail
          have g1 := HI6.out.gr.box.cell 1
          simp only [List.getElem?_cons_zero, List.getElem?_cons_succ] at g1
          rw [← HGB.out] at g1
          have x3 := HI6.out.gr.slot.cell han
          go_cut [136] from 124 to 217 (fun v wx => v = .bool (decide (s.many k j SL a b)) ∧ wx = wb)
          case first => as_aux_lemma =>
           obtain ⟨sb, hsb⟩ : ∃ x, x = g.sb := ⟨_, rfl⟩
           obtain ⟨sa, hsa⟩ : ∃ x, x = SL a := ⟨_, rfl⟩
           rw [← hsb] at g1 x3
           rw [← hsa] at x3 HMN
           have HMN2 := HMN
           clear hsb hsa HMN
           by_cases h1 : k ≤ hi
           ·have q1 : decide ((k : Int) ≤ (hi : Int)) = true := by simp; omega
            cases sa with
            | false =>
             have HD : Hid (decide (s.many k j SL a b) = true) := decide_eq_true (HMN2.out.2 ⟨h1, rfl⟩)
             go_wp2_with fail
             go_meet
             exact ⟨by rw [HD.out], rfl⟩
            | true =>
             have HD : Hid (decide (s.many k j SL a b) = false) := decide_eq_false fun h => absurd (HMN2.out.1 h).2 (by simp)
             go_wp2_with fail
             go_meet
             exact ⟨by rw [HD.out], rfl⟩
           ·have q1 : decide ((k : Int) ≤ (hi : Int)) = false := by simp; omega
            have HD : Hid (decide (s.many k j SL a b) = false) := decide_eq_false fun h => h1 (HMN2.out.1 h).1
            go_wp2_with fail
            go_meet
            exact ⟨by rw [HD.out], rfl⟩
          case rest => as_aux_lemma =>
           obtain ⟨rfl, rfl⟩ := hcut
           clear g1 x3
           have hia := HI6.out.gr.rowCell han
           have hib := HI6.out.gr.rowCell hbn
           have g0 := HI6.out.gr.box.cell 0
           simp only [List.getElem?_cons_zero] at g0
           rw [← HGB.out, ← HG.out, ← HRC.out] at g0
           rw [← HG.out, ← HBA.out] at hia
           rw [← HG.out, ← HBB.out] at hib
           by_cases hmny : s.many k j SL a b
           ·as_aux_lemma =>
            rw [show decide (s.many k j SL a b) = true from decide_eq_true hmny]
            have HE : Hid (stepK k j SL s ((p1 : Int), (p2 : Int)) = s) := HST.out.trans ((if_neg HSK.out).trans (if_pos hmny))
            clear hmny hib
            go_wp2_with fail
            clear hia g0
            have HI8 : Hid (CoI w wc B j g SL (.slice (some ⟨q, 0, none⟩) mvs.length mc) mvs cb { s with X := undoK (s.X a) a 0 Y }) := HI6.out
            go_loopw [145] (fun u wx => ∃ p : Nat, p ≤ j ∧ u = .int .i64 (p : Int) ∧ CoI w wx B j g SL (.slice (some ⟨q, 0, none⟩) mvs.length mc) mvs cb { s with X := undoK (s.X a) a p Y } ∧ RestS (inB' j g.bs) w5 wx) (fun u _ => j - (intOf u).toNat)
            case atStart => exact ⟨0, Nat.zero_le _, rfl, HI8.out, HR.out⟩
            case round =>
             clear HI8 HI6 HR hp hplt
             obtain ⟨p, hp, rfl, hi, hr⟩ := hrel
             have HI := Lib.hid hi
             have HR := Lib.hid hr
             clear hi hr
             by_cases hplt : p < j
             ·have hrow : BRow wr (g.bs a) j (undoK (s.X a) a p Y a) := HI.out.gr.row a han
              have cl := hrow.cell hplt
              rw [← HBA.out] at cl
              have cw := (HGQ.out.of_heap (HR.out.block gq HGQ.out.lt HAP.out)).cell hplt
              obtain ⟨l, hle⟩ : ∃ l, l = undoK (s.X a) a p Y a p := ⟨_, rfl⟩
              obtain ⟨v, hv⟩ : ∃ v, v = s.X a p := ⟨_, rfl⟩
              rw [← hle] at cl
              rw [← hv] at cw
              have HUS := Lib.hid (undoK_snoc (s.X a) a p Y)
              clear hrow
              have hcase : (l = true ∧ v = false) ∨ ¬ (l = true ∧ v = false) := Decidable.em _
              rcases hcase with ⟨rfl, rfl⟩ | hno
              ·have HN : Hid (undoK (s.X a) a (p + 1) Y = cutK (undoK (s.X a) a p Y) a p) := HUS.out.trans (if_pos ⟨hle.symm, hv.symm⟩)
               clear hle hv HUS
               obtain ⟨wd, hwd⟩ : ∃ wd, wd = wr.drew := ⟨_, rfl⟩
               have hde : Below wr.heap.size wr wd := by rw [hwd]; exact (Below.refl _ _).drew
               have HD := Lib.hid (HI.out.below hde)
               have HRS : Hid (RestS (inB' j g.bs) wr wd) := below_refl_of hde _
               have k0 := HD.out.gr.box.cell 0
               simp only [List.getElem?_cons_zero] at k0
               have ca := HD.out.gr.rowCell han
               have cp := HD.out.gr.rowCell hplt
               obtain ⟨bp, hbp⟩ : ∃ x, x = g.bs p := ⟨_, rfl⟩
               rw [← HGB.out, ← HG.out, ← HRC.out] at k0
               rw [← HG.out, ← HBA.out] at ca
               rw [← HG.out, ← hbp] at cp
               have r0 := fun z : AfterR (Keep2C gb G) wd => (World.cell?_of_block (a := ⟨gb, 0, none⟩) z.rel.1).trans k0
               have r1 := fun z : AfterR (Keep2C gb G) wd => (World.cell?_of_block (a := ⟨G, a, none⟩) z.rel.2).trans ca
               have r2 := fun z : AfterR (Keep2C gb G) wd => (World.cell?_of_block (a := ⟨G, p, none⟩) z.rel.2).trans cp
               have HBP := Lib.hid hbp
               clear k0 ca cp hbp hde
               go_upto_region 25 with fail
               refine wp_region_eagerRT (Keep2C gb G) [(0, true), (1, true), (2, true), (3, true), (4, true), (5, true), (6, true), (7, true), (8, true), (9, true), (10, true), (11, true), (12, true), (13, true), (14, true), (15, true), (16, true), (17, false), (18, true), (19, false)] (by kernel_rfl) (by kernel_rfl) ?_
               rw [← hwd]
               clear hwd
               repeat (refine eagR_readT rfl ?_; go_big_quiet_step (fail); refine wpQuiet_nil ?_)
               clear r0 r1 r2
               have f1 := Blk.free (HD.out.gr.row a han) p
               have x1 := (HD.out.gr.row a han).cell hplt
               rw [← HBA.out] at f1 x1
               refine eagR_freeT rfl rfl (by kernel_rfl) ?_
               intro K hK
               go_simp
               refine hK _ _ ?_
               clear hK K f1 x1
               go_simp
               repeat (refine eagR_readT rfl ?_; go_big_quiet_step (fail); refine wpQuiet_nil ?_)
               have hs1 := HD.out.gr.set han p false
               rw [← HBA.out] at hs1
               have HR1 : Hid (RestS (inB' j g.bs) wr (wd.setCell ⟨ba, p, none⟩ (.bool false))) := HRS.out.set (p := ⟨ba, p, none⟩) ⟨a, han, HBA.out⟩ _
               have hcut2 := HD.out.gr.cut han hplt
               rw [← HBA.out, ← HBP.out] at hcut2
               have HC2 := Lib.hid hcut2
               clear hcut2
               generalize wd.setCell ⟨ba, p, none⟩ (.bool false) = w2' at hs1 HR1 HC2 ⊢
               have f2 := Blk.free (hs1.row p hplt) a
               have x2 := (hs1.row p hplt).cell han
               rw [← HBP.out] at f2 x2
               clear hs1
               refine eagR_freeT rfl rfl (by kernel_rfl) ?_
               intro K hK
               go_simp
               refine hK _ _ ?_
               clear hK K f2 x2
               go_simp
               refine eagR_endT ?_
               have HR2 : Hid (RestS (inB' j g.bs) wr (w2'.setCell ⟨bp, a, none⟩ (.bool false))) := HR1.out.set (p := ⟨bp, a, none⟩) ⟨p, hplt, HBP.out⟩ _
               have HI7 := Lib.hid (HI.out.edges HR2.out HC2.out)
               have HR7 := Lib.hid (HR.out.trans HR2.out)
               clear HI HR HR1 HR2 HC2 HRS HD
               go_wp2_with fail
               go_roundw
               case rel => exact ⟨p + 1, by omega, by go_num, by rw [HN.out]; exact HI7.out, HR7.out⟩
               case measure => simp [intOf]; omega
              ·have HN : Hid (undoK (s.X a) a (p + 1) Y = undoK (s.X a) a p Y) := HUS.out.trans (if_neg (by rw [← hle, ← hv]; exact hno))
               clear hle hv HUS
               cases l with
               | false =>
                clear hno
                go_wp2_with fail
                go_roundw
                case rel => exact ⟨p + 1, by omega, by go_num, by rw [HN.out]; exact HI.out, HR.out⟩
                case measure => simp [intOf]; omega
               | true =>
                cases v with
                | false => exact absurd ⟨rfl, rfl⟩ hno
                | true =>
                 clear hno
                 go_wp2_with fail
                 go_roundw
                 case rel => exact ⟨p + 1, by omega, by go_num, by rw [HN.out]; exact HI.out, HR.out⟩
                 case measure => simp [intOf]; omega
             ·have ep : j = p := by omega
              subst ep
              have HI9 : Hid (CoI w wr B j g SL (.slice (some ⟨q, 0, none⟩) mvs.length mc) mvs cb s) := by
               have h1 := HI.out
               rw [HY.out] at h1
               exact ⟨h1.gr.congr (fun x hx y hy => undo_join HKV.out han hbn (fun e => HSK.out (.inl e)) hx hy) (fun _ _ => rfl) (fun _ _ => rfl), h1.mo, h1.cls, h1.lo, h1.rs⟩
              clear HI
              go_wp2_with fail
              go_roundw
              case rel => exact ⟨i + 1, s, by omega, by go_num, HE.out.symm.trans HSN.out, HI9.out⟩
              case measure => simp [intOf]; omega
           ·as_aux_lemma =>
            rw [show decide (s.many k j SL a b) = false from decide_eq_false hmny]
            have HE : Hid (stepK k j SL s ((p1 : Int), (p2 : Int)) = s.join j a b) := HST.out.trans ((if_neg HSK.out).trans (if_neg hmny))
            clear hmny hia
            go_wp2_with fail
            clear hib g0
            have HI8 : Hid (CoI w wc B j g SL (.slice (some ⟨q, 0, none⟩) mvs.length mc) mvs cb { s with X := dropK b 0 Y }) := HI6.out
            go_loopw [185] (fun u wx => ∃ p : Nat, p ≤ j ∧ u = .int .i64 (p : Int) ∧ CoI w wx B j g SL (.slice (some ⟨q, 0, none⟩) mvs.length mc) mvs cb { s with X := dropK b p Y } ∧ RestS (inB' j g.bs) w5 wx) (fun u _ => j - (intOf u).toNat)
            case atStart => exact ⟨0, Nat.zero_le _, rfl, HI8.out, HR.out⟩
            case round =>
             clear HI8 HI6 HR hp hplt
             obtain ⟨p, hp, rfl, hi, hr⟩ := hrel
             have HI := Lib.hid hi
             have HR := Lib.hid hr
             clear hi hr
             by_cases hplt : p < j
             ·have HN : Hid (dropK b (p + 1) Y = cutK (dropK b p Y) b p) := dropK_snoc b p Y
              obtain ⟨wd, hwd⟩ : ∃ wd, wd = wr.drew := ⟨_, rfl⟩
              have hde : Below wr.heap.size wr wd := by rw [hwd]; exact (Below.refl _ _).drew
              have HD := Lib.hid (HI.out.below hde)
              have HRS : Hid (RestS (inB' j g.bs) wr wd) := below_refl_of hde _
              have k0 := HD.out.gr.box.cell 0
              simp only [List.getElem?_cons_zero] at k0
              have ca := HD.out.gr.rowCell hbn
              have cp := HD.out.gr.rowCell hplt
              obtain ⟨bp, hbp⟩ : ∃ x, x = g.bs p := ⟨_, rfl⟩
              rw [← HGB.out, ← HG.out, ← HRC.out] at k0
              rw [← HG.out, ← HBB.out] at ca
              rw [← HG.out, ← hbp] at cp
              have r0 := fun z : AfterR (Keep2C gb G) wd => (World.cell?_of_block (a := ⟨gb, 0, none⟩) z.rel.1).trans k0
              have r1 := fun z : AfterR (Keep2C gb G) wd => (World.cell?_of_block (a := ⟨G, b, none⟩) z.rel.2).trans ca
              have r2 := fun z : AfterR (Keep2C gb G) wd => (World.cell?_of_block (a := ⟨G, p, none⟩) z.rel.2).trans cp
              have HBP := Lib.hid hbp
              clear k0 ca cp hbp hde
              go_upto_region 30 with fail
              refine wp_region_eagerRT (Keep2C gb G) [(0, true), (1, true), (2, true), (3, true), (4, true), (5, true), (6, true), (7, true), (8, true), (9, true), (10, true), (11, true), (12, true), (13, true), (14, true), (15, true), (16, true), (17, false), (18, true), (19, false)] (by kernel_rfl) (by kernel_rfl) ?_
              rw [← hwd]
              clear hwd
              repeat (refine eagR_readT rfl ?_; go_big_quiet_step (fail); refine wpQuiet_nil ?_)
              clear r0 r1 r2
              have f1 := Blk.free (HD.out.gr.row b hbn) p
              have x1 := (HD.out.gr.row b hbn).cell hplt
              rw [← HBB.out] at f1 x1
              refine eagR_freeT rfl rfl (by kernel_rfl) ?_
              intro K hK
              go_simp
              refine hK _ _ ?_
              clear hK K f1 x1
              go_simp
              repeat (refine eagR_readT rfl ?_; go_big_quiet_step (fail); refine wpQuiet_nil ?_)
              have hs1 := HD.out.gr.set hbn p false
              rw [← HBB.out] at hs1
              have HR1 : Hid (RestS (inB' j g.bs) wr (wd.setCell ⟨bb, p, none⟩ (.bool false))) := HRS.out.set (p := ⟨bb, p, none⟩) ⟨b, hbn, HBB.out⟩ _
              have hcut2 := HD.out.gr.cut hbn hplt
              rw [← HBB.out, ← HBP.out] at hcut2
              have HC2 := Lib.hid hcut2
              clear hcut2
              generalize wd.setCell ⟨bb, p, none⟩ (.bool false) = w2' at hs1 HR1 HC2 ⊢
              have f2 := Blk.free (hs1.row p hplt) b
              have x2 := (hs1.row p hplt).cell hbn
              rw [← HBP.out] at f2 x2
              clear hs1
              refine eagR_freeT rfl rfl (by kernel_rfl) ?_
              intro K hK
              go_simp
              refine hK _ _ ?_
              clear hK K f2 x2
              go_simp
              refine eagR_endT ?_
              have HR2 : Hid (RestS (inB' j g.bs) wr (w2'.setCell ⟨bp, b, none⟩ (.bool false))) := HR1.out.set (p := ⟨bp, b, none⟩) ⟨p, hplt, HBP.out⟩ _
              have HI7 := Lib.hid (HI.out.edges HR2.out HC2.out)
              have HR7 := Lib.hid (HR.out.trans HR2.out)
              clear HI HR HR1 HR2 HC2 HRS HD
              go_wp2_with fail
              go_roundw
              case rel => exact ⟨p + 1, by omega, by go_num, by rw [HN.out]; exact HI7.out, HR7.out⟩
              case measure => simp [intOf]; omega
             ·have ep : j = p := by omega
              subst ep
              have c0 := HI.out.cls.cell hbn
              have f0 := Blk.free HI.out.cls b
              have HC := Lib.hid (HI.out.setC b a)
              have hbC : ∀ {p : Nat} {t : TypeId} {cs : List Value}, Blk wr p t cs → t ≠ 3 → p ≠ cb := fun h1 h2 e => by
               subst e
               have h3 : wr.heap[_]? = _ := HI.out.cls
               have h4 : wr.heap[_]? = _ := h1
               rw [h4] at h3
               injection h3 with h3
               injection h3 with _ h3 _
               exact h2 h3
              have g2 := HC.out.gr.box.cell 2
              simp only [List.getElem?_cons_zero, List.getElem?_cons_succ] at g2
              have x1 := HC.out.gr.there.cell hbn
              have f1 := Blk.free HC.out.gr.there b
              have HF := Lib.hid (HC.out.setT b)
              obtain ⟨tb, htb⟩ : ∃ x, x = g.tb := ⟨_, rfl⟩
              rw [← HGB.out, ← htb] at g2
              rw [← htb] at x1 f1 HF
              clear HI hbC htb
              go_wp2_with fail
              go_roundw
              case rel => exact ⟨i + 1, s.join j a b, by omega, by go_num, HE.out.symm.trans HSN.out, by
               have h1 := HF.out
               rw [HY.out] at h1
               exact ⟨h1.gr, h1.mo, h1.cls, h1.lo, h1.rs⟩⟩
              case measure => simp [intOf]; omega
    ·have ei : i = mvs.length := by omega
     have HF : Hid (CoI w wr B j g SL (.slice ma mvs.length mc) mvs cb (coalK k j SL mvs (startK X TH))) := by
      have h1 := HI.out
      rw [HS.out, ei, List.take_length] at h1
      exact h1
     clear HI HS
     go_wp2_with fail
     go_ret
     exact ⟨cb, rfl, HF.out⟩
end Go.Proofs.YtdnpoomagjcpfaaGreat
