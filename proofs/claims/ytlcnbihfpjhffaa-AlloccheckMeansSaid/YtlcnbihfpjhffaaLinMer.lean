/- slices' symMerge of ranges. slices' symMerge of ranges: all lengths (printed by wip/lind3.py). slices' stable sort of ranges: the plain law of its blocks. slices' stable sort of ranges: the walk. -/
import Derived.Test.YtlcnbihfpjhffaaLinRow
namespace Go.Proofs.Ytlcnbihfpjhffaa
open Go.RowKit
set_option linter.unusedVariables false
set_option linter.unusedSimpArgs false

section
theorem merge_one {x : RG} {Y1 Y2 : List RG} (hs : (Y1 ++ Y2).Pairwise LexR) (h1 : ∀ y ∈ Y1, y.b < x.b) (h2 : ∀ y ∈ Y2, ¬ y.b < x.b) (hc : ∀ y ∈ Y1 ++ Y2, x.r < y.r) : (Y1 ++ x :: Y2).Pairwise LexR := by
 rw [List.pairwise_append] at hs ⊢
 obtain ⟨ha, hb, hd⟩ := hs
 refine ⟨ha, List.pairwise_cons.2 ⟨fun z hz => ?_, hb⟩, fun z hz y hy => ?_⟩
 ·have g1 := h2 z hz
  have g2 := hc z (List.mem_append_right _ hz)
  by_cases e : x.b = z.b
  ·exact .inr ⟨e, g2⟩
  ·exact .inl (by omega)
 ·rcases List.mem_cons.1 hy with rfl | hy
  ·exact .inl (h1 z hz)
  ·exact hd z hz y hy
theorem merge_last {y : RG} {X1 X2 : List RG} (hs : (X1 ++ X2).Pairwise LexR) (h1 : ∀ x ∈ X1, ¬ y.b < x.b) (h2 : ∀ x ∈ X2, y.b < x.b) (hc : ∀ x ∈ X1 ++ X2, x.r < y.r) : (X1 ++ y :: X2).Pairwise LexR := by
 rw [List.pairwise_append] at hs ⊢
 obtain ⟨ha, hb, hd⟩ := hs
 refine ⟨ha, List.pairwise_cons.2 ⟨fun z hz => .inl (h2 z hz), hb⟩, fun z hz x hx => ?_⟩
 rcases List.mem_cons.1 hx with rfl | hx
 ·have g1 := h1 z hz
  have g2 := hc z (List.mem_append_left _ hz)
  by_cases e : z.b = x.b
  ·exact .inr ⟨e, g2⟩
  ·exact .inl (by omega)
 ·exact hd z hz x hx
theorem LexR.le {x y : RG} (h : LexR x y) : x.b ≤ y.b := by rcases h with h | ⟨h, _⟩ <;> omega
theorem pw_le {X : List RG} (h : X.Pairwise LexR) {i j : Nat} (hij : i ≤ j) (hj : j < X.length) : (X[i]'(by omega)).b ≤ X[j].b := by
 rcases Nat.lt_or_ge i j with h1 | h1
 ·exact (List.pairwise_iff_getElem.1 h i j (by omega) hj h1).le
 ·obtain rfl : i = j := by omega
  exact Int.le_refl _
theorem rg_at {A X C : List RG} {q : Nat} (hq : q < X.length) : (A ++ X ++ C)[A.length + q]? = some X[q] := by
 rw [List.append_assoc, List.getElem?_append_right (by omega), Nat.add_sub_cancel_left, List.getElem?_append_left hq, List.getElem?_eq_getElem hq]
set_option maxRecDepth 100000 in
set_option maxHeartbeats 8000000 in
theorem symm_one (w : World) (base g c n a m b : Nat) (A Y C : List RG) (x : RG) (h : RgRow w base (some ⟨g, 0, none⟩) c (A ++ [x] ++ Y ++ C)) (hY : 0 < Y.length) (sY : Y.Pairwise LexR) (hc : ∀ y ∈ Y, x.r < y.r) (hn : n = (A ++ [x] ++ Y ++ C).length) (hn2 : n ≤ 10000) (ha : a = A.length) (hm : m = a + 1) (hb : b = m + Y.length) :
  Calls Try.prog 94 #[.slice (some ⟨g, 0, none⟩) n c, .int .i64 (a : Int), .int .i64 (m : Int), .int .i64 (b : Int), .func (.func 86) #[] #[]] w (SortPost base g c A ([x] ++ Y) C w) := by
 have hbn : b ≤ n := by rw [hn]; simp only [List.length_append, List.length_cons, List.length_nil]; omega
 have hcap : n ≤ c ∧ c ≤ maxLen := by
  obtain ⟨_, _, _, _, h3, h4⟩ := h.has (by simp only [List.length_append, List.length_cons, List.length_nil]; omega)
  exact ⟨by rw [hn]; exact h3, h4⟩
 have hc1 := hcap.1
 have hc2 := hcap.2
 unfold maxLen at hc2
 have hgl := (h.lt g rfl).2
 have ham : a ≤ m := by omega
 have H := Lib.hid h
 have HN := Lib.hid hn
 have HA := Lib.hid ha
 have HSY := Lib.hid sY
 have HCR := Lib.hid hc
 obtain ⟨ly, hly⟩ : ∃ l, l = Y.length := ⟨_, rfl⟩
 rw [← hly] at hb hY
 have HLY := Lib.hid hly
 have q1 : ((m : Int) - (a : Int) == 1) = true := by simp; omega
 have HMA := Lib.hid hm
 have HBM := Lib.hid hb
 have hmb : m ≤ b := by omega
 have hmn : m ≤ n := by omega
 clear h hn ha sY hc hly hm hb hcap
 go_enter Try.func94, Try.ntmps94
 go_wp2_with fail
 go_loopw [10, 11] (fun u10 u11 wr => ∃ i j : Nat, u10 = .int .i64 (i : Int) ∧ u11 = .int .i64 (j : Int) ∧ m ≤ i ∧ i ≤ j ∧ j ≤ b ∧ (∀ q (hq : q < Y.length), q < i - m → Y[q].b < x.b) ∧ (∀ q (hq : q < Y.length), j - m ≤ q → ¬ Y[q].b < x.b) ∧ Below w.heap.size w wr) (fun u v _ => (intOf v).toNat - (intOf u).toNat)
 case atStart => exact ⟨m, b, rfl, rfl, Nat.le_refl _, hmb, Nat.le_refl _, fun q hq h => by omega, fun q hq h => by have := HLY.out; have := HBM.out; omega, Below.refl _ _⟩
 case round =>
  obtain ⟨i, j, rfl, rfl, hi, hij, hjb, h1, h2, hbw⟩ := hrel
  have HB := Lib.hid hbw
  have H1 := Lib.hid h1
  have H2 := Lib.hid h2
  clear h1 h2 hbw
  by_cases hlt : i < j
  ·obtain ⟨h, hh⟩ : ∃ h, h = (i + j) / 2 := ⟨_, rfl⟩
   have hh1 : i ≤ h ∧ h < j := by omega
   have HHH := Lib.hid hh
   clear hh
   go_upto_region 5 with fail
   have hh := HHH.out
   have ehI : ((i : Int) + (j : Int)) / 2 = (h : Int) := by omega
   rw [ehI]
   have hq : h - m < Y.length := by have := HLY.out; have := HBM.out; omega
   obtain ⟨y, hy⟩ : ∃ y, y = Y[h - m] := ⟨_, rfl⟩
   obtain ⟨ys, hys⟩ : ∃ ys, ys = A ++ [x] ++ Y ++ C := ⟨_, rfl⟩
   have hyl : ys.length = n := by rw [hys]; exact HN.out.symm
   have hpu : h < ys.length := by omega
   have hpv : a < ys.length := by omega
   have eu : ys[h] = y := by
    have h9 : ys[h]? = some y := by
     rw [hys, hy]
     have := rg_at (A := A ++ [x]) (C := C) hq
     rw [show (A ++ [x]).length + (h - m) = h by have := HA.out; have := HMA.out; simp; omega] at this
     exact this
    rw [List.getElem?_eq_getElem hpu] at h9
    injection h9
   have ev : ys[a] = x := by
    have h9 : ys[a]? = some x := by
     rw [hys, HA.out]
     simp
    rw [List.getElem?_eq_getElem hpv] at h9
    injection h9
   have HRW : Hid (RgRow wr base (some ⟨g, 0, none⟩) c ys) := by rw [hys]; exact H.out.below HB.out
   have hhn : (h : Int) < (n : Int) := by omega
   have han : (a : Int) < (n : Int) := by omega
   have HYY := Lib.hid hy
   have HH := Lib.hid hh1
   clear hh ehI hy hys hyl
   obtain ⟨c0, c1, c2, c3⟩ := HRW.out.cells hpu
   obtain ⟨d0, d1, d2, d3⟩ := HRW.out.cells hpv
   rw [eu] at c0 c1 c2 c3
   rw [ev] at d0 d1 d2 d3
   have hgw := (HRW.out.lt g rfl).2
   have HLS := Lib.hid fun wx => less_any wx y x
   unfold rgV at HLS
   obtain ⟨z, hz⟩ : ∃ z, z = cmpI y.b x.b := ⟨_, rfl⟩
   rw [← hz] at HLS
   have hz2 : (y.b < x.b ∧ z = -1) ∨ (¬ y.b < x.b ∧ ¬ z < 0) := by
    rw [hz]; unfold cmpI
    by_cases h1 : y.b < x.b
    ·left; exact ⟨h1, if_pos h1⟩
    ·right; refine ⟨h1, ?_⟩
     rw [if_neg h1]; split <;> omega
   obtain ⟨wd, hwd⟩ : ∃ wd, wd = wr.drew := ⟨_, rfl⟩
   have hde : Below wr.heap.size wr wd := by rw [hwd]; exact (Below.refl _ _).drew
   have cc : ∀ o v, wr.cell? ⟨g, o, none⟩ = some v → ∀ x : After wd.heap.size wd, x.world.cell? ⟨g, o, none⟩ = some v := fun o v h x => (x.below.cell (p := ⟨g, o, none⟩) (Nat.lt_of_lt_of_le hgw hde.size)).trans ((hde.cell (p := ⟨g, o, none⟩) hgw).trans h)
   have r0 := cc _ _ c0
   have r1 := cc _ _ c1
   have r2 := cc _ _ c2
   have r3 := cc _ _ c3
   have s0 := cc _ _ d0
   have s1 := cc _ _ d1
   have s2 := cc _ _ d2
   have s3 := cc _ _ d3
   have HBD := Lib.hid (HB.out.trans (hde.mono HB.out.size))
   clear hz cc c0 c1 c2 c3 d0 d1 d2 d3 hde eu ev HRW
   refine wp_region_eager wd.heap.size [(0, true), (1, true), (2, true), (3, true), (4, true), (5, true), (6, true), (7, true), (8, true), (9, false), (10, true)] (by kernel_rfl) (by kernel_rfl) ?_
   rw [← hwd]
   clear hwd
   repeat (refine eag_read rfl ?_; go_big_quiet_step (fail); refine wpQuiet_nil ?_)
   refine eag_does rfl rfl ?_
   intro K hK
   go_simp
   refine (HLS.out wd).mono ?_
   rintro e w7 ⟨rfl, hb7⟩
   refine hK _ _ hb7 ?_
   have HB7 := Lib.hid (HBD.out.trans (hb7.mono HBD.out.size))
   clear hK K HLS HBD hb7 r0 r1 r2 r3 s0 s1 s2 s3
   go_simp
   rcases hz2 with ⟨hyx, rfl⟩ | ⟨hyx, hz3⟩
   ·have HN1 : Hid (∀ q (hq : q < Y.length), q < h + 1 - m → Y[q].b < x.b) := fun q hq2 h3 => by
     have := pw_le HSY.out (i := q) (j := h - m) (by omega) hq
     rw [← HYY.out] at this
     omega
    repeat (refine eag_read rfl ?_; go_big_quiet_step (fail); refine wpQuiet_nil ?_)
    refine eag_end ?_
    clear hyx
    go_wp2_with fail
    go_roundw
    case rel => exact ⟨h + 1, j, by go_num, rfl, by omega, by omega, hjb, HN1.out, H2.out, HB7.out⟩
    case measure => simp [intOf]; omega
   ·have HN2 : Hid (∀ q (hq : q < Y.length), h - m ≤ q → ¬ Y[q].b < x.b) := fun q hq2 h3 => by
     have := pw_le HSY.out (i := h - m) (j := q) (by omega) hq2
     rw [← HYY.out] at this
     omega
    have hz4 : decide (z < 0) = false := by simp; omega
    repeat (refine eag_read rfl ?_; go_big_quiet_step (fail); refine wpQuiet_nil ?_)
    refine eag_end ?_
    clear hyx hz3 hz4
    go_wp2_with fail
    go_roundw
    case rel => exact ⟨i, h, rfl, rfl, hi, by omega, by omega, H1.out, HN2.out, HB7.out⟩
    case measure => simp [intOf]; omega
  ·have eij : j = i := by omega
   subst eij
   obtain ⟨t, ht⟩ : ∃ t, t = j - m := ⟨_, rfl⟩
   obtain ⟨Y1, hY1⟩ : ∃ Z, Z = Y.take t := ⟨_, rfl⟩
   obtain ⟨Y2, hY2⟩ : ∃ Z, Z = Y.drop t := ⟨_, rfl⟩
   have hYY : Y1 ++ Y2 = Y := by rw [hY1, hY2]; exact List.take_append_drop _ _
   have hl1 : Y1.length = t := by rw [hY1, List.length_take]; have := HLY.out; have := HBM.out; omega
   have hfin : (Y1 ++ x :: Y2).Pairwise LexR := merge_one (by rw [hYY]; exact HSY.out) (fun y hy => by
     obtain ⟨q, hq, rfl⟩ := List.getElem_of_mem hy
     have := H1.out q (by have := congrArg List.length hYY; rw [List.length_append] at this; omega) (by omega)
     simp only [hY1, List.getElem_take]
     exact this) (fun y hy => by
     obtain ⟨q, hq, rfl⟩ := List.getElem_of_mem hy
     have hq2 : t + q < Y.length := by have := congrArg List.length hYY; rw [List.length_append] at this; omega
     have := H2.out (t + q) hq2 (by omega)
     simp only [hY2, List.getElem_drop]
     exact this) (fun y hy => HCR.out y (by rw [← hYY]; exact hy))
   have hperm : (Y1 ++ x :: Y2).Perm ([x] ++ Y) := by
    rw [← hYY]
    exact List.perm_middle
   have HFIN := Lib.hid (And.intro hperm hfin)
   have HYY := Lib.hid hYY
   have HL1 := Lib.hid hl1
   have HT := Lib.hid ht
   have hr0 : RgRow wr base (some ⟨g, 0, none⟩) c ((A ++ Y1.take 0) ++ x :: (Y1.drop 0 ++ (Y2 ++ C))) := by
    have := H.out.below HB.out
    rw [← hYY] at this
    simpa using this
   have HR0 := Lib.hid hr0
   have HRS0 := Lib.hid (below_refl_of HB.out (fun k => k = g))
   have eat : (j : Int) - 1 = ((a + t : Nat) : Int) := by have := HMA.out; omega
   obtain ⟨st, hst⟩ : ∃ st, st = a + t := ⟨_, rfl⟩
   rw [← hst] at eat
   have HST := Lib.hid hst
   have hsn : st < n := by have := HMA.out; omega
   clear H1 H2 H hfin hperm hYY hl1 ht hr0 hlt hY1 hY2 hst
   go_wp2_with fail
   go_loopw [13] (fun u wx => ∃ (k s : Nat), u = .int .i64 (k : Int) ∧ k = a + s ∧ s ≤ t ∧ RgRow wx base (some ⟨g, 0, none⟩) c ((A ++ Y1.take s) ++ x :: (Y1.drop s ++ (Y2 ++ C))) ∧ RestS (fun k => k = g) w wx) (fun u _ => st - (intOf u).toNat)
   case atStart => exact ⟨a, 0, rfl, rfl, Nat.zero_le _, HR0.out, HRS0.out⟩
   case round =>
    clear HR0 HRS0 HB
    obtain ⟨k, s, rfl, hk, hs, hr, hrs⟩ := hrel
    have HR := Lib.hid hr
    have HRS := Lib.hid hrs
    have HK := Lib.hid hk
    by_cases hlt : k < st
    ·have hst : s < t := by have := HST.out; omega
     have hs1 : s < Y1.length := by rw [HL1.out]; exact hst
     obtain ⟨y, hy⟩ : ∃ y, y = Y1[s] := ⟨_, rfl⟩
     obtain ⟨P, hP⟩ : ∃ P, P = A ++ Y1.take s := ⟨_, rfl⟩
     obtain ⟨D, hD⟩ : ∃ D, D = Y1.drop (s + 1) ++ (Y2 ++ C) := ⟨_, rfl⟩
     have hPl : P.length = k := by rw [hP, List.length_append, List.length_take]; have := HA.out; omega
     have er : (A ++ Y1.take s) ++ x :: (Y1.drop s ++ (Y2 ++ C)) = P ++ x :: ([] ++ y :: D) := by rw [List.drop_eq_getElem_cons hs1, ← hy, ← hP, hD]; simp only [List.nil_append, List.cons_append]
     have er2 : (A ++ Y1.take (s + 1)) ++ x :: (Y1.drop (s + 1) ++ (Y2 ++ C)) = P ++ y :: ([] ++ x :: D) := by rw [List.take_succ_eq_append_getElem hs1, ← hy, hP, hD]; simp only [List.nil_append, List.append_assoc, List.cons_append]
     have hg2 := get2_list P [] D x y
     have hs2 := swap2_list P [] D x y
     rw [hPl, List.length_nil, Nat.add_zero] at hg2 hs2
     obtain ⟨ys, hys⟩ : ∃ ys, ys = P ++ x :: ([] ++ y :: D) := ⟨_, rfl⟩
     rw [er, ← hys] at hr
     rw [← hys] at hg2 hs2
     have hyl : ys.length = n := by
      have h9 := congrArg List.length er
      have h8 := HN.out
      have h7 := congrArg List.length HYY.out
      rw [hys, ← h9, h8]
      simp only [List.length_append, List.length_cons, List.length_take, List.length_drop, List.length_nil] at h7 ⊢
      omega
     obtain ⟨k1, hk1⟩ : ∃ k1, k1 = k + 1 := ⟨_, rfl⟩
     have hi1 : k < ys.length := by omega
     have hi2 : k1 < ys.length := by omega
     rw [← hk1] at hg2 hs2
     have e1 : ys[k] = x := by have := hg2.1; rw [List.getElem?_eq_getElem hi1] at this; injection this
     have e2 : ys[k1] = y := by have := hg2.2; rw [List.getElem?_eq_getElem hi2] at this; injection this
     obtain ⟨c0, c1, c2, c3⟩ := hr.cells hi1
     obtain ⟨d0, d1, d2, d3⟩ := hr.cells hi2
     rw [e1] at c0 c1 c2 c3
     rw [e2] at d0 d1 d2 d3
     have f0 := hr.frees hi1 0 (by omega)
     have f1 := hr.frees hi1 1 (by omega)
     have f2 := hr.frees hi1 2 (by omega)
     have f3 := hr.frees hi1 3 (by omega)
     have g0 := hr.frees hi2 0 (by omega)
     have g1 := hr.frees hi2 1 (by omega)
     have g2 := hr.frees hi2 2 (by omega)
     have g3 := hr.frees hi2 3 (by omega)
     rw [Nat.add_zero] at f0 g0
     have hput := (hr.put hi1 y).put (i := k1) (by rw [List.length_set]; exact hi2) x
     rw [hs2, ← er2] at hput
     have hrst := ((((((((HRS.out.set (p := ⟨g, k * 4, none⟩) rfl (.int .i64 y.r)).set (p := ⟨g, k * 4 + 1, none⟩) rfl (.int .i64 y.b)).set (p := ⟨g, k * 4 + 2, none⟩) rfl (.int .i64 y.e)).set (p := ⟨g, k * 4 + 3, none⟩) rfl (.bool y.s)).set (p := ⟨g, k1 * 4, none⟩) rfl (.int .i64 x.r)).set (p := ⟨g, k1 * 4 + 1, none⟩) rfl (.int .i64 x.b)).set (p := ⟨g, k1 * 4 + 2, none⟩) rfl (.int .i64 x.e)).set (p := ⟨g, k1 * 4 + 3, none⟩) rfl (.bool x.s))
     have hdr := fun wq : World => (Below.refl wq.heap.size wq).drew
     have HPUT := Lib.hid (hput.below (hdr _))
     have HRST := Lib.hid (hrst.trans (below_refl_of (hdr _) (fun k => k = g)))
     have ek1 : (k : Int) + 1 = (k1 : Int) := by omega
     have hkn : (k : Int) < (n : Int) := by omega
     have hk1n : (k1 : Int) < (n : Int) := by omega
     have HK1 : Hid (k1 = a + (s + 1)) := by show _ = _; have := HK.out; omega
     have hk1s : k1 ≤ st := by omega
     clear hr hrs hy hP hD hPl er er2 hg2 hs2 hys hyl hk1 hk e1 e2 hput hrst hdr HR HRS hi1 hi2 hs1
     go_upto_region 11 with fail
     go_region
     all_goals go_wp2_with fail
     go_roundw
     case rel => exact ⟨k1, s + 1, rfl, HK1.out, by omega, HPUT.out, HRST.out⟩
     case measure => simp [intOf]; omega
    ·have est : s = t := by have := HST.out; omega
     have hr8 := HR.out
     rw [est, List.take_of_length_le (by rw [HL1.out]; exact Nat.le_refl _), List.drop_of_length_le (by rw [HL1.out]; exact Nat.le_refl _), List.nil_append] at hr8
     have HR8 : Hid (RgRow wr base (some ⟨g, 0, none⟩) c (A ++ (Y1 ++ x :: Y2) ++ C)) := by
      show RgRow _ _ _ _ _
      simpa using hr8
     clear hr hrs hr8 est hk
     go_wp2_with fail
     exact bodyPost_ret (v := .tuple #[]) (by simp [results, Try.results94, go_sem]) rfl ⟨_, rfl, HFIN.out.1, HFIN.out.2, HR8.out, HRS.out⟩
set_option maxRecDepth 100000 in
set_option maxHeartbeats 8000000 in
theorem symm_last (w : World) (base g c n a m b : Nat) (A X C : List RG) (y : RG) (h : RgRow w base (some ⟨g, 0, none⟩) c (A ++ X ++ [y] ++ C)) (hX : 2 ≤ X.length) (sX : X.Pairwise LexR) (hc : ∀ x ∈ X, x.r < y.r) (hn : n = (A ++ X ++ [y] ++ C).length) (hn2 : n ≤ 10000) (ha : a = A.length) (hm : m = a + X.length) (hb : b = m + 1) :
  Calls Try.prog 94 #[.slice (some ⟨g, 0, none⟩) n c, .int .i64 (a : Int), .int .i64 (m : Int), .int .i64 (b : Int), .func (.func 86) #[] #[]] w (SortPost base g c A (X ++ [y]) C w) := by
 have hbn : b ≤ n := by rw [hn]; simp only [List.length_append, List.length_cons, List.length_nil]; omega
 have hcap : n ≤ c ∧ c ≤ maxLen := by
  obtain ⟨_, _, _, _, h3, h4⟩ := h.has (by simp only [List.length_append, List.length_cons, List.length_nil]; omega)
  exact ⟨by rw [hn]; exact h3, h4⟩
 have hc1 := hcap.1
 have hc2 := hcap.2
 unfold maxLen at hc2
 have hgl := (h.lt g rfl).2
 have ham : a ≤ m := by omega
 have H := Lib.hid h
 have HN := Lib.hid hn
 have HA := Lib.hid ha
 have HSX := Lib.hid sX
 have HCR := Lib.hid hc
 obtain ⟨lx, hlx⟩ : ∃ l, l = X.length := ⟨_, rfl⟩
 rw [← hlx] at hm hX
 have HLX := Lib.hid hlx
 have q1 : ((m : Int) - (a : Int) == 1) = false := by simp; omega
 have q2 : ((b : Int) - (m : Int) == 1) = true := by simp; omega
 have HMA := Lib.hid hm
 have HBM := Lib.hid hb
 have hmb : m ≤ b := by omega
 have hmn : m < n := by omega
 clear h hn ha sX hc hlx hm hb hcap
 go_enter Try.func94, Try.ntmps94
 go_wp2_with fail
 go_loopw [14, 15] (fun u10 u11 wr => ∃ i j : Nat, u10 = .int .i64 (i : Int) ∧ u11 = .int .i64 (j : Int) ∧ a ≤ i ∧ i ≤ j ∧ j ≤ m ∧ (∀ q (hq : q < X.length), q < i - a → ¬ y.b < X[q].b) ∧ (∀ q (hq : q < X.length), j - a ≤ q → y.b < X[q].b) ∧ Below w.heap.size w wr) (fun u v _ => (intOf v).toNat - (intOf u).toNat)
 case atStart => exact ⟨a, m, rfl, rfl, Nat.le_refl _, ham, Nat.le_refl _, fun q hq h => by omega, fun q hq h => by have := HLX.out; have := HMA.out; omega, Below.refl _ _⟩
 case round =>
  obtain ⟨i, j, rfl, rfl, hi, hij, hjb, h1, h2, hbw⟩ := hrel
  have HB := Lib.hid hbw
  have H1 := Lib.hid h1
  have H2 := Lib.hid h2
  clear h1 h2 hbw
  by_cases hlt : i < j
  ·obtain ⟨h, hh⟩ : ∃ h, h = (i + j) / 2 := ⟨_, rfl⟩
   have hh1 : i ≤ h ∧ h < j := by omega
   have HHH := Lib.hid hh
   clear hh
   go_upto_region 17 with fail
   have hh := HHH.out
   have ehI : ((i : Int) + (j : Int)) / 2 = (h : Int) := by omega
   rw [ehI]
   have hq : h - a < X.length := by have := HLX.out; have := HMA.out; omega
   obtain ⟨x, hx⟩ : ∃ x, x = X[h - a] := ⟨_, rfl⟩
   obtain ⟨ys, hys⟩ : ∃ ys, ys = A ++ X ++ [y] ++ C := ⟨_, rfl⟩
   have hyl : ys.length = n := by rw [hys]; exact HN.out.symm
   have hpu : m < ys.length := by omega
   have hpv : h < ys.length := by omega
   have eu : ys[m] = y := by
    have h9 : ys[m]? = some y := by
     rw [hys]
     have := rg_at (A := A ++ X) (X := [y]) (C := C) (q := 0) (by simp)
     rw [show (A ++ X).length + 0 = m by have := HA.out; have := HMA.out; have := HLX.out; simp; omega] at this
     exact this
    rw [List.getElem?_eq_getElem hpu] at h9
    injection h9
   have ev : ys[h] = x := by
    have h9 : ys[h]? = some x := by
     rw [hys, hx]
     have := rg_at (A := A) (C := [y] ++ C) hq
     rw [show A.length + (h - a) = h by have := HA.out; omega] at this
     simpa using this
    rw [List.getElem?_eq_getElem hpv] at h9
    injection h9
   have HRW : Hid (RgRow wr base (some ⟨g, 0, none⟩) c ys) := by rw [hys]; exact H.out.below HB.out
   have hhn : (h : Int) < (n : Int) := by omega
   have hmnI : (m : Int) < (n : Int) := by omega
   have HXX := Lib.hid hx
   have HH := Lib.hid hh1
   clear hh ehI hx hys hyl
   obtain ⟨c0, c1, c2, c3⟩ := HRW.out.cells hpu
   obtain ⟨d0, d1, d2, d3⟩ := HRW.out.cells hpv
   rw [eu] at c0 c1 c2 c3
   rw [ev] at d0 d1 d2 d3
   have hgw := (HRW.out.lt g rfl).2
   have HLS := Lib.hid fun wx => less_any wx y x
   unfold rgV at HLS
   obtain ⟨z, hz⟩ : ∃ z, z = cmpI y.b x.b := ⟨_, rfl⟩
   rw [← hz] at HLS
   have hz2 : (y.b < x.b ∧ z = -1) ∨ (¬ y.b < x.b ∧ ¬ z < 0) := by
    rw [hz]; unfold cmpI
    by_cases h1 : y.b < x.b
    ·left; exact ⟨h1, if_pos h1⟩
    ·right; refine ⟨h1, ?_⟩
     rw [if_neg h1]; split <;> omega
   obtain ⟨wd, hwd⟩ : ∃ wd, wd = wr.drew := ⟨_, rfl⟩
   have hde : Below wr.heap.size wr wd := by rw [hwd]; exact (Below.refl _ _).drew
   have cc : ∀ o v, wr.cell? ⟨g, o, none⟩ = some v → ∀ x : After wd.heap.size wd, x.world.cell? ⟨g, o, none⟩ = some v := fun o v h x => (x.below.cell (p := ⟨g, o, none⟩) (Nat.lt_of_lt_of_le hgw hde.size)).trans ((hde.cell (p := ⟨g, o, none⟩) hgw).trans h)
   have r0 := cc _ _ c0
   have r1 := cc _ _ c1
   have r2 := cc _ _ c2
   have r3 := cc _ _ c3
   have s0 := cc _ _ d0
   have s1 := cc _ _ d1
   have s2 := cc _ _ d2
   have s3 := cc _ _ d3
   have HBD := Lib.hid (HB.out.trans (hde.mono HB.out.size))
   clear hz cc c0 c1 c2 c3 d0 d1 d2 d3 hde eu ev HRW
   refine wp_region_eager wd.heap.size [(0, true), (1, true), (2, true), (3, true), (4, true), (5, true), (6, true), (7, true), (8, true), (9, false), (10, true), (11, true)] (by kernel_rfl) (by kernel_rfl) ?_
   rw [← hwd]
   clear hwd
   repeat (refine eag_read rfl ?_; go_big_quiet_step (fail); refine wpQuiet_nil ?_)
   refine eag_does rfl rfl ?_
   intro K hK
   go_simp
   refine (HLS.out wd).mono ?_
   rintro e w7 ⟨rfl, hb7⟩
   refine hK _ _ hb7 ?_
   have HB7 := Lib.hid (HBD.out.trans (hb7.mono HBD.out.size))
   clear hK K HLS HBD hb7 r0 r1 r2 r3 s0 s1 s2 s3
   go_simp
   rcases hz2 with ⟨hyx, rfl⟩ | ⟨hyx, hz3⟩
   ·have HN2 : Hid (∀ q (hq : q < X.length), h - a ≤ q → y.b < X[q].b) := fun q hq2 h3 => by
     have := pw_le HSX.out (i := h - a) (j := q) (by omega) hq2
     rw [← HXX.out] at this
     omega
    repeat (refine eag_read rfl ?_; go_big_quiet_step (fail); refine wpQuiet_nil ?_)
    refine eag_end ?_
    clear hyx
    go_wp2_with fail
    go_roundw
    case rel => exact ⟨i, h, rfl, rfl, hi, by omega, by omega, H1.out, HN2.out, HB7.out⟩
    case measure => simp [intOf]; omega
   ·have HN1 : Hid (∀ q (hq : q < X.length), q < h + 1 - a → ¬ y.b < X[q].b) := fun q hq2 h3 => by
     have := pw_le HSX.out (i := q) (j := h - a) (by omega) hq
     rw [← HXX.out] at this
     omega
    have hz4 : decide (z < 0) = false := by simp; omega
    repeat (refine eag_read rfl ?_; go_big_quiet_step (fail); refine wpQuiet_nil ?_)
    refine eag_end ?_
    clear hyx hz3 hz4
    go_wp2_with fail
    go_roundw
    case rel => exact ⟨h + 1, j, by go_num, rfl, by omega, by omega, hjb, HN1.out, H2.out, HB7.out⟩
    case measure => simp [intOf]; omega
  ·have eij : j = i := by omega
   subst eij
   obtain ⟨t, ht⟩ : ∃ t, t = j - a := ⟨_, rfl⟩
   obtain ⟨X1, hX1⟩ : ∃ Z, Z = X.take t := ⟨_, rfl⟩
   obtain ⟨X2, hX2⟩ : ∃ Z, Z = X.drop t := ⟨_, rfl⟩
   have hXX : X1 ++ X2 = X := by rw [hX1, hX2]; exact List.take_append_drop _ _
   have hl1 : X1.length = t := by rw [hX1, List.length_take]; have := HLX.out; have := HMA.out; omega
   have hl2 : X2.length + j = m := by have := congrArg List.length hXX; rw [List.length_append] at this; have := HLX.out; have := HMA.out; omega
   have hfin : (X1 ++ y :: X2).Pairwise LexR := merge_last (by rw [hXX]; exact HSX.out) (fun x hx => by
     obtain ⟨q, hq, rfl⟩ := List.getElem_of_mem hx
     have := H1.out q (by have := congrArg List.length hXX; rw [List.length_append] at this; omega) (by omega)
     simp only [hX1, List.getElem_take]
     exact this) (fun x hx => by
     obtain ⟨q, hq, rfl⟩ := List.getElem_of_mem hx
     have hq2 : t + q < X.length := by have := congrArg List.length hXX; rw [List.length_append] at this; omega
     have := H2.out (t + q) hq2 (by omega)
     simp only [hX2, List.getElem_drop]
     exact this) (fun x hx => HCR.out x (by rw [← hXX]; exact hx))
   have hperm : (X1 ++ y :: X2).Perm (X ++ [y]) := by
    rw [← hXX]
    refine List.perm_middle.trans ?_
    exact List.perm_append_comm (l₁ := [y])
   have HFIN := Lib.hid (And.intro hperm hfin)
   have HXX := Lib.hid hXX
   have HL1 := Lib.hid hl1
   have HL2 := Lib.hid hl2
   have HT := Lib.hid ht
   have hr0 : RgRow wr base (some ⟨g, 0, none⟩) c ((A ++ X1 ++ X2.take X2.length) ++ y :: (X2.drop X2.length ++ C)) := by
    have := H.out.below HB.out
    rw [← hXX] at this
    simpa using this
   have HR0 := Lib.hid hr0
   have HRS0 := Lib.hid (below_refl_of HB.out (fun k => k = g))
   clear H1 H2 H hfin hperm hXX hl1 hl2 ht hr0 hlt hX1 hX2
   go_wp2_with fail
   go_loopw [17] (fun u wx => ∃ (k r : Nat), u = .int .i64 (k : Int) ∧ k = j + r ∧ r ≤ X2.length ∧ RgRow wx base (some ⟨g, 0, none⟩) c ((A ++ X1 ++ X2.take r) ++ y :: (X2.drop r ++ C)) ∧ RestS (fun k => k = g) w wx) (fun u _ => (intOf u).toNat)
   case atStart => exact ⟨m, X2.length, rfl, by have := HL2.out; omega, Nat.le_refl _, HR0.out, HRS0.out⟩
   case round =>
    clear HR0 HRS0 HB
    obtain ⟨k, r, rfl, hk, hs, hr, hrs⟩ := hrel
    have HR := Lib.hid hr
    have HRS := Lib.hid hrs
    have HK := Lib.hid hk
    have hkm : k ≤ m := by have := HL2.out; omega
    by_cases hlt : j < k
    ·obtain ⟨q, hq⟩ : ∃ q, r = q + 1 := ⟨r - 1, by omega⟩
     subst hq
     have hs1 : q < X2.length := by omega
     obtain ⟨u, hu⟩ : ∃ u, u = X2[q] := ⟨_, rfl⟩
     obtain ⟨P, hP⟩ : ∃ P, P = A ++ X1 ++ X2.take q := ⟨_, rfl⟩
     obtain ⟨D, hD⟩ : ∃ D, D = X2.drop (q + 1) ++ C := ⟨_, rfl⟩
     obtain ⟨k1, hk1⟩ : ∃ k1, k = k1 + 1 := ⟨k - 1, by omega⟩
     have hPl : P.length = k1 := by rw [hP, List.length_append, List.length_append, List.length_take]; have := HA.out; have := HL1.out; have := HT.out; omega
     have er : (A ++ X1 ++ X2.take (q + 1)) ++ y :: (X2.drop (q + 1) ++ C) = P ++ u :: y :: D := by rw [List.take_succ_eq_append_getElem hs1, ← hu, hP, hD]; simp only [List.nil_append, List.append_assoc, List.cons_append]
     have er2 : (A ++ X1 ++ X2.take q) ++ y :: (X2.drop q ++ C) = P ++ y :: u :: D := by rw [List.drop_eq_getElem_cons hs1, ← hu, ← hP, hD]; simp only [List.cons_append]
     have hg2 := get2_list P [] D u y
     have hs2 := swap_list P D u y
     rw [hPl, List.length_nil, Nat.add_zero, List.nil_append, ← hk1] at hg2
     rw [hPl, ← hk1] at hs2
     obtain ⟨ys, hys⟩ : ∃ ys, ys = P ++ u :: y :: D := ⟨_, rfl⟩
     rw [er, ← hys] at hr
     rw [← hys] at hg2 hs2
     have hyl : ys.length = n := by
      have h9 := congrArg List.length er
      have h8 := HN.out
      have h7 := congrArg List.length HXX.out
      rw [hys, ← h9, h8]
      simp only [List.length_append, List.length_cons, List.length_take, List.length_drop, List.length_nil] at h7 ⊢
      omega
     have hi1 : k < ys.length := by omega
     have hi2 : k1 < ys.length := by omega
     have e1 : ys[k] = y := by have := hg2.2; rw [List.getElem?_eq_getElem hi1] at this; injection this
     have e2 : ys[k1] = u := by have := hg2.1; rw [List.getElem?_eq_getElem hi2] at this; injection this
     obtain ⟨c0, c1, c2, c3⟩ := hr.cells hi1
     obtain ⟨d0, d1, d2, d3⟩ := hr.cells hi2
     rw [e1] at c0 c1 c2 c3
     rw [e2] at d0 d1 d2 d3
     have f0 := hr.frees hi1 0 (by omega)
     have f1 := hr.frees hi1 1 (by omega)
     have f2 := hr.frees hi1 2 (by omega)
     have f3 := hr.frees hi1 3 (by omega)
     have g0 := hr.frees hi2 0 (by omega)
     have g1 := hr.frees hi2 1 (by omega)
     have g2 := hr.frees hi2 2 (by omega)
     have g3 := hr.frees hi2 3 (by omega)
     rw [Nat.add_zero] at f0 g0
     have hput := (hr.put hi1 u).put (i := k1) (by rw [List.length_set]; exact hi2) y
     rw [hs2, ← er2] at hput
     have hrst := ((((((((HRS.out.set (p := ⟨g, k * 4, none⟩) rfl (.int .i64 u.r)).set (p := ⟨g, k * 4 + 1, none⟩) rfl (.int .i64 u.b)).set (p := ⟨g, k * 4 + 2, none⟩) rfl (.int .i64 u.e)).set (p := ⟨g, k * 4 + 3, none⟩) rfl (.bool u.s)).set (p := ⟨g, k1 * 4, none⟩) rfl (.int .i64 y.r)).set (p := ⟨g, k1 * 4 + 1, none⟩) rfl (.int .i64 y.b)).set (p := ⟨g, k1 * 4 + 2, none⟩) rfl (.int .i64 y.e)).set (p := ⟨g, k1 * 4 + 3, none⟩) rfl (.bool y.s))
     have hdr := fun wq : World => (Below.refl wq.heap.size wq).drew
     have HPUT := Lib.hid (hput.below (hdr _))
     have HRST := Lib.hid (hrst.trans (below_refl_of (hdr _) (fun k => k = g)))
     have ek1 : (k : Int) - 1 = (k1 : Int) := by omega
     have hkn : (k : Int) < (n : Int) := by omega
     have hk1n : (k1 : Int) < (n : Int) := by omega
     have HK1 : Hid (k1 = j + q) := by show _ = _; have := HK.out; omega
     have HKK : Hid (k1 < k) := by show _ < _; omega
     clear hr hrs hu hP hD hPl er er2 hg2 hs2 hys hyl hk1 hk e1 e2 hput hrst hdr HR HRS hi1 hi2 hs1
     go_upto_region 23 with fail
     go_region
     all_goals go_wp2_with fail
     go_roundw
     case rel => exact ⟨k1, q, rfl, HK1.out, by omega, HPUT.out, HRST.out⟩
     case measure => simp [intOf]; exact HKK.out
    ·have est : r = 0 := by have := HK.out; omega
     have hr8 := HR.out
     rw [est, List.take_zero, List.drop_zero, List.append_nil] at hr8
     have HR8 : Hid (RgRow wr base (some ⟨g, 0, none⟩) c (A ++ (X1 ++ y :: X2) ++ C)) := by
      show RgRow _ _ _ _ _
      simpa using hr8
     clear hr hrs hr8 est hk
     go_wp2_with fail
     exact bodyPost_ret (v := .tuple #[]) (by simp [results, Try.results94, go_sem]) rfl ⟨_, rfl, HFIN.out.1, HFIN.out.2, HR8.out, HRS.out⟩
end

section
theorem split_le {X : List RG} (h : X.Pairwise LexR) (t : Nat) : ∀ x ∈ X.take t, ∀ y ∈ X.drop t, LexR x y := fun x hx y hy => by
 have h1 : (X.take t ++ X.drop t).Pairwise LexR := by rw [List.take_append_drop]; exact h
 exact (List.pairwise_append.1 h1).2.2 x hx y hy
theorem pw_two {Z1 Z2 P Q : List RG} (p1 : Z1.Perm P) (p2 : Z2.Perm Q) (s1 : Z1.Pairwise LexR) (s2 : Z2.Pairwise LexR) (hc : ∀ x ∈ P, ∀ y ∈ Q, LexR x y) : (Z1 ++ Z2).Pairwise LexR :=
 List.pairwise_append.2 ⟨s1, s2, fun x hx y hy => hc x (p1.mem_iff.1 hx) y (p2.mem_iff.1 hy)⟩
/-- where the halves meet -/
structure MeetS (X Y : List RG) (s t : Nat) : Prop where
 le : s ≤ X.length ∧ t ≤ Y.length
 one : ∀ (h1 : 0 < s) (h2 : t < Y.length) (h3 : s ≤ X.length), (X[s - 1]'(by omega)).b ≤ Y[t].b
 two : ∀ (h1 : 0 < t) (h2 : s < X.length) (h3 : t ≤ Y.length), (Y[t - 1]'(by omega)).b < X[s].b
theorem MeetS.cross {X Y : List RG} {s t : Nat} (h : MeetS X Y s t) (sX : X.Pairwise LexR) (sY : Y.Pairwise LexR) (hc : ∀ x ∈ X, ∀ y ∈ Y, x.r < y.r) : ∀ x ∈ X.take s ++ Y.take t, ∀ y ∈ X.drop s ++ Y.drop t, LexR x y := fun x hx y hy => by
 rcases List.mem_append.1 hx with hx | hx <;> rcases List.mem_append.1 hy with hy | hy
 ·exact split_le sX s x hx y hy
 ·have g1 := hc x (List.mem_of_mem_take hx) y (List.mem_of_mem_drop hy)
  obtain ⟨i, hi, rfl⟩ := List.getElem_of_mem hx
  obtain ⟨j, hj, rfl⟩ := List.getElem_of_mem hy
  rw [List.length_take] at hi
  rw [List.length_drop] at hj
  have hle := h.le
  rw [List.getElem_take, List.getElem_drop] at g1 ⊢
  have a1 := pw_le sX (i := i) (j := s - 1) (by omega) (by omega)
  have a2 := pw_le sY (i := t) (j := t + j) (by omega) (by omega)
  have a3 := h.one (by omega) (by omega) (by omega)
  by_cases e : X[i].b = Y[t + j].b
  ·exact .inr ⟨e, g1⟩
  ·exact .inl (by omega)
 ·obtain ⟨i, hi, rfl⟩ := List.getElem_of_mem hx
  obtain ⟨j, hj, rfl⟩ := List.getElem_of_mem hy
  rw [List.length_take] at hi
  rw [List.length_drop] at hj
  have hle := h.le
  rw [List.getElem_take, List.getElem_drop]
  have a1 := pw_le sY (i := i) (j := t - 1) (by omega) (by omega)
  have a2 := pw_le sX (i := s) (j := s + j) (by omega) (by omega)
  have a3 := h.two (by omega) (by omega) (by omega)
  exact .inl (by omega)
 ·exact split_le sY t x hx y hy
def SymmAll (L : Nat) : Prop := ∀ (w : World) (base g c n a m b : Nat) (A X Y C : List RG), X.length + Y.length ≤ L → RgRow w base (some ⟨g, 0, none⟩) c (A ++ X ++ Y ++ C) → 0 < X.length → 0 < Y.length → X.Pairwise LexR → Y.Pairwise LexR → (∀ x ∈ X, ∀ y ∈ Y, x.r < y.r) → n = (A ++ X ++ Y ++ C).length → n ≤ 10000 → a = A.length → m = a + X.length → b = m + Y.length →
 Calls Try.prog 94 #[.slice (some ⟨g, 0, none⟩) n c, .int .i64 (a : Int), .int .i64 (m : Int), .int .i64 (b : Int), .func (.func 86) #[] #[]] w (SortPost base g c A (X ++ Y) C w)
set_option maxRecDepth 100000 in
set_option maxHeartbeats 8000000 in
theorem symm_step (L : Nat) (ih : SymmAll L) : SymmAll (L + 1) := by
 intro w base g c n a m b A X Y C hL h hX hY sX sY hc hn hn2 ha hm hb
 by_cases hx1 : X.length = 1
 ·obtain ⟨x, rfl⟩ := List.length_eq_one_iff.1 hx1
  exact symm_one w base g c n a m b A Y C x h hY sY (fun y hy => hc x (by simp) y hy) hn hn2 ha (by simpa using hm) hb
 by_cases hy1 : Y.length = 1
 ·obtain ⟨y, rfl⟩ := List.length_eq_one_iff.1 hy1
  exact symm_last w base g c n a m b A X C y h (by omega) sX (fun x hx => hc x hx y (by simp)) hn hn2 ha hm (by simpa using hb)
 have hbn : b ≤ n := by rw [hn]; simp only [List.length_append]; omega
 have hcap : n ≤ c ∧ c ≤ maxLen := by
  obtain ⟨_, _, _, _, h3, h4⟩ := h.has (by simp only [List.length_append]; omega)
  exact ⟨by rw [hn]; exact h3, h4⟩
 have hc1 := hcap.1
 have hc2 := hcap.2
 unfold maxLen at hc2
 have hgl := (h.lt g rfl).2
 have ham : a + 2 ≤ m := by omega
 have hmb : m + 2 ≤ b := by omega
 have H := Lib.hid h
 have HN := Lib.hid hn
 have HA := Lib.hid ha
 have HSX := Lib.hid sX
 have HSY := Lib.hid sY
 have HCR := Lib.hid hc
 have HIH := Lib.hid ih
 have HLL := Lib.hid hL
 have HMA := Lib.hid hm
 have HBM := Lib.hid hb
 have q1 : ((m : Int) - (a : Int) == 1) = false := by simp; omega
 have q2 : ((b : Int) - (m : Int) == 1) = false := by simp; omega
 obtain ⟨mid, hmid⟩ : ∃ x, x = (a + b) / 2 := ⟨_, rfl⟩
 have HMID := Lib.hid hmid
 obtain ⟨s0, r0, hsr⟩ : ∃ s0 r0, (mid < m ∧ s0 + b = mid + m ∧ r0 = mid) ∨ (m ≤ mid ∧ s0 = a ∧ r0 = m) := by
  by_cases e : mid < m
  ·exact ⟨mid + m - b, mid, .inl ⟨e, by omega, rfl⟩⟩
  ·exact ⟨a, m, .inr ⟨by omega, rfl, rfl⟩⟩
 have hs0 : a ≤ s0 ∧ s0 ≤ r0 ∧ r0 ≤ m ∧ r0 ≤ mid := by omega
 have HSR := Lib.hid hsr
 have hmid1 : a < mid ∧ mid < b := by omega
 clear h hn ha sX sY hc hm hb hcap hX hY hx1 hy1 ih hL hmid
 go_enter Try.func94, Try.ntmps94
 go_upto_if 140 with fail
 have ehI : ((a : Int) + (b : Int)) / 2 = (mid : Int) := by have := HMID.out; omega
 rw [ehI]
 clear ehI
 go_cut [20, 21] from 138 (fun v u wx => v = .int .i64 (s0 : Int) ∧ u = .int .i64 (r0 : Int) ∧ wx = w)
 case first => as_aux_lemma =>
  rcases hsr with ⟨e1, e2, e3⟩ | ⟨e1, e2, e3⟩
  ·have ee : (mid : Int) + (m : Int) - (b : Int) = (s0 : Int) := by omega
   subst e3
   clear e2
   go_wp2_with fail
   go_meet
   exact ⟨rfl, rfl, rfl⟩
  ·have ee : ¬ ((mid : Int) < (m : Int)) := by omega
   subst e2 e3
   go_wp2_with fail
   go_meet
   exact ⟨rfl, rfl, rfl⟩
 case rest => as_aux_lemma =>
  obtain ⟨rfl, rfl, rfl⟩ := hcut
  obtain ⟨p, hp⟩ : ∃ p, p + 1 = mid + m := ⟨mid + m - 1, by omega⟩
  have epI : (mid : Int) + (m : Int) - 1 = (p : Int) := by omega
  have HP := Lib.hid hp
  have hpn : p ≤ 20000 := by omega
  clear hsr hp
  go_wp2_with fail
  clear epI
  go_loopw [20, 21] (fun u10 u11 wr => ∃ i j : Nat, u10 = .int .i64 (i : Int) ∧ u11 = .int .i64 (j : Int) ∧ s0 ≤ i ∧ i ≤ j ∧ j ≤ r0 ∧ (∀ k, s0 ≤ k → k < i → ∀ (h1 : p - k - m < Y.length) (h2 : k - a < X.length), ¬ Y[p - k - m].b < X[k - a].b) ∧ (∀ k, j ≤ k → k < r0 → ∀ (h1 : p - k - m < Y.length) (h2 : k - a < X.length), Y[p - k - m].b < X[k - a].b) ∧ Below wc.heap.size wc wr) (fun u v _ => (intOf v).toNat - (intOf u).toNat)
  case atStart => exact ⟨s0, r0, rfl, rfl, Nat.le_refl _, hs0.2.1, Nat.le_refl _, fun k h1 h2 => by omega, fun k h1 h2 => by omega, Below.refl _ _⟩
  case round =>
   obtain ⟨i, j, rfl, rfl, hi, hij, hjb, h1, h2, hbw⟩ := hrel
   have HB := Lib.hid hbw
   have H1 := Lib.hid h1
   have H2 := Lib.hid h2
   clear h1 h2 hbw
   by_cases hlt : i < j
   ·
    obtain ⟨h, hh⟩ : ∃ h, h = (i + j) / 2 := ⟨_, rfl⟩
    have hh1 : i ≤ h ∧ h < j := by omega
    have HHH := Lib.hid hh
    clear hh
    go_upto_region 35 with fail
    have hh := HHH.out
    have ehI : ((i : Int) + (j : Int)) / 2 = (h : Int) := by omega
    rw [ehI]
    obtain ⟨q, hq⟩ : ∃ q, q = p - h := ⟨_, rfl⟩
    have hqb : m ≤ q ∧ q < b ∧ q + h = p := by have := HP.out; have := HSR.out; have := HMID.out; omega
    have eqI : (p : Int) - (h : Int) = (q : Int) := by omega
    have hxl : h - a < X.length := by have := HMA.out; omega
    have hyl2 : q - m < Y.length := by have := HBM.out; omega
    obtain ⟨x, hx⟩ : ∃ x, x = X[h - a] := ⟨_, rfl⟩
    obtain ⟨y, hy⟩ : ∃ y, y = Y[q - m] := ⟨_, rfl⟩
    obtain ⟨ys, hys⟩ : ∃ ys, ys = A ++ X ++ Y ++ C := ⟨_, rfl⟩
    have hyl : ys.length = n := by rw [hys]; exact HN.out.symm
    have hpu : q < ys.length := by omega
    have hpv : h < ys.length := by omega
    have eu : ys[q] = y := by
     have h9 : ys[q]? = some y := by
      rw [hys, hy]
      have := rg_at (A := A ++ X) (C := C) hyl2
      rw [show (A ++ X).length + (q - m) = q by have := HA.out; have := HMA.out; simp; omega] at this
      exact this
     rw [List.getElem?_eq_getElem hpu] at h9
     injection h9
    have ev : ys[h] = x := by
     have h9 : ys[h]? = some x := by
      rw [hys, hx]
      have := rg_at (A := A) (C := Y ++ C) hxl
      rw [show A.length + (h - a) = h by have := HA.out; omega] at this
      simpa using this
     rw [List.getElem?_eq_getElem hpv] at h9
     injection h9
    have HRW : Hid (RgRow wr base (some ⟨g, 0, none⟩) c ys) := by rw [hys]; exact H.out.below HB.out
    have hhn : (h : Int) < (n : Int) := by omega
    have hqn : (q : Int) < (n : Int) := by omega
    have HXX := Lib.hid hx
    have HYY := Lib.hid hy
    have HH := Lib.hid hh1
    have HQ := Lib.hid hq
    clear hh ehI hx hy hys hyl hq
    obtain ⟨c0, c1, c2, c3⟩ := HRW.out.cells hpu
    obtain ⟨d0, d1, d2, d3⟩ := HRW.out.cells hpv
    rw [eu] at c0 c1 c2 c3
    rw [ev] at d0 d1 d2 d3
    have hgw := (HRW.out.lt g rfl).2
    have HLS := Lib.hid fun wx => less_any wx y x
    unfold rgV at HLS
    obtain ⟨z, hz⟩ : ∃ z, z = cmpI y.b x.b := ⟨_, rfl⟩
    rw [← hz] at HLS
    have hz2 : (y.b < x.b ∧ z = -1) ∨ (¬ y.b < x.b ∧ ¬ z < 0) := by
     rw [hz]; unfold cmpI
     by_cases h1 : y.b < x.b
     ·left; exact ⟨h1, if_pos h1⟩
     ·right; refine ⟨h1, ?_⟩
      rw [if_neg h1]; split <;> omega
    obtain ⟨wd, hwd⟩ : ∃ wd, wd = wr.drew := ⟨_, rfl⟩
    have hde : Below wr.heap.size wr wd := by rw [hwd]; exact (Below.refl _ _).drew
    have cc : ∀ o v, wr.cell? ⟨g, o, none⟩ = some v → ∀ x : After wd.heap.size wd, x.world.cell? ⟨g, o, none⟩ = some v := fun o v h x => (x.below.cell (p := ⟨g, o, none⟩) (Nat.lt_of_lt_of_le hgw hde.size)).trans ((hde.cell (p := ⟨g, o, none⟩) hgw).trans h)
    have r0 := cc _ _ c0
    have r1 := cc _ _ c1
    have r2 := cc _ _ c2
    have r3 := cc _ _ c3
    have s0 := cc _ _ d0
    have s1 := cc _ _ d1
    have s2 := cc _ _ d2
    have s3 := cc _ _ d3
    have HBD := Lib.hid (HB.out.trans (hde.mono HB.out.size))
    clear hz cc c0 c1 c2 c3 d0 d1 d2 d3 hde eu ev HRW
    refine wp_region_eager wd.heap.size [(0, true), (1, true), (2, true), (3, true), (4, true), (5, true), (6, true), (7, true), (8, true), (9, true), (10, true), (11, false), (12, true), (13, true)] (by kernel_rfl) (by kernel_rfl) ?_
    rw [← hwd]
    clear hwd
    repeat (refine eag_read rfl ?_; go_big_quiet_step (fail); refine wpQuiet_nil ?_)
    refine eag_does rfl rfl ?_
    intro K hK
    go_simp
    refine (HLS.out wd).mono ?_
    rintro e w7 ⟨rfl, hb7⟩
    refine hK _ _ hb7 ?_
    have HB7 := Lib.hid (HBD.out.trans (hb7.mono HBD.out.size))
    clear hK K HLS HBD hb7 r0 r1 r2 r3 s0 s1 s2 s3
    go_simp
    rcases hz2 with ⟨hyx, rfl⟩ | ⟨hyx, hz3⟩
    ·have HN2 : Hid (∀ k, h ≤ k → k < r0 → ∀ (h1 : p - k - m < Y.length) (h2 : k - a < X.length), Y[p - k - m].b < X[k - a].b) := fun k h3 h4 h5 h6 => by
      have g1 := pw_le HSX.out (i := h - a) (j := k - a) (by omega) h6
      have g2 := pw_le HSY.out (i := p - k - m) (j := q - m) (by omega) hyl2
      rw [← HXX.out] at g1
      rw [← HYY.out] at g2
      omega
     repeat (refine eag_read rfl ?_; go_big_quiet_step (fail); refine wpQuiet_nil ?_)
     refine eag_end ?_
     clear hyx eqI
     go_wp2_with fail
     go_roundw
     case rel => exact ⟨i, h, rfl, rfl, hi, by omega, by omega, H1.out, HN2.out, HB7.out⟩
     case measure => simp [intOf]; omega
    ·have HN1 : Hid (∀ k, s0 ≤ k → k < h + 1 → ∀ (h1 : p - k - m < Y.length) (h2 : k - a < X.length), ¬ Y[p - k - m].b < X[k - a].b) := fun k h3 h4 h5 h6 => by
      have g1 := pw_le HSX.out (i := k - a) (j := h - a) (by omega) hxl
      have g2 := pw_le HSY.out (i := q - m) (j := p - k - m) (by omega) h5
      rw [← HXX.out] at g1
      rw [← HYY.out] at g2
      omega
     have hz4 : decide (z < 0) = false := by simp; omega
     repeat (refine eag_read rfl ?_; go_big_quiet_step (fail); refine wpQuiet_nil ?_)
     refine eag_end ?_
     clear hyx hz3 hz4 eqI
     go_wp2_with fail
     go_roundw
     case rel => exact ⟨h + 1, j, by go_num, rfl, by omega, by omega, hjb, HN1.out, H2.out, HB7.out⟩
     case measure => simp [intOf]; omega
   ·
    obtain ⟨w1, rfl⟩ : ∃ x, x = wc := ⟨_, rfl⟩
    have eij : j = i := by omega
    subst eij
    obtain ⟨en, hen⟩ : ∃ e, e + j = mid + m := ⟨mid + m - j, by omega⟩
    have eenI : (mid : Int) + (m : Int) - (j : Int) = (en : Int) := by omega
    have henb : m ≤ en ∧ en ≤ b := by have := HSR.out; have := HMID.out; omega
    obtain ⟨s, hs⟩ : ∃ s, s = j - a := ⟨_, rfl⟩
    obtain ⟨t, ht⟩ : ∃ t, t = en - m := ⟨_, rfl⟩
    have hms : MeetS X Y s t := by
     refine ⟨⟨by have := HMA.out; omega, by have := HBM.out; omega⟩, fun g1 g2 g3 => ?_, fun g1 g2 g3 => ?_⟩
     ·by_cases e : s0 < j
      ·have h9 := H1.out (j - 1) (by omega) (by omega) (by have := HP.out; have := HBM.out; omega) (by have := HMA.out; omega)
       have ex : j - 1 - a = s - 1 := by omega
       have ey : p - (j - 1) - m = t := by have := HP.out; omega
       simp only [ex, ey] at h9
       omega
      ·exfalso
       have := HSR.out
       have := HBM.out
       have := HMID.out
       omega
     ·by_cases e : j < r0
      ·have h9 := H2.out j (Nat.le_refl _) e (by have := HP.out; have := HBM.out; omega) (by have := HMA.out; omega)
       have ex : j - a = s := hs.symm
       have ey : p - j - m = t - 1 := by have := HP.out; omega
       simp only [ex, ey] at h9
       exact h9
      ·exfalso
       have := HSR.out
       have := HMA.out
       have := HMID.out
       omega
    have hcx := hms.cross HSX.out HSY.out HCR.out
    obtain ⟨X1, hX1⟩ : ∃ Z, Z = X.take s := ⟨_, rfl⟩
    obtain ⟨X2, hX2⟩ : ∃ Z, Z = X.drop s := ⟨_, rfl⟩
    obtain ⟨Y1, hY1⟩ : ∃ Z, Z = Y.take t := ⟨_, rfl⟩
    obtain ⟨Y2, hY2⟩ : ∃ Z, Z = Y.drop t := ⟨_, rfl⟩
    rw [← hX1, ← hX2, ← hY1, ← hY2] at hcx
    have hXX : X1 ++ X2 = X := by rw [hX1, hX2]; exact List.take_append_drop _ _
    have hYY : Y1 ++ Y2 = Y := by rw [hY1, hY2]; exact List.take_append_drop _ _
    have lx1 : X1.length = s := by rw [hX1, List.length_take]; have := hms.le.1; omega
    have ly1 : Y1.length = t := by rw [hY1, List.length_take]; have := hms.le.2; omega
    have lxx := congrArg List.length hXX
    have lyy := congrArg List.length hYY
    rw [List.length_append] at lxx lyy
    have p1 := HSX.out
    rw [← hXX, List.pairwise_append] at p1
    have p2 := HSY.out
    rw [← hYY, List.pairwise_append] at p2
    have hcr := HCR.out
    rw [← hXX, ← hYY] at hcr
    have HCX := Lib.hid hcx
    have HXX := Lib.hid hXX
    have HYY := Lib.hid hYY
    have HP1 := Lib.hid p1
    have HP2 := Lib.hid p2
    have HC2 := Lib.hid hcr
    have hL2 := HLL.out
    have hA := HA.out
    have hMA := HMA.out
    have hBM := HBM.out
    have hr0 : RgRow wr base (some ⟨g, 0, none⟩) c (A ++ (X1 ++ X2) ++ (Y1 ++ Y2) ++ C) := by rw [hXX, hYY]; exact H.out.below HB.out
    have hn3 : n = (A ++ X1 ++ Y1 ++ (X2 ++ Y2 ++ C)).length := by have := HN.out; simp only [List.length_append] at this ⊢; omega
    have HN3 := Lib.hid hn3
    have HR0 := Lib.hid hr0
    have HRS0 := Lib.hid (below_refl_of HB.out (fun k => k = g))
    have HLN : Hid (X1.length = j - a ∧ Y1.length = en - m ∧ X1.length + X2.length = X.length ∧ Y1.length + Y2.length = Y.length ∧ a = A.length ∧ m = a + X.length ∧ b = m + Y.length ∧ X.length + Y.length ≤ L + 1 ∧ en + j = mid + m) := ⟨by omega, by omega, lxx, lyy, hA, hMA, hBM, hL2, hen⟩
    have hja : a ≤ j := by omega
    have hjm : j ≤ m := by omega
    have hjmid : j ≤ mid := by omega
    have hmen : mid ≤ en := by omega
    clear hms hcx hX1 hX2 hY1 hY2 hXX hYY lx1 ly1 lxx lyy p1 p2 hcr hL2 hA hMA hBM hr0 hn3 hs ht hen H1 H2 hlt
    obtain ⟨qr, hqr⟩ : ∃ q : Bool, q = decide (j < m ∧ m < en) := ⟨_, rfl⟩
    go_upto_region 39 with fail
    clear eenI
    go_cut [185] from 178 (fun v wx => v = .bool qr ∧ wx = wr)
    case first => as_aux_lemma =>
     by_cases e1 : j < m
     ·by_cases e2 : m < en
      ·have e3 : qr = true := by rw [hqr]; simp [e1, e2]
       subst e3
       clear hqr
       have e4 : (j : Int) < (m : Int) := by omega
       have e5 : (m : Int) < (en : Int) := by omega
       go_wp2_with fail
       go_meet
       exact ⟨rfl, rfl⟩
      ·have e3 : qr = false := by rw [hqr]; simp [e1, e2]
       subst e3
       clear hqr
       have e4 : (j : Int) < (m : Int) := by omega
       have e5 : ¬ (m : Int) < (en : Int) := by omega
       go_wp2_with fail
       go_meet
       exact ⟨rfl, rfl⟩
     ·have e3 : qr = false := by rw [hqr]; simp [e1]
      subst e3
      clear hqr
      have e4 : ¬ (j : Int) < (m : Int) := by omega
      go_wp2_with fail
      go_meet
      exact ⟨rfl, rfl⟩
    obtain ⟨rfl, rfl⟩ := hcut
    go_upto_if 185 with fail
    go_cut [] from 178 (fun wx => RgRow wx base (some ⟨g, 0, none⟩) c (A ++ (X1 ++ Y1) ++ (X2 ++ Y2) ++ C) ∧ RestS (fun k => k = g) w1 wx)
    case first => as_aux_lemma =>
     by_cases e : j < m ∧ m < en
     ·have e3 : qr = true := by rw [hqr]; simp [e]
      subst e3
      have hro := rotate_any _ base g c n j m en (A ++ X1) X2 Y1 (Y2 ++ C) (by have := HR0.out; simp only [List.append_assoc] at this ⊢; exact this) (by have := HLN.out; omega) (by have := HLN.out; omega) (by have := HN3.out; simp only [List.length_append] at this ⊢; omega) hn2 (by have := HLN.out; rw [List.length_append]; omega) (by have := HLN.out; rw [List.length_append]; omega) (by have := HLN.out; rw [List.length_append]; omega)
      have HRO := Lib.hid hro
      clear hqr e hro
      go_wp2_with fail
      refine HRO.out.mono ?_
      rintro e w7 ⟨rfl, hr7, hs7⟩
      have HR7 : Hid (RgRow w7 base (some ⟨g, 0, none⟩) c (A ++ (X1 ++ Y1) ++ (X2 ++ Y2) ++ C)) := by have := hr7; show RgRow _ _ _ _ _; simp only [List.append_assoc] at this ⊢; exact this
      have HS7 := Lib.hid (HRS0.out.trans hs7)
      clear hr7 hs7 HRO
      go_wp2_with fail
      go_meet
      exact ⟨HR7.out, HS7.out⟩
     ·have e3 : qr = false := by rw [hqr]; simp only [decide_eq_false_iff_not]; exact e
      subst e3
      have hem : X2 = [] ∨ Y1 = [] := by
       have h9 := HLN.out
       by_cases e1 : j < m
       ·exact .inr (List.eq_nil_of_length_eq_zero (by omega))
       ·exact .inl (List.eq_nil_of_length_eq_zero (by omega))
      have HE := Lib.hid hem
      clear hqr e hem
      go_wp2_with fail
      go_meet
      refine ⟨?_, HRS0.out⟩
      have h9 := HR0.out
      rcases HE.out with e | e <;> subst e <;> simpa using h9
    obtain ⟨hr1, hs1⟩ := hcut
    obtain ⟨w2, rfl⟩ : ∃ x, x = wc := ⟨_, rfl⟩
    have HR1 := Lib.hid hr1
    have HS1 := Lib.hid hs1
    clear hr1 hs1 hqr
    have hgl2 := (HR1.out.lt g rfl).2
    obtain ⟨qa, hqa⟩ : ∃ q : Bool, q = decide (a < j ∧ j < mid) := ⟨_, rfl⟩
    go_upto_region 41 with fail
    go_cut [199] from 192 (fun v wx => v = .bool qa ∧ wx = w2)
    case first => as_aux_lemma =>
     by_cases e1 : a < j
     ·by_cases e2 : j < mid
      ·have e3 : qa = true := by rw [hqa]; simp [e1, e2]
       subst e3
       clear hqa
       have e4 : (a : Int) < (j : Int) := by omega
       have e5 : (j : Int) < (mid : Int) := by omega
       go_wp2_with fail
       go_meet
       exact ⟨rfl, rfl⟩
      ·have e3 : qa = false := by rw [hqa]; simp [e1, e2]
       subst e3
       clear hqa
       have e4 : (a : Int) < (j : Int) := by omega
       have e5 : ¬ (j : Int) < (mid : Int) := by omega
       go_wp2_with fail
       go_meet
       exact ⟨rfl, rfl⟩
     ·have e3 : qa = false := by rw [hqa]; simp [e1]
      subst e3
      clear hqa
      have e4 : ¬ (a : Int) < (j : Int) := by omega
      go_wp2_with fail
      go_meet
      exact ⟨rfl, rfl⟩
    obtain ⟨rfl, rfl⟩ := hcut
    go_upto_if 199 with fail
    go_cut [] from 192 (fun wx => ∃ Z1 : List RG, Z1.Perm (X1 ++ Y1) ∧ Z1.Pairwise LexR ∧ RgRow wx base (some ⟨g, 0, none⟩) c (A ++ Z1 ++ (X2 ++ Y2) ++ C) ∧ RestS (fun k => k = g) w1 wx)
    case first => as_aux_lemma =>
     by_cases e : a < j ∧ j < mid
     ·have e3 : qa = true := by rw [hqa]; simp [e]
      subst e3
      have hro := HIH.out _ base g c n a j mid A X1 Y1 (X2 ++ Y2 ++ C) (by have := HLN.out; omega) (by have := HR1.out; simp only [List.append_assoc] at this ⊢; exact this) (by have := HLN.out; omega) (by have := HLN.out; omega) HP1.out.1 HP2.out.1 (fun x hx y hy => HC2.out x (List.mem_append_left _ hx) y (List.mem_append_left _ hy)) HN3.out hn2 (by have := HLN.out; omega) (by have := HLN.out; omega) (by have := HLN.out; omega)
      have HRO := Lib.hid hro
      clear hqa e hro
      go_wp2_with fail
      refine HRO.out.mono ?_
      rintro e w7 ⟨Z1, rfl, hz1, hz2, hr7, hs7⟩
      have HR7 : Hid (RgRow w7 base (some ⟨g, 0, none⟩) c (A ++ Z1 ++ (X2 ++ Y2) ++ C)) := by have := hr7; show RgRow _ _ _ _ _; simp only [List.append_assoc] at this ⊢; exact this
      have HS7 := Lib.hid (HS1.out.trans hs7)
      have HZ1 := Lib.hid hz1
      have HZ2 := Lib.hid hz2
      clear hr7 hs7 HRO hz1 hz2
      go_wp2_with fail
      go_meet
      exact ⟨Z1, HZ1.out, HZ2.out, HR7.out, HS7.out⟩
     ·have e3 : qa = false := by rw [hqa]; simp only [decide_eq_false_iff_not]; exact e
      subst e3
      have hem : X1 = [] ∨ Y1 = [] := by
       have h9 := HLN.out
       by_cases e1 : a < j
       ·exact .inr (List.eq_nil_of_length_eq_zero (by omega))
       ·exact .inl (List.eq_nil_of_length_eq_zero (by omega))
      have HE := Lib.hid hem
      clear hqa e hem
      go_wp2_with fail
      go_meet
      refine ⟨X1 ++ Y1, List.Perm.refl _, ?_, HR1.out, HS1.out⟩
      rcases HE.out with e | e
      ·rw [e]; exact HP2.out.1
      ·rw [e, List.append_nil]; exact HP1.out.1
    obtain ⟨Z1, hz1, hz2, hr1, hs1⟩ := hcut
    obtain ⟨w3, rfl⟩ : ∃ x, x = wc := ⟨_, rfl⟩
    have hz3 := hz1.length_eq
    rw [List.length_append] at hz3
    have HZ1 := Lib.hid hz1
    have HZ2 := Lib.hid hz2
    have HZ3 := Lib.hid hz3
    clear hqa HR1 HS1 hz1 hz2 hz3
    have HR1 := Lib.hid hr1
    have HS1 := Lib.hid hs1
    clear hr1 hs1
    have hgl3 := (HR1.out.lt g rfl).2
    obtain ⟨qb, hqb⟩ : ∃ q : Bool, q = decide (mid < en ∧ en < b) := ⟨_, rfl⟩
    go_upto_region 43 with fail
    go_cut [213] from 206 (fun v wx => v = .bool qb ∧ wx = w3)
    case first => as_aux_lemma =>
     by_cases e1 : mid < en
     ·by_cases e2 : en < b
      ·have e3 : qb = true := by rw [hqb]; simp [e1, e2]
       subst e3
       clear hqb
       have e4 : (mid : Int) < (en : Int) := by omega
       have e5 : (en : Int) < (b : Int) := by omega
       go_wp2_with fail
       go_meet
       exact ⟨rfl, rfl⟩
      ·have e3 : qb = false := by rw [hqb]; simp [e1, e2]
       subst e3
       clear hqb
       have e4 : (mid : Int) < (en : Int) := by omega
       have e5 : ¬ (en : Int) < (b : Int) := by omega
       go_wp2_with fail
       go_meet
       exact ⟨rfl, rfl⟩
     ·have e3 : qb = false := by rw [hqb]; simp [e1]
      subst e3
      clear hqb
      have e4 : ¬ (mid : Int) < (en : Int) := by omega
      go_wp2_with fail
      go_meet
      exact ⟨rfl, rfl⟩
    obtain ⟨rfl, rfl⟩ := hcut
    go_upto_if 213 with fail
    have HF : Hid (∀ (wx : World) (Z2 : List RG), Z2.Perm (X2 ++ Y2) → Z2.Pairwise LexR → RgRow wx base (some ⟨g, 0, none⟩) c (A ++ (Z1 ++ Z2) ++ C) → RestS (fun k => k = g) w1 wx → SortPost base g c A (X ++ Y) C w1 (.returned (.tuple #[])) wx) := fun wx Z2 g1 g2 g3 g4 => by
     refine ⟨Z1 ++ Z2, rfl, ?_, pw_two HZ1.out g1 HZ2.out g2 HCX.out, g3, g4⟩
     rw [← HXX.out, ← HYY.out]
     refine (HZ1.out.append g1).trans ?_
     simp only [List.append_assoc]
     exact List.Perm.append_left X1 (List.perm_append_comm_assoc Y1 X2 Y2)
    by_cases e : mid < en ∧ en < b
    ·have e3 : qb = true := by rw [hqb]; simp [e]
     subst e3
     have hro := HIH.out _ base g c n mid en b (A ++ Z1) X2 Y2 C (by have := HLN.out; omega) (by have := HR1.out; simp only [List.append_assoc] at this ⊢; exact this) (by have := HLN.out; omega) (by have := HLN.out; omega) HP1.out.2.1 HP2.out.2.1 (fun x hx y hy => HC2.out x (List.mem_append_right _ hx) y (List.mem_append_right _ hy)) (by have := HN3.out; have := HZ3.out; simp only [List.length_append] at *; omega) hn2 (by have := HLN.out; have := HZ3.out; rw [List.length_append]; omega) (by have := HLN.out; omega) (by have := HLN.out; omega)
     have HRO := Lib.hid hro
     clear hqb e hro
     go_wp2_with fail
     refine HRO.out.mono ?_
     rintro e w7 ⟨Z2, rfl, hz1, hz2, hr7, hs7⟩
     have HR7 : Hid (RgRow w7 base (some ⟨g, 0, none⟩) c (A ++ (Z1 ++ Z2) ++ C)) := by have := hr7; show RgRow _ _ _ _ _; simp only [List.append_assoc] at this ⊢; exact this
     have HS7 := Lib.hid (HS1.out.trans hs7)
     have HY1 := Lib.hid hz1
     have HY2 := Lib.hid hz2
     clear hr7 hs7 HRO hz1 hz2
     go_wp2_with fail
     refine bodyPost_end (results_none rfl _ _ _) rfl ?_
     exact HF.out _ Z2 HY1.out HY2.out HR7.out HS7.out
    ·have e3 : qb = false := by rw [hqb]; simp only [decide_eq_false_iff_not]; exact e
     subst e3
     have hem : X2 = [] ∨ Y2 = [] := by
      have h9 := HLN.out
      by_cases e1 : mid < en
      ·exact .inr (List.eq_nil_of_length_eq_zero (by omega))
      ·exact .inl (List.eq_nil_of_length_eq_zero (by omega))
     have HE := Lib.hid hem
     clear hqb e hem
     go_wp2_with fail
     refine bodyPost_end (results_none rfl _ _ _) rfl ?_
     refine HF.out _ (X2 ++ Y2) (List.Perm.refl _) ?_ (by have := HR1.out; simp only [List.append_assoc] at this ⊢; exact this) HS1.out
     rcases HE.out with e | e
     ·rw [e]; exact HP2.out.2.1
     ·rw [e, List.append_nil]; exact HP1.out.2.1
theorem symm_all (L : Nat) : SymmAll L := by
 induction L with
 | zero => intro w base g c n a m b A X Y C hL h hX hY; omega
 | succ L ih => exact symm_step L ih
end

section
/-- every register of one lies below every register of the other -/
def CrossR (X Y : List RG) : Prop := ∀ x ∈ X, ∀ y ∈ Y, x.r < y.r
theorem CrossR.perm {X Y X' Y' : List RG} (h : CrossR X Y) (hx : X'.Perm X) (hy : Y'.Perm Y) : CrossR X' Y' := fun x h1 y h2 => h x (hx.mem_iff.1 h1) y (hy.mem_iff.1 h2)
theorem CrossR.app {X Y Z : List RG} (h1 : CrossR X Y) (h2 : CrossR X Z) : CrossR X (Y ++ Z) := fun x hx y hy => (List.mem_append.1 hy).elim (h1 x hx y) (h2 x hx y)
theorem CrossR.app' {X Y Z : List RG} (h1 : CrossR X Z) (h2 : CrossR Y Z) : CrossR (X ++ Y) Z := fun x hx y hy => (List.mem_append.1 hx).elim (fun h => h1 x h y hy) (fun h => h2 x h y hy)
theorem CrossR.left {X Y Z : List RG} (h : CrossR X (Y ++ Z)) : CrossR X Y := fun x hx y hy => h x hx y (List.mem_append_left _ hy)
theorem CrossR.right {X Y Z : List RG} (h : CrossR X (Y ++ Z)) : CrossR X Z := fun x hx y hy => h x hx y (List.mem_append_right _ hy)
/-- full sorted blocks, read from the end -/
inductive FullD (B : Nat) : List RG → Prop where
 | nil : FullD B []
 | snoc (D S : List RG) : FullD B D → S.length = B → S.Pairwise LexR → CrossR D S → FullD B (D ++ S)
/-- sorted blocks, the last may be short, read from the front -/
inductive Good (B : Nat) : List RG → Prop where
 | last (S : List RG) : S.length ≤ B → S.Pairwise LexR → Good B S
 | cons (S R : List RG) : S.length = B → S.Pairwise LexR → CrossR S R → Good B R → Good B (S ++ R)
theorem FullD.good {B : Nat} {D : List RG} (h : FullD B D) : ∀ R, Good B R → CrossR D R → Good B (D ++ R) := by
 induction h with
 | nil => intro R h _; exact h
 | snoc D S _ hs hl hc ih =>
  intro R hR hcr
  rw [List.append_assoc]
  exact ih _ (.cons S R hs hl (fun x hx y hy => hcr x (List.mem_append_right _ hx) y hy) hR) (hc.app fun x hx y hy => hcr x (List.mem_append_left _ hx) y hy)
theorem Good.small {B : Nat} {R : List RG} (h : Good B R) (hl : R.length ≤ B) (hB : 0 < B) : R.Pairwise LexR := by
 cases h with
 | last _ _ h => exact h
 | cons S R1 h1 h2 _ _ =>
  rw [List.length_append] at hl
  have : R1 = [] := List.eq_nil_of_length_eq_zero (by omega)
  rw [this, List.append_nil]
  exact h2
/-- two full blocks ahead -/
theorem Good.two {B : Nat} {R : List RG} (h : Good B R) (hl : 2 * B ≤ R.length) (hB : 0 < B) : ∃ X Y R', R = X ++ Y ++ R' ∧ X.length = B ∧ Y.length = B ∧ X.Pairwise LexR ∧ Y.Pairwise LexR ∧ CrossR X Y ∧ CrossR (X ++ Y) R' ∧ Good B R' := by
 cases h with
 | last _ h _ => omega
 | cons S R1 h1 h2 h3 h4 =>
  rw [List.length_append] at hl
  cases h4 with
  | last _ g1 g2 => exact ⟨S, R1, [], by simp, h1, by omega, h2, g2, h3, fun x _ y hy => (by cases hy), .last [] (Nat.zero_le _) .nil⟩
  | cons S2 R2 g1 g2 g3 g4 => exact ⟨S, S2, R2, by simp, h1, g1, h2, g2, h3.left, h3.right.app' g3, g4⟩
/-- one full block and a short one -/
theorem Good.one {B : Nat} {R : List RG} (h : Good B R) (hl : B < R.length) (hl2 : R.length < 2 * B) : ∃ X Y, R = X ++ Y ∧ X.length = B ∧ 0 < Y.length ∧ Y.length < B ∧ X.Pairwise LexR ∧ Y.Pairwise LexR ∧ CrossR X Y := by
 cases h with
 | last _ h _ => omega
 | cons S R1 h1 h2 h3 h4 =>
  rw [List.length_append] at hl hl2
  cases h4 with
  | last _ g1 g2 => exact ⟨S, R1, rfl, h1, by omega, by omega, h2, g2, h3⟩
  | cons S2 R2 g1 g2 g3 g4 => rw [List.length_append] at hl2; omega
/-- where the sort by blocks of B stands: what is done, what is ahead -/
structure StB (xs : List RG) (B a : Nat) (D R : List RG) : Prop where
 perm : (D ++ R).Perm xs
 full : FullD (2 * B) D
 good : Good B R
 cross : CrossR D R
 len : D.length = a
structure StI (xs : List RG) (B a : Nat) (D R : List RG) : Prop where
 perm : (D ++ R).Perm xs
 full : FullD B D
 ord : R.Pairwise fun x y => x.r < y.r
 cross : CrossR D R
 len : D.length = a
theorem StI.start {xs : List RG} (h : xs.Pairwise fun x y => x.r < y.r) (B : Nat) : StI xs B 0 [] xs := ⟨List.Perm.refl _, .nil, h, fun x hx => (by cases hx), rfl⟩
theorem StI.split {xs D R : List RG} {B a k : Nat} (h : StI xs B a D R) : CrossR (R.take k) (R.drop k) ∧ CrossR D (R.take k) ∧ CrossR D (R.drop k) ∧ (R.take k).Pairwise (fun x y => x.r < y.r) ∧ (R.drop k).Pairwise (fun x y => x.r < y.r) := by
 have h1 : (R.take k ++ R.drop k).Pairwise fun x y => x.r < y.r := by rw [List.take_append_drop]; exact h.ord
 rw [List.pairwise_append] at h1
 exact ⟨h1.2.2, fun x hx y hy => h.cross x hx y (List.mem_of_mem_take hy), fun x hx y hy => h.cross x hx y (List.mem_of_mem_drop hy), h1.1, h1.2.1⟩
theorem StI.step {xs D R S : List RG} {B a : Nat} (h : StI xs B a D R) (hl : B ≤ R.length) (hp : S.Perm (R.take B)) (hs : S.Pairwise LexR) : StI xs B (a + B) (D ++ S) (R.drop B) := by
 obtain ⟨c1, c2, c3, _, o⟩ := h.split (k := B)
 have l1 := hp.length_eq
 rw [List.length_take, Nat.min_eq_left hl] at l1
 refine ⟨?_, .snoc D S h.full l1 hs (c2.perm (List.Perm.refl _) hp), o, c3.app' (c1.perm hp (List.Perm.refl _)), by rw [List.length_append, h.len, l1]⟩
 refine List.Perm.trans ?_ h.perm
 rw [List.append_assoc]
 refine List.Perm.append_left D ?_
 exact (hp.append_right _).trans (by rw [List.take_append_drop])
theorem StI.done {xs D R S : List RG} {B a : Nat} (h : StI xs B a D R) (hl : R.length < B) (hp : S.Perm R) (hs : S.Pairwise LexR) : (D ++ S).Perm xs ∧ Good B (D ++ S) :=
 ⟨(List.Perm.append_left D hp).trans h.perm, h.full.good S (.last S (by rw [hp.length_eq]; omega) hs) (h.cross.perm (List.Perm.refl _) hp)⟩
theorem StB.start {xs ys : List RG} {B : Nat} (hp : ys.Perm xs) (h : Good B ys) : StB xs B 0 [] ys := ⟨hp, .nil, h, fun x hx => (by cases hx), rfl⟩
theorem StB.step {xs D X Y R Z : List RG} {B a : Nat} (h : StB xs B a D (X ++ Y ++ R)) (hx : X.length = B) (hy : Y.length = B) (hc : CrossR (X ++ Y) R) (hg : Good B R) (hp : Z.Perm (X ++ Y)) (hs : Z.Pairwise LexR) : StB xs B (a + 2 * B) (D ++ Z) R := by
 have l1 := hp.length_eq
 rw [List.length_append] at l1
 refine ⟨?_, .snoc D Z h.full (by omega) hs (h.cross.left.perm (List.Perm.refl _) hp), hg, h.cross.right.app' (hc.perm hp (List.Perm.refl _)), by rw [List.length_append, h.len, l1]; omega⟩
 refine List.Perm.trans ?_ h.perm
 rw [List.append_assoc]
 exact List.Perm.append_left D (hp.append_right _)
theorem StB.done {xs D R Z : List RG} {B a : Nat} (h : StB xs B a D R) (hl : R.length < 2 * B) (hp : Z.Perm R) (hs : Z.Pairwise LexR) : (D ++ Z).Perm xs ∧ Good (2 * B) (D ++ Z) :=
 ⟨(List.Perm.append_left D hp).trans h.perm, h.full.good Z (.last Z (by rw [hp.length_eq]; omega) hs) (h.cross.perm (List.Perm.refl _) hp)⟩
end

section
theorem isort_at (w : World) (base g c n a b : Nat) (A S C : List RG) (h : RgRow w base (some ⟨g, 0, none⟩) c (A ++ S ++ C)) (hS : S.Pairwise fun x y => x.r < y.r) (hn : n = (A ++ S ++ C).length) (hn2 : n ≤ 10000) (ha : a = A.length) (hb : b = a + S.length) :
  Calls Try.prog 93 #[.slice (some ⟨g, 0, none⟩) n c, .int .i64 (a : Int), .int .i64 (b : Int), .func (.func 86) #[] #[]] w (SortPost base g c A S C w) := by
 subst hb ha hn
 exact isort_any w base g c A S C h hS hn2
set_option maxRecDepth 100000 in
set_option maxHeartbeats 8000000 in
theorem stable_any (w : World) (base g c n : Nat) (xs : List RG) (h : RgRow w base (some ⟨g, 0, none⟩) c xs) (hS : xs.Pairwise fun x y => x.r < y.r) (hn : n = xs.length) (hn2 : n ≤ 10000) :
  Calls Try.prog 90 #[.slice (some ⟨g, 0, none⟩) n c, .int .i64 (n : Int), .func (.func 86) #[] #[]] w (SortPost base g c [] xs [] w) := by
 have hgl := (h.lt g rfl).2
 have H := Lib.hid h
 have HN := Lib.hid hn
 have HS := Lib.hid hS
 clear h hn hS
 go_enter Try.func90, Try.ntmps90
 go_wp2_with fail
 go_loopw [7, 8] (fun u7 u8 wr => ∃ (a b : Nat) (D R : List RG), u7 = .int .i64 (a : Int) ∧ u8 = .int .i64 (b : Int) ∧ b = a + 20 ∧ StI xs 20 a D R ∧ RgRow wr base (some ⟨g, 0, none⟩) c (D ++ R) ∧ RestS (fun k => k = g) w wr) (fun u _ _ => n + 1 - (intOf u).toNat)
 case atStart => exact ⟨0, 20, [], xs, rfl, rfl, rfl, .start HS.out 20, H.out, RestS.refl _ _⟩
 case round =>
  obtain ⟨a, b, D, R, rfl, rfl, hb, hst, hr, hrs⟩ := hrel
  have hnl : n = (D ++ R).length := HN.out.trans hst.perm.length_eq.symm
  have hal : D.length = a := hst.len
  have hRl : a + R.length = n := by rw [hnl, List.length_append, hal]
  have hgl1 := (hr.lt g rfl).2
  have HST := Lib.hid hst
  have HR := Lib.hid hr
  have HRS := Lib.hid hrs
  have HAL := Lib.hid hal
  have HNL := Lib.hid hnl
  have HRL := Lib.hid hRl
  clear hst hr hrs hal hnl
  by_cases hlt : b ≤ n
  ·
   have hso := isort_at wr base g c n a b D (R.take 20) (R.drop 20) (by have := HR.out; rw [List.append_assoc, List.take_append_drop]; exact this) (HST.out.split (k := 20)).2.2.2.1 (by rw [List.append_assoc, List.take_append_drop]; exact HNL.out) hn2 HAL.out.symm (by rw [List.length_take]; omega)
   have HSO := Lib.hid hso
   have hle : (b : Int) ≤ (n : Int) := by omega
   have h20 : 20 ≤ R.length := by omega
   have HB := Lib.hid hb
   have H20 := Lib.hid h20
   have hbn : b ≤ 10000 := by omega
   clear hso hb h20 hlt hRl
   go_wp2_with fail
   refine HSO.out.mono ?_
   rintro e w7 ⟨S', rfl, hp, hs, hr7, hs7⟩
   have HR7 : Hid (RgRow w7 base (some ⟨g, 0, none⟩) c ((D ++ S') ++ R.drop 20)) := hr7
   have HS7 := Lib.hid (HRS.out.trans hs7)
   have HST7 := Lib.hid (HST.out.step H20.out hp hs)
   clear hr7 hs7 HSO hp hs
   go_wp2_with fail
   go_roundw
   case rel => exact ⟨b, b + 20, D ++ S', R.drop 20, rfl, by go_num, rfl, by have h9 := HST7.out; have h8 := HB.out; rw [← h8] at h9; exact h9, HR7.out, HS7.out⟩
   case measure => simp [intOf]; have := HB.out; omega
  ·
   have hso := isort_at wr base g c n a n D R [] (by have := HR.out; rw [List.append_nil]; exact this) HST.out.ord (by rw [List.append_nil]; exact HNL.out) hn2 HAL.out.symm hRl.symm
   have HSO := Lib.hid hso
   have hle : ¬ ((b : Int) ≤ (n : Int)) := by omega
   have h20 : Hid (R.length < 20) := by show _ < _; omega
   clear hso hb hlt hRl
   go_wp2_with fail
   refine HSO.out.mono ?_
   rintro e w7 ⟨S', rfl, hp, hs, hr7, hs7⟩
   have hdo := HST.out.done h20.out hp hs
   have hr7' : RgRow w7 base (some ⟨g, 0, none⟩) c (D ++ S') := by have := hr7; rw [List.append_nil] at this; exact this
   have hs7' := HRS.out.trans hs7
   obtain ⟨ys, hys⟩ : ∃ ys, ys = D ++ S' := ⟨_, rfl⟩
   rw [← hys] at hdo hr7'
   have HDO := Lib.hid hdo
   have HR7 := Lib.hid hr7'
   have HS7 := Lib.hid hs7'
   clear hr7 hs7 HSO hp hs hr7' hs7' hdo hys h20 hle HRL HNL HAL HRS HR HST
   go_wp2_with fail
   go_loopw [6, 7, 8] (fun u6 _ _ wr => ∃ (B : Nat) (ys : List RG), u6 = .int .i64 (B : Int) ∧ 20 ≤ B ∧ B ≤ 20000 ∧ ys.Perm xs ∧ Good B ys ∧ RgRow wr base (some ⟨g, 0, none⟩) c ys ∧ RestS (fun k => k = g) w wr) (fun u _ _ _ => 20000 - (intOf u).toNat)
   case atStart => exact ⟨20, ys, rfl, by omega, by omega, HDO.out.1, HDO.out.2, HR7.out, HS7.out⟩
   case round =>
    obtain ⟨B, ys, rfl, hB, hB2, hp, hg, hr, hrs⟩ := hrel
    have hgl1 := (hr.lt g rfl).2
    have HP := Lib.hid hp
    have HG := Lib.hid hg
    have HR := Lib.hid hr
    have HRS := Lib.hid hrs
    clear hp hg hr hrs
    by_cases hlt : B < n
    ·
     have e1 : (B : Int) < (n : Int) := by omega
     have hBn : B < 10000 := by omega
     clear hlt
     go_wp2_with fail
     go_loopw [7, 8] (fun u7 u8 wr => ∃ (a b : Nat) (D R : List RG), u7 = .int .i64 (a : Int) ∧ u8 = .int .i64 (b : Int) ∧ b = a + 2 * B ∧ a ≤ n ∧ StB xs B a D R ∧ RgRow wr base (some ⟨g, 0, none⟩) c (D ++ R) ∧ RestS (fun k => k = g) w wr) (fun u _ _ => n + 1 - (intOf u).toNat)
     case atStart => exact ⟨0, 2 * B, [], ys, rfl, by go_num, by omega, by omega, .start HP.out HG.out, HR.out, HRS.out⟩
     case round =>
      clear HP HG HR HRS hgl1
      obtain ⟨a, b, D, R, rfl, rfl, hb, han, hst, hr, hrs⟩ := hrel
      have hnl : n = (D ++ R).length := HN.out.trans hst.perm.length_eq.symm
      have hal : D.length = a := hst.len
      have hRl : a + R.length = n := by rw [hnl, List.length_append, hal]
      have hgl1 := (hr.lt g rfl).2
      by_cases hlt : b ≤ n
      ·
       obtain ⟨X, Y, R', rfl, hX, hY, sX, sY, cXY, cR, gR⟩ := hst.good.two (by omega) (by omega)
       obtain ⟨m, hm⟩ : ∃ m, m = a + B := ⟨_, rfl⟩
       have hso := symm_all (X.length + Y.length) wr base g c n a m b D X Y R' (Nat.le_refl _) (by simp only [List.append_assoc] at hr ⊢; exact hr) (by omega) (by omega) sX sY cXY (by rw [hnl]; simp only [List.append_assoc]) hn2 hal.symm (by omega) (by omega)
       have HSO := Lib.hid hso
       have hle : (b : Int) ≤ (n : Int) := by omega
       have em : (a : Int) + (B : Int) = (m : Int) := by omega
       have HB := Lib.hid hb
       have HST := Lib.hid hst
       have HX := Lib.hid hX
       have HY := Lib.hid hY
       have HCR := Lib.hid cR
       have HGR := Lib.hid gR
       have HRS := Lib.hid hrs
       have hbn : b ≤ 10000 := by omega
       clear hso hb hlt hRl hnl hal hX hY sX sY cXY cR gR hst hr hrs hm
       go_wp2_with fail
       refine HSO.out.mono ?_
       rintro e w7 ⟨Z, rfl, hp, hs, hr7, hs7⟩
       have HR7 : Hid (RgRow w7 base (some ⟨g, 0, none⟩) c ((D ++ Z) ++ R')) := hr7
       have HS7 := Lib.hid (HRS.out.trans hs7)
       have HST7 := Lib.hid (HST.out.step HX.out HY.out HCR.out HGR.out hp hs)
       clear hr7 hs7 HSO hp hs em
       go_wp2_with fail
       go_roundw
       case rel => exact ⟨b, b + 2 * B, D ++ Z, R', rfl, by go_num, rfl, by omega, by have h9 := HST7.out; have h8 := HB.out; rw [← h8] at h9; exact h9, HR7.out, HS7.out⟩
       case measure => simp [intOf]; have := HB.out; omega
      ·
       have hle : ¬ ((b : Int) ≤ (n : Int)) := by omega
       obtain ⟨m, hm⟩ : ∃ m, m = a + B := ⟨_, rfl⟩
       have em : (a : Int) + (B : Int) = (m : Int) := by omega
       have hmb : m ≤ 20000 := by omega
       by_cases hmn : m < n
       ·obtain ⟨X, Y, rfl, hX, hY0, hY, sX, sY, cXY⟩ := hst.good.one (by omega) (by omega)
        have hxy : (X ++ Y).length = X.length + Y.length := List.length_append
        have hso := symm_all (X.length + Y.length) wr base g c n a m n D X Y [] (Nat.le_refl _) (by simp only [List.append_assoc, List.append_nil] at hr ⊢; exact hr) (by omega) (by omega) sX sY cXY (by rw [hnl]; simp only [List.append_assoc, List.append_nil]) hn2 hal.symm (by omega) (by omega)
        have HSO := Lib.hid hso
        have e2 : (m : Int) < (n : Int) := by omega
        have h20 : Hid ((X ++ Y).length < 2 * B) := by show _ < _; omega
        have HST := Lib.hid hst
        have HRS := Lib.hid hrs
        clear hso hb hmn hRl hnl hal hX hY sX sY cXY hst hr hrs hm hY0 hxy hlt
        go_wp2_with fail
        refine HSO.out.mono ?_
        rintro e w7 ⟨Z, rfl, hp, hs, hr7, hs7⟩
        have hdo := HST.out.done h20.out hp hs
        have HDO := Lib.hid hdo
        have HR7 : Hid (RgRow w7 base (some ⟨g, 0, none⟩) c (D ++ Z)) := by have := hr7; rw [List.append_nil] at this; exact this
        have HS7 := Lib.hid (HRS.out.trans hs7)
        clear hr7 hs7 HSO hp hs em hdo
        go_wp2_with fail
        go_roundw
        case rel => exact ⟨2 * B, D ++ Z, by go_num, by omega, by omega, HDO.out.1, HDO.out.2, HR7.out, HS7.out⟩
        case measure => simp [intOf]; omega
       ·have e2 : ¬ (m : Int) < (n : Int) := by omega
        have hdo := hst.done (by omega) (List.Perm.refl R) (hst.good.small (by omega) (by omega))
        have HDO := Lib.hid hdo
        have HR := Lib.hid hr
        have HRS := Lib.hid hrs
        clear hb hmn hRl hnl hal hst hr hrs hm hlt hdo
        go_wp2_with fail
        go_roundw
        case rel => exact ⟨2 * B, D ++ R, by go_num, by omega, by omega, HDO.out.1, HDO.out.2, HR.out, HRS.out⟩
        case measure => simp [intOf]; omega
    ·
     have hle : ¬ ((B : Int) < (n : Int)) := by omega
     go_wp2_with fail
     refine bodyPost_end (results_none rfl _ _ _) rfl ?_
     exact ⟨ys, rfl, HP.out, HG.out.small (by rw [HP.out.length_eq, ← HN.out]; omega) (by omega), by have := HR.out; simpa using this, HRS.out⟩
set_option maxRecDepth 100000 in
set_option maxHeartbeats 8000000 in
theorem sortStable_any (w : World) (base g c n : Nat) (xs : List RG) (h : RgRow w base (some ⟨g, 0, none⟩) c xs) (hS : xs.Pairwise fun x y => x.r < y.r) (hn : n = xs.length) (hn2 : n ≤ 10000) :
  Calls Try.prog 85 #[.slice (some ⟨g, 0, none⟩) n c, .func (.func 86) #[] #[]] w (SortPost base g c [] xs [] w) := by
 have hgl := (h.lt g rfl).2
 have HSO := Lib.hid (stable_any w base g c n xs h hS hn hn2)
 clear h hn hS
 go_enter Try.func85, Try.ntmps85
 go_wp2_with fail
 refine HSO.out.mono ?_
 rintro e w7 ⟨S', rfl, hp, hs, hr7, hs7⟩
 go_wp2_with fail
 refine bodyPost_end (results_none rfl _ _ _) rfl ?_
 exact ⟨S', rfl, hp, hs, hr7, hs7⟩
end
end Go.Proofs.Ytlcnbihfpjhffaa
