/- The walk of LinearEnough. -/
import Derived.Test.YtlaogkbdjkofaaaLinEn
import Derived.Test.YtlaogkbdjkofaaaAllocFact
namespace Go.Proofs.Ytlaogkbdjkofaaa
open Go.RowKit
set_option linter.unusedVariables false
set_option linter.unusedSimpArgs false

set_option maxRecDepth 100000 in
set_option maxHeartbeats 8000000 in
theorem linearEnough_walk (f : VF) (k : Int) (w : World) (hf : f.Ok w) (hk : -9223372036854775808 ≤ k ∧ k ≤ 9223372036854775807) : Calls Try.prog 8 #[f.v, .int .i64 k] w fun e w' => e = .returned (.bool true) ∧ Below w.heap.size w w' := by
  have hb0 : BoxV f w (w.alloc (.cells #[.int .i64 f.name, .slice f.pa f.pn f.pc, .int .i64 f.regs, .slice f.sa f.sn f.sc] 25)) f.pa f.sa := ⟨(Below.refl _ _).alloc (Nat.le_refl _) _, Blk.new w [.int .i64 f.name, .slice f.pa f.pn f.pc, .int .i64 f.regs, .slice f.sa f.sn f.sc] 25⟩
  have HSM := Lib.hid fun wx (h : Below w.heap.size w wx) => smallK_ok wx f (hf.below h)
  have HIN := Lib.hid fun wx (h : Below w.heap.size w wx) K (hK : I64 K) => lallocate_any wx f (hf.below h) K hK
  have HRA := Lib.hid fun wx (h : Below w.heap.size w wx) => ranges_any wx f (hf.below h)
  have HCF := Lib.hid fun wx => allocFact_ok wx
  unfold VF.v at HSM HIN HRA ⊢
  obtain ⟨pa, hpa⟩ : ∃ s, s = f.pa := ⟨_, rfl⟩
  obtain ⟨sa, hsa⟩ : ∃ s, s = f.sa := ⟨_, rfl⟩
  rw [← hpa, ← hsa] at hb0 HSM HIN HRA ⊢
  have HB0 := Lib.hid hb0
  obtain ⟨fe, hfe⟩ : ∃ x, x = fnE f := ⟨_, rfl⟩
  have HFQ := Lib.hid hfe
  have hk1 := hk.1
  have hk2 := hk.2
  clear hf hb0 hpa hsa hfe hk
  go_enter Try.func8, Try.ntmps8
  go_upto_region 1 with fail
  generalize w.alloc (.cells #[.int .i64 f.name, .slice pa f.pn f.pc, .int .i64 f.regs, .slice sa f.sn f.sc] 25) = w1 at HB0 ⊢
  go_wp2_with fail
  refine (HCF.out w1).mono ?_
  rintro e w2 ⟨rfl, hb2⟩
  have HB2 := Lib.hid (HB0.out.below hb2)
  clear hb2 HB0 HCF
  have c0 := HB2.out.box.cell 0
  have c1 := HB2.out.box.cell 1
  have c2 := HB2.out.box.cell 2
  have c3 := HB2.out.box.cell 3
  simp only [List.getElem?_cons_zero, List.getElem?_cons_succ] at c0 c1 c2 c3
  go_wp2_with fail
  refine (HRA.out w2 HB2.out.be).mono ?_
  rintro e w3 ⟨hb3, h⟩
  have HB3 := Lib.hid (HB2.out.below hb3)
  clear hb3 c0 c1 c2 c3 HRA
  have c0 := HB3.out.box.cell 0
  have c1 := HB3.out.box.cell 1
  have c2 := HB3.out.box.cell 2
  have c3 := HB3.out.box.cell 3
  simp only [List.getElem?_cons_zero, List.getElem?_cons_succ] at c0 c1 c2 c3
  rcases h with ⟨hne, rfl⟩ | ⟨hz, n, nb, lg, lc, l, hok, rfl, hrow, hrp, hcn⟩
  · rw [← HFQ.out] at hne ⊢
    have hne' : (fe == 0) = false := by simpa using hne
    clear hne
    go_wp2_with fail
    refine (HSM.out w3 HB3.out.be).mono ?_
    rintro e w4 ⟨sm, rfl, hsm, hb4⟩
    have HB4 := Lib.hid (HB3.out.below hb4)
    clear hb4 hsm c0 c1 c2 c3
    cases sm
    all_goals
      go_wp2_with fail
      go_ret
      exact ⟨rfl, HB4.out.be⟩
  · have HOK := Lib.hid hok
    have HROW := Lib.hid hrow
    have HRP := Lib.hid hrp
    have HFN := Lib.hid hz
    obtain ⟨p9, hp9⟩ := (⟨fun r => @decide _ (Classical.propDecidable (OccP f nb r)), fun r => @decide_eq_true_iff _ (Classical.propDecidable _)⟩ : ∃ p : Nat → Bool, ∀ r, p r = true ↔ OccP f nb r)
    have hll : l.length ≤ n := by
      rw [hcn p9 fun r _ _ => hp9 r]
      exact Nat.le_trans (List.length_filter_le ..) (by simp)
    obtain ⟨N, hN⟩ : ∃ N, N = l.length := ⟨_, rfl⟩
    have HN := Lib.hid hN
    have hn8 : n ≤ 8192 := by have h1 := hok.n2; omega
    rw [← hN] at hll ⊢
    have hN8 : N ≤ 8192 := by omega
    obtain ⟨B2, hB2⟩ : ∃ x, x = w2.heap.size := ⟨_, rfl⟩
    rw [← hB2] at HROW
    clear hz hok hrow hrp hcn hp9 hB2 hN HB2 hll hn8
    go_wp2_with fail
    refine (HSM.out w3 HB3.out.be).mono ?_
    rintro e w4 ⟨sm, rfl, hsm, hb4⟩
    have HB4 := Lib.hid (HB3.out.below hb4)
    have HROW4 := Lib.hid (HROW.out.below hb4)
    clear hb4 hsm c0 c1 c2 c3 HB3 HROW HSM
    cases sm with
    | false =>
      go_wp2_with fail
      go_ret
      exact ⟨rfl, HB4.out.be⟩
    | true =>
      go_wp2_with fail
      go_loopw [7, 30] (fun u7 u wx => ∃ i m : Nat, i ≤ N ∧ m ≤ N ∧ u = .int .i64 (i : Int) ∧ u7 = .int .i64 (m : Int) ∧ BoxV f w wx pa sa ∧ RgRow wx B2 (some ⟨lg, 0, none⟩) lc l ∧ ∀ j (hj : j < l.length), j < i → l[j].s = false ∧ crossN l l[j] ≤ m) (fun _ u _ => N - (intOf u).toNat)
      case atStart => exact ⟨0, 0, Nat.zero_le _, Nat.zero_le _, rfl, rfl, HB4.out, HROW4.out, fun j hj h => by omega⟩
      case round =>
        clear HB4 HROW4
        obtain ⟨i, m, hi, hm, rfl, rfl, hbx, hrow, hall⟩ := hrel
        have HBX := Lib.hid hbx
        have HROW := Lib.hid hrow
        have HALL := Lib.hid hall
        clear hbx hrow hall
        by_cases hlt : i < N
        ·
          have hil : i < l.length := by rw [← HN.out]; exact hlt
          obtain ⟨c0, c1, c2, c3⟩ := HROW.out.cells hil
          have hgw := (HROW.out.lt lg rfl).2
          have hcap : N ≤ lc ∧ lc ≤ 9223372036854775807 := by
            obtain ⟨g9, hgg9, _, _, hcap1, hcap2⟩ := HROW.out.has (by omega)
            unfold maxLen at hcap2
            rw [← HN.out] at hcap1
            exact ⟨hcap1, by omega⟩
          obtain ⟨hcap1, hcap2⟩ := hcap
          obtain ⟨x, hx⟩ : ∃ x, x = l[i] := ⟨_, rfl⟩
          rw [← hx] at c0 c1 c2 c3
          have HX := Lib.hid hx
          have hii : (i : Int) < (N : Int) := by omega
          have hab : Below wr.heap.size wr (wr.alloc (.cells #[.int .i64 x.r, .int .i64 x.b, .int .i64 x.e, .bool x.s] 46)) := (Below.refl _ _).alloc (Nat.le_refl _) _
          have HB1 := Lib.hid (HBX.out.below hab)
          have HR1 := Lib.hid (HROW.out.below hab)
          have HXB : Hid (Blk (wr.alloc (.cells #[.int .i64 x.r, .int .i64 x.b, .int .i64 x.e, .bool x.s] 46)) wr.heap.size 46 [.int .i64 x.r, .int .i64 x.b, .int .i64 x.e, .bool x.s]) := Blk.new wr _ _
          clear hab hx
          go_upto_region 10 with fail
          obtain ⟨xp, hxp⟩ : ∃ xp, xp = wr.heap.size := ⟨_, rfl⟩
          rw [← hxp] at HXB ⊢
          clear hxp c0 c1 c2 c3 hgw HBX HROW
          generalize wr.alloc (.cells #[.int .i64 x.r, .int .i64 x.b, .int .i64 x.e, .bool x.s] 46) = w2x at HB1 HR1 HXB ⊢
          go_wp2_with fail
          go_loopw [10, 36] (fun u10 u wx => ∃ j : Nat, j ≤ N ∧ u = .int .i64 (j : Int) ∧ u10 = .int .i64 (cntC l x j : Int) ∧ BoxV f w wx pa sa ∧ RgRow wx B2 (some ⟨lg, 0, none⟩) lc l ∧ Blk wx xp 46 [.int .i64 x.r, .int .i64 x.b, .int .i64 x.e, .bool x.s]) (fun _ u _ => N - (intOf u).toNat)
          case atStart => exact ⟨0, Nat.zero_le _, rfl, rfl, HB1.out, HR1.out, HXB.out⟩
          case round =>
            clear HB1 HR1 HXB
            obtain ⟨j, hj, rfl, rfl, hbx, hrow, hxb⟩ := hrel
            have HBX := Lib.hid hbx
            have HROW := Lib.hid hrow
            have HXB := Lib.hid hxb
            clear hbx hrow hxb
            have hcj := cntC_le l x j
            by_cases hjl : j < N
            ·
              have hjl2 : j < l.length := by rw [← HN.out]; exact hjl
              obtain ⟨c0, c1, c2, c3⟩ := HROW.out.cells hjl2
              have hgw := (HROW.out.lt lg rfl).2
              have HY1 := Lib.hid (cntC_yes (x := x) hjl2)
              have HY0 := Lib.hid (cntC_no (x := x) hjl2)
              obtain ⟨cj, hcq⟩ : ∃ c, c = cntC l x j := ⟨_, rfl⟩
              rw [← hcq] at hcj HY1 HY0 ⊢
              obtain ⟨y, hy⟩ : ∃ y, y = l[j] := ⟨_, rfl⟩
              rw [← hy] at c0 c1 c2 c3 HY1 HY0
              have hab : Below wr.heap.size wr (wr.alloc (.cells #[.int .i64 y.r, .int .i64 y.b, .int .i64 y.e, .bool y.s] 46)) := (Below.refl _ _).alloc (Nat.le_refl _) _
              have HB1 := Lib.hid (HBX.out.below hab)
              have HR1 := Lib.hid (HROW.out.below hab)
              have HX1 := Lib.hid (HXB.out.below hab (Blk.lt HXB.out))
              have HYB : Hid (Blk (wr.alloc (.cells #[.int .i64 y.r, .int .i64 y.b, .int .i64 y.e, .bool y.s] 46)) wr.heap.size 46 [.int .i64 y.r, .int .i64 y.b, .int .i64 y.e, .bool y.s]) := Blk.new wr _ _
              have hjj : (j : Int) < (N : Int) := by omega
              clear hab hy hcq
              go_upto_region 14 with fail
              obtain ⟨yp, hyp⟩ : ∃ yp, yp = wr.heap.size := ⟨_, rfl⟩
              rw [← hyp] at HYB ⊢
              clear hyp c0 c1 c2 c3 hgw HBX HROW HXB
              generalize wr.alloc (.cells #[.int .i64 y.r, .int .i64 y.b, .int .i64 y.e, .bool y.s] 46) = w2y at HB1 HR1 HX1 HYB ⊢
              have x1 := HX1.out.cell 1
              have y1 := HYB.out.cell 1
              have y2 := HYB.out.cell 2
              simp only [List.getElem?_cons_zero, List.getElem?_cons_succ] at x1 y1 y2
              by_cases g1 : y.b ≤ x.b
              · by_cases g2 : x.b ≤ y.e
                · have hq := HY1.out ⟨g1, g2⟩
                  have HQ := Lib.hid hq
                  clear hq HY1 HY0
                  go_wp2_with fail
                  go_roundw
                  case rel => exact ⟨j + 1, by omega, by go_num, by rw [HQ.out]; go_num, HB1.out, HR1.out, HX1.out⟩
                  case measure => simp [intOf]; omega
                · have hq := HY0.out fun h => g2 h.2
                  have HQ := Lib.hid hq
                  clear hq HY1 HY0
                  go_wp2_with fail
                  go_roundw
                  case rel => exact ⟨j + 1, by omega, by go_num, by rw [HQ.out], HB1.out, HR1.out, HX1.out⟩
                  case measure => simp [intOf]; omega
              · have hq := HY0.out fun h => g1 h.1
                have HQ := Lib.hid hq
                clear hq HY1 HY0
                go_wp2_with fail
                go_roundw
                case rel => exact ⟨j + 1, by omega, by go_num, by rw [HQ.out], HB1.out, HR1.out, HX1.out⟩
                case measure => simp [intOf]; omega
            ·
              have ej : N = j := by omega
              have HC : Hid (cntC l x j = crossN l x) := by show _ = _; rw [← ej, HN.out]; exact cntC_all l x
              have x3 := HXB.out.cell 3
              simp only [List.getElem?_cons_zero, List.getElem?_cons_succ] at x3
              obtain ⟨cj, hcq⟩ : ∃ c, c = cntC l x j := ⟨_, rfl⟩
              rw [← hcq] at hcj HC ⊢
              clear hcq
              obtain ⟨xs, hxs⟩ : ∃ s, s = x.s := ⟨_, rfl⟩
              rw [← hxs] at x3
              have HXS := Lib.hid hxs
              clear hxs
              subst ej
              cases xs with
              | true =>
                by_cases g : m < cj
                all_goals
                  go_wp2_with fail
                  go_ret
                  exact ⟨rfl, HBX.out.be⟩
              | false =>
                by_cases g : m < cj
                · have g' : (m : Int) < (cj : Int) := by omega
                  go_wp2_with fail
                  go_roundw
                  case rel =>
                    refine ⟨i + 1, cj, by omega, by omega, by go_num, rfl, HBX.out, HROW.out, fun j' hj' hji => ?_⟩
                    rcases Nat.lt_or_ge j' i with h1 | h1
                    · exact ⟨(HALL.out j' hj' h1).1, Nat.le_trans (HALL.out j' hj' h1).2 (by omega)⟩
                    · obtain rfl : i = j' := by omega
                      rw [← HX.out]
                      exact ⟨HXS.out.symm, Nat.le_of_eq HC.out.symm⟩
                  case measure => simp [intOf]; omega
                · have g' : ¬ (m : Int) < (cj : Int) := by omega
                  go_wp2_with fail
                  go_roundw
                  case rel =>
                    refine ⟨i + 1, m, by omega, by omega, by go_num, rfl, HBX.out, HROW.out, fun j' hj' hji => ?_⟩
                    rcases Nat.lt_or_ge j' i with h1 | h1
                    · exact HALL.out j' hj' h1
                    · obtain rfl : i = j' := by omega
                      rw [← HX.out]
                      exact ⟨HXS.out.symm, by rw [← HC.out]; omega⟩
                  case measure => simp [intOf]; omega
        ·
          have ei : N = i := by omega
          have HALL2 : Hid (∀ x ∈ l, x.s = false ∧ crossN l x ≤ m) := fun x hx => by
            obtain ⟨j, hj, rfl⟩ := List.getElem_of_mem hx
            exact HALL.out j hj (by rw [← ei, HN.out]; exact hj)
          clear HALL
          subst ei
          by_cases h10 : 10 < m
          · have g' : (10 : Int) < (m : Int) := by omega
            go_wp2_with fail
            go_ret
            exact ⟨rfl, HBX.out.be⟩
          · have g' : ¬ (10 : Int) < (m : Int) := by omega
            have c0 := HBX.out.box.cell 0
            have c1 := HBX.out.box.cell 1
            have c2 := HBX.out.box.cell 2
            have c3 := HBX.out.box.cell 3
            simp only [List.getElem?_cons_zero, List.getElem?_cons_succ] at c0 c1 c2 c3
            have HFIN : Hid (∀ (K : Int) (a : AL) (n' nb' : Nat), (m : Int) ≤ K → FnOk f n' nb' → LinLaw f n' nb' K.toNat a → a.k = 0) := fun K a n' nb' hK hok' hlaw => by
              obtain rfl : n' = n := by have h1 := hok'.regs; have h2 := HOK.out.regs; omega
              obtain rfl : nb' = nb := by have h1 := hok'.nbl; have h2 := HOK.out.nbl; omega
              exact lin_none hlaw HRP.out (fun x hx => (HALL2.out x hx).1) fun x hx => Nat.le_trans (HALL2.out x hx).2 (by omega)
            clear HALL2 HROW
            rcases Nat.eq_zero_or_pos m with hm0 | hm0
            · subst hm0
              go_wp2_with fail
              refine (rest_any k 10 wr (by omega) (by omega)).mono ?_
              rintro e wz ⟨rfl, rfl⟩
              obtain ⟨r, hr⟩ : ∃ r, r = k % 10 := ⟨_, rfl⟩
              have hr1 : 0 ≤ r := by rw [hr]; exact Int.emod_nonneg _ (by omega)
              have hr2 : r < 10 := by rw [hr]; exact Int.emod_lt_of_pos _ (by omega)
              rw [← hr]
              clear hr
              have HI := Lib.hid (HIN.out wr HBX.out.be (1 + r) (by unfold I64; omega))
              go_wp2_with fail
              refine HI.out.mono ?_
              rintro e w5 ⟨hb5, h⟩
              have HB5 := Lib.hid (HBX.out.below hb5)
              rcases h with ⟨h, _⟩ | ⟨_, h, _⟩ | ⟨_, hK, n', nb', a, hfo, rfl, hao, hrn, hsn, hlaw⟩
              · exact absurd HFN.out h
              · exact absurd (by omega) h
              · have ha0 := HFIN.out (1 + r) a n' nb' (by omega) hfo hlaw
                have HB6 : Hid (∀ o, Below w.heap.size w (w5.alloc o)) := fun o => HB5.out.be.alloc HB5.out.be.size o
                unfold AL.v
                rw [ha0]
                clear hb5 hfo hao hrn hsn hlaw ha0 HFIN hK HI HB5 HIN c0 c1 c2 c3
                go_wp2_with fail
                go_ret
                exact ⟨rfl, HB6.out _⟩
            · have g2 : ¬ (m : Int) < 1 := by omega
              have g3 : (1 : Int) ≤ m := by omega
              go_wp2_with fail
              refine (rest_any k (11 - (m : Int)) wr (by omega) (by omega)).mono ?_
              rintro e wz ⟨rfl, rfl⟩
              obtain ⟨r, hr⟩ : ∃ r, r = k % (11 - (m : Int)) := ⟨_, rfl⟩
              have hr1 : 0 ≤ r := by rw [hr]; exact Int.emod_nonneg _ (by omega)
              have hr2 : r < (11 - (m : Int)) := by rw [hr]; exact Int.emod_lt_of_pos _ (by omega)
              rw [← hr]
              clear hr
              have HI := Lib.hid (HIN.out wr HBX.out.be ((m : Int) + r) (by unfold I64; omega))
              go_wp2_with fail
              refine HI.out.mono ?_
              rintro e w5 ⟨hb5, h⟩
              have HB5 := Lib.hid (HBX.out.below hb5)
              rcases h with ⟨h, _⟩ | ⟨_, h, _⟩ | ⟨_, hK, n', nb', a, hfo, rfl, hao, hrn, hsn, hlaw⟩
              · exact absurd HFN.out h
              · exact absurd (by omega) h
              · have ha0 := HFIN.out ((m : Int) + r) a n' nb' (by omega) hfo hlaw
                have HB6 : Hid (∀ o, Below w.heap.size w (w5.alloc o)) := fun o => HB5.out.be.alloc HB5.out.be.size o
                unfold AL.v
                rw [ha0]
                clear hb5 hfo hao hrn hsn hlaw ha0 HFIN hK HI HB5 HIN c0 c1 c2 c3
                go_wp2_with fail
                go_ret
                exact ⟨rfl, HB6.out _⟩
end Go.Proofs.Ytlaogkbdjkofaaa
