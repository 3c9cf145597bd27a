/- The walk of ColorInterferes. -/
import Derived.Test.YtlaogkbdjkofaaaColCl
import Derived.Test.YtlaogkbdjkofaaaColAlloc
import Derived.Test.YtlaogkbdjkofaaaVSmall
import Derived.Test.YtlaogkbdjkofaaaVFnErr
namespace Go.Proofs.Ytlaogkbdjkofaaa
open Go.RowKit
set_option linter.unusedVariables false
set_option linter.unusedSimpArgs false

set_option maxRecDepth 100000 in
theorem eq2I (x y : Int) (w : World) : (Op.equalIn 10000 41 (.agg #[.int .i64 x, .int .i64 y]) (.agg #[.int .i64 x, .int .i64 y])).run Try.prog w = .ok true w := by
  have u3 := Try.underlying3
  have a3 := Try.isAgg3
  have z3 := Try.sizeOf3
  rw [show (10000 : Nat) = 9999 + 1 from rfl, Op.equalIn]
  simp only [Sem.run_bind, run_underlying Try.underlying41, Result.andThen_ok]
  simp only [Std.Legacy.Range.forIn_eq_forIn_range', Std.Legacy.Range.size, Nat.sub_zero, Nat.add_sub_cancel, Nat.div_one, List.range'_succ, List.range'_zero, List.forIn_cons, List.forIn_nil]
  go_simp
theorem rowTo_pre (X : Nat → Nat → Bool) (a : Nat) {m n : Nat} (h : m ≤ n) : ∃ r, rowTo X a n = rowTo X a m ++ r := by
  induction n with
  | zero =>
    obtain rfl : m = 0 := by omega
    exact ⟨[], by simp⟩
  | succ n ih =>
    by_cases e : m = n + 1
    · subst e; exact ⟨[], by simp⟩
    · obtain ⟨r, hr⟩ := ih (by omega)
      rw [rowTo_snoc, hr]
      exact ⟨r ++ _, by rw [List.append_assoc]⟩
theorem pairsTo_pre (X : Nat → Nat → Bool) (n : Nat) {m k : Nat} (h : m ≤ k) : ∃ r, pairsTo X n k = pairsTo X n m ++ r := by
  induction k with
  | zero =>
    obtain rfl : m = 0 := by omega
    exact ⟨[], by simp⟩
  | succ k ih =>
    by_cases e : m = k + 1
    · subst e; exact ⟨[], by simp⟩
    · obtain ⟨r, hr⟩ := ih (by omega)
      rw [pairsTo_snoc, hr]
      exact ⟨r ++ _, by rw [List.append_assoc]⟩
theorem pairs_at (X : Nat → Nat → Bool) {n a b : Nat} (ha : a < n) (hb : b < n) (hab : a < b) (hx : X a b = true) : (pairsTo X n n)[(pairsTo X n a ++ rowTo X a b).length]? = some ((a : Int), (b : Int)) := by
  obtain ⟨r1, h1⟩ := pairsTo_pre X n (show a + 1 ≤ n by omega)
  obtain ⟨r2, h2⟩ := rowTo_pre X a (show b + 1 ≤ n by omega)
  rw [h1, pairsTo_snoc, h2, rowTo_snoc, if_pos ⟨hab, hx⟩]
  rw [show pairsTo X n a ++ (rowTo X a b ++ [((a : Int), (b : Int))] ++ r2) ++ r1 = (pairsTo X n a ++ rowTo X a b) ++ (((a : Int), (b : Int)) :: (r2 ++ r1)) by simp]
  rw [List.getElem?_append_right (Nat.le_refl _), Nat.sub_self]
  rfl
theorem pairs_le (X : Nat → Nat → Bool) {n a b : Nat} (ha : a < n) (hb : b ≤ n) : (pairsTo X n a ++ rowTo X a b).length ≤ (pairsTo X n n).length := by
  obtain ⟨r1, h1⟩ := pairsTo_pre X n (show a + 1 ≤ n by omega)
  obtain ⟨r2, h2⟩ := rowTo_pre X a hb
  rw [h1, pairsTo_snoc, h2]
  simp only [List.length_append]
  omega
set_option maxRecDepth 100000 in
set_option maxHeartbeats 8000000 in
theorem colorInterferes_walk (f : VF) (w : World) (hf : f.Ok w) : Calls Try.prog 4 #[f.v] w fun e w' => e = .returned (.bool true) ∧ Below w.heap.size w w' := by
  have hb0 : BoxV f w (w.alloc (.cells #[.int .i64 f.name, .slice f.pa f.pn f.pc, .int .i64 f.regs, .slice f.sa f.sn f.sc] 25)) f.pa f.sa := ⟨(Below.refl _ _).alloc (Nat.le_refl _) _, Blk.new w [.int .i64 f.name, .slice f.pa f.pn f.pc, .int .i64 f.regs, .slice f.sa f.sn f.sc] 25⟩
  have HSM := Lib.hid fun wx (h : Below w.heap.size w wx) => small_ok wx f (hf.below h)
  have HIN := Lib.hid fun wx (h : Below w.heap.size w wx) => interfere_any wx f (hf.below h)
  have HFE := Lib.hid fun wx (h : Below w.heap.size w wx) => fnError_any wx f (hf.below h)
  have HCL := Lib.hid fun wx (h : Below w.heap.size w wx) n nb (h1 : FnOk f n nb) a b (h2 : 1 ≤ a ∧ a < n) (h3 : 1 ≤ b ∧ b < n) (h4 : a ≠ b) => clash_any wx f (hf.below h) n nb h1 a b h2 h3 h4
  have HCF := Lib.hid fun wx => colorFact_ok wx
  unfold VF.v at HSM HIN HFE HCL ⊢
  obtain ⟨pa, hpa⟩ : ∃ s, s = f.pa := ⟨_, rfl⟩
  obtain ⟨sa, hsa⟩ : ∃ s, s = f.sa := ⟨_, rfl⟩
  rw [← hpa, ← hsa] at hb0 HSM HIN HFE HCL ⊢
  have HB0 := Lib.hid hb0
  obtain ⟨fe, hfe⟩ : ∃ x, x = fnE f := ⟨_, rfl⟩
  have HFQ := Lib.hid hfe
  rw [← hfe] at HFE
  clear hf hb0 hpa hsa hfe
  go_enter Try.func4, Try.ntmps4
  go_upto_region 1 with fail
  generalize w.alloc (.cells #[.int .i64 f.name, .slice pa f.pn f.pc, .int .i64 f.regs, .slice sa f.sn f.sc] 25) = w1 at HB0 ⊢
  go_wp2_with fail
  refine (HCF.out w1).mono ?_
  rintro e w2 ⟨rfl, hb2⟩
  have HB2 := Lib.hid (HB0.out.below hb2)
  clear hb2 HB0 HCF
  have c0 := HB2.out.box.cell 0
  have c1 := HB2.out.box.cell 1
  have c2 := HB2.out.box.cell 2
  have c3 := HB2.out.box.cell 3
  simp only [List.getElem?_cons_zero, List.getElem?_cons_succ] at c0 c1 c2 c3
  go_wp2_with fail
  refine (HSM.out w2 HB2.out.be).mono ?_
  rintro e w3 ⟨sm, rfl, hsm, hb3⟩
  have HB3 := Lib.hid (HB2.out.below hb3)
  clear hb3 HB2 c0 c1 c2 c3 HSM
  cases sm with
  | false =>
    go_wp2_with fail
    go_ret
    exact ⟨rfl, HB3.out.be⟩
  | true =>
    obtain ⟨h40, h12⟩ := hsm rfl
    clear hsm
    have c0 := HB3.out.box.cell 0
    have c1 := HB3.out.box.cell 1
    have c2 := HB3.out.box.cell 2
    have c3 := HB3.out.box.cell 3
    simp only [List.getElem?_cons_zero, List.getElem?_cons_succ] at c0 c1 c2 c3
    go_wp2_with fail
    refine (HIN.out w3 HB3.out.be).mono ?_
    rintro e w4 ⟨hb4, ⟨hne, rfl⟩ | ⟨hz, n, nb, X, la, lc, hok, hX, hX0, rfl, hown⟩⟩
    · rw [← HFQ.out] at hne ⊢
      have hne' : (fe == 0) = false := by simpa using hne
      have HB4 := Lib.hid (HB3.out.below hb4)
      clear hb4 HB3 c0 c1 c2 c3 hne HIN
      have c0 := HB4.out.box.cell 0
      have c1 := HB4.out.box.cell 1
      have c2 := HB4.out.box.cell 2
      have c3 := HB4.out.box.cell 3
      simp only [List.getElem?_cons_zero, List.getElem?_cons_succ] at c0 c1 c2 c3
      go_wp2_with fail
      refine (HFE.out w4 HB4.out.be).mono ?_
      rintro e w5 ⟨rfl, hb5⟩
      have HB5 := Lib.hid (HB4.out.below hb5)
      clear hb5 HB4 c0 c1 c2 c3 HFE
      go_wp2_with fail
      go_ret
      exact ⟨rfl, HB5.out.be⟩
    · obtain rfl : fe = 0 := HFQ.out.trans hz
      have HB4 := Lib.hid (HB3.out.below hb4)
      have HOK := Lib.hid hok
      have HX := Lib.hid hX
      have HX0 := Lib.hid hX0
      have HOWN := Lib.hid hown
      have hn2 := hok.n2
      have hreg := hok.regs
      have hn40 : n ≤ 40 := by omega
      have HREG := Lib.hid hreg
      have hpl : (pairsTo X n n).length ≤ 1600 := Nat.le_trans (pairsTo_len X n n) (Nat.mul_le_mul hn40 hn40)
      clear hb4 HB3 hok hX hX0 hown hreg c0 c1 c2 c3 HIN hz h40
      have c0 := HB4.out.box.cell 0
      have c1 := HB4.out.box.cell 1
      have c2 := HB4.out.box.cell 2
      have c3 := HB4.out.box.cell 3
      simp only [List.getElem?_cons_zero, List.getElem?_cons_succ] at c0 c1 c2 c3
      go_wp2_with fail
      refine (HFE.out w4 HB4.out.be).mono ?_
      rintro e w5 ⟨rfl, hb5⟩
      have HB5 := Lib.hid (HB4.out.below hb5)
      have HOWN5 := Lib.hid (ownG_below HOWN.out hb5)
      clear hb5 HB4 HOWN c0 c1 c2 c3 HFE
      obtain ⟨N, hN⟩ : ∃ N, N = (pairsTo X n n).length := ⟨_, rfl⟩
      rw [← hN] at HOWN5 hpl ⊢
      have HN := Lib.hid hN
      clear hN
      have h10 : pairsTo X n 1 = [] := by
        rw [pairsTo_snoc]
        unfold pairsTo rowTo
        simp only [List.range_zero, List.flatMap_nil, List.nil_append]
        rw [List.map_eq_nil_iff, List.filter_eq_nil_iff]
        intro b _
        rw [HX0.out b]; simp
      have H10 := Lib.hid h10
      have HBI := HB5
      clear h10
      go_wp2_with fail
      go_loopw [6, 7] (fun u6 u7 wx => ∃ a : Nat, 1 ≤ a ∧ a ≤ n ∧ u7 = .int .i64 (a : Int) ∧ u6 = .int .i64 ((pairsTo X n a).length : Int) ∧ BoxV f w wx pa sa ∧ wx.ownsRow w3.heap.size 41 2 (.slice la N lc) N ((pairsTo X n n).flatMap wpC)) (fun _ u _ => n - (intOf u).toNat)
      case atStart => exact ⟨1, Nat.le_refl _, hn2.1, rfl, by rw [H10.out]; rfl, HBI.out, HOWN5.out⟩
      case round =>
        clear HBI HB5 HOWN5
        obtain ⟨a, ha1, ha2, rfl, rfl, hbx, how⟩ := hrel
        have HBX := Lib.hid hbx
        have HOW := Lib.hid how
        clear hbx how
        have c2 := HBX.out.box.cell 2
        simp only [List.getElem?_cons_zero, List.getElem?_cons_succ] at c2
        rw [HREG.out] at c2
        by_cases hlt : a < n
        · have hrn := rowTo_nil X a
          have HL0 : Hid ((pairsTo X n a).length = (pairsTo X n a ++ rowTo X a (a + 1)).length) := by show _ = _; rw [hrn, List.append_nil]
          have HPS := Lib.hid (pairsTo_snoc X n a)
          have hpll := pairs_le X hlt (show a + 1 ≤ n by omega)
          rw [← HL0.out, ← HN.out] at hpll
          clear hrn
          go_wp2_with fail
          clear c2
          rw [HL0.out]
          clear hpll HL0
          go_loopw [6, 8] (fun u6 u8 wx => ∃ b : Nat, a + 1 ≤ b ∧ b ≤ n ∧ u8 = .int .i64 (b : Int) ∧ u6 = .int .i64 ((pairsTo X n a ++ rowTo X a b).length : Int) ∧ BoxV f w wx pa sa ∧ wx.ownsRow w3.heap.size 41 2 (.slice la N lc) N ((pairsTo X n n).flatMap wpC)) (fun _ u _ => n - (intOf u).toNat)
          case atStart => exact ⟨a + 1, Nat.le_refl _, by omega, by go_num, rfl, HBX.out, HOW.out⟩
          case round =>
            clear HBX HOW
            obtain ⟨b, hb1, hb2, rfl, rfl, hbx, how⟩ := hrel
            have HBX := Lib.hid hbx
            have HOW := Lib.hid how
            clear hbx how
            have c0 := HBX.out.box.cell 0
            have c1 := HBX.out.box.cell 1
            have c2 := HBX.out.box.cell 2
            have c3 := HBX.out.box.cell 3
            simp only [List.getElem?_cons_zero, List.getElem?_cons_succ] at c0 c1 c2 c3
            by_cases hbl : b < n
            · have HCA := Lib.hid (HCL.out wr HBX.out.be n nb HOK.out a b ⟨ha1, hlt⟩ ⟨by omega, hbl⟩ (by omega))
              have hbI : (b : Int) < f.regs := by rw [HREG.out]; omega
              have hle := pairs_le X hlt hb2
              rw [← HN.out] at hle
              obtain ⟨k, hk⟩ : ∃ k, k = (pairsTo X n a ++ rowTo X a b).length := ⟨_, rfl⟩
              rw [← hk] at hle ⊢
              have HK := Lib.hid hk
              clear hk
              go_wp2_with fail
              refine HCA.out.mono ?_
              rintro e w7 ⟨t, rfl, ht, hb7⟩
              have HB7 := Lib.hid (HBX.out.below hb7)
              have HO7 := Lib.hid (ownG_below HOW.out hb7)
              have hxt : X a b = t := Bool.eq_iff_iff.2 ((HX.out a b ⟨ha1, hlt⟩ ⟨by omega, hbl⟩ (by omega)).trans ht.symm)
              have hrs := rowTo_snoc X a b
              rw [hxt] at hrs
              clear hb7 HBX HOW c0 c1 c2 c3 HCA ht
              cases t with
              | false =>
                have HN2 : Hid (((pairsTo X n a ++ rowTo X a (b + 1)).length : Int) = (k : Int)) := by show _ = _; rw [HK.out, hrs]; simp
                clear hrs hxt
                go_wp2_with fail
                go_roundw
                case rel => exact ⟨b + 1, by omega, by omega, by go_num, by rw [HN2.out], HB7.out, HO7.out⟩
                case measure => simp [intOf]; omega
              | true =>
                have hpa := pairs_at X hlt hbl (by omega) hxt
                have hle2 := pairs_le X hlt (show b + 1 ≤ n by omega)
                have hk2 : (pairsTo X n a ++ rowTo X a (b + 1)).length = k + 1 := by rw [HK.out, hrs, if_pos ⟨by omega, rfl⟩]; simp; omega
                rw [hk2, ← HN.out] at hle2
                have HK2 := Lib.hid hk2
                rw [← HK.out] at hpa
                have hkn : k < N := by omega
                have hgt2 : (pairsTo X n n)[k]'(by rw [← HN.out]; exact hkn) = ((a : Int), (b : Int)) := by
                  rw [List.getElem?_eq_getElem (by rw [← HN.out]; exact hkn)] at hpa
                  injection hpa
                have HO8 : wpC ((pairsTo X n n)[k]'(by rw [← HN.out]; exact hkn)) = [.int .i64 (a : Int), .int .i64 (b : Int)] := by rw [hgt2]; rfl
                have hoo := HO7.out
                rw [HN.out] at hoo
                obtain ⟨q, rfl, hql, hq1, hq2, m0, m1⟩ := mvs_cells hoo (i := k) (by rw [← HN.out]; exact hkn)
                rw [hgt2] at m0 m1
                rw [← HN.out] at hq1
                unfold maxLen at hq2
                have HEQ := eq2I (a : Int) (b : Int)
                have hgt : Try.prog.eqGuardType Try.prog.depth 41 = false := by kernel_rfl
                have hkN : ((k : Int) == (N : Int)) = false := by simp; omega
                simp only at m0 m1
                clear hrs hxt hpa hk2 hgt2 HO8 hoo
                go_wp2_with fail
                go_roundw
                case rel => exact ⟨b + 1, by omega, by omega, by go_num, by rw [HK2.out]; go_num, HB7.out, HO7.out⟩
                case measure => simp [intOf]; omega
            · have eb : n = b := by omega
              subst eb
              have hnI : ¬ ((n : Int) < f.regs) := by rw [HREG.out]; omega
              rw [← HPS.out]
              go_wp2_with fail
              go_roundw
              case rel => exact ⟨a + 1, by omega, by omega, by go_num, rfl, HBX.out, HOW.out⟩
              case measure => simp [intOf]; omega
        · have ea : n = a := by omega
          subst ea
          rw [← HN.out]
          go_wp2_with fail
          go_ret
          exact ⟨rfl, HBX.out.be⟩
end Go.Proofs.Ytlaogkbdjkofaaa
