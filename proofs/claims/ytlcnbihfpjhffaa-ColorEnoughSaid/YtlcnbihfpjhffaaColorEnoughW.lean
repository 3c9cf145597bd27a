/- The walk of ColorEnough. -/
import Derived.Test.YtlcnbihfpjhffaaColDeg
import Derived.Test.YtlcnbihfpjhffaaKept
import Derived.Test.YtlcnbihfpjhffaaAllocFact
import Derived.Laws.Cover1
namespace Go.Proofs.Ytlcnbihfpjhffaa
open Go.RowKit
set_option linter.unusedVariables false
set_option linter.unusedSimpArgs false

/-- what lies in memory while the degrees are counted -/
structure DegI (f : VF) (w wx : World) (pa sa : Option Addr) (B2 : Nat) (la : Option Addr) (N lc : Nat) (P : List (Int × Int)) (dg n i : Nat) : Prop where
 bx : BoxV f w wx pa sa
 own : wx.ownsRow B2 32 2 (.slice la N lc) N (P.flatMap wpC)
 dr : Blk wx dg 3 (rowL n fun r => .int .i64 (degL (P.take i) r : Int))
 lo : w.heap.size < dg
theorem DegI.below {f : VF} {w wx w' : World} {pa sa : Option Addr} {B2 : Nat} {la : Option Addr} {N lc : Nat} {P : List (Int × Int)} {dg n i : Nat} (h : DegI f w wx pa sa B2 la N lc P dg n i) (hb : Below wx.heap.size wx w') : DegI f w w' pa sa B2 la N lc P dg n i :=
 ⟨h.bx.below hb, ownG_below h.own hb, h.dr.below hb h.dr.lt, h.lo⟩
theorem DegI.step {f : VF} {w wx : World} {pa sa : Option Addr} {B2 : Nat} {la : Option Addr} {N lc : Nat} {P : List (Int × Int)} {dg n i a b : Nat} (h : DegI f w wx pa sa B2 la N lc P dg n i) (hi : i < P.length) (hp : P[i] = ((a : Int), (b : Int))) (hab : a ≠ b) :
  DegI f w ((wx.setCell ⟨dg, a, none⟩ (.int .i64 ((degL (P.take i) a : Int) + 1))).setCell ⟨dg, b, none⟩ (.int .i64 ((degL (P.take i) b : Int) + 1))) pa sa B2 la N lc P dg n (i + 1) := by
 have hlo := h.lo
 have hown := blk_noOwn h.dr h.own (by decide)
 refine ⟨⟨(h.bx.be.setCell (by show w.heap.size ≤ dg; omega) _).setCell (by show w.heap.size ≤ dg; omega) _, ?_⟩, ownG_other (ownG_other h.own (fun e => hown e) _) (fun e => hown e) _, ?_, h.lo⟩
 ·exact (h.bx.box.setOther (a := ⟨dg, a, none⟩) (show w.heap.size ≠ dg by omega) _).setOther (a := ⟨dg, b, none⟩) (show w.heap.size ≠ dg by omega) _
 ·refine ((h.dr.rowSet a _).rowSet b _).rowCongr fun r hr => ?_
  rw [degL_take hi, hp]
  unfold degC
  by_cases e1 : r = b
  ·subst e1
   rw [if_pos rfl]
   have : ¬ ((a : Int) = (r : Int)) := by omega
   simp [this]
  ·rw [if_neg e1]
   by_cases e2 : r = a
   ·subst e2
    have : ¬ ((b : Int) = (r : Int)) := by omega
    simp [this]
   ·have h1 : ¬ ((a : Int) = (r : Int)) := by omega
    have h2 : ¬ ((b : Int) = (r : Int)) := by omega
    simp [e2, h1, h2]
set_option maxRecDepth 100000 in
set_option maxHeartbeats 8000000 in
theorem colorEnough_walk (f : VF) (w : World) (hf : f.Ok w) : Calls Try.prog 3 #[f.v] w fun e w' => e = .returned (.bool true) ∧ Below w.heap.size w w' := by
 have hb0 : BoxV f w (w.alloc (.cells #[.int .i64 f.name, .slice f.pa f.pn f.pc, .int .i64 f.regs, .slice f.sa f.sn f.sc] 25)) f.pa f.sa := ⟨(Below.refl _ _).alloc (Nat.le_refl _) _, Blk.new w [.int .i64 f.name, .slice f.pa f.pn f.pc, .int .i64 f.regs, .slice f.sa f.sn f.sc] 25⟩
 have HSM := Lib.hid fun wx (h : Below w.heap.size w wx) => smallK_ok wx f (hf.below h)
 have HIN := Lib.hid fun wx (h : Below w.heap.size w wx) => interfere_any wx f (hf.below h)
 have HAL := Lib.hid fun wx (h : Below w.heap.size w wx) k (hk : I64 k) => allocate_any wx f (hf.below h) k hk
 have HKP := Lib.hid fun wx (h : Below w.heap.size w wx) n nb (hok : FnOk f n nb) r (hr : 1 ≤ r ∧ r < n) => kept_any wx f (hf.below h) n nb hok r hr
 have HCF := Lib.hid fun wx => allocFact_ok wx
 have HF := Lib.hid hf
 unfold VF.v at HSM HIN HAL HKP ⊢
 obtain ⟨pa, hpa⟩ : ∃ s, s = f.pa := ⟨_, rfl⟩
 obtain ⟨sa, hsa⟩ : ∃ s, s = f.sa := ⟨_, rfl⟩
 rw [← hpa, ← hsa] at hb0 HSM HIN HAL HKP ⊢
 have HB0 := Lib.hid hb0
 obtain ⟨fe, hfe⟩ : ∃ x, x = fnE f := ⟨_, rfl⟩
 have HFQ := Lib.hid hfe
 clear hf hb0 hpa hsa hfe
 go_enter Try.func3, Try.ntmps3
 go_upto_region 1 with fail
 generalize w.alloc (.cells #[.int .i64 f.name, .slice pa f.pn f.pc, .int .i64 f.regs, .slice sa f.sn f.sc] 25) = w1 at HB0 ⊢
 go_wp2_with fail
 refine (HCF.out w1).mono ?_
 rintro e w2 ⟨rfl, hb2⟩
 have HB2 := Lib.hid (HB0.out.below hb2)
 clear hb2 HB0 HCF
 have c0 := HB2.out.box.cell 0
 have c1 := HB2.out.box.cell 1
 have c2 := HB2.out.box.cell 2
 have c3 := HB2.out.box.cell 3
 simp only [List.getElem?_cons_zero, List.getElem?_cons_succ] at c0 c1 c2 c3
 go_wp2_with fail
 refine (HIN.out w2 HB2.out.be).mono ?_
 rintro e w3 ⟨hb3, h⟩
 have HB3 := Lib.hid (HB2.out.below hb3)
 clear hb3 c0 c1 c2 c3 HIN
 have c0 := HB3.out.box.cell 0
 have c1 := HB3.out.box.cell 1
 have c2 := HB3.out.box.cell 2
 have c3 := HB3.out.box.cell 3
 simp only [List.getElem?_cons_zero, List.getElem?_cons_succ] at c0 c1 c2 c3
 rcases h with ⟨hne, rfl⟩ | ⟨hz, n, nb, X, la, lc, hok, hX, hX0, rfl, hown⟩
 ·rw [← HFQ.out] at hne ⊢
  have hne' : (fe == 0) = false := by simpa using hne
  clear hne
  go_wp2_with fail
  refine (HSM.out w3 HB3.out.be).mono ?_
  rintro e w4 ⟨sm, rfl, hsm, hb4⟩
  have HB4 := Lib.hid (HB3.out.below hb4)
  clear hb4 hsm c0 c1 c2 c3
  cases sm
  all_goals
   go_wp2_with fail
   go_ret
   exact ⟨rfl, HB4.out.be⟩
 ·have HOK := Lib.hid hok
  have HX := Lib.hid hX
  have HFN := Lib.hid hz
  have HPB : Hid (∀ x ∈ pairsTo X n n, ∃ a b : Nat, x = ((a : Int), (b : Int)) ∧ a < b ∧ b < n) := pairsTo_bd
  have hpl := pairsTo_len X n n
  obtain ⟨P, hP⟩ : ∃ P, P = pairsTo X n n := ⟨_, rfl⟩
  obtain ⟨N, hN⟩ : ∃ N, N = (pairsTo X n n).length := ⟨_, rfl⟩
  rw [← hN] at hown hpl ⊢
  rw [← hP] at hown HPB hN
  have HP := Lib.hid hP
  have HN := Lib.hid hN
  have HOWN := Lib.hid hown
  have HREG := Lib.hid hok.regs
  have HPL := Lib.hid hpl
  have hn2 := hok.n2
  obtain ⟨B2, hB2⟩ : ∃ x, x = w2.heap.size := ⟨_, rfl⟩
  rw [← hB2] at HOWN
  clear hz hok hX hX0 hown hP hN hB2 HB2 hpl
  go_wp2_with fail
  refine (HSM.out w3 HB3.out.be).mono ?_
  rintro e w4 ⟨sm, rfl, hsm, hb4⟩
  have HB4 := Lib.hid (HB3.out.below hb4)
  have HOWN4 := Lib.hid (ownG_below HOWN.out hb4)
  clear hb4 c0 c1 c2 c3 HB3 HOWN HSM
  cases sm with
  | false =>
   clear hsm
   go_wp2_with fail
   go_ret
   exact ⟨rfl, HB4.out.be⟩
  | true =>
   have hn60 : n ≤ 60 := by have := (hsm rfl).1; have := HREG.out; omega
   clear hsm
   have hpl2 : N ≤ 3600 := Nat.le_trans HPL.out (Nat.mul_le_mul hn60 hn60)
   have c2 := HB4.out.box.cell 2
   simp only [List.getElem?_cons_zero, List.getElem?_cons_succ] at c2
   rw [HREG.out] at c2
   have hmk : ∀ w : World, (Instr.makeSlice 22 (.int .i64 (n : Int)) (.int .i64 (n : Int))).run Try.prog w = .ok (.slice (some ⟨w.heap.size, 0, none⟩) n n) (w.alloc (.cells (rowL n fun _ => .int .i64 0).toArray 3)) := fun w => run_make_rep (P := Try.prog) 22 3 (.int .i64 0) 8 Try.underlying22 Try.infoT3 rfl n (by omega) (by omega) w
   have HD0 : Hid (DegI f w (w4.alloc (.cells (rowL n fun _ => .int .i64 0).toArray 3)) pa sa B2 la N lc P w4.heap.size n 0) := by
    have hb : Below w4.heap.size w4 (w4.alloc (.cells (rowL n fun _ => .int .i64 0).toArray 3)) := (Below.refl _ _).alloc (Nat.le_refl _) _
    refine ⟨HB4.out.below hb, ownG_below HOWN4.out hb, ?_, HB4.out.box.lt⟩
    exact (Blk.new w4 (rowL n fun _ => .int .i64 0) 3).rowCongr fun r _ => by simp [degL]
   go_upto_region 7 with fail
   obtain ⟨dg, hdg⟩ : ∃ x, x = w4.heap.size := ⟨_, rfl⟩
   rw [← hdg] at HD0 ⊢
   generalize w4.alloc (.cells (rowL n fun _ => .int .i64 0).toArray 3) = w5 at HD0 ⊢
   clear hmk hdg c2 HB4 HOWN4
   go_wp2_with fail
   go_loopw [6, 30] (fun u6 u wx => ∃ i m : Nat, i ≤ N ∧ m ≤ 2 * i ∧ u = .int .i64 (i : Int) ∧ u6 = .int .i64 (m : Int) ∧ DegI f w wx pa sa B2 la N lc P dg n i ∧ ∀ r, r < n → degL (P.take i) r ≤ m) (fun _ u _ => N - (intOf u).toNat)
   case atStart => exact ⟨0, 0, Nat.zero_le _, Nat.zero_le _, rfl, rfl, HD0.out, fun r _ => by simp [degL]⟩
   case round =>
    clear HD0
    obtain ⟨i, m, hi, hm, rfl, rfl, hd, hall⟩ := hrel
    have HD := Lib.hid hd
    have HALL := Lib.hid hall
    clear hd hall
    by_cases hlt : i < N
    ·have hil : i < P.length := by rw [← HN.out]; exact hlt
     obtain ⟨a, b, hab, h1, h2⟩ := HPB.out P[i] (List.getElem_mem hil)
     have hoo := HD.out.own
     rw [HN.out] at hoo
     obtain ⟨q, hla, hql, hq1, hq2, m0, m1⟩ := mvs_cells hoo (i := i) hil
     rw [← HN.out] at hq1
     unfold maxLen at hq2
     rw [hab] at m0 m1
     simp only at m0 m1
     have HST : Hid (∀ wx, Below wr.heap.size wr wx → DegI f w ((wx.setCell ⟨dg, a, none⟩ (.int .i64 ((degL (P.take i) a : Int) + 1))).setCell ⟨dg, b, none⟩ (.int .i64 ((degL (P.take i) b : Int) + 1))) pa sa B2 la N lc P dg n (i + 1)) := fun wx hbx => (HD.out.below hbx).step hil hab (by omega)
     have da : wr.cell? ⟨dg, a, none⟩ = some (.int .i64 (degL (P.take i) a : Int)) := HD.out.dr.row (i := a) (by omega)
     have db : wr.cell? ⟨dg, b, none⟩ = some (.int .i64 (degL (P.take i) b : Int)) := HD.out.dr.row (i := b) (by omega)
     have hfa := HD.out.dr.free a
     have hfb := HD.out.dr.free b
     have hdl := HD.out.dr.lt
     have h3 := HALL.out a (by omega)
     have h4 := HALL.out b (by omega)
     have HNX : Hid (∀ m' : Nat, m ≤ m' → degL (P.take i) a + 1 ≤ m' → degL (P.take i) b + 1 ≤ m' → ∀ r, r < n → degL (P.take (i + 1)) r ≤ m') := fun m' g1 g2 g3 r hr => by
      rw [degL_take hil, hab]
      have := HALL.out r hr
      unfold degC
      by_cases e1 : r = a
      ·subst e1
       have : ¬ ((b : Int) = (r : Int)) := by omega
       simp [this]; omega
      ·by_cases e2 : r = b
       ·subst e2
        have : ¬ ((a : Int) = (r : Int)) := by omega
        simp [this]; omega
       ·have k1 : ¬ ((a : Int) = (r : Int)) := by omega
        have k2 : ¬ ((b : Int) = (r : Int)) := by omega
        simp [k1, k2]; omega
     obtain ⟨A, hA⟩ : ∃ A, A = degL (P.take i) a := ⟨_, rfl⟩
     obtain ⟨B, hB⟩ : ∃ B, B = degL (P.take i) b := ⟨_, rfl⟩
     have HA1 : Hid (degL (P.take (i + 1)) a = degL (P.take i) a + 1) := by
      show _ = _
      rw [degL_take hil, hab]
      have : ¬ ((b : Int) = (a : Int)) := by omega
      simp [degC, this]
     have HB1 : Hid (degL (P.take (i + 1)) b = degL (P.take i) b + 1) := by
      show _ = _
      rw [degL_take hil, hab]
      have : ¬ ((a : Int) = (b : Int)) := by omega
      simp [degC, this]
     rw [← hA] at HST da h3 HNX HA1
     rw [← hB] at HST db h4 HNX HB1
     subst hla
     clear hA hB hab hoo hil HALL
     go_upto_region 13 with fail
     have hd1 := (HST.out wr (Below.refl _ _)).below ((Below.refl _ _).alloc (Nat.le_refl _) (.cells #[.int .i64 (a : Int), .int .i64 (b : Int)] 32))
     have hx1 : Blk (((wr.setCell ⟨dg, a, none⟩ (.int .i64 ((A : Int) + 1))).setCell ⟨dg, b, none⟩ (.int .i64 ((B : Int) + 1))).alloc (.cells #[.int .i64 (a : Int), .int .i64 (b : Int)] 32)) wr.heap.size 32 [.int .i64 (a : Int), .int .i64 (b : Int)] := by
      have := Blk.new ((wr.setCell ⟨dg, a, none⟩ (.int .i64 ((A : Int) + 1))).setCell ⟨dg, b, none⟩ (.int .i64 ((B : Int) + 1))) [.int .i64 (a : Int), .int .i64 (b : Int)] 32
      simpa using this
     obtain ⟨xb, hxb⟩ : ∃ z, z = wr.heap.size := ⟨_, rfl⟩
     rw [← hxb] at hx1 ⊢
     generalize (((wr.setCell ⟨dg, a, none⟩ (.int .i64 ((A : Int) + 1))).setCell ⟨dg, b, none⟩ (.int .i64 ((B : Int) + 1))).alloc (.cells #[.int .i64 (a : Int), .int .i64 (b : Int)] 32)) = wx at hd1 hx1 ⊢
     have ka : wx.cell? ⟨dg, a, none⟩ = some (.int .i64 ((A : Int) + 1)) := by
      have : wx.cell? ⟨dg, a, none⟩ = some (.int .i64 (degL (P.take (i + 1)) a : Int)) := hd1.dr.row (i := a) (by omega)
      rw [this, HA1.out]; simp
     have kb : wx.cell? ⟨dg, b, none⟩ = some (.int .i64 ((B : Int) + 1)) := by
      have : wx.cell? ⟨dg, b, none⟩ = some (.int .i64 (degL (P.take (i + 1)) b : Int)) := hd1.dr.row (i := b) (by omega)
      rw [this, HB1.out]; simp
     have hdl2 := hd1.dr.lt
     have hxl2 := hx1.lt
     have r1 := fun z : After wx.heap.size wx.drew => (z.below.cell (p := ⟨dg, a, none⟩) hdl2).trans ka
     have r2 := fun z : After wx.heap.size wx.drew => (z.below.cell (p := ⟨dg, b, none⟩) hdl2).trans kb
     have r3 := fun z : After wx.heap.size wx.drew => (z.below.cell (p := ⟨xb, 0, none⟩) hxl2).trans (show wx.cell? ⟨xb, 0, none⟩ = some (.int .i64 (a : Int)) from hx1.cell 0)
     have r4 := fun z : After wx.heap.size wx.drew => (z.below.cell (p := ⟨xb, 1, none⟩) hxl2).trans (show wx.cell? ⟨xb, 1, none⟩ = some (.int .i64 (b : Int)) from hx1.cell 1)
     have HD2 := Lib.hid (hd1.below (Below.refl wx.heap.size wx).drew)
     clear hd1 hx1 ka kb da db hfa hfb hdl m0 m1 hql HST HA1 HB1 HD hxb
     refine wp_region_eager wx.heap.size [(0, true), (1, true), (2, true), (3, true), (4, true), (5, true), (6, true), (7, true), (8, true), (9, true), (10, true), (11, true), (12, true)] (by kernel_rfl) (by kernel_rfl) ?_
     repeat (refine eag_read rfl ?_; go_big_quiet_step (fail); refine wpQuiet_nil ?_)
     refine eag_end ?_
     clear r1 r2 r3 r4
     by_cases g1 : (m : Int) < (A : Int) + 1
     ·by_cases g2 : (A : Int) + 1 < (B : Int) + 1
      ·go_wp2_with fail
       go_roundw
       case rel => exact ⟨i + 1, B + 1, by omega, by omega, by go_num, by go_num, HD2.out, HNX.out _ (by omega) (by omega) (by omega)⟩
       case measure => simp [intOf]; omega
      ·go_wp2_with fail
       go_roundw
       case rel => exact ⟨i + 1, A + 1, by omega, by omega, by go_num, by go_num, HD2.out, HNX.out _ (by omega) (by omega) (by omega)⟩
       case measure => simp [intOf]; omega
     ·by_cases g2 : (m : Int) < (B : Int) + 1
      ·go_wp2_with fail
       go_roundw
       case rel => exact ⟨i + 1, B + 1, by omega, by omega, by go_num, by go_num, HD2.out, HNX.out _ (by omega) (by omega) (by omega)⟩
       case measure => simp [intOf]; omega
      ·go_wp2_with fail
       go_roundw
       case rel => exact ⟨i + 1, m, by omega, by omega, by go_num, by go_num, HD2.out, HNX.out _ (by omega) (by omega) (by omega)⟩
       case measure => simp [intOf]; omega
    ·have ei : i = N := by omega
     have HAL2 : Hid (∀ r, r < n → degL P r ≤ m) := fun r hr => by
      have := HALL.out r hr
      rw [List.take_of_length_le (by rw [← HN.out]; omega)] at this
      exact this
     have HBX := Lib.hid HD.out.bx
     have hmI : (m : Int) ≤ 100000 := by omega
     clear HALL HD hlt
     by_cases h10 : 10 ≤ m
     ·have g' : (10 : Int) ≤ (m : Int) := by omega
      go_wp2_with fail
      go_ret
      exact ⟨rfl, HBX.out.be⟩
     ·have g' : ¬ (10 : Int) ≤ (m : Int) := by omega
      have HEN : Hid (∀ (a : AL) (n' nb' : Nat), FnOk f n' nb' → AllocLaw f n' nb' (((m : Int) + 1).toNat) a → n' = n ∧ nb' = nb ∧ ∀ r, 1 ≤ r → r < n → 0 ≤ a.slot.getD r (-1) → KeptP f nb r) := fun a n' nb' hok' hlaw => by
       obtain rfl : n' = n := by have h1 := hok'.regs; have h2 := HOK.out.regs; omega
       obtain rfl : nb' = nb := by have h1 := hok'.nbl; have h2 := HOK.out.nbl; omega
       refine ⟨rfl, rfl, color_enough HF.out HOK.out (by omega) (fun Y hY hs r hr => ?_) hlaw⟩
       have h1 := deg_cnt HX.out hY hs hr
       have h2 := HAL2.out r hr
       rw [HP.out] at h2
       omega
      have c0 := HBX.out.box.cell 0
      have c1 := HBX.out.box.cell 1
      have c2 := HBX.out.box.cell 2
      have c3 := HBX.out.box.cell 3
      simp only [List.getElem?_cons_zero, List.getElem?_cons_succ] at c0 c1 c2 c3
      have HA := Lib.hid (HAL.out wr HBX.out.be ((m : Int) + 1) (by unfold I64; omega))
      clear HAL HAL2 HX HPB HP
      go_wp2_with fail
      refine HA.out.mono ?_
      rintro e w6 ⟨hb6, h⟩
      have HB6 := Lib.hid (HBX.out.below hb6)
      clear HBX c0 c1 c2 c3 hb6
      rcases h with ⟨h, _⟩ | ⟨_, h, _⟩ | ⟨_, hK, n', nb', a, hfo, rfl, hao, hrn, hsn, hlaw⟩
      ·exact absurd HFN.out h
      ·exact absurd (by omega) h
      ·obtain ⟨rfl, rfl, hen⟩ := HEN.out a n' nb' hfo hlaw
       have HENN := Lib.hid hen
       have hsl : a.slot.length = a.sn := by simpa using hao.scame.count
       rw [hsn] at hsl
       have hcap := hao.scame.le
       have hmx := hao.scame.max
       obtain ⟨g, off, hsa2, hgl, hcell⟩ := hao.scame.ints (by omega)
       unfold AL.v
       rw [hrn, hsn, hsa2]
       rw [hsn] at hcap
       have HC : Hid (∀ r, r < n' → w6.cell? ⟨g, off + r, none⟩ = some (.int .i64 (a.slot.getD r (-1)))) := fun r hr => by
        rw [List.getD_eq_getElem?_getD, List.getElem?_eq_getElem (by omega)]
        exact hcell r (by omega)
       have c2 := HB6.out.box.cell 2
       simp only [List.getElem?_cons_zero, List.getElem?_cons_succ] at c2
       rw [HREG.out] at c2
       obtain ⟨ra, hra⟩ : ∃ z, z = a.ra := ⟨_, rfl⟩
       obtain ⟨rc, hrc⟩ : ∃ z, z = a.rc := ⟨_, rfl⟩
       obtain ⟨sc, hsc⟩ : ∃ z, z = a.sc := ⟨_, rfl⟩
       obtain ⟨kk, hkk⟩ : ∃ z, z = a.k := ⟨_, rfl⟩
       obtain ⟨sl, hsl2⟩ : ∃ z, z = a.slot := ⟨_, rfl⟩
       rw [← hra, ← hrc, ← hsc, ← hkk]
       rw [← hsc] at hcap hmx
       rw [← hsl2] at HC HENN
       have hba : Below w6.heap.size w6 (w6.alloc (.cells #[.slice ra n' rc, .slice (some ⟨g, off, none⟩) n' sc, .int .i64 kk] 34)) := (Below.refl _ _).alloc (Nat.le_refl _) _
       have HB7 := Lib.hid (HB6.out.below hba)
       have HA7 : Hid (Blk (w6.alloc (.cells #[.slice ra n' rc, .slice (some ⟨g, off, none⟩) n' sc, .int .i64 kk] 34)) w6.heap.size 34 [.slice ra n' rc, .slice (some ⟨g, off, none⟩) n' sc, .int .i64 kk]) := Blk.new w6 _ _
       have HC7 : Hid (∀ r, r < n' → (w6.alloc (.cells #[.slice ra n' rc, .slice (some ⟨g, off, none⟩) n' sc, .int .i64 kk] 34)).cell? ⟨g, off + r, none⟩ = some (.int .i64 (sl.getD r (-1)))) := fun r hr => (hba.cell (p := ⟨g, off + r, none⟩) hgl).trans (HC.out r hr)
       have hgl7 : g < (w6.alloc (.cells #[.slice ra n' rc, .slice (some ⟨g, off, none⟩) n' sc, .int .i64 kk] 34)).heap.size := by simp; omega
       clear hfo hlaw hao hrn hsn hen hcell hsa2 hsl hra hrc hsc hkk hsl2 hba HEN HC HA HN HFN HFQ
       go_upto_region 18 with fail
       obtain ⟨ab, hab⟩ : ∃ z, z = w6.heap.size := ⟨_, rfl⟩
       rw [← hab] at HA7 ⊢
       generalize w6.alloc (.cells #[.slice ra n' rc, .slice (some ⟨g, off, none⟩) n' sc, .int .i64 kk] 34) = w7 at HB7 HA7 HC7 hgl7 ⊢
       clear c2 HB6 hab hgl
       have c2 := HB7.out.box.cell 2
       simp only [List.getElem?_cons_zero, List.getElem?_cons_succ] at c2
       rw [HREG.out] at c2
       have a1 := HA7.out.cell 1
       simp only [List.getElem?_cons_zero, List.getElem?_cons_succ] at a1
       go_wp2_with fail
       clear c2 a1
       go_loopw [10] (fun u wx => ∃ r : Nat, 1 ≤ r ∧ r ≤ n' ∧ u = .int .i64 (r : Int) ∧ BoxV f w wx pa sa ∧ Below w7.heap.size w7 wx ∧ Blk wx ab 34 [.slice ra n' rc, .slice (some ⟨g, off, none⟩) n' sc, .int .i64 kk]) (fun u _ => n' - (intOf u).toNat)
       case atStart => exact ⟨1, Nat.le_refl _, hn2.1, rfl, HB7.out, Below.refl _ _, HA7.out⟩
       case round =>
        clear HB7 HA7
        obtain ⟨r, hr1, hr2, rfl, hbx, hbe, hab⟩ := hrel
        have HBX := Lib.hid hbx
        have HBE := Lib.hid hbe
        have HAB := Lib.hid hab
        clear hbx hbe hab
        have c0 := HBX.out.box.cell 0
        have c1 := HBX.out.box.cell 1
        have c2 := HBX.out.box.cell 2
        have c3 := HBX.out.box.cell 3
        simp only [List.getElem?_cons_zero, List.getElem?_cons_succ] at c0 c1 c2 c3
        rw [HREG.out] at c2
        by_cases hlt : r < n'
        ·have a1 := HAB.out.cell 1
         simp only [List.getElem?_cons_zero, List.getElem?_cons_succ] at a1
         have sr : wr.cell? ⟨g, off + r, none⟩ = some (.int .i64 (sl.getD r (-1))) := (HBE.out.cell (p := ⟨g, off + r, none⟩) hgl7).trans (HC7.out r hlt)
         have hgw : g < wr.heap.size := Nat.lt_of_lt_of_le hgl7 HBE.out.size
         have HK := Lib.hid (HKP.out wr HBX.out.be n' nb' HOK.out r ⟨hr1, hlt⟩)
         have HE := Lib.hid (HENN.out r hr1 hlt)
         rw [HREG.out] at HK
         obtain ⟨z, hz⟩ : ∃ z, z = sl.getD r (-1) := ⟨_, rfl⟩
         rw [← hz] at sr HE
         clear hz
         by_cases hz0 : 0 ≤ z
         ·have HZ := Lib.hid hz0
          go_wp2_with fail
          refine HK.out.mono ?_
          rintro e w8 ⟨t, rfl, ht, hb8⟩
          obtain rfl : t = true := ht.2 (HE.out HZ.out)
          have HB8 := Lib.hid (HBX.out.below hb8)
          have HE8 := Lib.hid (HBE.out.trans (hb8.mono HBE.out.size))
          have HA8 := Lib.hid (HAB.out.below hb8 HAB.out.lt)
          clear ht hb8 c0 c1 c2 c3 a1 sr HBX HBE HAB
          go_wp2_with fail
          go_roundw
          case rel => exact ⟨r + 1, by omega, by omega, by go_num, HB8.out, HE8.out, HA8.out⟩
          case measure => simp [intOf]; omega
         ·go_wp2_with fail
          go_roundw
          case rel => exact ⟨r + 1, by omega, by omega, by go_num, HBX.out, HBE.out, HAB.out⟩
          case measure => simp [intOf]; omega
        ·have er : n' = r := by omega
         subst er
         go_wp2_with fail
         go_ret
         exact ⟨rfl, HBX.out.be⟩
end Go.Proofs.Ytlcnbihfpjhffaa
