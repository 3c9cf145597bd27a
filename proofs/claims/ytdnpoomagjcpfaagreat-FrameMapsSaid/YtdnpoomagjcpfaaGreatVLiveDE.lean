/- tile's live, with where its rows lie. tile's Live, with where its rows lie. -/
import Derived.Test.YtdnpoomagjcpfaaGreatVLive
import Derived.Deep.LoopGhost
import Derived.Test.YtdnpoomagjcpfaaGreatVLiveC
namespace Go.Proofs.YtdnpoomagjcpfaaGreat
open Go.RowKit
set_option linter.unusedVariables false
set_option linter.unusedSimpArgs false

def LiveEPost (f : VF) (m n : Nat) (w : World) (e : Ending) (w' : World) : Prop :=
 ∃ G bs X, e = .returned (.slice (some ⟨G, 0, none⟩) m m) ∧ BRows w' G m n X bs ∧ Below w.heap.size w w' ∧ (∀ i, i < m → ∀ r, r < n → (X i r = true ↔ LiveI f i r)) ∧ w.heap.size ≤ G ∧ ∀ i, i < m → w.heap.size ≤ bs i
structure InnerW (f : VF) (w wr : World) (G m n : Nat) (X : Nat → Nat → Bool) (ch : Bool) (j : Nat) : Prop where
 ex : ∃ X' bs, BRows wr G m n X' bs ∧ Appr f m n X' ∧ (ch = true → cntV m n X' < cntV m n X) ∧ (ch = false → X' = X ∧ ∀ i, j ≤ i → i < m → ∀ r, r < n → stepV f X i r = X i r) ∧ ∀ q, q < m → w.heap.size ≤ bs q
 be : Below w.heap.size w wr

set_option maxRecDepth 100000 in
set_option maxHeartbeats 8000000 in
theorem liveE_any (w : World) (f : VF) (hf : f.Ok w) (m n : Nat) (hm : m = f.blocks.length) (hm2 : 0 < m ∧ m ≤ 4096) (hn : f.regs = (n : Int)) (hn2 : 0 < n ∧ n ≤ 8192) (hfit : ∀ i, i < m → (f.blk i).Fit n) (htos : TosV f m) :
  Calls Tryz.prog 40 #[f.v] w (LiveEPost f m n w) := by
 have hmk : ∀ w : World, (Instr.makeSlice 51 (.int .i64 (n : Int)) (.int .i64 (n : Int))).run Tryz.prog w = .ok (.slice (some ⟨w.heap.size, 0, none⟩) n n) (w.alloc (.cells (rowL n fun _ => .bool false).toArray 4)) := fun w => run_make_rep (P := Tryz.prog) 51 4 (.bool false) 1 Tryz.underlying51 Tryz.infoB4 rfl n (by omega) (by omega) w
 have hmk2 : ∀ w : World, (Instr.makeSlice 73 (.int .i64 (m : Int)) (.int .i64 (m : Int))).run Tryz.prog w = .ok (.slice (some ⟨w.heap.size, 0, none⟩) m m) (w.alloc (.cells (rowL m fun _ => .slice none 0 0).toArray 51)) := fun w => run_make_rep (P := Tryz.prog) 73 51 (.slice none 0 0) 24 Tryz.underlying73 Tryz.infoR51 rfl m (by omega) (by omega) w
 have hsm : f.sn = m := by rw [hm]; exact hf.len.symm
 have hb1 : Below w.heap.size w ((w.alloc (.cells #[.int .i64 f.name, .slice f.pa f.pn f.pc, .int .i64 n, .slice f.sa m f.sc] 25)).alloc (.cells (rowL m fun _ => .slice none 0 0).toArray 51)) := ((Below.refl _ _).alloc (Nat.le_refl _) _).alloc (by simp) _
 have hbk := (Blk.new w [.int .i64 f.name, .slice f.pa f.pn f.pc, .int .i64 n, .slice f.sa m f.sc] 25).alloc (.cells (rowL m fun _ => .slice none 0 0).toArray 51)
 have hbG := Blk.new (w.alloc (.cells #[.int .i64 f.name, .slice f.pa f.pn f.pc, .int .i64 n, .slice f.sa m f.sc] 25)) (rowL m fun _ => .slice none 0 0) 51
 rw [World.size_alloc] at hbG
 have HF := Lib.hid hf
 have HFIT := Lib.hid hfit
 have HTOS := Lib.hid htos
 have HMB := Lib.hid hm
 have HNR := Lib.hid hn
 have HSM := Lib.hid hsm
 clear hf hfit htos hm
 unfold VF.v
 rw [hn, hsm]
 clear hn hsm
 go_enter Tryz.func40, Tryz.ntmps40
 go_wp2_with fail
 have HB1 := Lib.hid hb1
 have HBK := Lib.hid hbk
 have HBG := Lib.hid hbG
 clear hb1 hbk hbG
 generalize (w.alloc (.cells #[.int .i64 f.name, .slice f.pa f.pn f.pc, .int .i64 n, .slice f.sa m f.sc] 25)).alloc (.cells (rowL m fun _ => .slice none 0 0).toArray 51) = w1 at HB1 HBK HBG ⊢
 go_loopw [4, 14] (fun _ u wr => ∃ (k : Nat) (bs : Nat → Nat), k ≤ m ∧ u = .int .i64 (k : Int) ∧ Blk wr (w.heap.size + 1) 51 (rowL m fun i => if i < k then .slice (some ⟨bs i, 0, none⟩) n n else .slice none 0 0) ∧ (∀ i, i < k → BRow wr (bs i) n fun _ => false) ∧ Below w.heap.size w wr ∧ (∀ q, q < k → w.heap.size ≤ bs q) ∧
   Blk wr w.heap.size 25 [.int .i64 f.name, .slice f.pa f.pn f.pc, .int .i64 n, .slice f.sa m f.sc]) (fun _ u _ => m - (intOf u).toNat)
 case atStart => exact ⟨0, fun _ => 0, Nat.zero_le _, rfl, HBG.out, fun i hi => absurd hi (Nat.not_lt_zero _), HB1.out, fun i hi => absurd hi (Nat.not_lt_zero _), HBK.out⟩
 case round =>
  clear HBG HBK HB1
  obtain ⟨k, bs, hk, rfl, hbG, hrow, hbe, hlo, hbk⟩ := hrel
  have HLO := Lib.hid hlo
  clear hlo
  by_cases hlt : k < m
  ·have c2 := hbk.cell 2
   simp only [List.getElem?_cons_zero, List.getElem?_cons_succ] at c2
   have cG := Blk.row hbG hlt
   rw [if_neg (by omega)] at cG
   have fG := hbG.free k
   have hGl := Blk.lt hbG
   have hset : Blk (wr.setCell ⟨w.heap.size + 1, k, none⟩ (.slice (some ⟨wr.heap.size, 0, none⟩) n n)) (w.heap.size + 1) 51 (rowL m fun i => if i < k + 1 then .slice (some ⟨(fun i => if i = k then wr.heap.size else bs i) i, 0, none⟩) n n else .slice none 0 0) := by
    refine Blk.rowCongr (Blk.rowSet hbG k _) fun i hi => ?_
    by_cases e1 : i = k
    ·subst e1; simp
    ·by_cases e2 : i < k
     ·simp [e1, e2, show i < k + 1 by omega]
     ·simp [e1, e2, show ¬ i < k + 1 by omega]
   have HN : Hid (Blk ((wr.setCell ⟨w.heap.size + 1, k, none⟩ (.slice (some ⟨wr.heap.size, 0, none⟩) n n)).alloc (.cells (rowL n fun _ => .bool false).toArray 4)) (w.heap.size + 1) 51 (rowL m fun i => if i < k + 1 then .slice (some ⟨(fun i => if i = k then wr.heap.size else bs i) i, 0, none⟩) n n else .slice none 0 0)) := hset.alloc _
   have HN2 : Hid (∀ i, i < k + 1 → BRow ((wr.setCell ⟨w.heap.size + 1, k, none⟩ (.slice (some ⟨wr.heap.size, 0, none⟩) n n)).alloc (.cells (rowL n fun _ => .bool false).toArray 4)) ((fun i => if i = k then wr.heap.size else bs i) i) n fun _ => false) := fun i hi => by
    by_cases e1 : i = k
    ·subst e1
     simp only [if_true]
     have := Blk.new (wr.setCell ⟨w.heap.size + 1, i, none⟩ (.slice (some ⟨wr.heap.size, 0, none⟩) n n)) (rowL n fun _ => .bool false) 4
     rwa [show (wr.setCell ⟨w.heap.size + 1, i, none⟩ (.slice (some ⟨wr.heap.size, 0, none⟩) n n)).heap.size = wr.heap.size from by simp [World.setCell]] at this
    ·simp only [e1, if_false]
     have hr := hrow i (by omega)
     exact Blk.alloc (Blk.setOther hr (hr.ne hbG) _) _
   have HN3 : Hid (Below w.heap.size w ((wr.setCell ⟨w.heap.size + 1, k, none⟩ (.slice (some ⟨wr.heap.size, 0, none⟩) n n)).alloc (.cells (rowL n fun _ => .bool false).toArray 4))) := (hbe.setCell (p := ⟨w.heap.size + 1, k, none⟩) (by simp) _).alloc (by have := hbe.size; simp [World.setCell]; omega) _
   have HN4 : Hid (Blk ((wr.setCell ⟨w.heap.size + 1, k, none⟩ (.slice (some ⟨wr.heap.size, 0, none⟩) n n)).alloc (.cells (rowL n fun _ => .bool false).toArray 4)) w.heap.size 25 [.int .i64 f.name, .slice f.pa f.pn f.pc, .int .i64 n, .slice f.sa m f.sc]) := (hbk.setOther (by simp) _).alloc _
   have HN5 : Hid (∀ q, q < k + 1 → w.heap.size ≤ (fun i => if i = k then wr.heap.size else bs i) q) := fun q hq => by
    by_cases e : q = k
    ·simp only [e, if_true]; exact hbe.size
    ·simp only [e, if_false]; exact HLO.out q (by omega)
   clear hbG hrow hbe hbk hset
   go_wp2_with fail
   go_roundw
   case rel => exact ⟨k + 1, _, by omega, by go_num, HN.out, HN2.out, HN3.out, HN5.out, HN4.out⟩
   case measure => simp [intOf]; omega
  ·obtain rfl : k = m := by omega
   have hR0 : BRows wr (w.heap.size + 1) k n (fun _ _ => false) bs := ⟨Blk.rowCongr hbG fun i hi => by rw [if_pos hi], hrow⟩
   have HR0 := Lib.hid hR0
   have HBE := Lib.hid hbe
   have HBK := Lib.hid hbk
   clear hbG hrow hR0 hbe hbk hmk hmk2
   obtain ⟨w2, hw2⟩ : ∃ w2, w2 = wr := ⟨_, rfl⟩
   rw [← hw2] at HR0 HBE HBK ⊢
   clear hw2
   obtain ⟨G, hG⟩ : ∃ G, G = w.heap.size + 1 := ⟨_, rfl⟩
   rw [← hG] at HR0 ⊢
   obtain ⟨B, hB⟩ : ∃ B, B = w.heap.size := ⟨_, rfl⟩
   rw [← hB] at HBK ⊢
   have HG := Lib.hid hG
   have HBB := Lib.hid hB
   clear hG hB
   obtain ⟨sa, hsa0⟩ : ∃ s, s = f.sa := ⟨_, rfl⟩
   rw [← hsa0] at HBK ⊢
   have HSA := Lib.hid hsa0
   clear hsa0 hk hlt
   have hGB : G ≠ B := by rw [HG.out, HBB.out]; omega
   have HAP0 := Lib.hid (Appr.none f k n)
   go_wp2_with fail
   go_loopg [5, 6, 7] (cntV k n (fun _ _ => false) + 1) (fun gk c _ _ wr => ∃ (X : Nat → Nat → Bool) (bs : Nat → Nat) (ch : Bool), c = .bool ch ∧ BRows wr G k n X bs ∧ Appr f k n X ∧ Below w.heap.size w wr ∧ (∀ q, q < k → w.heap.size ≤ bs q) ∧ Blk wr B 25 [.int .i64 f.name, .slice f.pa f.pn f.pc, .int .i64 n, .slice sa k f.sc] ∧ (ch = false → FixV f k n X) ∧ cntV k n X + (if ch then 1 else 0) ≤ gk)
   case atStart => exact ⟨_, bs, true, rfl, HR0.out, HAP0.out, HBE.out, HLO.out, HBK.out, fun h => by (cases h), Nat.le_refl _⟩
   case round =>
    clear HR0 HAP0 HBE HBK
    obtain ⟨X, bs, ch, rfl, hR, hA, hbe, hlo, hbk, hfix, hgk⟩ := hrel
    have HLO := Lib.hid hlo
    clear hlo
    have HR := Lib.hid hR
    have HA := Lib.hid hA
    have HBE := Lib.hid hbe
    have HBK := Lib.hid hbk
    have HGK := Lib.hid hgk
    have HFX := Lib.hid hfix
    clear hR hA hbe hgk hfix
    cases ch
    ·clear hbk
     go_wp2_with fail
     go_ret
     exact ⟨G, bs, X, rfl, HR.out, HBE.out, HA.out.fix HTOS.out (HFX.out (by simp)), by rw [HG.out]; omega, HLO.out⟩
    ·have c3 := hbk.cell 3
     simp only [List.getElem?_cons_zero, List.getElem?_cons_succ] at c3
     clear hbk
     go_wp2_with fail
     clear c3
     go_loopw [5, 6, 7] (fun c u _ wr => ∃ (j : Nat) (ch : Bool), c = .bool ch ∧ j ≤ k ∧ u = .int .i64 ((j : Int) - 1) ∧ InnerW f w wr G k n X ch j ∧ Blk wr B 25 [.int .i64 f.name, .slice f.pa f.pn f.pc, .int .i64 n, .slice sa k f.sc]) (fun _ u _ _ => (intOf u + 1).toNat)
     case atStart => exact ⟨k, false, rfl, Nat.le_refl _, rfl, ⟨⟨X, bs, HR.out, HA.out, fun h => (by cases h), fun _ => ⟨rfl, fun i h1 h2 => by omega⟩, HLO.out⟩, HBE.out⟩, HBK.out⟩
     case round =>
      obtain ⟨j, ch, rfl, hj, rfl, hin, hbk⟩ := hrel
      obtain ⟨w5, hw5⟩ : ∃ w5, w5 = wr := ⟨_, rfl⟩
      rw [← hw5] at hin hbk ⊢
      clear hw5 HR HA HBE HBK
      by_cases hj0 : j = 0
      ·subst hj0
       rw [show ((0 : Nat) : Int) - 1 = -1 from rfl]
       have HIN := Lib.hid hin
       have HBK := Lib.hid hbk
       clear hin hbk
       go_wp2_with fail
       obtain ⟨⟨X', bs', h1, h2, h3, h4, h9⟩, h5⟩ := HIN.out
       go_roundg (cntV k n X' + (if ch then 1 else 0))
       case measure =>
        have := HGK.out
        cases ch
        ·obtain ⟨rfl, _⟩ := h4 rfl
         simp at this ⊢; omega
        ·have := h3 rfl
         simp at *; omega
       case rel => exact ⟨X', bs', ch, rfl, h1, h2, h5, h9, HBK.out, fun h => (by obtain ⟨rfl, h6⟩ := h4 h; exact fun i hi r hr => h6 i (Nat.zero_le _) hi r hr), Nat.le_refl _⟩
      ·obtain ⟨i, rfl⟩ := Nat.exists_eq_succ_of_ne_zero hj0
       rw [show ((i.succ : Nat) : Int) - 1 = (i : Int) by omega]
       obtain ⟨⟨X', bs', hR, hA, h3, h4, h9⟩, hbe⟩ := hin
       have H9 := Lib.hid h9
       clear h9
       have hik : i < k := by omega
       have hib : i < f.blocks.length := by rw [← HMB.out]; exact hik
       have c0 := hbk.cell 0
       have c1 := hbk.cell 1
       have c2 := hbk.cell 2
       have c3 := hbk.cell 3
       simp only [List.getElem?_cons_zero, List.getElem?_cons_succ] at c0 c1 c2 c3
       have hAF := after_any w w5 f HF.out hbe G k n i X' bs' hR HNR.out hn2 hib (by rw [VF.blk_get f hib]; exact HTOS.out i hik)
       unfold VF.v at hAF
       rw [HNR.out, HSM.out, ← HSA.out, VF.blk_get f hib] at hAF
       have HAF := Lib.hid hAF
       have HR := Lib.hid hR
       have HA := Lib.hid hA
       have H3 := Lib.hid h3
       have H4 := Lib.hid h4
       have HBE := Lib.hid hbe
       have HBK := Lib.hid hbk
       clear hR hA h3 h4 hbe hbk hAF
       go_wp2_with fail
       refine HAF.out.mono ?_
       rintro e w6 ⟨g, rfl, hg, hrow, hb6⟩
       obtain ⟨b, hb⟩ : ∃ b, b = f.blk i := ⟨_, rfl⟩
       have hHG := Blk.lt HR.out.blk
       have hbsl := fun q (hq : q < k) => Blk.lt (HR.out.row q hq)
       have HR6 := Lib.hid (HR.out.below hb6)
       have hbe6 := HBE.out.trans (hb6.mono HBE.out.size)
       have HBK6 := Lib.hid (Blk.below HBK.out hb6 (Blk.lt HBK.out))
       obtain ⟨gb, ob, hsa, hgb, d0, d1, d2, d3, d4, d5, d6⟩ := HF.out.cells hbe6 hib
       rw [VF.blk_get f hib, ← hb] at d0 d1 d2 d3 d4 d5 d6
       rw [← HSA.out] at hsa
       subst hsa
       have hbo : b.Ok w := by rw [hb, ← VF.blk_get f hib]; exact HF.out.blocks _ (List.getElem_mem _)
       have hgw : w.heap.size ≤ g := Nat.le_trans HBE.out.size hg
       have hBF := before_any w w6 b hbo hbe6 g n hgw _ hrow hn2 (by rw [hb]; exact HFIT.out i hik)
       unfold vbW at hBF
       have c3 := Blk.cell HBK6.out 3
       simp only [List.getElem?_cons_zero, List.getElem?_cons_succ] at c3
       have HB := Lib.hid hb
       have HBF := Lib.hid hBF
       have HBE6 := Lib.hid hbe6
       have HROW := Lib.hid hrow
       have HSTEP : Hid (blkF b (aftF (f.blk i).e.to X') = stepV f X' i) := by show _ = _; rw [hb]; rfl
       clear hb hBF hbe6 hrow hb6 hbo HR HBE HBK HAF
       have hil : (i : Int) < (k : Int) := by omega
       go_wp2_with fail
       refine HBF.out.mono ?_
       rintro e w7 ⟨rfl, hrow7, hr7⟩
       rw [HSTEP.out] at hrow7
       have HR7 := Lib.hid (HR6.out.rest hr7 (.inr ⟨by omega, fun q hq => by have := hbsl q hq; omega⟩))
       have HBE7 := Lib.hid (HBE6.out.trans (hr7.below hgw HBE6.out.size))
       have hBg : B < w6.heap.size := Blk.lt HBK6.out
       have HBK7 := Lib.hid (Blk.of_heap HBK6.out (hr7.block B hBg (by rw [HBB.out]; have := HG.out; omega)))
       have hEq := equal_bools w7 g (bs' i) n _ _ hrow7 (HR7.out.row i hik) hn2.2 (decide (∀ r, r < n → stepV f X' i r = X' i r)) (by simp)
       have cG := Blk.row HR7.out.blk hik
       have HEQ := Lib.hid hEq
       have HROW7 := Lib.hid hrow7
       have HR77 := Lib.hid hr7
       clear hEq hrow7 hr7 d0 d1 d2 d3 d4 d5 d6 c3 HBF HROW HR6 HBK6 HBE6
       by_cases hsame : ∀ r, r < n → stepV f X' i r = X' i r
       ·rw [decide_eq_true hsame] at HEQ
        have HSAME := Lib.hid hsame
        clear hsame
        go_wp2_with fail
        refine HEQ.out.mono ?_
        rintro e w8 ⟨q8, rfl, rfl⟩
        have HFIN : Hid (InnerW f w (w7.drewN q8) G k n X ch i) := ⟨⟨X', bs', HR7.out.below (below_drewN_self _ _ _), HA.out, H3.out, fun h => by
         obtain ⟨rfl, h6⟩ := H4.out h
         refine ⟨rfl, fun i' h7 h8 => ?_⟩
         by_cases e9 : i' = i
         ·subst e9; exact HSAME.out
         ·exact h6 i' (by omega) h8, H9.out⟩, HBE7.out.trans (below_drewN_self _ _ _)⟩
        have HBK8 := Lib.hid (Blk.drewN HBK7.out q8)
        go_wp2_with fail
        go_roundw
        case rel => exact ⟨i, ch, rfl, by omega, by go_num, HFIN.out, HBK8.out⟩
        case measure => simp [intOf]
       ·rw [decide_eq_false hsame] at HEQ
        have HSAME := Lib.hid hsame
        clear hsame
        go_wp2_with fail
        refine HEQ.out.mono ?_
        rintro e w8 ⟨q8, rfl, rfl⟩
        have cG8 : (w7.drewN q8).cell? ⟨G, i, none⟩ = some (.slice (some ⟨bs' i, 0, none⟩) n n) := cG
        have fG8 := Blk.free (Blk.drewN HR7.out.blk q8) i
        have hR8 := (HR7.out.below (below_drewN_self w7.heap.size w7 q8)).put (Blk.drewN HROW7.out q8) i
        have HFIN : Hid (InnerW f w ((w7.drewN q8).setCell ⟨G, i, none⟩ (.slice (some ⟨g, 0, none⟩) n n)) G k n X true i) := by
         refine ⟨⟨_, _, hR8, HA.out.put HTOS.out hik, fun _ => ?_, fun h => (by cases h), fun q hq => ?_⟩, (HBE7.out.trans (below_drewN_self _ _ _)).setCell (p := ⟨G, i, none⟩) (by show w.heap.size ≤ G; rw [HG.out]; omega) _⟩
         rotate_left
         ·by_cases e : q = i
          ·simp only [e, if_true]; exact hgw
          ·simp only [e, if_false]; exact H9.out q hq
         have hlt : cntV k n (putV X' i (stepV f X' i)) < cntV k n X' := by
          refine cntV_put hik (fun r hr hx => HA.out.post i hik r hr hx) ?_
          have := HSAME.out
          apply Classical.byContradiction
          intro hc
          exact this fun r hr => Classical.byContradiction fun hne => hc ⟨r, hr, fun e => hne e.symm⟩
         cases ch
         ·obtain ⟨rfl, _⟩ := H4.out rfl
          exact hlt
         ·exact Nat.lt_trans hlt (H3.out rfl)
        have HBK8 := Lib.hid (Blk.setOther (Blk.drewN HBK7.out q8) (a := ⟨G, i, none⟩) (fun e => hGB e.symm) (.slice (some ⟨g, 0, none⟩) n n))
        clear hR8 cG
        go_wp2_with fail
        go_roundw
        case rel => exact ⟨i, true, rfl, by omega, by go_num, HFIN.out, HBK8.out⟩
        case measure => simp [intOf]

def LiveDPost (f : VF) (n : Nat) (w : World) (e : Ending) (w' : World) : Prop :=
 Below w.heap.size w w' ∧ ((fnE f ≠ 0 ∧ e = .returned (.tuple #[.slice none 0 0, .slice none 0 0, .int .i64 (fnE f)])) ∨
  (fnE f = 0 ∧ ∃ G bs X v es, e = .returned (.tuple #[.slice (some ⟨G, 0, none⟩) f.sn f.sn, v, .int .i64 0]) ∧ BRows w' G f.sn n X bs ∧ (∀ i, i < f.sn → ∀ r, r < n → (X i r = true ↔ LiveI f i r)) ∧ EndV w w' v n ((List.range f.sn).map fun i => aftF (f.blk i).e.to X) es ∧
   (∀ i j, i < f.sn → j < f.sn → es i = es j → i = j) ∧ (∀ i j, i < f.sn → j < f.sn → es i ≠ bs j) ∧ (∀ i, i < f.sn → w.heap.size ≤ es i) ∧ (∀ i, i < f.sn → w.heap.size ≤ bs i)))
set_option maxRecDepth 100000 in
set_option maxHeartbeats 8000000 in
theorem liveD_any (w : World) (f : VF) (hf : f.Ok w) (n : Nat) (hn : 0 ≤ f.regs → f.regs = (n : Int)) : Calls Tryz.prog 29 #[f.v] w (LiveDPost f n w) := by
 have HF := Lib.hid hf
 have hlen := hf.len
 have HNN := Lib.hid hn
 have hb0 : BoxV f w (w.alloc (.cells #[.int .i64 f.name, .slice f.pa f.pn f.pc, .int .i64 f.regs, .slice f.sa f.sn f.sc] 25)) f.pa f.sa := ⟨(Below.refl _ _).alloc (Nat.le_refl _) _, Blk.new w [.int .i64 f.name, .slice f.pa f.pn f.pc, .int .i64 f.regs, .slice f.sa f.sn f.sc] 25⟩
 have hck := vcheck_any _ f (hf.below hb0.be)
 unfold VF.v at hck ⊢
 have HCK := Lib.hid hck
 have HB0 := Lib.hid hb0
 obtain ⟨e9, he9⟩ : ∃ e9, e9 = fnE f := ⟨_, rfl⟩
 rw [← he9] at HCK
 have HE9 := Lib.hid he9
 clear hf hb0 hck he9 hn
 go_enter Tryz.func29, Tryz.ntmps29
 go_wp2_with fail
 refine HCK.out.mono ?_
 rintro e w2 ⟨rfl, hb2⟩
 have HB2 := Lib.hid (HB0.out.below hb2)
 clear hb2 HB0 HCK
 by_cases he : e9 = 0
 ·have he' : (e9 == 0) = true := by simp [he]
  have hz := fnE_zero (f := f) (by rw [← HE9.out]; exact he)
  obtain ⟨hs1, hs2, hrg, hblk⟩ := hz
  have HN := Lib.hid (HNN.out (by omega))
  have hn2 : 0 < n ∧ n ≤ 8192 := by have := HN.out; omega
  have HEZ : Hid (fnE f = 0) := by rw [← HE9.out]; exact he
  obtain ⟨hfit, htos, hins⟩ := fits_of (m := f.sn) hlen.symm rfl HN.out hn2.1 hblk
  have hLV := liveE_any w2 f (HF.out.below HB2.out.be) f.sn n hlen.symm ⟨hs1, hs2⟩ HN.out hn2 hfit htos
  unfold VF.v at hLV
  have HLV := Lib.hid hLV
  have HTO := Lib.hid htos
  have c0 := HB2.out.box.cell 0
  have c1 := HB2.out.box.cell 1
  have c2 := HB2.out.box.cell 2
  have c3 := HB2.out.box.cell 3
  simp only [List.getElem?_cons_zero, List.getElem?_cons_succ] at c0 c1 c2 c3
  clear he hblk hfit htos hins hLV hrg HE9 HNN
  go_wp2_with fail
  refine HLV.out.mono ?_
  rintro e w3 ⟨G, bs, X, rfl, hR, hb3, hX, hGl, hbl⟩
  have HGL := Lib.hid hGl
  have HBL := Lib.hid hbl
  have hs2 := HB2.out.be.size
  clear hGl hbl
  have HR3 := Lib.hid hR
  have HX := Lib.hid hX
  have HB3 := Lib.hid (HB2.out.below hb3)
  clear hR hb3 hX c0 c1 c2 c3 HB2
  have c3 := HB3.out.box.cell 3
  simp only [List.getElem?_cons_zero, List.getElem?_cons_succ] at c3
  go_wp2_with fail
  clear c3
  have hw3 := HB3.out.be.size
  go_loopw [3, 6, 17] (fun v _ u wr => ∃ (k : Nat) (es : Nat → Nat), k ≤ f.sn ∧ u = .int .i64 (k : Int) ∧ Below w3.heap.size w3 wr ∧ EndV w3 wr v n ((List.range k).map fun i => aftF (f.blk i).e.to X) es ∧ (∀ i, i < k → w3.heap.size ≤ es i) ∧ (∀ i j, i < k → j < k → es i = es j → i = j)) (fun _ _ u _ => f.sn - (intOf u).toNat)
  case atStart => exact ⟨0, fun _ => 0, Nat.zero_le _, rfl, Below.refl _ _, ⟨World.ownsRow_nil _ _ _ _, fun i hi => by simp at hi⟩, fun i hi => absurd hi (Nat.not_lt_zero _), fun i j hi => absurd hi (Nat.not_lt_zero _)⟩
  case round =>
   obtain ⟨k, es, hk, rfl, hb4, hE, hlo, hij⟩ := hrel
   obtain ⟨w4, hw4⟩ : ∃ w4, w4 = wr := ⟨_, rfl⟩
   rw [← hw4] at hb4 hE ⊢
   clear hw4
   have hkl9 : ((List.range k).map fun i => aftF (f.blk i).e.to X).length = k := by simp
   obtain ⟨a3, cc3, rfl⟩ := ownG_shape hE.own
   have HB4 := Lib.hid hb4
   have HE := Lib.hid hE
   have HLO := Lib.hid hlo
   have HIJ := Lib.hid hij
   clear hlo hij
   have HBX := Lib.hid (HB3.out.below hb4)
   have HR := Lib.hid (HR3.out.below hb4)
   by_cases hlt : k < f.sn
   ·have c0 := HBX.out.box.cell 0
    have c1 := HBX.out.box.cell 1
    have c2 := HBX.out.box.cell 2
    have c3 := HBX.out.box.cell 3
    simp only [List.getElem?_cons_zero, List.getElem?_cons_succ] at c0 c1 c2 c3
    have hAF := after_any w w4 f HF.out HBX.out.be G f.sn n k X bs HR.out HN.out hn2 (by omega) (by rw [VF.blk_get f (by omega)]; exact HTO.out k hlt)
    unfold VF.v at hAF
    rw [VF.blk_get f (by omega)] at hAF
    have HAF := Lib.hid hAF
    clear hb4 hE hAF
    go_wp2_with fail
    refine HAF.out.mono ?_
    rintro e w5 ⟨g, rfl, hg, hrow, hb5⟩
    have hb35 := HB4.out.trans (hb5.mono HB4.out.size)
    obtain ⟨v6, w6, hrun, hE6, hgr⟩ := (HE.out.below hb5).push hrow hb35.size (by rw [hkl9]; omega) 73
    rw [hkl9] at hE6 hrun
    have hb6 := hb35.alloc hb35.size (.cells #[.slice (some ⟨g, 0, none⟩) n n] 51)
    have HB6 : Hid (Below w3.heap.size w3 w6) := hb6.trans (belowOf (base := 0) hgr (fun z hz => (HE.out.own.lt z hz).1) hb6.size)
    have HE6 : Hid (EndV w3 w6 v6 n ((List.range (k + 1)).map fun i => aftF (f.blk i).e.to X) (fun i => if i = k then g else es i)) := by
     rw [List.range_succ, List.map_append]
     exact hE6
    have hlt4 : ∀ i, i < k → es i < w4.heap.size := fun i hi => Blk.lt (HE.out.row i (by simpa using hi))
    have HLO6 : Hid (∀ i, i < k + 1 → w3.heap.size ≤ (fun i => if i = k then g else es i) i) := fun i hi => by
     by_cases e : i = k
     ·simp only [e, if_true]; exact Nat.le_trans HB4.out.size hg
     ·simp only [e, if_false]; exact HLO.out i (by omega)
    have HIJ6 : Hid (∀ i j, i < k + 1 → j < k + 1 → (fun i => if i = k then g else es i) i = (fun i => if i = k then g else es i) j → i = j) := fun i j hi hj e => by
     by_cases e1 : i = k <;> by_cases e2 : j = k
     ·omega
     ·simp only [e1, e2, if_true, if_false] at e; have := hlt4 j (by omega); omega
     ·simp only [e1, e2, if_true, if_false] at e; have := hlt4 i (by omega); omega
     ·simp only [e1, e2, if_false] at e; exact HIJ.out i j (by omega) (by omega) e
    clear hlt4
    have HRUN := Lib.hid hrun
    clear hrun hE6 hgr hb6 hb35 hb5 hrow c0 c1 c2 c3
    go_wp2_with (refine wpList_of_wp _ rfl (fun K Q' hk => wp_append_eq _ _ _ 73 73 rfl _ _ rfl rfl HRUN.out hk) ?_)
    go_roundw
    case rel => exact ⟨k + 1, _, by omega, by go_num, HB6.out, HE6.out, HLO6.out, HIJ6.out⟩
    case measure => simp [intOf]; omega
   ·obtain rfl : k = f.sn := by omega
    clear hb4 hE
    go_wp2_with fail
    exact bodyPost_ret (v := .tuple #[.slice (some ⟨G, 0, none⟩) f.sn f.sn, .slice a3 _ cc3, .int .i64 0]) (by simp [results, Tryz.results29, go_sem]) rfl ⟨HBX.out.be, .inr ⟨HEZ.out, G, bs, X, _, es, rfl, HR.out, HX.out, ⟨ownG_base HE.out.own hw3, HE.out.row⟩, HIJ.out, fun i j hi hj e => by
     have h1 := HLO.out i hi
     have h2 := Blk.lt (HR3.out.row j hj)
     omega, fun i hi => Nat.le_trans hw3 (HLO.out i hi), fun i hi => Nat.le_trans hs2 (HBL.out i hi)⟩⟩
 ·have he' : (e9 == 0) = false := by simp [he]
  have HEN : Hid (fnE f ≠ 0) := by rw [← HE9.out]; exact he
  clear he
  go_wp2_with fail
  exact bodyPost_ret (v := .tuple #[.slice none 0 0, .slice none 0 0, .int .i64 e9]) (by simp [results, Tryz.results29, go_sem]) rfl ⟨HB2.out.be, .inl ⟨HEN.out, by rw [HE9.out]⟩⟩
end Go.Proofs.YtdnpoomagjcpfaaGreat
