/- tile's live: the registers that are live at the beginning of each block. -/
import Derived.Test.YtdnpoomagjcpfaaGreatVLv
import Derived.Deep.LoopGhost
namespace Go.Proofs.YtdnpoomagjcpfaaGreat
open Go.RowKit
set_option linter.unusedVariables false
set_option linter.unusedSimpArgs false

theorem Tryz.infoR51 : (Tryz.prog.info? 51).map (fun i => (i.zero, i.size, i.bytes)) = some (some (.slice none 0 0), 1, 24) := by kernel_rfl
theorem BRow.ne {w : World} {G b n : Nat} {l : Nat → Bool} {cs : List Value} (h : BRow w b n l) (hG : Blk w G 51 cs) : b ≠ G := fun e => by
 have h2 : w.heap[b]? = _ := h
 have h1 : w.heap[G]? = _ := hG
 rw [e, h1] at h2
 injection h2 with h2
 injection h2 with _ h2 _
 exact absurd h2 (by decide)
theorem BRows.put {w : World} {G m n : Nat} {X : Nat → Nat → Bool} {bs : Nat → Nat} (h : BRows w G m n X bs) {g : Nat} {l : Nat → Bool} (hg : BRow w g n l) (i : Nat) :
  BRows (w.setCell ⟨G, i, none⟩ (.slice (some ⟨g, 0, none⟩) n n)) G m n (putV X i l) (fun k => if k = i then g else bs k) := by
 refine ⟨?_, fun k hk => ?_⟩
 ·refine Blk.rowCongr (Blk.rowSet h.blk i _) fun k _ => ?_
  by_cases e : k = i <;> simp [e]
 ·unfold putV
  by_cases e : k = i
  ·simp only [e, if_pos]
   exact Blk.setOther hg (hg.ne h.blk) _
  ·simp only [e, if_neg, not_false_eq_true]
   exact Blk.setOther (h.row k hk) ((h.row k hk).ne h.blk) _
theorem BRows.rest {w w' : World} {G m n g : Nat} {X : Nat → Nat → Bool} {bs : Nat → Nat} (h : BRows w G m n X bs) (hr : Rest1 g w w') (hg : w.heap.size ≤ g ∨ (g ≠ G ∧ ∀ i, i < m → bs i ≠ g)) : BRows w' G m n X bs := by
 have hG := Blk.lt h.blk
 refine ⟨Blk.of_heap h.blk (hr.block G hG ?_), fun i hi => Blk.of_heap (h.row i hi) (hr.block _ (Blk.lt (h.row i hi)) ?_)⟩
 ·rcases hg with hg | hg
  ·omega
  ·exact fun e => hg.1 e.symm
 ·rcases hg with hg | hg
  ·have := Blk.lt (h.row i hi); omega
  ·exact hg.2 i hi
theorem BRows.congr {w : World} {G m n : Nat} {X X' : Nat → Nat → Bool} {bs : Nat → Nat} (h : BRows w G m n X bs) (e : ∀ i, i < m → ∀ r, r < n → X i r = X' i r) : BRows w G m n X' bs := ⟨h.blk, fun i hi => (h.row i hi).congr (e i hi)⟩

def LivePost (f : VF) (m n : Nat) (w : World) (e : Ending) (w' : World) : Prop :=
 ∃ G bs X, e = .returned (.slice (some ⟨G, 0, none⟩) m m) ∧ BRows w' G m n X bs ∧ Below w.heap.size w w' ∧ (∀ i, i < m → ∀ r, r < n → (X i r = true ↔ LiveI f i r)) ∧ w.heap.size ≤ G
structure InnerV (f : VF) (w wr : World) (G m n : Nat) (X : Nat → Nat → Bool) (ch : Bool) (j : Nat) : Prop where
 ex : ∃ X' bs, BRows wr G m n X' bs ∧ Appr f m n X' ∧ (ch = true → cntV m n X' < cntV m n X) ∧ (ch = false → X' = X ∧ ∀ i, j ≤ i → i < m → ∀ r, r < n → stepV f X i r = X i r)
 be : Below w.heap.size w wr

set_option maxRecDepth 100000 in
set_option maxHeartbeats 8000000 in
theorem live_any (w : World) (f : VF) (hf : f.Ok w) (m n : Nat) (hm : m = f.blocks.length) (hm2 : 0 < m ∧ m ≤ 4096) (hn : f.regs = (n : Int)) (hn2 : 0 < n ∧ n ≤ 8192) (hfit : ∀ i, i < m → (f.blk i).Fit n) (htos : TosV f m) :
  Calls Tryz.prog 40 #[f.v] w (LivePost f m n w) := by
 have hmk : ∀ w : World, (Instr.makeSlice 51 (.int .i64 (n : Int)) (.int .i64 (n : Int))).run Tryz.prog w = .ok (.slice (some ⟨w.heap.size, 0, none⟩) n n) (w.alloc (.cells (rowL n fun _ => .bool false).toArray 4)) := fun w => run_make_rep (P := Tryz.prog) 51 4 (.bool false) 1 Tryz.underlying51 Tryz.infoB4 rfl n (by omega) (by omega) w
 have hmk2 : ∀ w : World, (Instr.makeSlice 73 (.int .i64 (m : Int)) (.int .i64 (m : Int))).run Tryz.prog w = .ok (.slice (some ⟨w.heap.size, 0, none⟩) m m) (w.alloc (.cells (rowL m fun _ => .slice none 0 0).toArray 51)) := fun w => run_make_rep (P := Tryz.prog) 73 51 (.slice none 0 0) 24 Tryz.underlying73 Tryz.infoR51 rfl m (by omega) (by omega) w
 have hsm : f.sn = m := by rw [hm]; exact hf.len.symm
 have hb1 : Below w.heap.size w ((w.alloc (.cells #[.int .i64 f.name, .slice f.pa f.pn f.pc, .int .i64 n, .slice f.sa m f.sc] 25)).alloc (.cells (rowL m fun _ => .slice none 0 0).toArray 51)) := ((Below.refl _ _).alloc (Nat.le_refl _) _).alloc (by simp) _
 have hbk := (Blk.new w [.int .i64 f.name, .slice f.pa f.pn f.pc, .int .i64 n, .slice f.sa m f.sc] 25).alloc (.cells (rowL m fun _ => .slice none 0 0).toArray 51)
 have hbG := Blk.new (w.alloc (.cells #[.int .i64 f.name, .slice f.pa f.pn f.pc, .int .i64 n, .slice f.sa m f.sc] 25)) (rowL m fun _ => .slice none 0 0) 51
 rw [World.size_alloc] at hbG
 have HF := Lib.hid hf
 have HFIT := Lib.hid hfit
 have HTOS := Lib.hid htos
 have HMB := Lib.hid hm
 have HNR := Lib.hid hn
 have HSM := Lib.hid hsm
 clear hf hfit htos hm
 unfold VF.v
 rw [hn, hsm]
 clear hn hsm
 go_enter Tryz.func40, Tryz.ntmps40
 go_wp2_with fail
 have HB1 := Lib.hid hb1
 have HBK := Lib.hid hbk
 have HBG := Lib.hid hbG
 clear hb1 hbk hbG
 generalize (w.alloc (.cells #[.int .i64 f.name, .slice f.pa f.pn f.pc, .int .i64 n, .slice f.sa m f.sc] 25)).alloc (.cells (rowL m fun _ => .slice none 0 0).toArray 51) = w1 at HB1 HBK HBG ⊢
 go_loopw [4, 14] (fun _ u wr => ∃ (k : Nat) (bs : Nat → Nat), k ≤ m ∧ u = .int .i64 (k : Int) ∧ Blk wr (w.heap.size + 1) 51 (rowL m fun i => if i < k then .slice (some ⟨bs i, 0, none⟩) n n else .slice none 0 0) ∧ (∀ i, i < k → BRow wr (bs i) n fun _ => false) ∧ Below w.heap.size w wr ∧
   Blk wr w.heap.size 25 [.int .i64 f.name, .slice f.pa f.pn f.pc, .int .i64 n, .slice f.sa m f.sc]) (fun _ u _ => m - (intOf u).toNat)
 case atStart => exact ⟨0, fun _ => 0, Nat.zero_le _, rfl, HBG.out, fun i hi => absurd hi (Nat.not_lt_zero _), HB1.out, HBK.out⟩
 case round =>
  clear HBG HBK HB1
  obtain ⟨k, bs, hk, rfl, hbG, hrow, hbe, hbk⟩ := hrel
  by_cases hlt : k < m
  ·have c2 := hbk.cell 2
   simp only [List.getElem?_cons_zero, List.getElem?_cons_succ] at c2
   have cG := Blk.row hbG hlt
   rw [if_neg (by omega)] at cG
   have fG := hbG.free k
   have hGl := Blk.lt hbG
   have hset : Blk (wr.setCell ⟨w.heap.size + 1, k, none⟩ (.slice (some ⟨wr.heap.size, 0, none⟩) n n)) (w.heap.size + 1) 51 (rowL m fun i => if i < k + 1 then .slice (some ⟨(fun i => if i = k then wr.heap.size else bs i) i, 0, none⟩) n n else .slice none 0 0) := by
    refine Blk.rowCongr (Blk.rowSet hbG k _) fun i hi => ?_
    by_cases e1 : i = k
    ·subst e1; simp
    ·by_cases e2 : i < k
     ·simp [e1, e2, show i < k + 1 by omega]
     ·simp [e1, e2, show ¬ i < k + 1 by omega]
   have HN : Hid (Blk ((wr.setCell ⟨w.heap.size + 1, k, none⟩ (.slice (some ⟨wr.heap.size, 0, none⟩) n n)).alloc (.cells (rowL n fun _ => .bool false).toArray 4)) (w.heap.size + 1) 51 (rowL m fun i => if i < k + 1 then .slice (some ⟨(fun i => if i = k then wr.heap.size else bs i) i, 0, none⟩) n n else .slice none 0 0)) := hset.alloc _
   have HN2 : Hid (∀ i, i < k + 1 → BRow ((wr.setCell ⟨w.heap.size + 1, k, none⟩ (.slice (some ⟨wr.heap.size, 0, none⟩) n n)).alloc (.cells (rowL n fun _ => .bool false).toArray 4)) ((fun i => if i = k then wr.heap.size else bs i) i) n fun _ => false) := fun i hi => by
    by_cases e1 : i = k
    ·subst e1
     simp only [if_true]
     have := Blk.new (wr.setCell ⟨w.heap.size + 1, i, none⟩ (.slice (some ⟨wr.heap.size, 0, none⟩) n n)) (rowL n fun _ => .bool false) 4
     rwa [show (wr.setCell ⟨w.heap.size + 1, i, none⟩ (.slice (some ⟨wr.heap.size, 0, none⟩) n n)).heap.size = wr.heap.size from by simp [World.setCell]] at this
    ·simp only [e1, if_false]
     have hr := hrow i (by omega)
     exact Blk.alloc (Blk.setOther hr (hr.ne hbG) _) _
   have HN3 : Hid (Below w.heap.size w ((wr.setCell ⟨w.heap.size + 1, k, none⟩ (.slice (some ⟨wr.heap.size, 0, none⟩) n n)).alloc (.cells (rowL n fun _ => .bool false).toArray 4))) := (hbe.setCell (p := ⟨w.heap.size + 1, k, none⟩) (by simp) _).alloc (by have := hbe.size; simp [World.setCell]; omega) _
   have HN4 : Hid (Blk ((wr.setCell ⟨w.heap.size + 1, k, none⟩ (.slice (some ⟨wr.heap.size, 0, none⟩) n n)).alloc (.cells (rowL n fun _ => .bool false).toArray 4)) w.heap.size 25 [.int .i64 f.name, .slice f.pa f.pn f.pc, .int .i64 n, .slice f.sa m f.sc]) := (hbk.setOther (by simp) _).alloc _
   clear hbG hrow hbe hbk hset
   go_wp2_with fail
   go_roundw
   case rel => exact ⟨k + 1, _, by omega, by go_num, HN.out, HN2.out, HN3.out, HN4.out⟩
   case measure => simp [intOf]; omega
  ·obtain rfl : k = m := by omega
   have hR0 : BRows wr (w.heap.size + 1) k n (fun _ _ => false) bs := ⟨Blk.rowCongr hbG fun i hi => by rw [if_pos hi], hrow⟩
   have HR0 := Lib.hid hR0
   have HBE := Lib.hid hbe
   have HBK := Lib.hid hbk
   clear hbG hrow hR0 hbe hbk hmk hmk2
   obtain ⟨w2, hw2⟩ : ∃ w2, w2 = wr := ⟨_, rfl⟩
   rw [← hw2] at HR0 HBE HBK ⊢
   clear hw2
   obtain ⟨G, hG⟩ : ∃ G, G = w.heap.size + 1 := ⟨_, rfl⟩
   rw [← hG] at HR0 ⊢
   obtain ⟨B, hB⟩ : ∃ B, B = w.heap.size := ⟨_, rfl⟩
   rw [← hB] at HBK ⊢
   have HG := Lib.hid hG
   have HBB := Lib.hid hB
   clear hG hB
   obtain ⟨sa, hsa0⟩ : ∃ s, s = f.sa := ⟨_, rfl⟩
   rw [← hsa0] at HBK ⊢
   have HSA := Lib.hid hsa0
   clear hsa0 hk hlt
   have hGB : G ≠ B := by rw [HG.out, HBB.out]; omega
   have HAP0 := Lib.hid (Appr.none f k n)
   go_wp2_with fail
   go_loopg [5, 6, 7] (cntV k n (fun _ _ => false) + 1) (fun gk c _ _ wr => ∃ (X : Nat → Nat → Bool) (bs : Nat → Nat) (ch : Bool), c = .bool ch ∧ BRows wr G k n X bs ∧ Appr f k n X ∧ Below w.heap.size w wr ∧ Blk wr B 25 [.int .i64 f.name, .slice f.pa f.pn f.pc, .int .i64 n, .slice sa k f.sc] ∧ (ch = false → FixV f k n X) ∧ cntV k n X + (if ch then 1 else 0) ≤ gk)
   case atStart => exact ⟨_, bs, true, rfl, HR0.out, HAP0.out, HBE.out, HBK.out, fun h => by (cases h), Nat.le_refl _⟩
   case round =>
    clear HR0 HAP0 HBE HBK
    obtain ⟨X, bs, ch, rfl, hR, hA, hbe, hbk, hfix, hgk⟩ := hrel
    have HR := Lib.hid hR
    have HA := Lib.hid hA
    have HBE := Lib.hid hbe
    have HBK := Lib.hid hbk
    have HGK := Lib.hid hgk
    have HFX := Lib.hid hfix
    clear hR hA hbe hgk hfix
    cases ch
    ·clear hbk
     go_wp2_with fail
     go_ret
     exact ⟨G, bs, X, rfl, HR.out, HBE.out, HA.out.fix HTOS.out (HFX.out (by simp)), by rw [HG.out]; omega⟩
    ·have c3 := hbk.cell 3
     simp only [List.getElem?_cons_zero, List.getElem?_cons_succ] at c3
     clear hbk
     go_wp2_with fail
     clear c3
     go_loopw [5, 6, 7] (fun c u _ wr => ∃ (j : Nat) (ch : Bool), c = .bool ch ∧ j ≤ k ∧ u = .int .i64 ((j : Int) - 1) ∧ InnerV f w wr G k n X ch j ∧ Blk wr B 25 [.int .i64 f.name, .slice f.pa f.pn f.pc, .int .i64 n, .slice sa k f.sc]) (fun _ u _ _ => (intOf u + 1).toNat)
     case atStart => exact ⟨k, false, rfl, Nat.le_refl _, rfl, ⟨⟨X, bs, HR.out, HA.out, fun h => (by cases h), fun _ => ⟨rfl, fun i h1 h2 => by omega⟩⟩, HBE.out⟩, HBK.out⟩
     case round =>
      obtain ⟨j, ch, rfl, hj, rfl, hin, hbk⟩ := hrel
      obtain ⟨w5, hw5⟩ : ∃ w5, w5 = wr := ⟨_, rfl⟩
      rw [← hw5] at hin hbk ⊢
      clear hw5 HR HA HBE HBK
      by_cases hj0 : j = 0
      ·subst hj0
       rw [show ((0 : Nat) : Int) - 1 = -1 from rfl]
       have HIN := Lib.hid hin
       have HBK := Lib.hid hbk
       clear hin hbk
       go_wp2_with fail
       obtain ⟨⟨X', bs', h1, h2, h3, h4⟩, h5⟩ := HIN.out
       go_roundg (cntV k n X' + (if ch then 1 else 0))
       case measure =>
        have := HGK.out
        cases ch
        ·obtain ⟨rfl, _⟩ := h4 rfl
         simp at this ⊢; omega
        ·have := h3 rfl
         simp at *; omega
       case rel => exact ⟨X', bs', ch, rfl, h1, h2, h5, HBK.out, fun h => (by obtain ⟨rfl, h6⟩ := h4 h; exact fun i hi r hr => h6 i (Nat.zero_le _) hi r hr), Nat.le_refl _⟩
      ·obtain ⟨i, rfl⟩ := Nat.exists_eq_succ_of_ne_zero hj0
       rw [show ((i.succ : Nat) : Int) - 1 = (i : Int) by omega]
       obtain ⟨⟨X', bs', hR, hA, h3, h4⟩, hbe⟩ := hin
       have hik : i < k := by omega
       have hib : i < f.blocks.length := by rw [← HMB.out]; exact hik
       have c0 := hbk.cell 0
       have c1 := hbk.cell 1
       have c2 := hbk.cell 2
       have c3 := hbk.cell 3
       simp only [List.getElem?_cons_zero, List.getElem?_cons_succ] at c0 c1 c2 c3
       have hAF := after_any w w5 f HF.out hbe G k n i X' bs' hR HNR.out hn2 hib (by rw [VF.blk_get f hib]; exact HTOS.out i hik)
       unfold VF.v at hAF
       rw [HNR.out, HSM.out, ← HSA.out, VF.blk_get f hib] at hAF
       have HAF := Lib.hid hAF
       have HR := Lib.hid hR
       have HA := Lib.hid hA
       have H3 := Lib.hid h3
       have H4 := Lib.hid h4
       have HBE := Lib.hid hbe
       have HBK := Lib.hid hbk
       clear hR hA h3 h4 hbe hbk hAF
       go_wp2_with fail
       refine HAF.out.mono ?_
       rintro e w6 ⟨g, rfl, hg, hrow, hb6⟩
       obtain ⟨b, hb⟩ : ∃ b, b = f.blk i := ⟨_, rfl⟩
       have hHG := Blk.lt HR.out.blk
       have hbsl := fun q (hq : q < k) => Blk.lt (HR.out.row q hq)
       have HR6 := Lib.hid (HR.out.below hb6)
       have hbe6 := HBE.out.trans (hb6.mono HBE.out.size)
       have HBK6 := Lib.hid (Blk.below HBK.out hb6 (Blk.lt HBK.out))
       obtain ⟨gb, ob, hsa, hgb, d0, d1, d2, d3, d4, d5, d6⟩ := HF.out.cells hbe6 hib
       rw [VF.blk_get f hib, ← hb] at d0 d1 d2 d3 d4 d5 d6
       rw [← HSA.out] at hsa
       subst hsa
       have hbo : b.Ok w := by rw [hb, ← VF.blk_get f hib]; exact HF.out.blocks _ (List.getElem_mem _)
       have hgw : w.heap.size ≤ g := Nat.le_trans HBE.out.size hg
       have hBF := before_any w w6 b hbo hbe6 g n hgw _ hrow hn2 (by rw [hb]; exact HFIT.out i hik)
       unfold vbW at hBF
       have c3 := Blk.cell HBK6.out 3
       simp only [List.getElem?_cons_zero, List.getElem?_cons_succ] at c3
       have HB := Lib.hid hb
       have HBF := Lib.hid hBF
       have HBE6 := Lib.hid hbe6
       have HROW := Lib.hid hrow
       have HSTEP : Hid (blkF b (aftF (f.blk i).e.to X') = stepV f X' i) := by show _ = _; rw [hb]; rfl
       clear hb hBF hbe6 hrow hb6 hbo HR HBE HBK HAF
       have hil : (i : Int) < (k : Int) := by omega
       go_wp2_with fail
       refine HBF.out.mono ?_
       rintro e w7 ⟨rfl, hrow7, hr7⟩
       rw [HSTEP.out] at hrow7
       have HR7 := Lib.hid (HR6.out.rest hr7 (.inr ⟨by omega, fun q hq => by have := hbsl q hq; omega⟩))
       have HBE7 := Lib.hid (HBE6.out.trans (hr7.below hgw HBE6.out.size))
       have hBg : B < w6.heap.size := Blk.lt HBK6.out
       have HBK7 := Lib.hid (Blk.of_heap HBK6.out (hr7.block B hBg (by rw [HBB.out]; have := HG.out; omega)))
       have hEq := equal_bools w7 g (bs' i) n _ _ hrow7 (HR7.out.row i hik) hn2.2 (decide (∀ r, r < n → stepV f X' i r = X' i r)) (by simp)
       have cG := Blk.row HR7.out.blk hik
       have HEQ := Lib.hid hEq
       have HROW7 := Lib.hid hrow7
       have HR77 := Lib.hid hr7
       clear hEq hrow7 hr7 d0 d1 d2 d3 d4 d5 d6 c3 HBF HROW HR6 HBK6 HBE6
       by_cases hsame : ∀ r, r < n → stepV f X' i r = X' i r
       ·rw [decide_eq_true hsame] at HEQ
        have HSAME := Lib.hid hsame
        clear hsame
        go_wp2_with fail
        refine HEQ.out.mono ?_
        rintro e w8 ⟨q8, rfl, rfl⟩
        have HFIN : Hid (InnerV f w (w7.drewN q8) G k n X ch i) := ⟨⟨X', bs', HR7.out.below (below_drewN_self _ _ _), HA.out, H3.out, fun h => by
         obtain ⟨rfl, h6⟩ := H4.out h
         refine ⟨rfl, fun i' h7 h8 => ?_⟩
         by_cases e9 : i' = i
         ·subst e9; exact HSAME.out
         ·exact h6 i' (by omega) h8⟩, HBE7.out.trans (below_drewN_self _ _ _)⟩
        have HBK8 := Lib.hid (Blk.drewN HBK7.out q8)
        go_wp2_with fail
        go_roundw
        case rel => exact ⟨i, ch, rfl, by omega, by go_num, HFIN.out, HBK8.out⟩
        case measure => simp [intOf]
       ·rw [decide_eq_false hsame] at HEQ
        have HSAME := Lib.hid hsame
        clear hsame
        go_wp2_with fail
        refine HEQ.out.mono ?_
        rintro e w8 ⟨q8, rfl, rfl⟩
        have cG8 : (w7.drewN q8).cell? ⟨G, i, none⟩ = some (.slice (some ⟨bs' i, 0, none⟩) n n) := cG
        have fG8 := Blk.free (Blk.drewN HR7.out.blk q8) i
        have hR8 := (HR7.out.below (below_drewN_self w7.heap.size w7 q8)).put (Blk.drewN HROW7.out q8) i
        have HFIN : Hid (InnerV f w ((w7.drewN q8).setCell ⟨G, i, none⟩ (.slice (some ⟨g, 0, none⟩) n n)) G k n X true i) := by
         refine ⟨⟨_, _, hR8, HA.out.put HTOS.out hik, fun _ => ?_, fun h => by cases h⟩, (HBE7.out.trans (below_drewN_self _ _ _)).setCell (p := ⟨G, i, none⟩) (by show w.heap.size ≤ G; rw [HG.out]; omega) _⟩
         have hlt : cntV k n (putV X' i (stepV f X' i)) < cntV k n X' := by
          refine cntV_put hik (fun r hr hx => HA.out.post i hik r hr hx) ?_
          have := HSAME.out
          apply Classical.byContradiction
          intro hc
          exact this fun r hr => Classical.byContradiction fun hne => hc ⟨r, hr, fun e => hne e.symm⟩
         cases ch
         ·obtain ⟨rfl, _⟩ := H4.out rfl
          exact hlt
         ·exact Nat.lt_trans hlt (H3.out rfl)
        have HBK8 := Lib.hid (Blk.setOther (Blk.drewN HBK7.out q8) (a := ⟨G, i, none⟩) (fun e => hGB e.symm) (.slice (some ⟨g, 0, none⟩) n n))
        clear hR8 cG
        go_wp2_with fail
        go_roundw
        case rel => exact ⟨i, true, rfl, by omega, by go_num, HFIN.out, HBK8.out⟩
        case measure => simp [intOf]
end Go.Proofs.YtdnpoomagjcpfaaGreat
