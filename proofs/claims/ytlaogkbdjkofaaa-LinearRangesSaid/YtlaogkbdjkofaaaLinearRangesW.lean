/- The walk of LinearRanges. -/
import Derived.Test.YtlaogkbdjkofaaaLinRan
import Derived.Test.YtlaogkbdjkofaaaLinPts
import Derived.Test.YtlaogkbdjkofaaaVSmall
import Derived.Test.YtlaogkbdjkofaaaVRef
namespace Go.Proofs.Ytlaogkbdjkofaaa
open Go.RowKit
set_option linter.unusedVariables false
set_option linter.unusedSimpArgs false

def cntO (p : Nat → Bool) (r : Nat) : Nat := ((List.range r).filter fun r => decide (1 ≤ r) && p r).length
theorem cntO_next (p : Nat → Bool) {r : Nat} (hr : 1 ≤ r) : cntO p (r + 1) = cntO p r + (if p r = true then 1 else 0) := by
  unfold cntO
  rw [List.range_succ, List.filter_append, List.length_append]
  cases h : p r <;> simp [h, hr]
theorem cntO_one (p : Nat → Bool) : cntO p 1 = 0 := by simp [cntO, List.range_succ]
theorem cntO_le (p : Nat → Bool) (r : Nat) : cntO p r ≤ r := by
  unfold cntO
  exact Nat.le_trans (List.length_filter_le ..) (by simp)
theorem occ_dec (f : VF) (nb : Nat) : ∃ p : Nat → Bool, ∀ r, p r = true ↔ OccP f nb r := ⟨fun r => @decide _ (Classical.propDecidable (OccP f nb r)), fun r => @decide_eq_true_iff _ (Classical.propDecidable _)⟩
set_option maxRecDepth 100000 in
set_option maxHeartbeats 8000000 in
theorem linearRanges_walk (f : VF) (w : World) (hf : f.Ok w) : Calls Try.prog 5 #[f.v] w fun e w' => e = .returned (.bool true) ∧ Below w.heap.size w w' := by
  have hb0 : BoxV f w (w.alloc (.cells #[.int .i64 f.name, .slice f.pa f.pn f.pc, .int .i64 f.regs, .slice f.sa f.sn f.sc] 25)) f.pa f.sa := ⟨(Below.refl _ _).alloc (Nat.le_refl _) _, Blk.new w [.int .i64 f.name, .slice f.pa f.pn f.pc, .int .i64 f.regs, .slice f.sa f.sn f.sc] 25⟩
  have HSM := Lib.hid fun wx (h : Below w.heap.size w wx) => small_ok wx f (hf.below h)
  have HIN := Lib.hid fun wx (h : Below w.heap.size w wx) => ranges_any wx f (hf.below h)
  have HFE := Lib.hid fun wx (h : Below w.heap.size w wx) => fnError_any wx f (hf.below h)
  have HPT := Lib.hid fun wx (h : Below w.heap.size w wx) n nb (h1 : FnOk f n nb) r (h2 : 1 ≤ r ∧ r < n) => points_any wx f (hf.below h) n nb h1 r h2
  have HOC := Lib.hid fun wx (h : Below w.heap.size w wx) n nb (h1 : FnOk f n nb) r (h2 : 1 ≤ r ∧ r < n) => occurs_any wx f (hf.below h) n nb h1 r h2
  have HCF := Lib.hid fun wx => linearFact_ok wx
  unfold VF.v at HSM HIN HFE HPT HOC ⊢
  obtain ⟨pa, hpa⟩ : ∃ s, s = f.pa := ⟨_, rfl⟩
  obtain ⟨sa, hsa⟩ : ∃ s, s = f.sa := ⟨_, rfl⟩
  rw [← hpa, ← hsa] at hb0 HSM HIN HFE HPT HOC ⊢
  have HB0 := Lib.hid hb0
  obtain ⟨fe, hfe⟩ : ∃ x, x = fnE f := ⟨_, rfl⟩
  have HFQ := Lib.hid hfe
  rw [← hfe] at HFE
  clear hf hb0 hpa hsa hfe
  go_enter Try.func5, Try.ntmps5
  go_upto_region 1 with fail
  generalize w.alloc (.cells #[.int .i64 f.name, .slice pa f.pn f.pc, .int .i64 f.regs, .slice sa f.sn f.sc] 25) = w1 at HB0 ⊢
  go_wp2_with fail
  refine (HCF.out w1).mono ?_
  rintro e w2 ⟨rfl, hb2⟩
  have HB2 := Lib.hid (HB0.out.below hb2)
  clear hb2 HB0 HCF
  have c0 := HB2.out.box.cell 0
  have c1 := HB2.out.box.cell 1
  have c2 := HB2.out.box.cell 2
  have c3 := HB2.out.box.cell 3
  simp only [List.getElem?_cons_zero, List.getElem?_cons_succ] at c0 c1 c2 c3
  go_wp2_with fail
  refine (HSM.out w2 HB2.out.be).mono ?_
  rintro e w3 ⟨sm, rfl, hsm, hb3⟩
  have HB3 := Lib.hid (HB2.out.below hb3)
  clear hb3 HB2 c0 c1 c2 c3 HSM
  cases sm with
  | false =>
    go_wp2_with fail
    go_ret
    exact ⟨rfl, HB3.out.be⟩
  | true =>
    obtain ⟨h40, h12⟩ := hsm rfl
    clear hsm
    have c0 := HB3.out.box.cell 0
    have c1 := HB3.out.box.cell 1
    have c2 := HB3.out.box.cell 2
    have c3 := HB3.out.box.cell 3
    simp only [List.getElem?_cons_zero, List.getElem?_cons_succ] at c0 c1 c2 c3
    go_wp2_with fail
    refine (HIN.out w3 HB3.out.be).mono ?_
    rintro e w4 ⟨hb4, ⟨hne, rfl⟩ | ⟨hz, n, nb, g, c, l, hok, rfl, hrow, hrp, hcn⟩⟩
    · rw [← HFQ.out] at hne ⊢
      have hne' : (fe == 0) = false := by simpa using hne
      have HB4 := Lib.hid (HB3.out.below hb4)
      clear hb4 HB3 c0 c1 c2 c3 hne HIN
      have c0 := HB4.out.box.cell 0
      have c1 := HB4.out.box.cell 1
      have c2 := HB4.out.box.cell 2
      have c3 := HB4.out.box.cell 3
      simp only [List.getElem?_cons_zero, List.getElem?_cons_succ] at c0 c1 c2 c3
      go_wp2_with fail
      refine (HFE.out w4 HB4.out.be).mono ?_
      rintro e w5 ⟨rfl, hb5⟩
      have HB5 := Lib.hid (HB4.out.below hb5)
      clear hb5 HB4 c0 c1 c2 c3 HFE
      go_wp2_with fail
      go_ret
      exact ⟨rfl, HB5.out.be⟩
    · obtain rfl : fe = 0 := HFQ.out.trans hz
      have HB4 := Lib.hid (HB3.out.below hb4)
      have HOK := Lib.hid hok
      have HRP := Lib.hid hrp
      have HROW := Lib.hid hrow
      have hn2 := hok.n2
      have hreg := hok.regs
      have hn40 : n ≤ 40 := by omega
      have HREG := Lib.hid hreg
      obtain ⟨p, hp⟩ := occ_dec f nb
      have HP := Lib.hid hp
      have hcnt : l.length = cntO p n := hcn p fun r _ _ => hp r
      have hll := cntO_le p n
      rw [← hcnt] at hll
      clear hb4 HB3 hok hrow hrp hcn hreg hp c0 c1 c2 c3 HIN hz h40
      have c0 := HB4.out.box.cell 0
      have c1 := HB4.out.box.cell 1
      have c2 := HB4.out.box.cell 2
      have c3 := HB4.out.box.cell 3
      simp only [List.getElem?_cons_zero, List.getElem?_cons_succ] at c0 c1 c2 c3
      have HCNT := Lib.hid hcnt
      clear hcnt
      go_wp2_with fail
      refine (HFE.out w4 HB4.out.be).mono ?_
      rintro e w5 ⟨rfl, hb5⟩
      have HB5 := Lib.hid (HB4.out.below hb5)
      have HROW5 := Lib.hid (HROW.out.below hb5)
      clear hb5 HB4 HROW c0 c1 c2 c3 HFE
      obtain ⟨N, hN⟩ : ∃ N, N = l.length := ⟨_, rfl⟩
      rw [← hN] at hll ⊢
      rw [← hN] at HCNT
      have HN := Lib.hid hN
      clear hN
      go_upto_block 0 with fail
      go_cut [6, 7, 8, 9, 10, 11, 12, 13, 14, 15, 16, 17] from 43 (fun v6 _ _ _ _ _ _ _ _ _ _ _ wx => v6 = .int .i64 (N : Int) ∧ BoxV f w wx pa sa)
      case first => as_aux_lemma =>
        go_wp2_with fail
        go_loopw [6, 45] (fun u6 u45 wr => ∃ k : Nat, k ≤ N ∧ u45 = .int .i64 (k : Int) ∧ u6 = .int .i64 (k : Int) ∧ BoxV f w wr pa sa ∧ RgRow wr w3.heap.size (some ⟨g, 0, none⟩) c l) (fun _ u _ => N - (intOf u).toNat)
        case atStart => exact ⟨0, Nat.zero_le _, rfl, rfl, HB5.out, HROW5.out⟩
        case round =>
          clear HB5 HROW5
          obtain ⟨k, hk, rfl, rfl, hbx, hrow⟩ := hrel
          by_cases hlt : k < N
          ·
            have hkl : k < l.length := by rw [← HN.out]; exact hlt
            obtain ⟨r, hxr, hr1, hr2, hpb, hpe, hpa2, hps⟩ := HRP.out.el l[k] (List.getElem_mem _)
            obtain ⟨c0, c1, c2, c3⟩ := hrow.cells hkl
            have hgw := (hrow.lt g rfl).2
            have hcap : N ≤ c ∧ c ≤ 9223372036854775807 := by
              obtain ⟨g9, hgg9, _, _, hcap1, hcap2⟩ := hrow.has (by omega)
              unfold maxLen at hcap2
              rw [← HN.out] at hcap1
              exact ⟨hcap1, by omega⟩
            obtain ⟨hcap1, hcap2⟩ := hcap
            have hprev : ∀ m, k = m + 1 → ∃ yr yb : Int, wr.cell? ⟨g, m * 4, none⟩ = some (.int .i64 yr) ∧ wr.cell? ⟨g, m * 4 + 1, none⟩ = some (.int .i64 yb) ∧ (yb < l[k].b ∨ (yb = l[k].b ∧ yr < l[k].r)) := fun m hm => by
              have hml : m < l.length := by omega
              obtain ⟨e0, e1, _, _⟩ := hrow.cells hml
              have h9 := (List.pairwise_iff_getElem.1 HRP.out.ord) m k hml hkl (by omega)
              exact ⟨_, _, e0, e1, h9⟩
            rw [hxr] at c0 hprev
            obtain ⟨xb, hxb⟩ : ∃ b, b = l[k].b := ⟨_, rfl⟩
            obtain ⟨xe, hxe⟩ : ∃ b, b = l[k].e := ⟨_, rfl⟩
            obtain ⟨xs, hxs⟩ : ∃ b, b = l[k].s := ⟨_, rfl⟩
            rw [← hxb] at c1 hpb hpa2 hps hprev
            rw [← hxe] at c2 hpe hpa2 hps
            rw [← hxs] at c3 hps
            have HBX := Lib.hid hbx
            have HROW := Lib.hid hrow
            have HPB := Lib.hid hpb
            have HPE := Lib.hid hpe
            have HPA := Lib.hid hpa2
            have HPS := Lib.hid hps
            have hki : (k : Int) < (N : Int) := by omega
            clear hbx hrow hpb hpe hpa2 hps hxr hxb hxe hxs
            go_upto_region 15 with fail
            have hbx0 : Below wr.heap.size wr (wr.alloc (.cells #[.int .i64 (r : Int), .int .i64 xb, .int .i64 xe, .bool xs] 46)) := (Below.refl _ _).alloc (Nat.le_refl _) _
            have HXB : Hid (Blk (wr.alloc (.cells #[.int .i64 (r : Int), .int .i64 xb, .int .i64 xe, .bool xs] 46)) wr.heap.size 46 [.int .i64 (r : Int), .int .i64 xb, .int .i64 xe, .bool xs]) := Blk.new wr _ _
            have HBX6 := Lib.hid (HBX.out.below hbx0)
            have HROW6 := Lib.hid (HROW.out.below hbx0)
            have hprev6 : ∀ m, k = m + 1 → ∃ yr yb : Int, (wr.alloc (.cells #[.int .i64 (r : Int), .int .i64 xb, .int .i64 xe, .bool xs] 46)).cell? ⟨g, m * 4, none⟩ = some (.int .i64 yr) ∧ (wr.alloc (.cells #[.int .i64 (r : Int), .int .i64 xb, .int .i64 xe, .bool xs] 46)).cell? ⟨g, m * 4 + 1, none⟩ = some (.int .i64 yb) ∧ (yb < xb ∨ (yb = xb ∧ yr < (r : Int))) := fun m hm => by
              obtain ⟨yr, yb, e0, e1, h9⟩ := hprev m hm
              exact ⟨yr, yb, (hbx0.cell (p := ⟨g, m * 4, none⟩) hgw).trans e0, (hbx0.cell (p := ⟨g, m * 4 + 1, none⟩) hgw).trans e1, h9⟩
            have hg6 : g < (wr.alloc (.cells #[.int .i64 (r : Int), .int .i64 xb, .int .i64 xe, .bool xs] 46)).heap.size := Nat.lt_of_lt_of_le hgw hbx0.size
            obtain ⟨bx, hbx⟩ : ∃ x, x = wr.heap.size := ⟨_, rfl⟩
            rw [← hbx] at HXB ⊢
            clear hbx hbx0 HBX HROW c0 c1 c2 c3 hprev hgw
            generalize wr.alloc (.cells #[.int .i64 (r : Int), .int .i64 xb, .int .i64 xe, .bool xs] 46) = w6 at HXB HBX6 HROW6 hprev6 hg6 ⊢
            go_cut [96] from 50 to 162 (fun v wx => v = .bool false ∧ Below w6.heap.size w6 wx)
            case first => as_aux_lemma =>
              have b0 := HXB.out.cell 0
              have b1 := HXB.out.cell 1
              have f2 := HBX6.out.box.cell 2
              simp only [List.getElem?_cons_zero, List.getElem?_cons_succ] at b0 b1 f2
              rw [HREG.out] at f2
              have hlx := Blk.lt HXB.out
              have hlf := Blk.lt HBX6.out.box
              have q0 := fun z : After w6.heap.size w6.drew => (z.below.cell (p := ⟨bx, 0, none⟩) hlx).trans b0
              have q1 := fun z : After w6.heap.size w6.drew => (z.below.cell (p := ⟨bx, 1, none⟩) hlx).trans b1
              have q2 := fun z : After w6.heap.size w6.drew => (z.below.cell (p := ⟨w.heap.size, 2, none⟩) hlf).trans f2
              have hd6 : Below w6.heap.size w6 w6.drew := (Below.refl w6.heap.size w6).drew
              have HD6 := Lib.hid hd6
              have hr1i : (1 : Int) ≤ (r : Int) := by omega
              have hr2i : (r : Int) < (n : Int) := by omega
              have p1 : decide ((r : Int) < 1) = false := by simp; omega
              have p2 : decide ((n : Int) ≤ (r : Int)) = false := by simp; omega
              have HNR : Hid (Value.bool (decide (n ≤ r)) = Value.bool false) := by show _ = _; rw [decide_eq_false (by omega)]
              clear hd6 b0 b1 f2
              rcases Nat.eq_zero_or_pos k with hk0 | hk0
              · subst hk0
                clear hprev6
                refine wp_region_eager w6.heap.size [(0, true), (1, true), (2, true), (3, true), (4, true), (5, true), (6, true), (7, true), (8, true), (9, true), (10, true), (11, true), (12, true), (13, true), (14, true), (15, true), (16, true), (17, true), (18, true), (19, true), (20, true), (21, true), (22, true), (23, true), (24, true), (25, true), (26, true), (27, true), (28, true), (29, true), (30, true), (31, true), (32, true), (33, true), (34, true), (35, true), (36, true), (37, true), (38, true), (39, true), (40, true), (41, true), (42, true), (43, true), (44, true), (45, true), (46, true)] (by kernel_rfl) (by kernel_rfl) ?_
                repeat (refine eag_read rfl ?_; go_big_quiet_step (fail); refine wpQuiet_nil ?_)
                refine eag_end ?_
                clear q0 q1 q2
                go_wp2_with fail
                go_meet
                exact ⟨HNR.out, HD6.out⟩
              · obtain ⟨m, rfl⟩ : ∃ m, k = m + 1 := ⟨k - 1, by omega⟩
                obtain ⟨yr, yb, e0, e1, h9⟩ := hprev6 m rfl
                have q3 := fun z : After w6.heap.size w6.drew => (z.below.cell (p := ⟨g, m * 4, none⟩) hg6).trans e0
                have q4 := fun z : After w6.heap.size w6.drew => (z.below.cell (p := ⟨g, m * 4 + 1, none⟩) hg6).trans e1
                have hmc : (m : Int) < (N : Int) := by omega
                have hk9 : (0 : Int) < (m : Int) + 1 := by omega
                clear hprev6 e0 e1
                rcases h9 with h9 | ⟨h9, h8⟩
                · have p3 : decide (xb < yb) = false := by simp; omega
                  have p4 : (yb == xb) = false := beq_eq_false_iff_ne.2 (by omega)
                  refine wp_region_eager w6.heap.size [(0, true), (1, true), (2, true), (3, true), (4, true), (5, true), (6, true), (7, true), (8, true), (9, true), (10, true), (11, true), (12, true), (13, true), (14, true), (15, true), (16, true), (17, true), (18, true), (19, true), (20, true), (21, true), (22, true), (23, true), (24, true), (25, true), (26, true), (27, true), (28, true), (29, true), (30, true), (31, true), (32, true), (33, true), (34, true), (35, true), (36, true), (37, true), (38, true), (39, true), (40, true), (41, true), (42, true), (43, true), (44, true), (45, true), (46, true)] (by kernel_rfl) (by kernel_rfl) ?_
                  repeat (refine eag_read rfl ?_; go_big_quiet_step (fail); refine wpQuiet_nil ?_)
                  refine eag_end ?_
                  clear q0 q1 q2 q3 q4
                  go_wp2_with fail
                  go_meet
                  exact ⟨HNR.out, HD6.out⟩
                · subst h9
                  have p3 : decide (yb < yb) = false := by simp
                  have p4 : (yb == yb) = true := by simp
                  have p5 : decide ((r : Int) ≤ yr) = false := by simp; omega
                  refine wp_region_eager w6.heap.size [(0, true), (1, true), (2, true), (3, true), (4, true), (5, true), (6, true), (7, true), (8, true), (9, true), (10, true), (11, true), (12, true), (13, true), (14, true), (15, true), (16, true), (17, true), (18, true), (19, true), (20, true), (21, true), (22, true), (23, true), (24, true), (25, true), (26, true), (27, true), (28, true), (29, true), (30, true), (31, true), (32, true), (33, true), (34, true), (35, true), (36, true), (37, true), (38, true), (39, true), (40, true), (41, true), (42, true), (43, true), (44, true), (45, true), (46, true)] (by kernel_rfl) (by kernel_rfl) ?_
                  repeat (refine eag_read rfl ?_; go_big_quiet_step (fail); refine wpQuiet_nil ?_)
                  refine eag_end ?_
                  clear q0 q1 q2 q3 q4
                  go_wp2_with fail
                  go_meet
                  exact ⟨HNR.out, HD6.out⟩
            case rest => as_aux_lemma =>
              obtain ⟨rfl, hb7⟩ := hcut
              have HBX := Lib.hid (HBX6.out.below hb7)
              have HROW := Lib.hid (HROW6.out.below hb7)
              have HXB7 := Lib.hid (HXB.out.below hb7 (Blk.lt HXB.out))
              clear hb7 HBX6 HROW6 HXB hprev6 hg6
              have c0 := HBX.out.box.cell 0
              have c1 := HBX.out.box.cell 1
              have c2 := HBX.out.box.cell 2
              have c3 := HBX.out.box.cell 3
              have b0 := HXB7.out.cell 0
              simp only [List.getElem?_cons_zero, List.getElem?_cons_succ] at c0 c1 c2 c3 b0
              have HA := Lib.hid (HPT.out wc HBX.out.be n nb HOK.out r ⟨hr1, hr2⟩)
              go_wp2_with fail
              refine HA.out.mono ?_
              rintro e w7 ⟨oa, ca, oc, cc, outs, calls, rfl, hoo, hco, hmo, hmc, hlo, hlc, hb7⟩
              have HBX7 := Lib.hid (HBX.out.below hb7)
              have HROW7 := Lib.hid (HROW.out.below hb7)
              have HXB8 := Lib.hid (HXB7.out.below hb7 (Blk.lt HXB7.out))
              have hbm : xb ∈ outs := (hmo xb).2 HPB.out
              have hem : xe ∈ outs := (hmo xe).2 HPE.out
              have hol : 0 < outs.length := List.length_pos_of_mem hbm
              obtain ⟨go, oc', hov, _, hgo, hoc1, hoc2⟩ := ownG_has hoo hol
              injection hov with e1 _ e3
              subst e1 e3
              unfold maxLen at hoc2
              have HALL : Hid (∀ t ∈ outs, xb ≤ t ∧ t ≤ xe) := fun t ht => HPA.out t ((hmo t).1 ht)
              have HCM := Lib.hid hmc
              have HBM := Lib.hid hbm
              have HEM := Lib.hid hem
              have HOO := Lib.hid hoo
              have HCO := Lib.hid hco
              have o0 := World.ownsRow.cellAt hoo 0 (by omega)
              rw [List.getElem?_map, List.getElem?_eq_getElem hol] at o0
              simp only [Option.map_some] at o0
              have HO1 : Hid (outs[0] ∈ outs) := List.getElem_mem _
              obtain ⟨o1, ho1⟩ : ∃ x, x = outs[0] := ⟨_, rfl⟩
              rw [← ho1] at o0 HO1
              have hne : ((outs.length : Int) == 0) = false := beq_eq_false_iff_ne.2 (by omega)
              have hol1 : (0 : Int) < (outs.length : Int) := by omega
              clear hb7 hoo hco hmo hmc hbm hem HBX HROW HXB7 HA c0 c1 c2 c3 b0 ho1
              go_upto_region 20 with fail
              obtain ⟨OL, hOL⟩ : ∃ x, x = outs.length := ⟨_, rfl⟩
              have HOL := Lib.hid hOL
              have r0 := fun z : After w7.heap.size w7.drew => (z.below.cell (p := ⟨go, 0, none⟩) hgo).trans o0
              refine wp_region_eager w7.heap.size [(0, true), (1, true), (2, true), (3, true), (4, true), (5, true), (6, true), (7, true), (8, true)] (by kernel_rfl) (by kernel_rfl) ?_
              repeat (refine eag_read rfl ?_; go_big_quiet_step (fail); refine wpQuiet_nil ?_)
              refine eag_end ?_
              clear r0 hOL
              have hd7 : Below w7.heap.size w7 w7.drew := (Below.refl w7.heap.size w7).drew
              have HBX := Lib.hid (HBX7.out.below hd7)
              have HROW := Lib.hid (HROW7.out.below hd7)
              have HXB := Lib.hid (HXB8.out.below hd7 (Blk.lt HXB8.out))
              have HO := Lib.hid (ownG_below HOO.out hd7)
              have HC := Lib.hid (ownG_below HCO.out hd7)
              clear hd7 HBX7 HROW7 HXB8 HOO HCO o0 hgo
              generalize w7.drew = w8 at HBX HROW HXB HO HC ⊢
              go_upto_block 2 with fail
              go_cut [11, 12, 15] from 113 to 162 (fun v11 v12 _ wx => v11 = .int .i64 xb ∧ v12 = .int .i64 xe ∧ wx = w8)
              case first => as_aux_lemma =>
                go_wp2_with fail
                go_loopw [11, 12, 115] (fun u11 u12 u115 wr => ∃ (j : Nat) (lo hi : Int), j ≤ outs.length ∧ u115 = .int .i64 (j : Int) ∧ u11 = .int .i64 lo ∧ u12 = .int .i64 hi ∧ wr = w8 ∧ lo ∈ outs ∧ hi ∈ outs ∧ ∀ j' (h : j' < outs.length), j' < j → lo ≤ outs[j'] ∧ outs[j'] ≤ hi) (fun _ _ u _ => outs.length - (intOf u).toNat)
                case atStart => exact ⟨0, o1, o1, Nat.zero_le _, rfl, rfl, rfl, rfl, HO1.out, HO1.out, fun j' _ h => absurd h (Nat.not_lt_zero _)⟩
                case round =>
                  obtain ⟨j, lo, hi, hj, rfl, rfl, rfl, rfl, hlo9, hhi9, hall⟩ := hrel
                  have HLO := Lib.hid hlo9
                  have HHI := Lib.hid hhi9
                  have HAL := Lib.hid hall
                  clear hlo9 hhi9 hall
                  by_cases hjl : j < outs.length
                  · have o9 := World.ownsRow.cellAt HO.out j (by omega)
                    rw [List.getElem?_map, List.getElem?_eq_getElem hjl] at o9
                    simp only [Option.map_some] at o9
                    obtain ⟨u, hu⟩ : ∃ u, u = outs[j] := ⟨_, rfl⟩
                    rw [← hu] at o9
                    have hgo := (HO.out.lt go rfl).2
                    have HUM : Hid (u ∈ outs) := by rw [hu]; exact List.getElem_mem _
                    have hji : (j : Int) < (outs.length : Int) := by omega
                    have HNX : Hid (∀ lo' hi', lo' ≤ lo → hi ≤ hi' → lo' ≤ u → u ≤ hi' → ∀ j' (h : j' < outs.length), j' < j + 1 → lo' ≤ outs[j'] ∧ outs[j'] ≤ hi') := fun lo' hi' h1 h2 h3 h4 j' h h5 => by
                      by_cases e : j' = j
                      · subst e; rw [← hu]; exact ⟨h3, h4⟩
                      · have := HAL.out j' h (by omega); omega
                    clear hu
                    have hm1 : u < lo ∨ ¬ u < lo := by omega
                    have hm2 : hi < u ∨ ¬ hi < u := by omega
                    rcases hm1 with m1 | m1 <;> rcases hm2 with m2 | m2
                    · go_wp2_with fail
                      go_roundw
                      case rel => exact ⟨j + 1, u, u, by omega, by go_num, rfl, rfl, trivial, HUM.out, HUM.out, HNX.out u u (by omega) (by omega) (by omega) (by omega)⟩
                      case measure => simp [intOf]; omega
                    · go_wp2_with fail
                      go_roundw
                      case rel => exact ⟨j + 1, u, hi, by omega, by go_num, rfl, rfl, trivial, HUM.out, HHI.out, HNX.out u hi (by omega) (by omega) (by omega) (by omega)⟩
                      case measure => simp [intOf]; omega
                    · go_wp2_with fail
                      go_roundw
                      case rel => exact ⟨j + 1, lo, u, by omega, by go_num, rfl, rfl, trivial, HLO.out, HUM.out, HNX.out lo u (by omega) (by omega) (by omega) (by omega)⟩
                      case measure => simp [intOf]; omega
                    · go_wp2_with fail
                      go_roundw
                      case rel => exact ⟨j + 1, lo, hi, by omega, by go_num, rfl, rfl, trivial, HLO.out, HHI.out, HNX.out lo hi (by omega) (by omega) (by omega) (by omega)⟩
                      case measure => simp [intOf]; omega
                  · have e1 : lo = xb := by
                      obtain ⟨q, hq, e⟩ := List.getElem_of_mem HBM.out
                      have h1 := (HAL.out q hq (by omega)).1
                      have h2 := (HALL.out lo HLO.out).1
                      omega
                    have e2 : hi = xe := by
                      obtain ⟨q, hq, e⟩ := List.getElem_of_mem HEM.out
                      have h1 := (HAL.out q hq (by omega)).2
                      have h2 := (HALL.out hi HHI.out).2
                      omega
                    have E1 := Lib.hid e1
                    have E2 := Lib.hid e2
                    clear e1 e2
                    go_wp2_with fail
                    go_meet
                    exact ⟨by rw [E1.out], by rw [E2.out], rfl⟩
              case rest => as_aux_lemma =>
                obtain ⟨rfl, rfl, hwc⟩ := hcut
                subst hwc
                go_upto_block 4 with fail
                go_cut [13, 17] from 126 to 162 (fun v13 _ wx => v13 = .bool xs ∧ wx = wc)
                case first => as_aux_lemma =>
                  go_wp2_with fail
                  go_loopw [13, 128] (fun u13 u128 wr => ∃ (j : Nat) (s : Bool), j ≤ calls.length ∧ u128 = .int .i64 (j : Int) ∧ u13 = .bool s ∧ wr = wc ∧ (s = true ↔ ∃ (j' : Nat) (h : j' < calls.length), j' < j ∧ xb ≤ calls[j'] ∧ calls[j'] < xe)) (fun _ u _ => calls.length - (intOf u).toNat)
                  case atStart => exact ⟨0, false, Nat.zero_le _, rfl, rfl, rfl, ⟨fun h => (by cases h), fun ⟨j', _, h, _⟩ => absurd h (Nat.not_lt_zero _)⟩⟩
                  case round =>
                    obtain ⟨j, s, hj, rfl, rfl, rfl, hs⟩ := hrel
                    have HS := Lib.hid hs
                    clear hs
                    by_cases hjl : j < calls.length
                    · obtain ⟨gc, cc', hcv, _, hgc, hcc1, hcc2⟩ := ownG_has HC.out (by omega)
                      injection hcv with e1 _ e3
                      subst e1 e3
                      unfold maxLen at hcc2
                      have o9 := World.ownsRow.cellAt HC.out j (by omega)
                      rw [List.getElem?_map, List.getElem?_eq_getElem hjl] at o9
                      simp only [Option.map_some] at o9
                      obtain ⟨u, hu⟩ : ∃ u, u = calls[j] := ⟨_, rfl⟩
                      rw [← hu] at o9
                      have hji : (j : Int) < (calls.length : Int) := by omega
                      have HNX : Hid (∀ s' : Bool, (s' = true ↔ s = true ∨ (xb ≤ u ∧ u < xe)) → (s' = true ↔ ∃ (j' : Nat) (h : j' < calls.length), j' < j + 1 ∧ xb ≤ calls[j'] ∧ calls[j'] < xe)) := fun s' h => by
                        rw [h, HS.out]
                        constructor
                        · rintro (⟨j', h1, h2, h3⟩ | h3)
                          · exact ⟨j', h1, by omega, h3⟩
                          · exact ⟨j, hjl, by omega, by rw [← hu]; exact h3⟩
                        · rintro ⟨j', h1, h2, h3⟩
                          by_cases e : j' = j
                          · subst e; right; rw [hu]; exact h3
                          · exact .inl ⟨j', h1, by omega, h3⟩
                      clear hu
                      cases s with
                      | true =>
                        go_wp2_with fail
                        go_roundw
                        case rel => exact ⟨j + 1, true, by omega, by go_num, rfl, trivial, HNX.out true (by simp)⟩
                        case measure => simp [intOf]; omega
                      | false =>
                        by_cases h1 : xb ≤ u
                        · by_cases h2 : u < xe
                          · go_wp2_with fail
                            go_roundw
                            case rel => exact ⟨j + 1, true, by omega, by go_num, rfl, trivial, HNX.out true (by simp [h1, h2])⟩
                            case measure => simp [intOf]; omega
                          · have q3 : decide (u < xe) = false := by simp; omega
                            have q4 : xe ≤ u := by omega
                            have HNX2 := Lib.hid (HNX.out false (by simp; omega))
                            clear h2
                            go_wp2_with fail
                            go_roundw
                            case rel => exact ⟨j + 1, false, by omega, by go_num, rfl, trivial, HNX2.out⟩
                            case measure => simp [intOf]; omega
                        · have q3 : decide (xb ≤ u) = false := by simp; omega
                          have q4 : u < xb := by omega
                          have HNX2 := Lib.hid (HNX.out false (by simp; omega))
                          clear h1
                          go_wp2_with fail
                          go_roundw
                          case rel => exact ⟨j + 1, false, by omega, by go_num, rfl, trivial, HNX2.out⟩
                          case measure => simp [intOf]; omega
                    · have hsx : s = xs := by
                        rw [Bool.eq_iff_iff, HS.out, HPS.out]
                        constructor
                        · rintro ⟨j', h1, _, h3⟩
                          exact ⟨_, (HCM.out _).1 (List.getElem_mem h1), h3⟩
                        · rintro ⟨t, h1, h3⟩
                          obtain ⟨j', h4, rfl⟩ := List.getElem_of_mem ((HCM.out t).2 h1)
                          exact ⟨j', h4, by omega, h3⟩
                      have HSX := Lib.hid hsx
                      clear hsx
                      go_wp2_with fail
                      go_meet
                      exact ⟨by rw [HSX.out], rfl⟩
                case rest => as_aux_lemma =>
                  obtain ⟨rfl, hwc⟩ := hcut
                  subst hwc
                  have b1 := HXB.out.cell 1
                  have b2 := HXB.out.cell 2
                  have b3 := HXB.out.cell 3
                  simp only [List.getElem?_cons_zero, List.getElem?_cons_succ] at b1 b2 b3
                  have p1 : (xb != xb) = false := by simp
                  have p2 : (xe != xe) = false := by simp
                  have p3 : (xs != xs) = false := by simp
                  have p4 : (xs == xs) = true := by simp
                  go_wp2_with fail
                  go_roundw
                  case rel => exact ⟨k + 1, by omega, by go_num, by go_num, HBX.out, HROW.out⟩
                  case measure => simp [intOf]; omega
          ·
            have HK : Hid (k = N) := by show _ = _; omega
            have HBX := Lib.hid hbx
            clear hbx hrow
            go_wp2_with fail
            go_meet
            exact ⟨by rw [HK.out], HBX.out⟩
      case rest => as_aux_lemma =>
        obtain ⟨rfl, hbx⟩ := hcut
        have HBX := Lib.hid hbx
        clear hbx HB5 HROW5
        have HC1 := Lib.hid (cntO_one p)
        go_wp2_with fail
        go_loopw [6, 18] (fun u6 u18 wr => ∃ r : Nat, 1 ≤ r ∧ r ≤ n ∧ u18 = .int .i64 (r : Int) ∧ u6 = .int .i64 ((N : Int) - (cntO p r : Int)) ∧ BoxV f w wr pa sa) (fun _ u _ => n - (intOf u).toNat)
        case atStart => exact ⟨1, Nat.le_refl _, hn2.1, rfl, by rw [HC1.out]; simp, HBX.out⟩
        case round =>
          clear HBX
          obtain ⟨r, hr1, hr2, rfl, rfl, hbx⟩ := hrel
          have HBX := Lib.hid hbx
          have c0 := hbx.box.cell 0
          have c1 := hbx.box.cell 1
          have c2 := hbx.box.cell 2
          have c3 := hbx.box.cell 3
          simp only [List.getElem?_cons_zero, List.getElem?_cons_succ] at c0 c1 c2 c3
          have hcl := cntO_le p r
          obtain ⟨cr, hcr⟩ : ∃ x, x = cntO p r := ⟨_, rfl⟩
          have HCR := Lib.hid hcr
          rw [← hcr] at hcl ⊢
          clear hbx hcr
          by_cases hlt : r < n
          · have HA := Lib.hid (HOC.out wr HBX.out.be n nb HOK.out r ⟨hr1, hlt⟩)
            have hri : (r : Int) < f.regs := by rw [HREG.out]; omega
            have HNX := Lib.hid (cntO_next p hr1)
            go_wp2_with fail
            refine HA.out.mono ?_
            rintro e w7 ⟨t, rfl, ht, hb7⟩
            have HBX7 := Lib.hid (HBX.out.below hb7)
            have hpt : p r = t := by rw [Bool.eq_iff_iff, HP.out r, ht]
            rw [hpt, ← HCR.out] at HNX
            clear hb7 HA HBX c0 c1 c2 c3 ht hpt
            cases t with
            | true =>
              have HNX2 : Hid (cntO p (r + 1) = cr + 1) := by have := HNX.out; show _ = _; simpa using this
              clear HNX
              go_wp2_with fail
              go_roundw
              case rel => exact ⟨r + 1, by omega, by omega, by go_num, by rw [HNX2.out]; go_num, HBX7.out⟩
              case measure => simp [intOf]; omega
            | false =>
              have HNX2 : Hid (cntO p (r + 1) = cr) := by have := HNX.out; show _ = _; simpa using this
              clear HNX
              go_wp2_with fail
              go_roundw
              case rel => exact ⟨r + 1, by omega, by omega, by go_num, by rw [HNX2.out], HBX7.out⟩
              case measure => simp [intOf]; omega
          · have hrn : r = n := by omega
            have hN0 : cr = N := by rw [HCR.out, hrn, HCNT.out]
            have hri : ¬ (r : Int) < f.regs := by rw [HREG.out]; omega
            have hz : ((N : Int) - (cr : Int) == 0) = true := by rw [hN0]; simp
            have hz2 : (N : Int) - (cr : Int) = 0 := by omega
            have HZ2 := Lib.hid hz2
            clear hrn hN0 hz2
            go_wp2_with fail
            go_ret
            exact ⟨rfl, HBX.out.be⟩
end Go.Proofs.Ytlaogkbdjkofaaa
