/- The law SchedOrder: the walk. -/
import Derived.Test.YtnfgjcdiophphaaSchedLaw
namespace Go.Proofs.Ytnfgjcdiophphaa
open Go.RowKit
set_option linter.unusedVariables false
set_option linter.unusedSimpArgs false

/-- the place of i among the first k of an order, or -1 -/
def placeK (out : List Nat) (k i : Nat) : Int := if i ∈ out.take k then (out.idxOf i : Int) else -1
theorem placeK_none {D : Nat → Nat → Bool} {n : Nat} {out : List Nat} (h : Ord D n out) {k : Nat} (hk : k < out.length) : placeK out k out[k] = -1 := by
  unfold placeK
  rw [if_neg (nodup_take h.nd hk)]
theorem idxOf_at {out : List Nat} (h : out.Nodup) {k : Nat} (hk : k < out.length) : out.idxOf out[k] = k := by
  have h1 : out[k] ∈ out := List.getElem_mem hk
  have h2 := List.idxOf_lt_length_of_mem h1
  have h3 : out[out.idxOf out[k]] = out[k] := List.getElem_idxOf h2
  refine Classical.byContradiction fun hne => ?_
  rcases Nat.lt_or_ge (out.idxOf out[k]) k with h4 | h4
  · exact List.pairwise_iff_getElem.mp h _ k h2 hk h4 h3
  · exact List.pairwise_iff_getElem.mp h k _ hk h2 (by omega) h3.symm
theorem placeK_succ {D : Nat → Nat → Bool} {n : Nat} {out : List Nat} (h : Ord D n out) {k : Nat} (hk : k < out.length) (j : Nat) : placeK out (k + 1) j = if j = out[k] then (k : Int) else placeK out k j := by
  unfold placeK
  by_cases e : j = out[k]
  · rw [if_pos e, if_pos ((take_mem hk).2 (.inr e)), e, idxOf_at h.nd hk]
  · rw [if_neg e]
    by_cases e2 : j ∈ out.take k
    · rw [if_pos e2, if_pos ((take_mem hk).2 (.inl e2))]
    · rw [if_neg e2, if_neg (fun e3 => by
        rcases (take_mem hk).1 e3 with e4 | e4
        · exact e2 e4
        · exact e e4)]
theorem placeK_all {D : Nat → Nat → Bool} {n : Nat} {out : List Nat} (h : Ord D n out) (hl : out.length = n) {i k : Nat} (hik : i < k) (hk : k < n) (hd : D i k = true) : placeK out n i ≤ placeK out n k := by
  have h1 := h.all hl k hk
  obtain ⟨h2, h3⟩ := h.top i k h1 hik hd
  unfold placeK
  rw [List.take_of_length_le (by omega), if_pos h1, if_pos h2]
  omega

set_option maxRecDepth 100000 in
set_option maxHeartbeats 8000000 in
theorem schedOrder_walk (a0 : Option Addr) (len0 cap0 : Nat) (z0 : List Op5) (w : World) (h0 : Came w a0 len0 cap0 5 (z0.map opC) ∧ ∀ z ∈ z0, True) :
    Calls Try.prog 7 #[.slice a0 len0 cap0] w fun e w' => e = .returned (.bool true) ∧ Below w.heap.size w w' := by
  have HSF := Lib.hid (schedFact_ok w)
  have HST := fun w h => Lib.hid (straight_ok z0 a0 len0 cap0 w h)
  have HC := Lib.hid h0.1
  have hsl := strS_len z0
  have HGO := Lib.hid (strS_good z0)
  obtain ⟨os, hos⟩ : ∃ os, os = strS z0 := ⟨_, rfl⟩
  rw [← hos] at HST hsl HGO
  clear hos h0
  obtain ⟨m, hm⟩ : ∃ m, m = os.length := ⟨_, rfl⟩
  have HM := Lib.hid hm
  rw [← hm] at hsl HST
  have hmk : ∀ w : World, _ := run_make_rep (P := Try.prog) 23 3 (.int .i64 0) 8 Try.underlying23 Try.infoT3 rfl m (by omega) (by omega)
  clear hm
  go_enter Try.func7, Try.ntmps7
  go_wp2_with fail
  refine HSF.out.mono ?_
  rintro e w1 ⟨rfl, hb1⟩
  have HB1 := Lib.hid hb1
  clear hb1 HSF
  go_wp2_with fail
  refine (HST w1 (HC.out.below HB1.out)).out.mono ?_
  rintro e w3 ⟨v, rfl, hown, hb3⟩
  have hown' : w3.ownsRow w1.heap.size 27 5 v os.length (flat5 os) := by rw [← HM.out]; exact hown
  obtain ⟨sa, sc, hv, hcm⟩ := came_flat5 hown'
  rw [← HM.out] at hv hcm
  subst hv
  have HB3 := Lib.hid (HB1.out.trans (hb3.mono HB1.out.size))
  have HCM := Lib.hid hcm
  have hcle := hcm.le
  have hcmx := hcm.max
  have HSC := Lib.hid (schedOrder_ok os sa m sc w3 hcm (by omega) HGO.out)
  unfold OrderLaw at HSC
  obtain ⟨D, hD⟩ : ∃ D, D = depB os := ⟨_, rfl⟩
  have HDE : Hid (∀ i k (hi : i < os.length) (hk : k < os.length), D i k = depOf os[i].op os[i].d os[i].a os[i].b os[k].op os[k].d os[k].a os[k].b) := fun i k hi hk => by rw [hD]; unfold depB; rw [opAt0_get hi, opAt0_get hk]
  rw [← hD] at HSC
  clear hown hown' hb3 hcm HST HC hD
  go_wp2_with fail
  refine HSC.out.mono ?_
  rintro e w4 ⟨u, out, rfl, ⟨hord, hlen⟩, _, hown, hb4⟩
  obtain ⟨ua, um, uc, rfl⟩ := owns_shape hown
  obtain ⟨hum, hcu⟩ := ownI_came hown
  have hum' : um = m := by rw [hum]; simp [wrL]; exact hlen
  subst hum'
  have hule := hcu.le
  have humx := hcu.max
  have HOR := Lib.hid hord
  have HLN := Lib.hid hlen
  have HB4 := Lib.hid (HB3.out.trans (hb4.mono HB3.out.size))
  have HC4 := Lib.hid (HCM.out.below hb4)
  have HCU := Lib.hid hcu
  clear hown hb4 HSC hord hlen hum hcu HB3 HCM
  go_wp2_with fail
  have HG5 := Lib.hid (Blk.new w4 (rowL um fun _ => Value.int .i64 0) 3)
  have HB5 := Lib.hid ((Below.refl w4.heap.size w4).alloc (Nat.le_refl _) (.cells (rowL um fun _ => Value.int .i64 0).toArray 3))
  obtain ⟨G, hG⟩ : ∃ G, G = w4.heap.size := ⟨_, rfl⟩
  rw [← hG] at HG5 HB5 ⊢
  have HGE := Lib.hid hG
  clear hG hmk
  generalize w4.alloc (.cells (rowL um fun _ => Value.int .i64 0).toArray 3) = w5 at HG5 HB5 ⊢
  go_loopw [34] (fun u wx => ∃ j : Nat, j ≤ um ∧ u = .int .i64 (j : Int) ∧ Blk wx G 3 (rowL um fun i => .int .i64 (if i < j then -1 else 0)) ∧ Below G w4 wx) (fun u _ => um - (intOf u).toNat)
  case atStart => exact ⟨0, Nat.zero_le _, rfl, HG5.out.rowCongr fun i _ => by rw [if_neg (by omega)], HB5.out⟩
  case round =>
    clear HG5 HB5
    obtain ⟨j, hj, rfl, hblk, hbel⟩ := hrel
    have HBK := Lib.hid hblk
    have HB := Lib.hid hbel
    clear hblk hbel
    by_cases hlj : j < um
    · have c1 := HBK.out.row hlj
      have f1 := HBK.out.free j
      rw [if_neg (Nat.lt_irrefl j)] at c1
      go_wp2_with fail
      go_roundw
      case rel =>
        refine ⟨j + 1, by omega, by go_num, (HBK.out.rowSet j (.int .i64 (-1))).rowCongr fun i _ => ?_, HB.out.setCell (p := ⟨G, j, none⟩) (Nat.le_refl _) _⟩
        by_cases e : i = j
        · rw [if_pos e, if_pos (by omega)]
        · rw [if_neg e]
          by_cases e2 : i < j
          · rw [if_pos e2, if_pos (by omega)]
          · rw [if_neg e2, if_neg (by omega)]
      case measure => simp [intOf]; omega
    · have ej : j = um := by omega
      subst ej
      have HBK2 : Hid (Blk wr G 3 (rowL j fun i => .int .i64 (placeK out 0 i))) := HBK.out.rowCongr fun i hi => by rw [if_pos hi]; unfold placeK; simp
      clear HBK
      go_wp2_with fail
      go_loopw [43] (fun u wx => ∃ k : Nat, k ≤ j ∧ u = .int .i64 (k : Int) ∧ Blk wx G 3 (rowL j fun i => .int .i64 (placeK out k i)) ∧ Below G w4 wx) (fun u _ => j - (intOf u).toNat)
      case atStart => exact ⟨0, Nat.zero_le _, rfl, HBK2.out, HB.out⟩
      case round =>
        clear HBK2 HB
        obtain ⟨k, hk, rfl, hblk, hbel⟩ := hrel
        have HBK := Lib.hid hblk
        have HB := Lib.hid hbel
        clear hblk hbel
        by_cases hlk : k < j
        · have hko : k < out.length := by have := HLN.out; omega
          obtain ⟨b1, o1, ea1, _, hc1⟩ := (HCU.out.below (w' := wr) (by rw [← HGE.out]; exact HB.out)).ints (by omega)
          subst ea1
          have cl := hc1 k (by simp [wrL]; exact hko)
          have hpn := placeK_none HOR.out hko
          have hps := fun i => placeK_succ HOR.out hko i
          have hin := HOR.out.lt _ (List.getElem_mem hko)
          obtain ⟨i, hi⟩ : ∃ i, i = out[k] := ⟨_, rfl⟩
          have cl2 : wr.cell? ⟨b1, o1 + k, none⟩ = some (.int .i64 (i : Int)) := by rw [cl, hi]; simp [wrL]
          rw [← hi] at hpn hps hin
          have c1 := HBK.out.row hin
          have f1 := HBK.out.free i
          rw [hpn] at c1
          have HPS := Lib.hid hps
          clear cl hc1 hi hpn hps
          go_wp2_with fail
          go_roundw
          case rel =>
            refine ⟨k + 1, by omega, by go_num, (HBK.out.rowSet i (.int .i64 (k : Int))).rowCongr fun jj _ => ?_, HB.out.setCell (p := ⟨G, i, none⟩) (Nat.le_refl _) _⟩
            rw [HPS.out jj]
            by_cases e : jj = i
            · rw [if_pos e, if_pos e]
            · rw [if_neg e, if_neg e]
          case measure => simp [intOf]; omega
        · have ek : k = j := by omega
          subst ek
          have HPA := Lib.hid (fun i q h1 h2 h3 => placeK_all HOR.out HLN.out (i := i) (k := q) h1 h2 h3)
          have HBW := Lib.hid HB.out
          have HGW := Lib.hid HBK.out
          have hGl := HBK.out.lt
          have HCW := Lib.hid (HC4.out.below (w' := wr) (by rw [← HGE.out]; exact HB.out))
          clear HBK HB HC4 HCU HLN HOR
          obtain ⟨pl, hpl⟩ : ∃ pl : Nat → Int, pl = placeK out k := ⟨_, rfl⟩
          simp only [← hpl] at HPA HGW
          clear hpl
          go_wp2_with fail
          go_loopw [70] (fun u wx => ∃ i : Nat, i ≤ k ∧ u = .int .i64 (i : Int) ∧ Below wr.heap.size wr wx) (fun u _ => k - (intOf u).toNat)
          case atStart => exact ⟨0, Nat.zero_le _, rfl, Below.refl _ _⟩
          case round =>
            obtain ⟨i, hi, rfl, hbel⟩ := hrel
            have HB := Lib.hid hbel
            clear hbel
            by_cases hli : i < k
            · have hio : i < os.length := by have := HM.out; omega
              go_wp2_with fail
              go_loopw [10] (fun u wx => ∃ q : Nat, i + 1 ≤ q ∧ q ≤ k ∧ u = .int .i64 (q : Int) ∧ Below wr.heap.size wr wx) (fun u _ => k - (intOf u).toNat)
              case atStart => exact ⟨i + 1, Nat.le_refl _, hli, by go_num, Below.refl _ _⟩
              case round =>
                obtain ⟨q, hiq, hq, rfl, hbel2⟩ := hrel
                have HB2 := Lib.hid (HB.out.trans (hbel2.mono HB.out.size))
                have HBI := Lib.hid hbel2
                clear hbel2
                by_cases hlq : q < k
                · have hqo : q < os.length := by have := HM.out; omega
                  obtain ⟨b2, off, ea2, hbl2, hcell⟩ := came_ops (HCW.out.below HB2.out) (by omega)
                  subst ea2
                  have hi5 := hcell i hio
                  have hk5 := hcell q hqo
                  have hgi := HGO.out _ (List.getElem_mem hio)
                  have hgk := HGO.out _ (List.getElem_mem hqo)
                  have hdik := HDE.out i q hio hqo
                  generalize os[i] = oo at hi5 hgi hdik
                  generalize os[q] = ok at hk5 hgk hdik
                  obtain ⟨o1, d1, a1, x1, n1⟩ := oo
                  obtain ⟨o2, d2, a2, x2, n2⟩ := ok
                  obtain ⟨p0, p1, p2, p3, p4⟩ := hi5
                  obtain ⟨q0, q1, q2, q3, q4⟩ := hk5
                  simp only [] at p0 p1 p2 p3 p4 q0 q1 q2 q3 q4 hgi hgk hdik
                  have hr1 := good_op hgi
                  have hr2 := good_op hgk
                  simp only [] at hr1 hr2
                  have HDP := fun w => Lib.hid (depends_any o1 d1 a1 x1 n1 o2 d2 a2 x2 n2 w hr1 hr2)
                  unfold DepPost at HDP
                  rw [← hdik] at HDP
                  have hGr := HGW.out.below HB2.out hGl
                  have ti := hGr.row hli
                  have tq := hGr.row hlq
                  have hGw := hGr.lt
                  clear hcell hgi hgk hdik hr1 hr2 hGr
                  go_upto_region 26 with fail
                  have r0 : ∀ y : AfterR (Keep2 b2 G) wr.drew, y.world.cell? ⟨b2, off + i * 5, none⟩ = some (.int .i64 o1) := fun y => (Keep2.cell1 y.rel).trans p0
                  have r1 : ∀ y : AfterR (Keep2 b2 G) wr.drew, y.world.cell? ⟨b2, off + i * 5 + 1, none⟩ = some (.int .i64 d1) := fun y => (Keep2.cell1 y.rel).trans p1
                  have r2 : ∀ y : AfterR (Keep2 b2 G) wr.drew, y.world.cell? ⟨b2, off + i * 5 + 2, none⟩ = some (.int .i64 a1) := fun y => (Keep2.cell1 y.rel).trans p2
                  have r3 : ∀ y : AfterR (Keep2 b2 G) wr.drew, y.world.cell? ⟨b2, off + i * 5 + 3, none⟩ = some (.int .i64 x1) := fun y => (Keep2.cell1 y.rel).trans p3
                  have r4 : ∀ y : AfterR (Keep2 b2 G) wr.drew, y.world.cell? ⟨b2, off + i * 5 + 4, none⟩ = some (.int .i64 n1) := fun y => (Keep2.cell1 y.rel).trans p4
                  have s0 : ∀ y : AfterR (Keep2 b2 G) wr.drew, y.world.cell? ⟨b2, off + q * 5, none⟩ = some (.int .i64 o2) := fun y => (Keep2.cell1 y.rel).trans q0
                  have s1 : ∀ y : AfterR (Keep2 b2 G) wr.drew, y.world.cell? ⟨b2, off + q * 5 + 1, none⟩ = some (.int .i64 d2) := fun y => (Keep2.cell1 y.rel).trans q1
                  have s2 : ∀ y : AfterR (Keep2 b2 G) wr.drew, y.world.cell? ⟨b2, off + q * 5 + 2, none⟩ = some (.int .i64 a2) := fun y => (Keep2.cell1 y.rel).trans q2
                  have s3 : ∀ y : AfterR (Keep2 b2 G) wr.drew, y.world.cell? ⟨b2, off + q * 5 + 3, none⟩ = some (.int .i64 x2) := fun y => (Keep2.cell1 y.rel).trans q3
                  have s4 : ∀ y : AfterR (Keep2 b2 G) wr.drew, y.world.cell? ⟨b2, off + q * 5 + 4, none⟩ = some (.int .i64 n2) := fun y => (Keep2.cell1 y.rel).trans q4
                  clear p0 p1 p2 p3 p4 q0 q1 q2 q3 q4
                  refine wp_region_eagerRF (Keep2 b2 G) [(0, true), (1, true), (2, true), (3, true), (4, true), (5, true), (6, true), (7, true), (8, false), (9, true), (10, true), (11, true), (12, true), (13, true), (14, true), (15, true), (16, true), (17, true), (18, true), (19, true)] (by kernel_rfl) (by kernel_rfl) ?_
                  have hde : Below wr.heap.size wr wr.drew := (Below.refl _ _).drew
                  have HB3 := Lib.hid (HBI.out.trans (hde.mono HBI.out.size))
                  have ti6 : wr.drew.cell? ⟨G, i, none⟩ = some (.int .i64 (pl i)) := ti
                  have tq6 : wr.drew.cell? ⟨G, q, none⟩ = some (.int .i64 (pl q)) := tq
                  have hb6 : b2 < wr.drew.heap.size := hbl2
                  have hG6 : G < wr.drew.heap.size := hGw
                  clear hde ti tq hbl2 hGw HB2 HBI
                  generalize wr.drew = w6 at *
                  repeat (refine eagR_readF rfl ?_; go_big_quiet_step (fail); refine wpQuiet_nil ?_)
                  clear r0 r1 r2 r3 r4 s0 s1 s2 s3 s4
                  refine eagR_doesF rfl rfl ?_
                  intro K hK
                  go_simp
                  refine (HDP w6).out.mono ?_
                  rintro e w7 ⟨rfl, hb7⟩
                  refine hK _ _ (fun _ => ⟨hb7.block b2 hb6, hb7.block G hG6⟩) ?_
                  clear hK K HDP
                  go_simp
                  have ti7 := (hb7.cell (p := ⟨G, i, none⟩) hG6).trans ti6
                  have tq7 := (hb7.cell (p := ⟨G, q, none⟩) hG6).trans tq6
                  have HB7 := Lib.hid (HB3.out.trans (hb7.mono HB3.out.size))
                  clear ti6 tq6 hb7 hb6 hG6 HB3
                  cases hdep : D i q
                  · clear ti7 tq7
                    refine eagR_readF rfl ?_
                    go_big_quiet_step (fail)
                    refine wpQuiet_nil ?_
                    repeat (refine eagR_skipF rfl rfl ?_; go_simp)
                    refine eagR_readF rfl ?_
                    go_big_quiet_step (fail)
                    refine wpQuiet_nil ?_
                    refine eagR_endF ?_
                    go_wp2_with fail
                    go_roundw
                    case rel => exact ⟨q + 1, by omega, by omega, by go_num, HB7.out⟩
                    case measure => simp [intOf]; omega
                  · have hpq := HPA.out i q (by omega) hlq hdep
                    have y1 : decide (pl q < pl i) = false := decide_eq_false (by omega)
                    have t1 : ∀ y : AfterR (Keep2 b2 G) w7, y.world.cell? ⟨G, i, none⟩ = some (.int .i64 (pl i)) := fun y => (Keep2.cell2 y.rel).trans ti7
                    have t2 : ∀ y : AfterR (Keep2 b2 G) w7, y.world.cell? ⟨G, q, none⟩ = some (.int .i64 (pl q)) := fun y => (Keep2.cell2 y.rel).trans tq7
                    clear ti7 tq7 hdep hpq
                    repeat (refine eagR_readF rfl ?_; go_big_quiet_step (fail); refine wpQuiet_nil ?_)
                    refine eagR_endF ?_
                    go_wp2_with fail
                    go_roundw
                    case rel => exact ⟨q + 1, by omega, by omega, by go_num, HB7.out⟩
                    case measure => simp [intOf]; omega
                · have eq : q = k := by omega
                  subst eq
                  go_wp2_with fail
                  go_roundw
                  case rel => exact ⟨i + 1, by omega, by go_num, HB2.out⟩
                  case measure => simp [intOf]; omega
            · have hwb : w.heap.size ≤ G := by rw [HGE.out]; exact HB4.out.size
              have HBZ := Lib.hid ((HB4.out.trans (HBW.out.mono hwb)).trans (HB.out.mono (Nat.le_trans hwb (Nat.le_of_lt hGl))))
              clear HPA HDE HGO HCW HGW HBW HB HB4
              go_wp2_with fail
              go_ret
              exact ⟨rfl, HBZ.out⟩
end Go.Proofs.Ytnfgjcdiophphaa
