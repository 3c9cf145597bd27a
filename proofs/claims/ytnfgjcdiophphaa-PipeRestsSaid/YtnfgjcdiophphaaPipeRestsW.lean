/- The law PipeRests: the walk. -/
import Derived.Test.YtnfgjcdiophphaaFlush
namespace Go.Proofs.Ytnfgjcdiophphaa
open Go.RowKit
set_option linter.unusedVariables false
set_option linter.unusedSimpArgs false

theorem grown_kept {w w' : World} {base p : Nat} {e : TypeId} {size : Nat} {v : Value} {n : Nat} {l : List Value} (h : w.ownsRow base e size v n l) (hg : w.grownBy w' (some p)) (hp : p < base) : w'.ownsRow base e size v n l :=
  World.ownsRow.kept h hg (by
    cases hv : v.ownBlock with
    | none => exact .inl rfl
    | some g => exact .inr (fun e => by have := (World.ownsRow.lt h g hv).1; simp at e; omega))
theorem grown_belowP {w w' : World} {B p : Nat} (hg : w.grownBy w' (some p)) (hp : B ≤ p) (hB : B ≤ w.heap.size) : Below B w w' :=
  (Below.refl B w).trans (grown_below hg (fun g hg => by simp at hg; omega) hB)
set_option maxRecDepth 100000 in
set_option maxHeartbeats 4000000 in
theorem pipeRests_walk (a0 : Option Addr) (len0 cap0 : Nat) (z0 : List Op5) (a1 : Int) (w : World) (h0 : Came w a0 len0 cap0 5 (z0.map opC) ∧ ∀ z ∈ z0, True) (_ : -9223372036854775808 ≤ a1 ∧ a1 ≤ 9223372036854775807) :
    Calls Try.prog 5 #[.slice a0 len0 cap0, .int .i64 a1] w fun e w' => e = .returned (.bool true) ∧ Below w.heap.size w w' := by
  have HTF := fun w => Lib.hid (timingFactK_ok w)
  have HPN := fun w => Lib.hid (pipenew_ok w)
  have HST := fun w h => Lib.hid (straight_ok z0 a0 len0 cap0 w h)
  have HC := Lib.hid h0.1
  have hsl := strS_len z0
  have HGO := Lib.hid (strS_good z0)
  obtain ⟨os, hos⟩ : ∃ os, os = strS z0 := ⟨_, rfl⟩
  rw [← hos] at HST hsl HGO
  clear hos h0
  obtain ⟨m, hm⟩ : ∃ m, m = os.length := ⟨_, rfl⟩
  have HM := Lib.hid hm
  rw [← hm] at hsl HST
  clear hm
  have HOK := Lib.hid (runE_ok (fun i => i % 3) os (fun _ => by omega))
  have HRS := Lib.hid (runE_succ (fun i => i % 3) os)
  obtain ⟨R, hR⟩ : ∃ R, R = runE (fun i => i % 3) os := ⟨_, rfl⟩
  rw [← hR] at HOK HRS
  have HR0 : Hid (R 0 = zeroTS) := by unfold Hid; rw [hR]; rfl
  obtain ⟨r, hr⟩ : ∃ r : Nat, (r : Int) = a1 % ((m : Int) + 1) := ⟨(a1 % ((m : Int) + 1)).toNat, by have := Int.emod_nonneg a1 (b := (m : Int) + 1) (by omega); omega⟩
  have hrm : r ≤ m := by have := Int.emod_lt_of_pos a1 (b := (m : Int) + 1) (by omega); omega
  have HRR := fun w => Lib.hid (rest_any a1 ((m : Int) + 1) w (by omega) (by omega))
  rw [← hr] at HRR
  clear hR hr
  obtain ⟨P, hP⟩ : ∃ P, P = w.heap.size := ⟨_, rfl⟩
  have HPN0 := HPN w
  rw [← hP] at HPN0 ⊢
  have HPE := Lib.hid hP
  clear hP
  go_enter Try.func5, Try.ntmps5
  go_wp2_with fail
  refine HPN0.out.mono ?_
  rintro e w1 ⟨rfl, hp1, hb1⟩
  have HP1 := Lib.hid hp1
  have HB1 := Lib.hid hb1
  have hl1 := hp1.lt
  clear hp1 hb1 HPN0
  go_wp2_with fail
  refine (HPN w1).out.mono ?_
  rintro e w1' ⟨rfl, hq1, hb1⟩
  obtain ⟨Q, hQ⟩ : ∃ Q, Q = w1.heap.size := ⟨_, rfl⟩
  rw [← hQ] at hq1 hl1 ⊢
  have hPQ : P < Q := hl1
  have HP1' := Lib.hid (HP1.out.below hb1 (by rw [← hQ]; exact hl1))
  have HQ1 := Lib.hid hq1
  have HB1' := Lib.hid (HB1.out.trans (hb1.mono (by omega)))
  have hl1q := hq1.lt
  clear hq1 hb1 HP1 HB1 hl1 hQ HPN
  go_wp2_with fail
  refine (HTF w1').out.mono ?_
  rintro e w2 ⟨rfl, hb2⟩
  have HP2 := Lib.hid (HP1'.out.below hb2 (by omega))
  have HQ2 := Lib.hid (HQ1.out.below hb2 hl1q)
  have HB2 := Lib.hid (HB1'.out.trans (hb2.mono (by omega)))
  have hl2 := HQ2.out.lt
  clear hb2 HP1' HQ1 HB1' hl1q
  go_wp2_with fail
  refine (HST w2 (HC.out.below (by rw [← HPE.out]; exact HB2.out))).out.mono ?_
  rintro e w3 ⟨v, rfl, hown, hb3⟩
  have hown' : w3.ownsRow w2.heap.size 27 5 v os.length (flat5 os) := by rw [← HM.out]; exact hown
  obtain ⟨sa, sc, hv, hcm0⟩ := came_flat5 hown'
  rw [← HM.out] at hv hcm0
  subst hv
  have hcle := hcm0.le
  have hcmx := hcm0.max
  have HOW := Lib.hid (owns_base hown (show Q + 1 ≤ w2.heap.size by omega))
  have HP3 := Lib.hid (HP2.out.below hb3 (by omega))
  have HQ3 := Lib.hid (HQ2.out.below hb3 hl2)
  have HB3 := Lib.hid (HB2.out.trans (hb3.mono (by omega)))
  clear hown hown' hb3 HP2 HB2 hcm0 HQ2 hl2
  go_wp2_with fail
  refine (HRR _).out.mono ?_
  rintro e w' ⟨rfl, rfl⟩
  go_wp2_with fail
  go_loopw [34] (fun u wr => ∃ (k : Nat) (wv wu : Value), k ≤ m ∧ u = .int .i64 (k : Int) ∧ PipeAt wr P (R k) wv k ∧ OwnI wr (Q + 1) wv (wrL (R k).wr) ∧ PipeAt wr Q (R k) wu k ∧ OwnI wr (Q + 1) wu (wrL (R k).wr) ∧ wr.ownsRow (Q + 1) 27 5 (.slice sa m sc) m (flat5 os) ∧ Below P w wr) (fun u _ => m - (intOf u).toNat)
  case atStart => exact ⟨0, .slice none 0 0, .slice none 0 0, Nat.zero_le _, rfl, by rw [HR0.out]; exact HP3.out, by rw [HR0.out]; exact World.ownsRow_nil _ _ _ _, by rw [HR0.out]; exact HQ3.out, by rw [HR0.out]; exact World.ownsRow_nil _ _ _ _, HOW.out, HB3.out⟩
  case round =>
    clear HR0 HP3 HQ3 HB3 HOW
    obtain ⟨k, wv, wu, hk, rfl, hpk, hwk, hqk, huk, hown, hbk⟩ := hrel
    have HPK := Lib.hid hpk
    have HWK := Lib.hid hwk
    have HQK := Lib.hid hqk
    have HUK := Lib.hid huk
    have HOWK := Lib.hid hown
    have HBK := Lib.hid hbk
    have hqlk := hqk.lt
    have hown' : wr.ownsRow (Q + 1) 27 5 (.slice sa m sc) os.length (flat5 os) := by rw [← HM.out]; exact hown
    obtain ⟨sa', sc', hv, hcm⟩ := came_flat5 hown'
    rw [← HM.out] at hv hcm
    simp only [Value.slice.injEq, true_and] at hv
    obtain ⟨rfl, rfl⟩ := hv
    clear hpk hwk hqk huk hown hbk hown'
    by_cases hlt : k < m
    · obtain ⟨b', off, ea, hbl, hcell⟩ := came_ops hcm (by omega)
      subst ea
      have hkl : k < os.length := by rw [← HM.out]; exact hlt
      have ho := hcell k hkl
      have hgo := HGO.out _ (List.getElem_mem hkl)
      have HT := Lib.hid (HRS.out k hkl)
      obtain ⟨hok, hwl, hnd⟩ := HOK.out k (by omega)
      generalize os[k] = o at ho hgo HT
      obtain ⟨op, d, aa, bb, nn⟩ := o
      obtain ⟨c0, c1, c2, c3, c4⟩ := ho
      obtain ⟨hck, _⟩ := hgo
      simp only [] at c0 c1 c2 c3 c4 hck HT
      obtain ⟨S, hS⟩ : ∃ S, S = R k := ⟨_, rfl⟩
      rw [← hS] at HT hok hwl hnd HPK HWK HQK HUK
      clear hS
      obtain ⟨x, hx⟩ : ∃ x, x = k % 3 := ⟨_, rfl⟩
      have hxb : x ≤ 2 := by omega
      have htm : Int.tmod (k : Int) 3 = (x : Int) := by rw [Int.tmod_eq_emod_of_nonneg (by omega)]; omega
      rw [← hx] at HT
      have HI := fun p wv w h1 h2 => Lib.hid (pipeop_ok S wv p k op d aa bb nn x w (k * 20016) (by omega) (by omega) (by omega) hck hok h1 h2)
      have HFL := Lib.hid (fun w h2 h3 => flush_ok S wv P k 0 w (k * 20016) (Q + 1) (by omega) (by omega) hok (by omega) h2 h3)
      unfold FlushPost at HFL
      rw [flushS_zero hok hnd] at HFL
      unfold PipePost at HI
      rw [← HT.out] at HI
      obtain ⟨t, ht⟩ : ∃ t, t = startOf S op d aa bb (latOf op + x) := ⟨_, rfl⟩
      rw [← ht] at HI
      clear hcell hck hkl hcm hok hwl hnd ht HT hx
      have hba : Below wr.heap.size wr (wr.alloc (.cells #[.int .i64 op, .int .i64 d, .int .i64 aa, .int .i64 bb, .int .i64 nn] 27)) := (Below.refl _ _).alloc (Nat.le_refl _) _
      have hbx := Blk.new wr [.int .i64 op, .int .i64 d, .int .i64 aa, .int .i64 bb, .int .i64 nn] 27
      have HBX := Lib.hid hbx
      have HBA := Lib.hid hba
      have HPA := Lib.hid (HPK.out.below hba (by omega))
      have HQA := Lib.hid (HQK.out.below hba hqlk)
      have HWA : Hid (OwnI (wr.alloc (.cells #[.int .i64 op, .int .i64 d, .int .i64 aa, .int .i64 bb, .int .i64 nn] 27)) (Q + 1) wv (wrL S.wr)) := World.ownsRow.alloc HWK.out _
      have HUA : Hid (OwnI (wr.alloc (.cells #[.int .i64 op, .int .i64 d, .int .i64 aa, .int .i64 bb, .int .i64 nn] 27)) (Q + 1) wu (wrL S.wr)) := World.ownsRow.alloc HUK.out _
      have HOA := Lib.hid (World.ownsRow.alloc HOWK.out (.cells #[.int .i64 op, .int .i64 d, .int .i64 aa, .int .i64 bb, .int .i64 nn] 27))
      have HBB := Lib.hid (HBK.out.trans (hba.mono (by omega)))
      have hal : wr.heap.size < (wr.alloc (.cells #[.int .i64 op, .int .i64 d, .int .i64 aa, .int .i64 bb, .int .i64 nn] 27)).heap.size := by simp
      clear hba hbx HPK HQK HWK HUK HOWK HBK
      by_cases hkr : k = r
      case' pos =>
        have q : ((k : Int) == (r : Int)) = true := by simp [hkr]
        clear hkr
        go_wp2_with fail
        generalize wr.alloc (.cells #[.int .i64 op, .int .i64 d, .int .i64 aa, .int .i64 bb, .int .i64 nn] 27) = wA at *
        refine (HFL.out wA HWA.out HPA.out).mono ?_
        rintro e w4 ⟨rfl, wv4, hp4, hw4, hg4⟩
        replace HBX := Lib.hid (HBX.out.of_heap (hg4.block wr.heap.size (by omega) (by simp; omega)))
        replace HQA := Lib.hid (HQA.out.of_heap (hg4.block Q (by omega) (by simp; omega)))
        replace HPA := Lib.hid hp4
        have hsz4 := hg4.size
        replace HWA : Hid (OwnI w4 (Q + 1) wv4 (wrL S.wr)) := owns_base hw4 (by omega)
        replace HUA : Hid (OwnI w4 (Q + 1) wu (wrL S.wr)) := grown_kept HUA.out hg4 (by omega)
        replace HOA := Lib.hid (grown_kept HOA.out hg4 (by omega))
        replace HBB := Lib.hid (HBB.out.trans (grown_belowP hg4 (Nat.le_refl _) (by omega)))
        have hal4 : wr.heap.size < w4.heap.size := by omega
        clear hp4 hw4 hg4 hsz4 hal HFL q c0 c1 c2 c3 c4 HBA
        obtain ⟨wv, hwv⟩ : ∃ u, u = wv4 := ⟨_, rfl⟩
        rw [← hwv] at HPA HWA
        clear hwv
        obtain ⟨p0, p1, p2, p3, p4⟩ := op_cells5 HBX.out
        go_wp2_with fail
      case' neg =>
        have q : ((k : Int) == (r : Int)) = false := by rw [beq_eq_false_iff_ne]; omega
        clear hkr
        obtain ⟨p0, p1, p2, p3, p4⟩ := op_cells5 HBX.out
        go_wp2_with fail
        clear q c0 c1 c2 c3 c4 HBA
        generalize wr.alloc (.cells #[.int .i64 op, .int .i64 d, .int .i64 aa, .int .i64 bb, .int .i64 nn] 27) = w4 at *
        have hal4 := hal
        clear hal HFL
      all_goals
        refine (HI P wv w4 (wrAt_own HWA.out) HPA.out).out.mono ?_
        rintro e w5 ⟨wv', rfl, hp5, hw5, hg5⟩
        have hsz5 := hg5.size
        have HP5 := Lib.hid hp5
        have HQ5 := Lib.hid (HQA.out.of_heap (hg5.block Q (by omega) (by simp; omega)))
        have HW5 : Hid (OwnI w5 (Q + 1) wv' (wrL (R (k + 1)).wr)) := owns_base hw5 (by omega)
        have HU5 : Hid (OwnI w5 (Q + 1) wu (wrL S.wr)) := grown_kept HUA.out hg5 (by omega)
        have HO5 := Lib.hid (grown_kept HOA.out hg5 (by omega))
        have HB5 := Lib.hid (HBB.out.trans (grown_belowP hg5 (Nat.le_refl _) (by omega)))
        have HX5 := Lib.hid (HBX.out.of_heap (hg5.block wr.heap.size (by omega) (by simp; omega)))
        clear hp5 hw5 hg5 p0 p1 p2 p3 p4
        obtain ⟨p0, p1, p2, p3, p4⟩ := op_cells5 HX5.out
        go_wp2_with fail
        refine (HI Q wu w5 (wrAt_own HU5.out) HQ5.out).out.mono ?_
        rintro e w6 ⟨wu', rfl, hp6, hw6, hg6⟩
        have hsz6 := hg6.size
        have HQ6 := Lib.hid hp6
        have HP6 := Lib.hid (HP5.out.of_heap (hg6.block P (by omega) (by simp; omega)))
        have HU6 : Hid (OwnI w6 (Q + 1) wu' (wrL (R (k + 1)).wr)) := owns_base hw6 (by omega)
        have HW6 : Hid (OwnI w6 (Q + 1) wv' (wrL (R (k + 1)).wr)) := grown_kept HW5.out hg6 (by omega)
        have HO6 := Lib.hid (grown_kept HO5.out hg6 (by omega))
        have HB6 := Lib.hid (HB5.out.trans (grown_belowP hg6 (by omega) (by omega)))
        clear hp6 hw6 hg6 HI p0 p1 p2 p3 p4
        go_wp2_with fail
        go_roundw
        case rel => exact ⟨k + 1, wv', wu', by omega, by go_num, HP6.out, HW6.out, HQ6.out, HU6.out, HO6.out, HB6.out⟩
        case measure => simp [intOf]; omega
    · have ek : k = m := by omega
      subst ek
      have HPC := fun w h => Lib.hid (pipecycles_ok w P (R k) wv k h)
      have HQC := fun w h => Lib.hid (pipecycles_ok w Q (R k) wu k h)
      obtain ⟨dn, hdn⟩ : ∃ dn, dn = (R k).done := ⟨_, rfl⟩
      rw [← hdn] at HPC HQC
      clear hdn hcm HRS HGO HC HST HTF HOK
      go_wp2_with fail
      refine (HPC _ HPK.out).out.mono ?_
      rintro e w7 ⟨rfl, rfl⟩
      go_wp2_with fail
      refine (HQC _ HQK.out).out.mono ?_
      rintro e w7 ⟨rfl, rfl⟩
      go_wp2_with fail
      go_ret
      exact ⟨rfl, HBK.out⟩
end Go.Proofs.Ytnfgjcdiophphaa
