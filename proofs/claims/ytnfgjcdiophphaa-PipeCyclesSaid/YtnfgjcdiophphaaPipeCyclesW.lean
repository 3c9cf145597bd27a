/- The law PipeCycles: the walk. -/
import Derived.Test.YtnfgjcdiophphaaPipeMath
namespace Go.Proofs.Ytnfgjcdiophphaa
open Go.RowKit
set_option linter.unusedVariables false
set_option linter.unusedSimpArgs false

theorem grown_kept {w w' : World} {base p : Nat} {e : TypeId} {size : Nat} {v : Value} {n : Nat} {l : List Value} (h : w.ownsRow base e size v n l) (hg : w.grownBy w' (some p)) (hp : p < base) : w'.ownsRow base e size v n l :=
  World.ownsRow.kept h hg (by
    cases hv : v.ownBlock with
    | none => exact .inl rfl
    | some g => exact .inr (fun e => by have := (World.ownsRow.lt h g hv).1; simp at e; omega))
theorem grown_belowP {w w' : World} {B p : Nat} (hg : w.grownBy w' (some p)) (hp : B ≤ p) (hB : B ≤ w.heap.size) : Below B w w' :=
  (Below.refl B w).trans (grown_below hg (fun g hg => by simp at hg; omega) hB)

set_option maxRecDepth 100000 in
set_option maxHeartbeats 4000000 in
theorem pipeCycles_walk (a0 : Option Addr) (len0 cap0 : Nat) (z0 : List Op5) (w : World) (h0 : Came w a0 len0 cap0 5 (z0.map opC) ∧ ∀ z ∈ z0, True) :
    Calls Try.prog 4 #[.slice a0 len0 cap0] w fun e w' => e = .returned (.bool true) ∧ Below w.heap.size w w' := by
  have HTF := fun w => Lib.hid (timingFactK_ok w)
  have HPN := Lib.hid (pipenew_ok w)
  have HST := fun w h => Lib.hid (straight_ok z0 a0 len0 cap0 w h)
  have HC := Lib.hid h0.1
  have hsl := strS_len z0
  have HGO := Lib.hid (strS_good z0)
  obtain ⟨os, hos⟩ : ∃ os, os = strS z0 := ⟨_, rfl⟩
  rw [← hos] at HST hsl HGO
  clear hos h0
  obtain ⟨m, hm⟩ : ∃ m, m = os.length := ⟨_, rfl⟩
  have HM := Lib.hid hm
  rw [← hm] at hsl HST
  clear hm
  have HCY := fun w a c h => Lib.hid (cycles_ok os a m c w h (by omega) HGO.out)
  have HRZ := Lib.hid (runE_zero os)
  have HOK := Lib.hid (runE_ok (fun _ => 0) os (fun _ => by omega))
  have HRS := Lib.hid (runE_succ (fun _ => 0) os)
  obtain ⟨R, hR⟩ : ∃ R, R = runE (fun _ => 0) os := ⟨_, rfl⟩
  rw [← hR] at HRZ HOK HRS
  have HR0 : Hid (R 0 = zeroTS) := by unfold Hid; rw [hR]; rfl
  have HRM : Hid (runS os = R m) := by unfold Hid; rw [HRZ.out, HM.out, List.take_length]
  rw [HRM.out] at HCY
  clear hR
  obtain ⟨P, hP⟩ : ∃ P, P = w.heap.size := ⟨_, rfl⟩
  rw [← hP] at HPN ⊢
  have HPE := Lib.hid hP
  clear hP
  go_enter Try.func4, Try.ntmps4
  go_wp2_with fail
  refine HPN.out.mono ?_
  rintro e w1 ⟨rfl, hp1, hb1⟩
  have HP1 := Lib.hid hp1
  have HB1 := Lib.hid hb1
  have hl1 := hp1.lt
  clear hp1 hb1
  go_wp2_with fail
  refine (HTF w1).out.mono ?_
  rintro e w2 ⟨rfl, hb2⟩
  have HP2 := Lib.hid (HP1.out.below hb2 hl1)
  have HB2 := Lib.hid (HB1.out.trans (hb2.mono (by omega)))
  have hl2 := HP2.out.lt
  clear hb2 HP1 HB1 hl1
  go_wp2_with fail
  refine (HST w2 (HC.out.below (by rw [← HPE.out]; exact HB2.out))).out.mono ?_
  rintro e w3 ⟨v, rfl, hown, hb3⟩
  have hown' : w3.ownsRow w2.heap.size 27 5 v os.length (flat5 os) := by rw [← HM.out]; exact hown
  obtain ⟨sa, sc, hv, _⟩ := came_flat5 hown'
  rw [← HM.out] at hv
  subst hv
  have HOW := Lib.hid (owns_base hown (show P + 1 ≤ w2.heap.size by omega))
  have HP3 := Lib.hid (HP2.out.below hb3 hl2)
  have HB3 := Lib.hid (HB2.out.trans (hb3.mono (by omega)))
  clear hown hown' hb3 HP2 HB2
  go_wp2_with fail
  go_loopw [4, 22] (fun l u wr => ∃ (k : Nat) (last : Int) (wv : Value), k ≤ m ∧ u = .int .i64 (k : Int) ∧ l = .int .i64 last ∧ -1 ≤ last ∧ last < ((R k).next : Int) ∧ PipeAt wr P (R k) wv k ∧ OwnI wr (P + 1) wv (wrL (R k).wr) ∧ wr.ownsRow (P + 1) 27 5 (.slice sa m sc) m (flat5 os) ∧ Below P w wr) (fun _ u _ => m - (intOf u).toNat)
  case atStart => exact ⟨0, -1, .slice none 0 0, Nat.zero_le _, rfl, rfl, Int.le_refl _, by omega, by rw [HR0.out]; exact HP3.out, by rw [HR0.out]; exact World.ownsRow_nil _ _ _ _, HOW.out, HB3.out⟩
  case round =>
    obtain ⟨k, last, wv, hk, rfl, rfl, hla, hlast, hpk, hwk, hown, hbk⟩ := hrel
    have HPK := Lib.hid hpk
    have HWK := Lib.hid hwk
    have HOWK := Lib.hid hown
    have HBK := Lib.hid hbk
    have hplk := hpk.lt
    have hown' : wr.ownsRow (P + 1) 27 5 (.slice sa m sc) os.length (flat5 os) := by rw [← HM.out]; exact hown
    obtain ⟨sa', sc', hv, hcm⟩ := came_flat5 hown'
    rw [← HM.out] at hv hcm
    simp only [Value.slice.injEq, true_and] at hv
    obtain ⟨rfl, rfl⟩ := hv
    have hcle := hcm.le
    have hcmx := hcm.max
    clear hpk hwk hown hbk hown'
    by_cases hlt : k < m
    · obtain ⟨b', off, ea, hbl, hcell⟩ := came_ops hcm (by omega)
      subst ea
      have hkl : k < os.length := by rw [← HM.out]; exact hlt
      have ho := hcell k hkl
      have hgo := HGO.out _ (List.getElem_mem hkl)
      have HT := Lib.hid (HRS.out k hkl)
      obtain ⟨hok, hwl, hnd⟩ := HOK.out k (by omega)
      generalize os[k] = o at ho hgo HT
      obtain ⟨op, d, aa, bb, nn⟩ := o
      obtain ⟨c0, c1, c2, c3, c4⟩ := ho
      obtain ⟨hck, _⟩ := hgo
      simp only [] at c0 c1 c2 c3 c4 hck HT
      obtain ⟨S, hS⟩ : ∃ S, S = R k := ⟨_, rfl⟩
      rw [← hS] at HT hok hwl hnd hlast HPK HWK
      clear hS
      have hst := startOf_le hok op d aa bb (latOf op + 0) (by have := latOf_bd op; omega)
      have HI := fun w h1 h2 => Lib.hid (pipeop_ok S wv P k op d aa bb nn 0 w (k * 20016) (by omega) (by omega) (by omega) hck hok h1 h2)
      unfold PipePost at HI
      rw [← HT.out] at HI
      simp only [show ((0 : Nat) : Int) = 0 from rfl] at HI
      obtain ⟨t, ht⟩ : ∃ t, t = startOf S op d aa bb (latOf op + 0) := ⟨_, rfl⟩
      rw [← ht] at HI hst
      have HNX : Hid ((R (k + 1)).next = t + 1) := by unfold Hid; rw [HT.out, ht]; rfl
      have q1 : decide ((t : Int) ≤ last) = false := decide_eq_false (by omega)
      clear hcell hck hkl hcm hok hwl hnd ht HT
      go_wp2_with fail
      have hba : Below wr.heap.size wr (wr.alloc (.cells #[.int .i64 op, .int .i64 d, .int .i64 aa, .int .i64 bb, .int .i64 nn] 27)) := (Below.refl _ _).alloc (Nat.le_refl _) _
      have how0 : OwnI (wr.alloc (.cells #[.int .i64 op, .int .i64 d, .int .i64 aa, .int .i64 bb, .int .i64 nn] 27)) (P + 1) wv (wrL S.wr) := World.ownsRow.alloc HWK.out _
      have hpp0 : PipeAt (wr.alloc (.cells #[.int .i64 op, .int .i64 d, .int .i64 aa, .int .i64 bb, .int .i64 nn] 27)) P S wv k := HPK.out.below hba hplk
      refine (HI _ (wrAt_own how0) hpp0).out.mono ?_
      rintro e w5 ⟨wv', rfl, hp5, hw5, hg5⟩
      have HP5 := Lib.hid hp5
      have HW5 := Lib.hid (owns_base hw5 (show P + 1 ≤ _ by simp; omega))
      have HO5 := Lib.hid (grown_kept (World.ownsRow.alloc HOWK.out (.cells #[.int .i64 op, .int .i64 d, .int .i64 aa, .int .i64 bb, .int .i64 nn] 27)) hg5 (Nat.lt_succ_self _))
      have HB5 := Lib.hid ((HBK.out.trans (hba.mono (by omega))).trans (grown_belowP hg5 (Nat.le_refl _) (by simp; omega)))
      clear hp5 hw5 hg5 hba HI
      go_wp2_with fail
      go_roundw
      case rel => exact ⟨k + 1, (t : Int), wv', by omega, by go_num, rfl, by omega, by rw [HNX.out]; omega, HP5.out, HW5.out, HO5.out, HB5.out⟩
      case measure => simp [intOf]; omega
    · have ek : k = m := by omega
      subst ek
      have HCYX := HCY wr sa sc hcm
      have HPC := fun w h => Lib.hid (pipecycles_ok w P (R k) wv k h)
      have HPO := fun w h => Lib.hid (pipeops_ok w P (R k) wv k h)
      obtain ⟨dn, hdn⟩ : ∃ dn, dn = (R k).done := ⟨_, rfl⟩
      rw [← hdn] at HCYX HPC
      clear hdn hlast hcm HOK HRS HGO HC HST HTF
      go_wp2_with fail
      refine HCYX.out.mono ?_
      rintro e w6 ⟨rfl, hb6⟩
      have HP6 := Lib.hid (HPK.out.below hb6 hplk)
      have HB6 := Lib.hid (HBK.out.trans (hb6.mono (by omega)))
      clear hb6
      go_wp2_with fail
      refine (HPC _ HP6.out).out.mono ?_
      rintro e w7 ⟨rfl, rfl⟩
      go_wp2_with fail
      refine (HPO _ HP6.out).out.mono ?_
      rintro e w8 ⟨rfl, rfl⟩
      go_wp2_with fail
      go_ret
      exact ⟨rfl, HB6.out⟩
end Go.Proofs.Ytnfgjcdiophphaa
