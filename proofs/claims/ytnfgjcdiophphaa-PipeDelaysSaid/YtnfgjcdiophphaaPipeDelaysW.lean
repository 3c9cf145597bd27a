/- The law PipeDelays: the walk. -/
import Derived.Test.YtnfgjcdiophphaaFlush
namespace Go.Proofs.Ytnfgjcdiophphaa
open Go.RowKit
set_option linter.unusedVariables false
set_option linter.unusedSimpArgs false

theorem grown_kept {w w' : World} {base p : Nat} {e : TypeId} {size : Nat} {v : Value} {n : Nat} {l : List Value} (h : w.ownsRow base e size v n l) (hg : w.grownBy w' (some p)) (hp : p < base) : w'.ownsRow base e size v n l :=
  World.ownsRow.kept h hg (by
    cases hv : v.ownBlock with
    | none => exact .inl rfl
    | some g => exact .inr (fun e => by have := (World.ownsRow.lt h g hv).1; simp at e; omega))
theorem grown_belowP {w w' : World} {B p : Nat} (hg : w.grownBy w' (some p)) (hp : B ≤ p) (hB : B ≤ w.heap.size) : Below B w w' :=
  (Below.refl B w).trans (grown_below hg (fun g hg => by simp at hg; omega) hB)
def restX (zs : List Int) (i : Nat) : Nat := ((zs.getD i 0) % 20).toNat
theorem restX_le (zs : List Int) (i : Nat) : restX zs i ≤ 10000 := by unfold restX; omega
theorem restX_in {zs : List Int} {i : Nat} (h : i < zs.length) : ((restX zs i : Nat) : Int) = zs[i] % 20 := by
  unfold restX
  rw [List.getD_eq_getElem?_getD, List.getElem?_eq_getElem h]
  simp only [Option.getD_some]
  have := Int.emod_nonneg zs[i] (b := 20) (by omega)
  omega
theorem restX_out {zs : List Int} {i : Nat} (h : zs.length ≤ i) : restX zs i = 0 := by
  unfold restX
  rw [List.getD_eq_getElem?_getD, List.getElem?_eq_none h]
  rfl

set_option maxRecDepth 100000 in
set_option maxHeartbeats 4000000 in
theorem pipeDelays_walk (a0 : Option Addr) (len0 cap0 : Nat) (z0 : List Op5) (a1 : Option Addr) (len1 cap1 : Nat) (z1 : List Int) (a2 : Int) (w : World) (h0 : Came w a0 len0 cap0 5 (z0.map opC) ∧ ∀ z ∈ z0, True) (h1 : Came w a1 len1 cap1 1 (z1.map intCells) ∧ ∀ z ∈ z1, I64 z) (_ : -9223372036854775808 ≤ a2 ∧ a2 ≤ 9223372036854775807) :
    Calls Try.prog 6 #[.slice a0 len0 cap0, .slice a1 len1 cap1, .int .i64 a2] w fun e w' => e = .returned (.bool true) ∧ Below w.heap.size w w' := by
  have HTF := fun w => Lib.hid (timingFactK_ok w)
  have HPN := Lib.hid (pipenew_ok w)
  have HST := fun w h => Lib.hid (straight_ok z0 a0 len0 cap0 w h)
  have HC := Lib.hid h0.1
  have HC1 := Lib.hid h1.1
  have hl1 : z1.length = len1 := by simpa using h1.1.count
  have HL1 := Lib.hid hl1
  have hle1 := h1.1.le
  have hmx1 := h1.1.max
  have hsl := strS_len z0
  have HGO := Lib.hid (strS_good z0)
  have HRE := fun z w => Lib.hid (rest_any z 20 w (by omega) (by omega))
  have HRC := fun w => Lib.hid (rest_any a2 101 w (by omega) (by omega))
  obtain ⟨os, hos⟩ : ∃ os, os = strS z0 := ⟨_, rfl⟩
  rw [← hos] at HST hsl HGO
  clear hos h0 h1 hl1
  obtain ⟨m, hm⟩ : ∃ m, m = os.length := ⟨_, rfl⟩
  have HM := Lib.hid hm
  rw [← hm] at hsl HST
  clear hm
  have HOK := Lib.hid (runE_ok (restX z1) os (restX_le z1))
  have HRS := Lib.hid (runE_succ (restX z1) os)
  obtain ⟨R, hR⟩ : ∃ R, R = runE (restX z1) os := ⟨_, rfl⟩
  rw [← hR] at HOK HRS
  have HR0 : Hid (R 0 = zeroTS) := by unfold Hid; rw [hR]; rfl
  obtain ⟨c, hc⟩ : ∃ c : Nat, (c : Int) = a2 % 101 := ⟨(a2 % 101).toNat, by have := Int.emod_nonneg a2 (b := 101) (by omega); omega⟩
  have hcb : c ≤ 100 := by have := Int.emod_lt_of_pos a2 (b := 101) (by omega); omega
  rw [← hc] at HRC
  clear hR hc
  obtain ⟨P, hP⟩ : ∃ P, P = w.heap.size := ⟨_, rfl⟩
  rw [← hP] at HPN ⊢
  have HPE := Lib.hid hP
  clear hP
  go_enter Try.func6, Try.ntmps6
  go_wp2_with fail
  refine HPN.out.mono ?_
  rintro e w1 ⟨rfl, hp1, hb1⟩
  have HP1 := Lib.hid hp1
  have HB1 := Lib.hid hb1
  have hl1 := hp1.lt
  clear hp1 hb1
  go_wp2_with fail
  refine (HTF w1).out.mono ?_
  rintro e w2 ⟨rfl, hb2⟩
  have HP2 := Lib.hid (HP1.out.below hb2 hl1)
  have HB2 := Lib.hid (HB1.out.trans (hb2.mono (by omega)))
  have hl2 := HP2.out.lt
  clear hb2 HP1 HB1 hl1
  go_wp2_with fail
  refine (HST w2 (HC.out.below (by rw [← HPE.out]; exact HB2.out))).out.mono ?_
  rintro e w3 ⟨v, rfl, hown, hb3⟩
  have hown' : w3.ownsRow w2.heap.size 27 5 v os.length (flat5 os) := by rw [← HM.out]; exact hown
  obtain ⟨sa, sc, hv, _⟩ := came_flat5 hown'
  rw [← HM.out] at hv
  subst hv
  have HOW := Lib.hid (owns_base hown (show P + 1 ≤ w2.heap.size by omega))
  have HP3 := Lib.hid (HP2.out.below hb3 hl2)
  have HB3 := Lib.hid (HB2.out.trans (hb3.mono (by omega)))
  clear hown hown' hb3 HP2 HB2
  go_wp2_with fail
  go_loopw [24] (fun u wr => ∃ (k : Nat) (wv : Value), k ≤ m ∧ u = .int .i64 (k : Int) ∧ PipeAt wr P (R k) wv k ∧ OwnI wr (P + 1) wv (wrL (R k).wr) ∧ wr.ownsRow (P + 1) 27 5 (.slice sa m sc) m (flat5 os) ∧ Below P w wr) (fun u _ => m - (intOf u).toNat)
  case atStart => exact ⟨0, .slice none 0 0, Nat.zero_le _, rfl, by rw [HR0.out]; exact HP3.out, by rw [HR0.out]; exact World.ownsRow_nil _ _ _ _, HOW.out, HB3.out⟩
  case round =>
    obtain ⟨k, wv, hk, rfl, hpk, hwk, hown, hbk⟩ := hrel
    have HPK := Lib.hid hpk
    have HWK := Lib.hid hwk
    have HOWK := Lib.hid hown
    have HBK := Lib.hid hbk
    have hplk := hpk.lt
    have hown' : wr.ownsRow (P + 1) 27 5 (.slice sa m sc) os.length (flat5 os) := by rw [← HM.out]; exact hown
    obtain ⟨sa', sc', hv, hcm⟩ := came_flat5 hown'
    rw [← HM.out] at hv hcm
    simp only [Value.slice.injEq, true_and] at hv
    obtain ⟨rfl, rfl⟩ := hv
    have hcle := hcm.le
    have hcmx := hcm.max
    clear hpk hwk hown hbk hown'
    by_cases hlt : k < m
    · obtain ⟨b', off, ea, hbl, hcell⟩ := came_ops hcm (by omega)
      subst ea
      have hkl : k < os.length := by rw [← HM.out]; exact hlt
      have ho := hcell k hkl
      have hgo := HGO.out _ (List.getElem_mem hkl)
      have HT := Lib.hid (HRS.out k hkl)
      obtain ⟨hok, hwl, hnd⟩ := HOK.out k (by omega)
      generalize os[k] = o at ho hgo HT
      obtain ⟨op, d, aa, bb, nn⟩ := o
      obtain ⟨c0, c1, c2, c3, c4⟩ := ho
      obtain ⟨hck, _⟩ := hgo
      simp only [] at c0 c1 c2 c3 c4 hck HT
      obtain ⟨S, hS⟩ : ∃ S, S = R k := ⟨_, rfl⟩
      rw [← hS] at HT hok hwl hnd HPK HWK
      clear hS
      have hxb := restX_le z1 k
      have HXI := Lib.hid (fun h => restX_in (zs := z1) (i := k) h)
      have HXO := Lib.hid (fun h => restX_out (zs := z1) (i := k) h)
      obtain ⟨x, hx⟩ : ∃ x, x = restX z1 k := ⟨_, rfl⟩
      rw [← hx] at HT hxb HXI HXO
      have HI := fun w h1 h2 => Lib.hid (pipeop_ok S wv P k op d aa bb nn x w (k * 20016) (by omega) hxb (by omega) hck hok h1 h2)
      unfold PipePost at HI
      rw [← HT.out] at HI
      obtain ⟨t, ht⟩ : ∃ t, t = startOf S op d aa bb (latOf op + x) := ⟨_, rfl⟩
      rw [← ht] at HI
      clear hcell hck hkl hcm hok hwl hnd ht HT hx
      have hba : Below wr.heap.size wr (wr.alloc (.cells #[.int .i64 op, .int .i64 d, .int .i64 aa, .int .i64 bb, .int .i64 nn] 27)) := (Below.refl _ _).alloc (Nat.le_refl _) _
      by_cases hlt1 : k < len1
      case' pos =>
        have hc1 := HC1.out.below (w' := wr) (by rw [← HPE.out]; exact HBK.out)
        obtain ⟨b1, off1, ea1, hbl1, hcell1⟩ := hc1.ints (by omega)
        have hkl1 : k < z1.length := by have := HL1.out; omega
        have cl1 := hcell1 k hkl1
        have HXE := Lib.hid (HXI.out hkl1)
        obtain ⟨zk, hzk⟩ : ∃ zk, zk = z1[k] := ⟨_, rfl⟩
        rw [← hzk] at cl1 HXE
        have HRZ := fun w => Lib.hid ((rest_any zk 20 w (by omega) (by omega)).mono (R' := fun e w' => e = .returned (.int .i64 (x : Int)) ∧ w = w') (fun e w' h => by rw [HXE.out]; exact h))
        clear hcell1 hzk hc1 HXI HXO HXE hkl1
        subst ea1
        go_wp2_with fail
        refine (HRZ _).out.mono ?_
        rintro e w' ⟨rfl, rfl⟩
        go_wp2_with fail
      case' neg =>
        have ex : x = 0 := HXO.out (by have := HL1.out; omega)
        subst ex
        clear HXI HXO
        go_wp2_with fail
      all_goals
        have how0 : OwnI (wr.alloc (.cells #[.int .i64 op, .int .i64 d, .int .i64 aa, .int .i64 bb, .int .i64 nn] 27)) (P + 1) wv (wrL S.wr) := World.ownsRow.alloc HWK.out _
        have hpp0 : PipeAt (wr.alloc (.cells #[.int .i64 op, .int .i64 d, .int .i64 aa, .int .i64 bb, .int .i64 nn] 27)) P S wv k := HPK.out.below hba hplk
        refine (HI _ (wrAt_own how0) hpp0).out.mono ?_
        rintro e w5 ⟨wv', rfl, hp5, hw5, hg5⟩
        have HP5 := Lib.hid hp5
        have HW5 := Lib.hid (owns_base hw5 (show P + 1 ≤ _ by simp; omega))
        have HO5 := Lib.hid (grown_kept (World.ownsRow.alloc HOWK.out (.cells #[.int .i64 op, .int .i64 d, .int .i64 aa, .int .i64 bb, .int .i64 nn] 27)) hg5 (Nat.lt_succ_self _))
        have HB5 := Lib.hid ((HBK.out.trans (hba.mono (by omega))).trans (grown_belowP hg5 (Nat.le_refl _) (by simp; omega)))
        clear hp5 hw5 hg5 hba HI
        go_wp2_with fail
        go_roundw
        case rel => exact ⟨k + 1, wv', by omega, by go_num, HP5.out, HW5.out, HO5.out, HB5.out⟩
        case measure => simp [intOf]; omega
    · have ek : k = m := by omega
      subst ek
      obtain ⟨hok, hwl, hnd⟩ := HOK.out k (by omega)
      have HPC := fun w h => Lib.hid (pipecycles_ok w P (R k) wv k h)
      have HFL := Lib.hid (fun w base h1 h2 h3 => flush_ok (R k) wv P k c w (k * 20016) base (by omega) hcb hok h1 h2 h3)
      have HFR := fun w => Lib.hid (flush_range w P)
      have HFD : Hid ((flushS (R k) c).done = max (R k).done ((R k).next + c)) := rfl
      obtain ⟨S2, hS2⟩ : ∃ S2, S2 = flushS (R k) c := ⟨_, rfl⟩
      unfold FlushPost at HFL
      rw [← hS2] at HFL HFD
      have HPC2 := fun w wv h => Lib.hid (pipecycles_ok w P S2 wv k h)
      obtain ⟨d2, hd2⟩ : ∃ d2, d2 = S2.done := ⟨_, rfl⟩
      rw [← hd2] at HPC2 HFD
      have hdb := hok.e
      have hd2b := HFD.out
      obtain ⟨dn, hdn⟩ : ∃ dn, dn = (R k).done := ⟨_, rfl⟩
      rw [← hdn] at HPC hd2b hdb hnd
      have q1 : decide ((dn : Int) ≤ (d2 : Int)) = true := decide_eq_true (by omega)
      have q1' : decide (dn ≤ d2) = true := decide_eq_true (by omega)
      have q2 : decide ((d2 : Int) ≤ (dn : Int) + (c : Int)) = true := decide_eq_true (by omega)
      have hd2c : d2 ≤ 1152921504606846976 := by omega
      clear hdn hcm HRS HGO HC HST HTF hok HFD hS2 hd2 hd2b
      go_wp2_with fail
      refine (HPC _ HPK.out).out.mono ?_
      rintro e w7 ⟨rfl, rfl⟩
      go_wp2_with fail
      refine (HRC _).out.mono ?_
      rintro e w7 ⟨rfl, rfl⟩
      go_wp2_with fail
      refine (HFL.out _ (P + 1) (Nat.lt_succ_self _) HWK.out HPK.out).mono ?_
      rintro e w8 ⟨rfl, wv8, hp8, hw8, hg8⟩
      have HP8 := Lib.hid hp8
      have HB8 := Lib.hid (HBK.out.trans (grown_belowP hg8 (Nat.le_refl _) (by omega)))
      clear hp8 hw8 hg8 HFL
      go_wp2_with fail
      refine (HFR _).out.mono ?_
      rintro e w7 ⟨rfl, rfl⟩
      go_wp2_with fail
      refine (HPC2 _ _ HP8.out).out.mono ?_
      rintro e w7 ⟨rfl, rfl⟩
      go_wp2_with fail
      refine (HPC2 _ _ HP8.out).out.mono ?_
      rintro e w7 ⟨rfl, rfl⟩
      go_wp2_with fail
      go_ret
      exact ⟨rfl, HB8.out⟩
end Go.Proofs.Ytnfgjcdiophphaa
