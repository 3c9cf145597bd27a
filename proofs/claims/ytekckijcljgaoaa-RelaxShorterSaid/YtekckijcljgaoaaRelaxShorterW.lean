/- The walk of RelaxShorter. -/
import Derived.Test.YtekckijcljgaoaaRelaxKeep
import Derived.Test.YtekckijcljgaoaaComeItems
namespace Go.Proofs.Ytekckijcljgaoaa
open Go.RowKit
set_option linter.unusedVariables false

theorem outI_tgt (its : List Item) (n i : Nat) (hi : i < n) (hl : lab (outI its n n) i = true) : tgt (outI its n n) i < n := by
  unfold lab tgt at *
  rw [outI_at its n n i hi] at hl ⊢
  have h1 := of_decide_eq_true hl
  have h2 := Int.emod_lt_of_pos (itAt its i).tg (show (0 : Int) < n by omega)
  unfold normI at h1 ⊢
  split at h1 <;> split at h1 <;> simp only at h1 <;> first
    | omega
    | (rw [if_pos (by assumption), if_pos (by assumption)]; simp only; omega)

set_option maxRecDepth 100000 in
set_option maxHeartbeats 4000000 in
theorem shorter_go (av : Option Addr) (len cap : Nat) (its : List Item) (w : World) (hcm : Came w av len cap 6 (its.map itemCells)) :
    Calls Try.prog 4 #[.slice av len cap] w fun e w' => e = .returned (.bool true) ∧ Below w.heap.size w w' := by
  have HFACT := fun w => Lib.hid (relaxFactK_ok w)
  have HCAME := Lib.hid hcm
  clear hcm
  go_enter Try.func4, Try.ntmps4
  go_wp2_with fail
  refine (HFACT _).out.mono ?_
  rintro e w1 ⟨rfl, hb⟩
  have HB1 := Lib.hid hb
  clear hb
  go_wp2_with fail
  obtain ⟨n, hn300, hnl, hit⟩ := items_any av len cap its w1 (HCAME.out.below HB1.out)
  refine hit.mono ?_
  rintro e w2 ⟨v, rfl, hown, hb⟩
  obtain ⟨a2, cap2, rfl, hcm2⟩ := came_of_ownsG (E := itemCells) (zs := outI its n n) (by omega) itemCells_len (outI_len its n n) (by have := hown; rw [outI_len] at this; exact this)
  have hok := outI_ok its n hn300
  have hlen := outI_len its n n
  have hst := outI_tgt its n
  obtain ⟨out, hout⟩ : ∃ out, out = outI its n n := ⟨_, rfl⟩
  rw [← hout] at hcm2 hok hlen hst
  have HSTR := Lib.hid hst
  have hle2 := hcm2.le
  have hmx2 := hcm2.max
  have HB2 := Lib.hid (HB1.out.trans (hb.mono HB1.out.size))
  have HCM := Lib.hid hcm2
  have HOK := Lib.hid hok
  have HLEN := Lib.hid hlen
  have HT := Lib.hid (tgt_le hlen hok)
  clear hst hit hown hb hout hcm2 hok hlen HB1 HCAME HFACT
  go_wp2_with fail
  refine (renc_small a2 n cap2 out false w2 HCM.out HOK.out hn300).mono ?_
  rintro e w3 ⟨v1, gs, L, rfl, hS1, hp1, hown1, hblk1, hg1, hb⟩
  rw [allL_false] at hp1 hown1 hblk1
  obtain ⟨s1, m1, c1, rfl⟩ := owns_shape hown1
  obtain ⟨e1, _⟩ := came_of_owns (E := intCells) (zs := codeTo out L n) (fun z => ⟨_, rfl⟩) (by simpa [intCells] using hown1)
  have hm1 : (m1 : Int) = posL L n := by rw [e1]; exact codeTo_len out L n
  have hpb1 := posL_bd L n
  have HB3 := Lib.hid (HB2.out.trans (hb.mono HB2.out.size))
  have HCM3 := Lib.hid (HCM.out.below hb)
  have HS1 := Lib.hid hS1
  have HGS := Lib.hid hblk1
  have HM1 := Lib.hid hm1
  clear hb hS1 hblk1 hown1 hp1 hg1 e1 HB2 HCM hm1
  go_wp2_with fail
  refine (renc_small a2 n cap2 out true w3 HCM3.out HOK.out hn300).mono ?_
  rintro e w4 ⟨v2, gs2, L2, rfl, hS2, hp2, hown2, hblk2, hg2, hb⟩
  obtain ⟨s2, m2, c2, rfl⟩ := owns_shape hown2
  obtain ⟨e2, _⟩ := came_of_owns (E := intCells) (zs := codeTo out (allL out true L2) n) (fun z => ⟨_, rfl⟩) (by simpa [intCells] using hown2)
  have hm2 : (m2 : Int) = posL (allL out true L2) n := by rw [e2]; exact codeTo_len out (allL out true L2) n
  have hpb2 := posL_bd (allL out true L2) n
  have hmm : m1 ≤ m2 := by
    have h1 := pos_mono L (allL out true L2) 0 n (fun k hk h => by unfold allL; rw [← HS1.out.unique hS2 k (by omega), h]; rfl)
    rw [Nat.zero_add] at h1
    have h2 := HM1.out
    have h3 : posL L 0 = 0 := rfl
    have h4 : posL (allL out true L2) 0 = 0 := rfl
    omega
  have HB4 := Lib.hid (HB3.out.trans (hb.mono HB3.out.size))
  have HCM4 := Lib.hid (HCM3.out.below hb)
  have HGS4 := Lib.hid (HGS.out.below hb HGS.out.lt)
  have hm1b : m1 ≤ 600 := by have := HM1.out; omega
  have hm2b : m2 ≤ 600 := by omega
  clear hb hS2 hblk2 hown2 hp2 hg2 e2 HB3 HCM3 HGS hm2 hpb1 hpb2 HM1
  go_wp2_with fail
  refine (sizes_ok a2 n cap2 out w4 HCM4.out HOK.out).mono ?_
  rintro e w5 ⟨gz, L3, rfl, hblk3, hS3, hg3, hb⟩
  have HB5 := Lib.hid (HB4.out.trans (hb.mono HB4.out.size))
  have HCM5 := Lib.hid (HCM4.out.below hb)
  have HGS5 := Lib.hid (HGS4.out.below hb HGS4.out.lt)
  have HGZ := Lib.hid (hblk3.rowCongr (g := fun i => .bool (L i)) fun i hi => by rw [hS3.unique HS1.out i hi])
  clear hb hS3 hblk3 hg3 HB4 HCM4 HGS4
  have hdd : decide (m2 < m1) = false := decide_eq_false (by omega)
  go_wp2_with fail
  clear hmm hdd hm1b hm2b
  go_loopw [68] (fun u wr => ∃ k : Nat, k ≤ n ∧ u = .int .i64 k ∧ Below w5.heap.size w5 wr) (fun u _ => n - (intOf u).toNat)
  case atStart => exact ⟨0, Nat.zero_le _, rfl, Below.refl _ _⟩
  case round =>
    obtain ⟨k, hk, rfl, hb⟩ := hrel
    by_cases hlt : k < n
    · have hcm6 := HCM5.out.below hb
      have hgs6 := HGS5.out.below hb HGS5.out.lt
      have hgz6 := HGZ.out.below hb HGZ.out.lt
      obtain ⟨b0, off, ea, hbl, hcell⟩ := came_items hcm6 (by omega)
      subst ea
      have hkl : k < out.length := by have := HLEN.out; omega
      have hcs := hcell k hkl
      rw [← itAt_get hkl] at hcs
      have ez := hgz6.row (i := k) hlt
      have hgs := hgs6.lt
      have hgz := hgz6.lt
      have hw5 : w5.heap.size ≤ wr.heap.size := hb.size
      have HLB : Hid (lab out k = decide (0 ≤ (itAt out k).tg)) := rfl
      have HTG : Hid (tgt out k = (itAt out k).tg.toNat) := rfl
      have htl := HT.out k hlt
      obtain ⟨it, hit⟩ : ∃ it, it = itAt out k := ⟨_, rfl⟩
      rw [← hit] at hcs HLB HTG
      have HCS := Lib.hid hcs
      have HB := Lib.hid hb
      have HGS6 := Lib.hid hgs6
      clear hit hcs hcell hb hcm6 hgs6 hgz6
      obtain ⟨op, d, a, b, m, tg⟩ := it
      obtain ⟨c0, c1, c2, c3, c4, c5⟩ := HCS.out
      simp only at c0 c1 c2 c3 c4 c5 HLB HTG
      by_cases htg : tg < 0
      · clear HLB HTG
        go_wp2_with fail
        go_roundw
        case rel => exact ⟨k + 1, by omega, by go_num, HB.out.alloc hw5 _⟩
        case measure => simp [intOf]; omega
      · cases hlk : L k
        · rw [hlk] at ez
          clear HLB HTG hlk
          go_wp2_with fail
          go_roundw
          case rel => exact ⟨k + 1, by omega, by go_num, HB.out.alloc hw5 _⟩
          case measure => simp [intOf]; omega
        · obtain ⟨t, rfl⟩ := Int.eq_ofNat_of_zero_le (show 0 ≤ tg by omega)
          have ht : tgt out k = t := by rw [HTG.out]; omega
          have hfar := long_far HS1.out HT.out hlt (by rw [HLB.out, decide_eq_true (by omega)]) hlk
          have htn := HSTR.out k hlt (by rw [HLB.out, decide_eq_true (by omega)])
          rw [ht] at htl hfar htn
          have i1 : (0 : Int) ≤ (t : Int) := by omega
          have i2 : (t : Int) < (n : Int) := by omega
          have i3 : (k : Int) < (n : Int) := by omega
          have i4 : (0 : Int) ≤ (k : Int) := by omega
          rw [hlk] at ez
          have e1 := HGS6.out.row (i := t) (by omega)
          have e2 := HGS6.out.row (i := k) (by omega)
          have hp1 := posL_bd L t
          have hp2 := posL_bd L k
          obtain ⟨p1, hq1⟩ : ∃ p, p = posL L t := ⟨_, rfl⟩
          obtain ⟨p2, hq2⟩ : ∃ p, p = posL L k := ⟨_, rfl⟩
          rw [← hq1] at e1 hp1 hfar
          rw [← hq2] at e2 hp2 hfar
          have HFAR := Lib.hid hfar
          clear hq1 hq2 HLB HTG ht hlk hfar
          go_wp2_with fail
          go_quiet (fail)
          rcases HFAR.out with hf | hf
          · go_wp2_with fail
            go_roundw
            case rel => exact ⟨k + 1, by omega, by go_num, (HB.out.alloc hw5 _).trans (below_drewN_self _ _ nq)⟩
            case measure => simp [intOf]; omega
          · go_wp2_with fail
            go_roundw
            case rel => exact ⟨k + 1, by omega, by go_num, (HB.out.alloc hw5 _).trans (below_drewN_self _ _ nq)⟩
            case measure => simp [intOf]; omega
    · have HB := Lib.hid hb
      clear hb
      go_wp2_with fail
      go_ret
      exact ⟨rfl, HB5.out.trans (HB.out.mono HB5.out.size)⟩

theorem relaxShorter_walk (a : Option Addr) (len cap : Nat) (its : List Item) (w : World) (h : Came w a len cap 6 (its.map itemCells) ∧ ∀ z ∈ its, True) :
    Calls Try.prog 4 #[.slice a len cap] w fun e w' => e = .returned (.bool true) ∧ Below w.heap.size w w' :=
  shorter_go a len cap its w h.1
end Go.Proofs.Ytekckijcljgaoaa
