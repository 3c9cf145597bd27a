/- The walk of RelaxSays (printed by relaxsays.py). -/
import Derived.Test.YtekckijcljgaoaaRelaxRef
import Derived.Test.YtekckijcljgaoaaComeItems
namespace Go.Proofs.Ytekckijcljgaoaa
open Go.RowKit
set_option linter.unusedVariables false

theorem hS1_unique {its : List Item} {n : Nat} {L M : Nat → Bool} (h : SizesOf its n L) (k : SizesOf its n M) : ∀ i, i < n → L i = M i := h.unique k
theorem says_code {xs : List Item} {n : Nat} (all : Bool) {L M : Nat → Bool} (hn : n ≤ 300) (hl : xs.length = n) (he : itemsE xs = 0) (h : SizesOf xs n L) (k : SizesOf xs n M) : codeTo xs (allL xs all L) n = codeTo xs (allL xs all M) n :=
  codeTo_congr xs _ _ n (tgt_le hl he) (fun i hi => by unfold allL; rw [h.unique k i hi]) n (Nat.le_refl _)

set_option maxRecDepth 100000 in
set_option maxHeartbeats 4000000 in
theorem says_big (av : Option Addr) (len cap : Nat) (its : List Item) (all : Bool) (w : World) (hcm : Came w av len cap 6 (its.map itemCells)) (hc : 300 < len) :
    Calls Try.prog 12 #[.slice av len cap, .bool all] w fun e w' => e = .returned (.bool true) ∧ Below w.heap.size w w' := by
  have HFACT := fun w => Lib.hid (relaxFactL_ok w)
  have hle := hcm.le
  have hmx := hcm.max
  have hmx0 : max (300 : Int) 0 = 300 := by omega
  have HTK := came_take hcm 300 (by omega)
  rw [← List.map_take] at HTK
  obtain ⟨xs, hxs⟩ : ∃ xs, xs = its.take 300 := ⟨_, rfl⟩
  rw [← hxs] at HTK
  have hlen : xs.length = 300 := by simpa using HTK.count
  have HCAME := Lib.hid HTK
  have HLEN := Lib.hid hlen
  have h300 : 300 ≤ 300 := by omega
  clear hcm HTK hlen hxs
  go_enter Try.func12, Try.ntmps12
  go_wp2_with fail
  refine (HFACT _).out.mono ?_
  rintro e w1 ⟨rfl, hb⟩
  have HB1 := Lib.hid hb
  have HCM1 := Lib.hid (HCAME.out.below hb)
  clear hb HFACT HCAME
  go_wp2_with fail
  have HIE := fun wx (hx : Below w1.heap.size w1 wx) => Lib.hid (itemsError_any _ _ _ xs wx (HCM1.out.below hx))
  have HCK := fun wx (hx : Below w1.heap.size w1 wx) => Lib.hid (relaxCheck_any _ _ _ xs wx (HCM1.out.below hx))
  by_cases he : itemsE xs = 0
  · have HE := Lib.hid he
    rw [he] at HIE HCK
    clear he
    refine (HIE _ (Below.refl _ _)).out.mono ?_
    rintro e w2 ⟨rfl, hb⟩
    have HB2 := Lib.hid hb
    clear hb
    go_wp2_with fail
    refine (sizes_ok _ _ _ xs w2 (HCM1.out.below HB2.out) HE.out).mono ?_
    rintro e w3 ⟨g1, L1, rfl, hb1, hS1, hg1, hb⟩
    have HB3 := Lib.hid (HB2.out.trans (hb.mono HB2.out.size))
    have HBK1 := Lib.hid hb1
    have HS1 := Lib.hid hS1
    clear hb hb1 hS1 hg1 HB2
    go_wp2_with fail
    refine (renc_small _ _ _ xs all w3 (HCM1.out.below HB3.out) HE.out h300).mono ?_
    rintro e w4 ⟨v2, gs, L2, rfl, hS2, hp2, hown2, hblk2, hg2, hb⟩
    obtain ⟨a2, c2, rfl, hcd⟩ := came_own_ints hown2
    have HB4 := Lib.hid (HB3.out.trans (hb.mono HB3.out.size))
    have HBK2 := Lib.hid (HBK1.out.below hb HBK1.out.lt)
    have HS2 := Lib.hid hS2
    have HCD := Lib.hid hcd
    clear hb hS2 hp2 hown2 hblk2 hg2 hcd HB3 HBK1
    go_wp2_with fail
    refine (HCK _ HB4.out).out.mono ?_
    rintro e w5 ⟨rfl, hb⟩
    have HB5 := Lib.hid (HB4.out.trans (hb.mono HB4.out.size))
    have HBK3 := Lib.hid (HBK2.out.below hb HBK2.out.lt)
    have HCD3 := Lib.hid (HCD.out.below hb)
    clear hb HB4 HBK2 HCD HIE HCK
    go_wp2_with fail
    refine (shortItems_any _ _ _ xs w5 (HCM1.out.below HB5.out) HE.out).mono ?_
    rintro e w6 ⟨g3, L3, rfl, hb3, hS3, hg3, hb⟩
    have HB6 := Lib.hid (HB5.out.trans (hb.mono HB5.out.size))
    have hu := hS1_unique HS1.out hS3
    have HSB := Lib.hid (same_bools w6 g1 g3 300 L1 (fun i hi => by rw [Nat.zero_add]; exact (HBK3.out.below hb HBK3.out.lt).row hi) (fun i hi => by rw [Nat.zero_add, hu i hi]; exact hb3.row hi) (by omega))
    have HCD6 := Lib.hid (HCD3.out.below hb)
    clear hb hb3 hS3 hg3 hu HB5 HCD3 HBK3
    go_wp2_with fail
    refine HSB.out.mono ?_
    rintro e w7 ⟨n7, rfl, hw7⟩
    have hbq : Below w6.heap.size w6 w7 := by rw [hw7]; exact below_drewN_self _ _ _
    have HB7 := Lib.hid (HB6.out.trans (hbq.mono HB6.out.size))
    have HCD7 := Lib.hid (HCD6.out.below hbq)
    clear hbq hw7 HB6 HCD6 HSB
    go_wp2_with fail
    refine (itemWords_any _ _ _ xs all w7 (HCM1.out.below HB7.out) HE.out).mono ?_
    rintro e w8 ⟨v8, L4, rfl, hS4, hown4, hb⟩
    obtain ⟨a4, c4, rfl, hcd4⟩ := came_own_ints hown4
    have hcc := says_code all h300 HLEN.out HE.out HS2.out hS4
    have HSI := Lib.hid (same_ints w8 _ _ _ _ _ _ _ _ (HCD7.out.below hb) hcd4)
    rw [decide_eq_true hcc] at HSI
    have HB8 := Lib.hid (HB7.out.trans (hb.mono HB7.out.size))
    clear hb hS4 hown4 hcd4 hcc HB7 HCD7
    go_wp2_with fail
    refine HSI.out.mono ?_
    rintro e w9 ⟨n9, rfl, hw9⟩
    have hbq : Below w8.heap.size w8 w9 := by rw [hw9]; exact below_drewN_self _ _ _
    have HB9 := Lib.hid (HB1.out.trans ((HB8.out.trans (hbq.mono HB8.out.size)).mono HB1.out.size))
    clear hbq hw9 HB8 HSI
    go_wp2_with fail
    go_ret
    exact ⟨rfl, HB9.out⟩
  · have HE := Lib.hid he
    obtain ⟨c, hcx⟩ : ∃ c, c = itemsE xs := ⟨_, rfl⟩
    have hcn : (c != 0) = true := by rw [hcx, bne_iff_ne]; exact he
    rw [← hcx] at HIE HCK
    have HCX := Lib.hid hcx
    clear he hcx
    refine (HIE _ (Below.refl _ _)).out.mono ?_
    rintro e w2 ⟨rfl, hb⟩
    have HB2 := Lib.hid hb
    clear hb
    go_wp2_with fail
    refine (sizes_err _ _ _ xs w2 (HCM1.out.below HB2.out) HE.out).mono ?_
    rintro e w3 ⟨rfl, hb⟩
    rw [← HCX.out]
    have HB3 := Lib.hid (HB2.out.trans (hb.mono HB2.out.size))
    clear hb HB2
    go_wp2_with fail
    refine (renc_err _ _ _ xs all w3 (HCM1.out.below HB3.out) HE.out).mono ?_
    rintro e w4 ⟨rfl, hb⟩
    rw [← HCX.out]
    have HB4 := Lib.hid (HB3.out.trans (hb.mono HB3.out.size))
    clear hb HB3
    go_wp2_with fail
    refine (HCK _ HB4.out).out.mono ?_
    rintro e w5 ⟨rfl, hb⟩
    have HB5 := Lib.hid (HB1.out.trans ((HB4.out.trans (hb.mono HB4.out.size)).mono HB1.out.size))
    clear hb HB4 HIE HCK
    go_wp2_with fail
    go_ret
    exact ⟨rfl, HB5.out⟩

set_option maxRecDepth 100000 in
set_option maxHeartbeats 4000000 in
theorem says_small (av : Option Addr) (len cap : Nat) (its : List Item) (all : Bool) (w : World) (hcm : Came w av len cap 6 (its.map itemCells)) (hc : ¬ 300 < len) :
    Calls Try.prog 12 #[.slice av len cap, .bool all] w fun e w' => e = .returned (.bool true) ∧ Below w.heap.size w w' := by
  have HFACT := fun w => Lib.hid (relaxFactL_ok w)
  have hle := hcm.le
  have hmx := hcm.max
  have hmx0 : max (300 : Int) 0 = 300 := by omega
  have HTK := came_take hcm len (by omega)
  rw [← List.map_take] at HTK
  obtain ⟨xs, hxs⟩ : ∃ xs, xs = its.take len := ⟨_, rfl⟩
  rw [← hxs] at HTK
  have hlen : xs.length = len := by simpa using HTK.count
  have HCAME := Lib.hid HTK
  have HLEN := Lib.hid hlen
  have h300 : len ≤ 300 := by omega
  clear hcm HTK hlen hxs
  go_enter Try.func12, Try.ntmps12
  go_wp2_with fail
  refine (HFACT _).out.mono ?_
  rintro e w1 ⟨rfl, hb⟩
  have HB1 := Lib.hid hb
  have HCM1 := Lib.hid (HCAME.out.below hb)
  clear hb HFACT HCAME
  go_wp2_with fail
  have HIE := fun wx (hx : Below w1.heap.size w1 wx) => Lib.hid (itemsError_any _ _ _ xs wx (HCM1.out.below hx))
  have HCK := fun wx (hx : Below w1.heap.size w1 wx) => Lib.hid (relaxCheck_any _ _ _ xs wx (HCM1.out.below hx))
  by_cases he : itemsE xs = 0
  · have HE := Lib.hid he
    rw [he] at HIE HCK
    clear he
    refine (HIE _ (Below.refl _ _)).out.mono ?_
    rintro e w2 ⟨rfl, hb⟩
    have HB2 := Lib.hid hb
    clear hb
    go_wp2_with fail
    refine (sizes_ok _ _ _ xs w2 (HCM1.out.below HB2.out) HE.out).mono ?_
    rintro e w3 ⟨g1, L1, rfl, hb1, hS1, hg1, hb⟩
    have HB3 := Lib.hid (HB2.out.trans (hb.mono HB2.out.size))
    have HBK1 := Lib.hid hb1
    have HS1 := Lib.hid hS1
    clear hb hb1 hS1 hg1 HB2
    go_wp2_with fail
    refine (renc_small _ _ _ xs all w3 (HCM1.out.below HB3.out) HE.out h300).mono ?_
    rintro e w4 ⟨v2, gs, L2, rfl, hS2, hp2, hown2, hblk2, hg2, hb⟩
    obtain ⟨a2, c2, rfl, hcd⟩ := came_own_ints hown2
    have HB4 := Lib.hid (HB3.out.trans (hb.mono HB3.out.size))
    have HBK2 := Lib.hid (HBK1.out.below hb HBK1.out.lt)
    have HS2 := Lib.hid hS2
    have HCD := Lib.hid hcd
    clear hb hS2 hp2 hown2 hblk2 hg2 hcd HB3 HBK1
    go_wp2_with fail
    refine (HCK _ HB4.out).out.mono ?_
    rintro e w5 ⟨rfl, hb⟩
    have HB5 := Lib.hid (HB4.out.trans (hb.mono HB4.out.size))
    have HBK3 := Lib.hid (HBK2.out.below hb HBK2.out.lt)
    have HCD3 := Lib.hid (HCD.out.below hb)
    clear hb HB4 HBK2 HCD HIE HCK
    go_wp2_with fail
    refine (shortItems_any _ _ _ xs w5 (HCM1.out.below HB5.out) HE.out).mono ?_
    rintro e w6 ⟨g3, L3, rfl, hb3, hS3, hg3, hb⟩
    have HB6 := Lib.hid (HB5.out.trans (hb.mono HB5.out.size))
    have hu := hS1_unique HS1.out hS3
    have HSB := Lib.hid (same_bools w6 g1 g3 len L1 (fun i hi => by rw [Nat.zero_add]; exact (HBK3.out.below hb HBK3.out.lt).row hi) (fun i hi => by rw [Nat.zero_add, hu i hi]; exact hb3.row hi) (by omega))
    have HCD6 := Lib.hid (HCD3.out.below hb)
    clear hb hb3 hS3 hg3 hu HB5 HCD3 HBK3
    go_wp2_with fail
    refine HSB.out.mono ?_
    rintro e w7 ⟨n7, rfl, hw7⟩
    have hbq : Below w6.heap.size w6 w7 := by rw [hw7]; exact below_drewN_self _ _ _
    have HB7 := Lib.hid (HB6.out.trans (hbq.mono HB6.out.size))
    have HCD7 := Lib.hid (HCD6.out.below hbq)
    clear hbq hw7 HB6 HCD6 HSB
    go_wp2_with fail
    refine (itemWords_any _ _ _ xs all w7 (HCM1.out.below HB7.out) HE.out).mono ?_
    rintro e w8 ⟨v8, L4, rfl, hS4, hown4, hb⟩
    obtain ⟨a4, c4, rfl, hcd4⟩ := came_own_ints hown4
    have hcc := says_code all h300 HLEN.out HE.out HS2.out hS4
    have HSI := Lib.hid (same_ints w8 _ _ _ _ _ _ _ _ (HCD7.out.below hb) hcd4)
    rw [decide_eq_true hcc] at HSI
    have HB8 := Lib.hid (HB7.out.trans (hb.mono HB7.out.size))
    clear hb hS4 hown4 hcd4 hcc HB7 HCD7
    go_wp2_with fail
    refine HSI.out.mono ?_
    rintro e w9 ⟨n9, rfl, hw9⟩
    have hbq : Below w8.heap.size w8 w9 := by rw [hw9]; exact below_drewN_self _ _ _
    have HB9 := Lib.hid (HB1.out.trans ((HB8.out.trans (hbq.mono HB8.out.size)).mono HB1.out.size))
    clear hbq hw9 HB8 HSI
    go_wp2_with fail
    go_ret
    exact ⟨rfl, HB9.out⟩
  · have HE := Lib.hid he
    obtain ⟨c, hcx⟩ : ∃ c, c = itemsE xs := ⟨_, rfl⟩
    have hcn : (c != 0) = true := by rw [hcx, bne_iff_ne]; exact he
    rw [← hcx] at HIE HCK
    have HCX := Lib.hid hcx
    clear he hcx
    refine (HIE _ (Below.refl _ _)).out.mono ?_
    rintro e w2 ⟨rfl, hb⟩
    have HB2 := Lib.hid hb
    clear hb
    go_wp2_with fail
    refine (sizes_err _ _ _ xs w2 (HCM1.out.below HB2.out) HE.out).mono ?_
    rintro e w3 ⟨rfl, hb⟩
    rw [← HCX.out]
    have HB3 := Lib.hid (HB2.out.trans (hb.mono HB2.out.size))
    clear hb HB2
    go_wp2_with fail
    refine (renc_err _ _ _ xs all w3 (HCM1.out.below HB3.out) HE.out).mono ?_
    rintro e w4 ⟨rfl, hb⟩
    rw [← HCX.out]
    have HB4 := Lib.hid (HB3.out.trans (hb.mono HB3.out.size))
    clear hb HB3
    go_wp2_with fail
    refine (HCK _ HB4.out).out.mono ?_
    rintro e w5 ⟨rfl, hb⟩
    have HB5 := Lib.hid (HB1.out.trans ((HB4.out.trans (hb.mono HB4.out.size)).mono HB1.out.size))
    clear hb HB4 HIE HCK
    go_wp2_with fail
    go_ret
    exact ⟨rfl, HB5.out⟩

theorem relaxSays_walk (a : Option Addr) (len cap : Nat) (its : List Item) (all : Bool) (w : World) (h : Came w a len cap 6 (its.map itemCells) ∧ ∀ z ∈ its, True) :
    Calls Try.prog 12 #[.slice a len cap, .bool all] w fun e w' => e = .returned (.bool true) ∧ Below w.heap.size w w' := by
  by_cases hb : 300 < len
  · exact says_big a len cap its all w h.1 hb
  · exact says_small a len cap its all w h.1 hb
end Go.Proofs.Ytekckijcljgaoaa
