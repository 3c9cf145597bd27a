/- The law SchedFaster: the walk. -/
import Derived.Test.YtnfgjcdiophphaaSchedLaw
namespace Go.Proofs.Ytnfgjcdiophphaa
open Go.RowKit
set_option linter.unusedVariables false
set_option linter.unusedSimpArgs false

set_option maxRecDepth 100000 in
set_option maxHeartbeats 4000000 in
theorem schedFaster_walk (a0 : Option Addr) (len0 cap0 : Nat) (z0 : List Op5) (w : World) (h0 : Came w a0 len0 cap0 5 (z0.map opC) ∧ ∀ z ∈ z0, True) :
    Calls Try.prog 8 #[.slice a0 len0 cap0] w fun e w' => e = .returned (.bool true) ∧ Below w.heap.size w w' := by
  have HSF := Lib.hid (schedFact_ok w)
  have HTF := fun w => Lib.hid (timingFactK_ok w)
  have HST := fun w h => Lib.hid (straight_ok z0 a0 len0 cap0 w h)
  have HC := Lib.hid h0.1
  have hsl := strS_len z0
  have HGO := Lib.hid (strS_good z0)
  obtain ⟨os, hos⟩ : ∃ os, os = strS z0 := ⟨_, rfl⟩
  rw [← hos] at HST hsl HGO
  clear hos h0
  obtain ⟨m, hm⟩ : ∃ m, m = os.length := ⟨_, rfl⟩
  have HM := Lib.hid hm
  rw [← hm] at hsl HST
  clear hm
  go_enter Try.func8, Try.ntmps8
  go_wp2_with fail
  refine HSF.out.mono ?_
  rintro e w1 ⟨rfl, hb1⟩
  have HB1 := Lib.hid hb1
  clear hb1 HSF
  go_wp2_with fail
  refine (HTF w1).out.mono ?_
  rintro e w2 ⟨rfl, hb2⟩
  have HB2 := Lib.hid (HB1.out.trans (hb2.mono HB1.out.size))
  clear hb2 HTF HB1
  go_wp2_with fail
  refine (HST w2 (HC.out.below HB2.out)).out.mono ?_
  rintro e w3 ⟨v, rfl, hown, hb3⟩
  have hown' : w3.ownsRow w2.heap.size 27 5 v os.length (flat5 os) := by rw [← HM.out]; exact hown
  obtain ⟨sa, sc, hv, hcm⟩ := came_flat5 hown'
  rw [← HM.out] at hv hcm
  subst hv
  have HB3 := Lib.hid (HB2.out.trans (hb3.mono HB2.out.size))
  have HCM := Lib.hid hcm
  have hcle := hcm.le
  have hcmx := hcm.max
  have HSC := Lib.hid (schedule_ok os sa m sc w3 hcm (by omega) HGO.out)
  unfold ScheduleLaw at HSC
  clear hown hown' hb3 hcm HB2 HST HC
  go_wp2_with fail
  refine HSC.out.mono ?_
  rintro e w4 ⟨u, out, rfl, ⟨hord, hlen⟩, hdone, hown, hb4⟩
  have hpl : (pickO os out).length = m := by simp [pickO]; exact hlen
  obtain ⟨ua, uc, hu, hum⟩ := came_flat5 hown
  rw [hpl] at hu hum
  subst hu
  have hule := hum.le
  have humx := hum.max
  have HB4 := Lib.hid (HB3.out.trans (hb4.mono HB3.out.size))
  have HUM := Lib.hid hum
  have HC4 := Lib.hid (HCM.out.below hb4)
  have HCY1 := Lib.hid (cycles_ok os sa m sc w4 HC4.out (by omega) HGO.out)
  have HCY2 := fun w h => Lib.hid (cycles_ok (pickO os out) ua m uc w h (by omega) (pickO_good HM.out.symm hord HGO.out))
  obtain ⟨d1, hd1⟩ : ∃ x, x = (runS os).done := ⟨_, rfl⟩
  obtain ⟨d2, hd2⟩ : ∃ x, x = (runS (pickO os out)).done := ⟨_, rfl⟩
  rw [← hd1] at HCY1 hdone
  rw [← hd2] at HCY2 hdone
  clear hd1 hd2 hown hb4 HSC hord hlen hpl hum HGO HB3 HCM
  go_wp2_with fail
  refine HCY1.out.mono ?_
  rintro e w5 ⟨rfl, hb5⟩
  have HB5 := Lib.hid (HB4.out.trans (hb5.mono HB4.out.size))
  have HU5 := Lib.hid (HUM.out.below hb5)
  clear hb5 HB4 HUM HCY1 HC4
  go_wp2_with fail
  refine (HCY2 _ HU5.out).out.mono ?_
  rintro e w6 ⟨rfl, hb6⟩
  have HB6 := Lib.hid (HB5.out.trans (hb6.mono HB5.out.size))
  have y1 : decide ((d2 : Int) ≤ (d1 : Int)) = true := decide_eq_true (by omega)
  have y2 : decide (d2 ≤ d1) = true := decide_eq_true hdone
  clear hb6 HB5 HU5 HCY2 hdone
  go_wp2_with fail
  go_ret
  exact ⟨rfl, HB6.out⟩
end Go.Proofs.Ytnfgjcdiophphaa
