/- The law TimingGrows: the mathematics of the number of cycles, and the walk. -/
import Derived.Test.YtkblfoabfajciacStraight
namespace Go.Proofs.Ytkblfoabfajciac
open Go.RowKit
set_option linter.unusedVariables false
set_option linter.unusedSimpArgs false

theorem nextS_done (S : TS) (op d a b : Int) (x : Nat) : S.done ≤ (nextS S op d a b x).done := Nat.le_max_left _ _
theorem nextS_next {S : TS} {B : Nat} (ok : S.Ok B) (op d a b : Int) : S.next + 1 ≤ (nextS S op d a b 0).next ∧ (nextS S op d a b 0).next ≤ (nextS S op d a b 0).done := by
  have hlb := latOf_bd op
  have h := startOf_le ok op d a b (latOf op + 0) (by omega)
  unfold nextS
  dsimp only
  generalize startOf S op d a b (latOf op + 0) = t at *
  omega
theorem runS_len : ∀ (n : Nat) (l : List Op5), l.length = n → n ≤ 4096 → n ≤ (runS l).next ∧ (runS l).next ≤ (runS l).done
  | 0, l, h, _ => by
    obtain rfl : l = [] := List.length_eq_zero_iff.1 h
    exact ⟨Nat.le_refl _, Nat.le_refl _⟩
  | n + 1, l, h, hn => by
    obtain ⟨l', o, rfl⟩ : ∃ l' o, l = l' ++ [o] := ⟨l.dropLast, l.getLast (by intro e; simp [e] at h), (List.dropLast_concat_getLast _).symm⟩
    simp at h
    obtain ⟨h1, h2⟩ := runS_ok n l' h (by omega)
    have h3 := runS_len n l' h (by omega)
    have h4 := nextS_next h1 o.op o.d o.a o.b
    rw [runS_snoc]
    omega
theorem foldS_done (l : List Op5) : ∀ S : TS, S.done ≤ (l.foldl (fun S o => nextS S o.op o.d o.a o.b 0) S).done := by
  induction l with
  | nil => exact fun S => Nat.le_refl _
  | cons o l ih => exact fun S => Nat.le_trans (nextS_done S o.op o.d o.a o.b 0) (ih _)
theorem runS_take_le (l : List Op5) (k : Nat) : (runS (l.take k)).done ≤ (runS l).done := by
  have h : runS l = (l.drop k).foldl (fun S o => nextS S o.op o.d o.a o.b 0) (runS (l.take k)) := by
    unfold runS
    rw [← List.foldl_append, List.take_append_drop]
  rw [h]
  exact foldS_done _ _
theorem came_take5 {w : World} {a : Option Addr} {n c : Nat} {l : List Op5} (h : Came w a n c 5 (l.map opC)) (k : Nat) (hk : k ≤ n) : Came w a k c 5 ((l.take k).map opC) := by
  have hl : l.length = n := by simpa using h.count
  refine ⟨by simp; omega, by have := h.le; omega, h.max, fun e => by have := h.nil e; omega, fun v hv => ?_, fun h0 h1 => ?_⟩
  · obtain ⟨o, _, rfl⟩ := List.mem_map.1 hv
    rfl
  · obtain ⟨b, off, ha, hb, hc⟩ := h.cells (by omega) h1
    refine ⟨b, off, ha, hb, fun i v hv j hj => hc i v ?_ j hj⟩
    rw [List.getElem?_map, List.getElem?_take] at hv
    rw [List.getElem?_map]
    split at hv
    · exact hv
    · simp at hv

set_option maxRecDepth 100000 in
set_option maxHeartbeats 4000000 in
theorem timingGrows_walk (a0 : Option Addr) (len0 cap0 : Nat) (z0 : List Op5) (a1 : Int) (w : World) (h0 : Came w a0 len0 cap0 5 (z0.map opC) ∧ ∀ z ∈ z0, True) (_ : -9223372036854775808 ≤ a1 ∧ a1 ≤ 9223372036854775807) :
    Calls Try.prog 5 #[.slice a0 len0 cap0, .int .i64 a1] w fun e w' => e = .returned (.bool true) ∧ Below w.heap.size w w' := by
  have HTF := Lib.hid (timingFactK_ok w)
  have HST := fun w h => Lib.hid (straight_ok z0 a0 len0 cap0 w h)
  have HC := Lib.hid h0.1
  have hsl := strS_len z0
  have HGO := Lib.hid (strS_good z0)
  obtain ⟨os, hos⟩ : ∃ os, os = strS z0 := ⟨_, rfl⟩
  rw [← hos] at HST hsl HGO
  clear hos h0
  obtain ⟨m, hm⟩ : ∃ m, m = os.length := ⟨_, rfl⟩
  have HM := Lib.hid hm
  rw [← hm] at hsl HST
  clear hm
  obtain ⟨r, hr⟩ : ∃ r : Nat, (r : Int) = a1 % ((m : Int) + 1) := ⟨(a1 % ((m : Int) + 1)).toNat, by have := Int.emod_nonneg a1 (b := (m : Int) + 1) (by omega); omega⟩
  have hrm : r ≤ m := by have := Int.emod_lt_of_pos a1 (b := (m : Int) + 1) (by omega); omega
  have HR := fun w => Lib.hid (rest_any a1 ((m : Int) + 1) w (by omega) (by omega))
  rw [← hr] at HR
  have HCY := fun w a c h => Lib.hid (cycles_ok os a m c w h (by omega) HGO.out)
  have HCY2 := fun w a c h => Lib.hid (cycles_ok (os.take r) a r c w h (by omega) (fun o ho => HGO.out o (List.mem_of_mem_take ho)))
  have hle1 := runS_take_le os r
  have hle2 := runS_len m os HM.out.symm (by omega)
  obtain ⟨dn, hdn⟩ : ∃ dn, dn = (runS os).done := ⟨_, rfl⟩
  obtain ⟨dm, hdm⟩ : ∃ dm, dm = (runS (os.take r)).done := ⟨_, rfl⟩
  rw [← hdn] at HCY hle1 hle2
  rw [← hdm] at HCY2 hle1
  have hmd : m ≤ dn := by omega
  clear hr hdn hdm hle2
  go_enter Try.func5, Try.ntmps5
  go_wp2_with fail
  refine HTF.out.mono ?_
  rintro e w1 ⟨rfl, hb1⟩
  have HB1 := Lib.hid hb1
  clear hb1
  go_wp2_with fail
  refine (HST w1 (HC.out.below HB1.out)).out.mono ?_
  rintro e w2 ⟨v, rfl, hown, hb2⟩
  have hown' : w2.ownsRow w1.heap.size 45 5 v os.length (flat5 os) := by rw [← HM.out]; exact hown
  obtain ⟨sa, sc, hv, hcm⟩ := came_flat5 hown'
  rw [← HM.out] at hv hcm
  subst hv
  have HB2 := Lib.hid (HB1.out.trans (hb2.mono HB1.out.size))
  have HCM := Lib.hid hcm
  have hcle := hcm.le
  have hcmx := hcm.max
  clear hown hown' hb2 hcm
  go_wp2_with fail
  refine (HCY w2 sa sc HCM.out).out.mono ?_
  rintro e w3 ⟨rfl, hb3⟩
  have HB3 := Lib.hid (HB2.out.trans (hb3.mono HB2.out.size))
  have HC3 := Lib.hid (came_take5 (HCM.out.below hb3) r hrm)
  clear hb3
  go_wp2_with fail
  refine (HR w3).out.mono ?_
  rintro e w' ⟨rfl, rfl⟩
  go_wp2_with fail
  refine (HCY2 _ sa sc HC3.out).out.mono ?_
  rintro e w4 ⟨rfl, hb4⟩
  have HB4 := Lib.hid (HB3.out.trans (hb4.mono HB3.out.size))
  clear hb4
  go_wp2
  go_ret
  exact ⟨rfl, HB4.out⟩
end Go.Proofs.Ytkblfoabfajciac
