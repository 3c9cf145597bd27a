/- slices.Contains at []int. -/
import Derived.Test.YtkafbihlmhdjeabLnkCallsM
namespace Go.Proofs.Ytkafbihlmhdjeab
open Go.RowKit
set_option linter.unusedVariables false
set_option linter.unusedSimpArgs false

def IxP (zs : List Int) (x : Int) (w : World) (e : Ending) (w' : World) : Prop := ∃ r : Int, e = .returned (.int .i64 r) ∧ w' = w ∧ decide (0 ≤ r) = zs.contains x

set_option maxHeartbeats 1000000 in
theorem index_ints (w : World) (a : Option Addr) (n c : Nat) (zs : List Int) (x : Int) (h : Came w a n c 1 (zs.map intCells)) :
    Calls Try.prog 51 #[.slice a n c, .int .i64 x] w (IxP zs x w) := by
  have hzl : zs.length = n := by simpa using h.count
  have HZ := Lib.hid hzl
  have hle := h.le
  have hmx := h.max
  have HC := Lib.hid h
  clear h hzl
  go_enter Try.func51, Try.ntmps51
  go_wp2
  go_loop [5, 8] (fun _ u => ∃ k : Nat, k ≤ n ∧ u = .int .i64 (k : Int) ∧ ∀ j, j < k → zs.getD j 0 ≠ x) (fun _ u => n - (intOf u).toNat)
  case atStart => exact ⟨0, Nat.zero_le _, rfl, fun j hj => absurd hj (Nat.not_lt_zero _)⟩
  case round =>
    obtain ⟨k, hk, rfl, hno⟩ := hrel
    have HNO := Lib.hid hno
    clear hno
    by_cases hlt : k < n
    · obtain ⟨b, off, ea, _, hcell⟩ := HC.out.ints (by omega)
      subst ea
      have hkl : k < zs.length := by have := HZ.out; omega
      have cl := hcell k hkl
      obtain ⟨z, hz⟩ : ∃ z, z = zs[k] := ⟨_, rfl⟩
      rw [← hz] at cl
      have HZK : Hid (zs.getD k 0 = z) := by unfold Hid; rw [hz]; simp [List.getD, hkl]
      have HMEM : Hid (z ∈ zs) := by unfold Hid; rw [hz]; exact List.getElem_mem hkl
      clear hcell hz
      by_cases hxz : x = z
      · have q : (x == z) = true := by simp [hxz]
        have HXZ := Lib.hid hxz
        clear hxz
        go_wp2
        go_ret
        refine ⟨_, rfl, rfl, ?_⟩
        rw [decide_eq_true (by omega)]
        symm
        rw [List.contains_iff_mem, HXZ.out]
        exact HMEM.out
      · have q : (x == z) = false := by simp [hxz]
        go_wp2
        go_round
        case rel =>
          refine ⟨k + 1, by omega, by go_num, fun j hj => ?_⟩
          by_cases e : j = k
          · subst e; rw [HZK.out]; exact fun e => hxz e.symm
          · exact HNO.out j (by omega)
        case measure => simp [intOf]; omega
    · have ek : k = n := by omega
      subst ek
      go_wp2
      go_ret
      refine ⟨_, rfl, rfl, ?_⟩
      rw [decide_eq_false (by omega)]
      symm
      rw [← Bool.not_eq_true, List.contains_iff_mem]
      intro hm
      obtain ⟨j, hj, e⟩ := List.getElem_of_mem hm
      exact HNO.out j (by have := HZ.out; omega) (by simp [List.getD, hj, e])

theorem contains_ints (w : World) (a : Option Addr) (n c : Nat) (zs : List Int) (x : Int) (h : Came w a n c 1 (zs.map intCells)) :
    Calls Try.prog 30 #[.slice a n c, .int .i64 x] w fun e w' => e = .returned (.bool (zs.contains x)) ∧ w = w' := by
  have HI := fun w h => index_ints w a n c zs x h
  have HC := Lib.hid h
  obtain ⟨r, hr⟩ : ∃ r, r = zs.contains x := ⟨_, rfl⟩
  have HR := Lib.hid hr
  rw [← hr]
  clear h hr
  go_enter Try.func30, Try.ntmps30
  go_wp2_with fail
  refine (HI _ HC.out).mono ?_
  rintro e w' ⟨q, rfl, rfl, hq⟩
  have HQ := Lib.hid hq
  clear hq
  go_wp2
  go_ret
  exact ⟨ret_bool (by rw [HR.out, ← HQ.out]), rfl⟩
end Go.Proofs.Ytkafbihlmhdjeab
