/- The walk of HeapHeaders. -/
import Derived.Test.YtioaoncnandjpaaHeapHdr
namespace Go.Proofs.Ytioaoncnandjpaa
open Go.RowKit

set_option maxHeartbeats 400000 in
theorem heapHeaders_walk (t0 s0 o0 : Int) (w : World) (_ht0 : -9223372036854775808 ≤ t0 ∧ t0 ≤ 9223372036854775807) (_hs0 : -9223372036854775808 ≤ s0 ∧ s0 ≤ 9223372036854775807) (_ho0 : -9223372036854775808 ≤ o0 ∧ o0 ≤ 9223372036854775807) :
    Calls Try.prog 3 #[.int .i64 t0, .int .i64 s0, .int .i64 o0] w fun e w' => e = .returned (.bool true) ∧ Below w.heap.size w w' := by
  have t1 : 0 ≤ t0 % 259 ∧ t0 % 259 < 259 := by omega
  have s1 : 0 ≤ s0 % 4096 ∧ s0 % 4096 < 4096 := by omega
  have o1 := wrap32_bd o0
  have hs : splitIs ((t0 % 259 * 4096 + s0 % 4096) * 2 + 1) = true := splitIs_true.2 (by omega)
  have q1 : (((t0 % 259 * 4096 + s0 % 4096) * 2 + 1) / 8192 == t0 % 259) = true := by simp; omega
  have q2 : (((t0 % 259 * 4096 + s0 % 4096) * 2 + 1) / 2 % 4096 == s0 % 4096) = true := by simp; omega
  by_cases hw : splitIs (wrap32 o0) = true
  · obtain ⟨u1, u2, u3⟩ := splitIs_true.1 hw
    have hw' : (!splitIs (wrap32 o0)) = false := by simp [hw]
    have y1 : 0 ≤ wrap32 o0 / 2 % 4096 ∧ wrap32 o0 / 2 % 4096 < 4096 := by omega
    have q3 : ((wrap32 o0 / 8192 * 4096 + wrap32 o0 / 2 % 4096) * 2 + 1 == wrap32 o0) = true := by simp; omega
    clear u1
    go_enter Try.func3, Try.ntmps3
    go_wp2_with (first
      | (go_at_call 15; refine (rest_any _ _ _ (by omega) (by omega)).mono ?_; rintro e w' ⟨rfl, rfl⟩)
      | (go_at_call 17; refine (header_any _ _ _ (by omega) (by omega)).mono ?_; rintro e w' ⟨rfl, rfl⟩)
      | (go_at_call 16; refine (split_any _ _).mono ?_; rintro e w' ⟨rfl, rfl⟩)
      | (go_at_call 18; refine (small_any _ _).mono ?_; rintro e w' ⟨rfl, rfl⟩))
    go_ret
    exact ⟨rfl, Below.refl _ _⟩
  · have hw0 : splitIs (wrap32 o0) = false := by simpa using hw
    have hw' : (!splitIs (wrap32 o0)) = true := by simp [hw0]
    go_enter Try.func3, Try.ntmps3
    go_wp2_with (first
      | (go_at_call 15; refine (rest_any _ _ _ (by omega) (by omega)).mono ?_; rintro e w' ⟨rfl, rfl⟩)
      | (go_at_call 17; refine (header_any _ _ _ (by omega) (by omega)).mono ?_; rintro e w' ⟨rfl, rfl⟩)
      | (go_at_call 16; refine (split_any _ _).mono ?_; rintro e w' ⟨rfl, rfl⟩)
      | (go_at_call 18; refine (small_any _ _).mono ?_; rintro e w' ⟨rfl, rfl⟩))
    go_ret
    exact ⟨rfl, Below.refl _ _⟩
end Go.Proofs.Ytioaoncnandjpaa
