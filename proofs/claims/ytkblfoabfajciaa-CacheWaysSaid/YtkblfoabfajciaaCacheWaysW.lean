/- The walk of CacheWays. -/
import Derived.Test.YtkblfoabfajciaaCacheMath
namespace Go.Proofs.Ytkblfoabfajciaa
open Go.RowKit
set_option linter.unusedVariables false
set_option linter.unusedSimpArgs false

set_option maxRecDepth 100000 in
set_option maxHeartbeats 4000000 in
theorem cacheWays_walk (a0 a1 a2 : Int) (la : Option Addr) (len cap : Nat) (zs : List Int) (w : World)
    (_ : -9223372036854775808 ≤ a0 ∧ a0 ≤ 9223372036854775807) (_ : -9223372036854775808 ≤ a1 ∧ a1 ≤ 9223372036854775807) (_ : -9223372036854775808 ≤ a2 ∧ a2 ≤ 9223372036854775807)
    (h0 : Came w la len cap 1 (zs.map intCells) ∧ ∀ z ∈ zs, I64 z) :
    Calls Try.prog 4 #[.int .i64 a0, .int .i64 a1, .int .i64 a2, .slice la len cap] w fun e w' => e = .returned (.bool true) ∧ Below w.heap.size w w' := by
  have HC := Lib.hid h0.1
  clear h0
  obtain ⟨a, ha⟩ : ∃ x : Nat, (x : Int) = a0 % 8 := ⟨(a0 % 8).toNat, by omega⟩
  obtain ⟨b, hb⟩ : ∃ x : Nat, (x : Int) = a1 % 8 := ⟨(a1 % 8).toNat, by omega⟩
  obtain ⟨c, hc⟩ : ∃ x : Nat, (x : Int) = a2 % 7 := ⟨(a2 % 7).toNat, by omega⟩
  have hab : a < 8 := by omega
  have hbb : b < 8 := by omega
  have hcb : c < 7 := by omega
  have R1 : ∀ w, Calls Try.prog 11 #[.int .i64 a0, .int .i64 8] w fun e w' => e = .returned (.int .i64 (a : Int)) ∧ w = w' := fun w => by rw [ha]; exact rest_any a0 8 w (by omega) (by omega)
  have R2 : ∀ w, Calls Try.prog 11 #[.int .i64 a1, .int .i64 8] w fun e w' => e = .returned (.int .i64 (b : Int)) ∧ w = w' := fun w => by rw [hb]; exact rest_any a1 8 w (by omega) (by omega)
  have R3 : ∀ w, Calls Try.prog 11 #[.int .i64 a2, .int .i64 7] w fun e w' => e = .returned (.int .i64 (c : Int)) ∧ w = w' := fun w => by rw [hc]; exact rest_any a2 7 w (by omega) (by omega)
  have o1 : (Conf.mk (1 + a) (1 + b) (1 + c) 1).Ok := ⟨by dsimp only; omega, by dsimp only; omega, by dsimp only; omega, by dsimp only; omega⟩
  have o2 : (Conf.mk (1 + a) (1 + b) (1 + c + 1) 1).Ok := ⟨by dsimp only; omega, by dsimp only; omega, by dsimp only; omega, by dsimp only; omega⟩
  have M1 : ∀ wx, Came wx la len cap 1 (zs.map intCells) → Calls Try.prog 10 #[.agg #[.int .i64 (1 + (a : Int)), .int .i64 (1 + (b : Int)), .int .i64 (1 + (c : Int)), .int .i64 1], .agg #[.int .i64 (1 + (a : Int)), .int .i64 (1 + (b : Int)), .int .i64 (1 + (c : Int)), .int .i64 1], .slice la len cap] wx (IntB (missN ⟨1 + a, 1 + b, 1 + c, 1⟩ zs) wx) := fun wx hx => by
    have := misses_any ⟨1 + a, 1 + b, 1 + c, 1⟩ ⟨1 + a, 1 + b, 1 + c, 1⟩ o1 o1 la len cap zs wx hx
    simpa [Conf.val] using this
  have M2 : ∀ wx, Came wx la len cap 1 (zs.map intCells) → Calls Try.prog 10 #[.agg #[.int .i64 (1 + (a : Int)), .int .i64 (1 + (b : Int)), .int .i64 (1 + (c : Int) + 1), .int .i64 1], .agg #[.int .i64 (1 + (a : Int)), .int .i64 (1 + (b : Int)), .int .i64 (1 + (c : Int)), .int .i64 1], .slice la len cap] wx (IntB (missN ⟨1 + a, 1 + b, 1 + c + 1, 1⟩ zs) wx) := fun wx hx => by
    have := misses_any ⟨1 + a, 1 + b, 1 + c + 1, 1⟩ ⟨1 + a, 1 + b, 1 + c, 1⟩ o2 o1 la len cap zs wx hx
    simpa [Conf.val] using this
  have hle := ways_less (1 + a) (1 + b) (1 + c) 1 (by omega) zs
  obtain ⟨n, hn⟩ : ∃ n, n = missN ⟨1 + a, 1 + b, 1 + c, 1⟩ zs := ⟨_, rfl⟩
  obtain ⟨m, hm⟩ : ∃ n, n = missN ⟨1 + a, 1 + b, 1 + c + 1, 1⟩ zs := ⟨_, rfl⟩
  rw [← hn] at M1 hle
  rw [← hm] at M2 hle
  clear hn hm o1 o2 ha hb hc
  go_enter Try.func4, Try.ntmps4
  go_wp2_with fail
  refine (cacheFactK_ok _).mono ?_
  rintro e w1 ⟨rfl, hb1⟩
  go_wp2_with (first
    | (go_at_call 11; refine (R1 _).mono ?_; rintro e w' ⟨rfl, rfl⟩)
    | (go_at_call 11; refine (R2 _).mono ?_; rintro e w' ⟨rfl, rfl⟩)
    | (go_at_call 11; refine (R3 _).mono ?_; rintro e w' ⟨rfl, rfl⟩))
  have hA := (Blk.new w1 [.int .i64 (1 + (a : Int)), .int .i64 (1 + (b : Int)), .int .i64 (1 + (c : Int)), .int .i64 1] 23).alloc (.cells #[.int .i64 (1 + (a : Int)), .int .i64 (1 + (b : Int)), .int .i64 (1 + (c : Int) + 1), .int .i64 1] 23)
  have hB := Blk.new (w1.alloc (.cells #[.int .i64 (1 + (a : Int)), .int .i64 (1 + (b : Int)), .int .i64 (1 + (c : Int)), .int .i64 1] 23)) [.int .i64 (1 + (a : Int)), .int .i64 (1 + (b : Int)), .int .i64 (1 + (c : Int) + 1), .int .i64 1] 23
  have hb2 : Below w.heap.size w ((w1.alloc (.cells #[.int .i64 (1 + (a : Int)), .int .i64 (1 + (b : Int)), .int .i64 (1 + (c : Int)), .int .i64 1] 23)).alloc (.cells #[.int .i64 (1 + (a : Int)), .int .i64 (1 + (b : Int)), .int .i64 (1 + (c : Int) + 1), .int .i64 1] 23)) := (hb1.alloc hb1.size _).alloc (by have := hb1.size; simp; omega) _
  rw [World.size_alloc] at hB
  generalize (w1.alloc (.cells #[.int .i64 (1 + (a : Int)), .int .i64 (1 + (b : Int)), .int .i64 (1 + (c : Int)), .int .i64 1] 23)).alloc (.cells #[.int .i64 (1 + (a : Int)), .int .i64 (1 + (b : Int)), .int .i64 (1 + (c : Int) + 1), .int .i64 1] 23) = w2 at hA hB hb2 ⊢
  refine (M1 _ (HC.out.below hb2)).mono ?_
  rintro e w3 ⟨rfl, hb3⟩
  have hA3 := hA.below hb3 hA.lt
  have hB3 := hB.below hb3 hB.lt
  have HB3 := Lib.hid (hb2.trans (hb3.mono hb2.size))
  have j0 := hA3.cell 0
  have j1 := hA3.cell 1
  have j2 := hA3.cell 2
  have j3 := hA3.cell 3
  have k0 := hB3.cell 0
  have k1 := hB3.cell 1
  have k2 := hB3.cell 2
  have k3 := hB3.cell 3
  simp only [List.getElem?_cons_succ, List.getElem?_cons_zero] at j0 j1 j2 j3 k0 k1 k2 k3
  clear hA hB hb1 hb2 hb3 hA3 hB3
  go_wp2_with fail
  refine (M2 _ (HC.out.below HB3.out)).mono ?_
  rintro e w4 ⟨rfl, hb4⟩
  have HB4 := Lib.hid (HB3.out.trans (hb4.mono HB3.out.size))
  clear hb4
  go_wp2_with fail
  go_ret
  exact ⟨ret_bool (by first | rfl | exact decide_eq_true (by omega)), HB4.out⟩
end Go.Proofs.Ytkblfoabfajciaa
