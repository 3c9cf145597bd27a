/- The contract of slices.BinarySearch at a sorted []int. -/
import Derived.Test.YtgcbdndfobiphabHeadW
import Derived.Test.YtgcbdndfobiphabOpens
import Derived.Test.YtgcbdndfobiphabBlk
import Derived.Deep.LoopGhost
import Derived.Lib.SlicesSearch
namespace Go.Proofs.Ytgcbdndfobiphab
open Go.RowKit
set_option linter.unusedVariables false

set_option maxHeartbeats 400000 in
theorem isNaN_cmp (x : Int) (w : World) : Calls Try.prog 39 #[.int .i64 x] w fun e w' => e = .returned (.bool false) ∧ w' = w := by
  have q : (x != x) = false := by simp
  go_enter Try.func39, Try.ntmps39
  go_wp2
  go_ret
  exact ⟨by simp, rfl⟩
set_option maxHeartbeats 400000 in
theorem isNaN_sl (x : Int) (w : World) : Calls Try.prog 35 #[.int .i64 x] w fun e w' => e = .returned (.bool false) ∧ w' = w := by
  have q : (x != x) = false := by simp
  go_enter Try.func35, Try.ntmps35
  go_wp2
  go_ret
  exact ⟨by simp, rfl⟩
set_option maxHeartbeats 400000 in
theorem cmpLess_any (x y : Int) (w : World) : Calls Try.prog 34 #[.int .i64 x, .int .i64 y] w fun e w' => e = .returned (.bool (decide (x < y))) ∧ w' = w := by
  go_enter Try.func34, Try.ntmps34
  go_wp2_with (go_at_call 39; refine (isNaN_cmp _ _).mono ?_; rintro e w' ⟨rfl, rfl⟩)
  go_ret
  exact ⟨rfl, rfl⟩

theorem getD_some (zs : List Int) {i : Nat} (h : i < zs.length) : zs.getD i 0 = zs[i] := by simp [List.getD, h]

def SearchPost (zs : List Int) (x : Int) (w : World) (e : Ending) (w' : World) : Prop := ∃ n, e = .returned (.tuple #[.int .i64 ((zs.countP (· < x) : Nat) : Int), .bool (zs.contains x)]) ∧ w' = w.drewN n

set_option maxHeartbeats 4000000 in
set_option maxRecDepth 1000000 in
theorem search_ints (w : World) (a : Option Addr) (n c : Nat) (zs : List Int) (x : Int) (h : Came w a n c 1 (zs.map intCells)) (hbig : n < 4611686018427387904) (hs : zs.Pairwise (· ≤ ·)) :
    Calls Try.prog 28 #[.slice a n c, .int .i64 x] w (SearchPost zs x w) := by
  have hzl : zs.length = n := by simpa using h.count
  have S : Hid (∀ a b, a ≤ b → b < n → zs.getD a 0 ≤ zs.getD b 0) := Lib.sorted_at zs n (by omega) (by rw [List.take_of_length_le (by omega)]; exact hs)
  have ZL := Lib.hid hzl
  have hle := h.le
  have hmx := h.max
  have HC : Hid (∀ j, j < n → ∃ b off, a = some ⟨b, off, none⟩ ∧ w.cell? ⟨b, off + j, none⟩ = some (.int .i64 (zs.getD j 0))) := fun j hj => by
    obtain ⟨b, off, e1, _, e2⟩ := h.ints (by omega)
    exact ⟨b, off, e1, by rw [getD_some _ (by omega)]; exact e2 j (by omega)⟩
  clear h hs hzl
  go_enter Try.func28, Try.ntmps28
  go_wp2
  go_loopg [7, 8] n (fun g s7 s8 wr => ∃ lo hi q : Nat, s7 = .int .i64 lo ∧ s8 = .int .i64 hi ∧ lo ≤ hi ∧ hi ≤ n ∧ hi - lo ≤ g ∧ wr = w.drewN q ∧ (∀ t, t < lo → zs.getD t 0 < x) ∧ (∀ t, hi ≤ t → t < n → x ≤ zs.getD t 0))
  case atStart => exact ⟨0, n, 0, rfl, rfl, Nat.zero_le _, Nat.le_refl _, by omega, rfl, fun t ht => absurd ht (Nat.not_lt_zero _), fun t h1 h2 => by omega⟩
  case round =>
    obtain ⟨lo, hi, q, rfl, rfl, hlh, hin, hg, rfl, h1, h2⟩ := hrel
    have I : Hid ((∀ t, t < lo → zs.getD t 0 < x) ∧ (∀ t, hi ≤ t → t < n → x ≤ zs.getD t 0)) := ⟨h1, h2⟩
    clear h1 h2
    by_cases hlt : lo < hi
    · obtain ⟨b, off, ea, cm⟩ := HC.out ((lo + hi) / 2) (by omega)
      subst ea
      generalize hy : zs.getD ((lo + hi) / 2) 0 = y at cm
      have Y : Hid (zs.getD ((lo + hi) / 2) 0 = y) := hy
      clear hy
      by_cases hyx : y < x
      · go_wp2_with (go_at_call 34; refine (cmpLess_any _ _ _).mono ?_; rintro e w' ⟨rfl, rfl⟩)
        go_roundg (hi - ((lo + hi) / 2 + 1))
        case measure => omega
        case rel =>
          refine ⟨(lo + hi) / 2 + 1, hi, _, by rw [show ((lo : Int) + (hi : Int)) / 2 + 1 = (((lo + hi) / 2 + 1 : Nat) : Int) by omega], rfl, by omega, hin, Nat.le_refl _, rfl, fun t ht => ?_, I.out.2⟩
          have := S.out t ((lo + hi) / 2) (by omega) (by omega)
          rw [Y.out] at this
          omega
      · go_wp2_with (go_at_call 34; refine (cmpLess_any _ _ _).mono ?_; rintro e w' ⟨rfl, rfl⟩)
        go_roundg ((lo + hi) / 2 - lo)
        case measure => omega
        case rel =>
          refine ⟨lo, (lo + hi) / 2, _, rfl, by rw [show ((lo : Int) + (hi : Int)) / 2 = (((lo + hi) / 2 : Nat) : Int) by omega], by omega, by omega, Nat.le_refl _, rfl, I.out.1, fun t ht htn => ?_⟩
          have := S.out ((lo + hi) / 2) t ht htn
          rw [Y.out] at this
          omega
    · have : hi = lo := by omega
      subst this
      have E : Hid (zs.countP (· < x) = hi ∧ zs.contains x = decide (hi < n ∧ zs.getD hi 0 = x)) := by
        have := Lib.search_end zs n hi x (by have := ZL.out; omega) hin I.out.1 I.out.2 S.out
        rw [List.take_of_length_le (by have := ZL.out; omega)] at this
        exact this
      by_cases hn : hi < n
      · obtain ⟨b, off, ea, cl⟩ := HC.out hi hn
        subst ea
        generalize hy : zs.getD hi 0 = y at cl
        have Y : Hid (zs.getD hi 0 = y) := hy
        clear hy
        by_cases hyx : y = x
        · have z : (y == x) = true := by simp [hyx]
          have HYX := Lib.hid hyx
          clear hyx
          go_wp2_with (first | (go_at_call 35; refine (isNaN_sl _ _).mono ?_; rintro e w' ⟨rfl, rfl⟩))
          go_ret2
          refine ⟨_, ?_, rfl⟩
          rw [E.out.1, E.out.2, Y.out, decide_eq_true (show hi < n ∧ y = x from ⟨hn, HYX.out⟩)]
          first | rfl | simp [*]
        · have z : (y == x) = false := by simp [hyx]
          go_wp2_with (first | (go_at_call 35; refine (isNaN_sl _ _).mono ?_; rintro e w' ⟨rfl, rfl⟩))
          go_ret2
          refine ⟨_, ?_, rfl⟩
          rw [E.out.1, E.out.2, Y.out, decide_eq_false (show ¬ (hi < n ∧ y = x) from fun h => hyx h.2)]
          first | rfl | simp [*]
      · go_wp2_with (first | (go_at_call 35; refine (isNaN_sl _ _).mono ?_; rintro e w' ⟨rfl, rfl⟩))
        go_ret2
        refine ⟨_, ?_, rfl⟩
        rw [E.out.1, E.out.2, decide_eq_false (fun h => hn h.1)]
        first | rfl | simp [*]
end Go.Proofs.Ytgcbdndfobiphab
