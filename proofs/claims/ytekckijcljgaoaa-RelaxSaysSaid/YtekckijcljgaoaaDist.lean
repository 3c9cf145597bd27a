/- The contracts of the reference's Distance and of its sum. -/
import Derived.Test.YtekckijcljgaoaaRelaxMath
namespace Go.Proofs.Ytekckijcljgaoaa
open Go.RowKit
set_option linter.unusedVariables false

theorem posL_mono (L : Nat → Bool) (i k : Nat) (h : i ≤ k) : ((k - i : Nat) : Int) ≤ posL L k - posL L i := by
  have := pos_lt L i (k - i)
  rwa [show i + (k - i) = k by omega] at this

set_option maxRecDepth 100000 in
set_option maxHeartbeats 1000000 in
theorem sum_any (lb lo len lcap : Nat) (L : Nat → Bool) (box : Nat) (i j : Nat) (w : World) (hij : i ≤ j) (hj : j ≤ len) (hlen : len ≤ 16384) (hL : BoolsAt w lb lo len L) (hcap : len ≤ lcap ∧ lcap ≤ 9223372036854775807)
    (hbox : w.cell? ⟨box, 0, none⟩ = some (.slice (some ⟨lb, lo, none⟩) len lcap)) :
    Calls Try.prog 89 #[.int .i64 (i : Int), .int .i64 (j : Int), .pointer (some ⟨box, 0, none⟩)] w fun e w' => e = .returned (.int .i64 (posL L j - posL L i)) ∧ w = w' := by
  have HL := Lib.hid hL
  clear hL
  go_enter Try.func89, Try.ntmps89
  go_wp2_with fail
  go_loopw [6, 7] (fun s u wr => ∃ k : Nat, i ≤ k ∧ k ≤ j ∧ u = .int .i64 k ∧ s = .int .i64 (posL L k - posL L i) ∧ wr = w) (fun _ u _ => j - (intOf u).toNat)
  case atStart => exact ⟨i, Nat.le_refl _, hij, rfl, by rw [Int.sub_self], rfl⟩
  case round =>
    obtain ⟨k, hik, hk, rfl, rfl, rfl⟩ := hrel
    by_cases hlt : k < j
    · have c0 := HL.out k (by omega)
      have HPS : Hid (posL L (k + 1) = posL L k + (if L k = true then 2 else 1)) := rfl
      have b1 := posL_bd L k
      have b2 := posL_bd L i
      obtain ⟨p, hp⟩ : ∃ p, p = posL L k := ⟨_, rfl⟩
      obtain ⟨q, hq⟩ : ∃ q, q = posL L i := ⟨_, rfl⟩
      rw [← hp] at b1 HPS ⊢
      rw [← hq] at b2 ⊢
      have HQ := Lib.hid hq
      clear hp hq
      have i1 : (k : Int) < (len : Int) := by omega
      cases hlk : L k
      all_goals
        rw [hlk] at c0 HPS
        go_wp2_with fail
        go_roundw
        case rel => exact ⟨k + 1, by omega, by omega, by go_num, by rw [HPS.out]; simp; try omega, trivial⟩
        case measure => simp [intOf]; omega
    · have ek : k = j := by omega
      subst ek
      go_wp2_with fail
      go_ret
      exact ⟨rfl, rfl⟩

set_option maxRecDepth 100000 in
set_option maxHeartbeats 2000000 in
/-- the distance of a jump whose item has a label -/
theorem dist_any (a : Option Addr) (len cap : Nat) (its : List Item) (w : World) (h : Came w a len cap 6 (its.map itemCells)) (hlen : len ≤ 16384)
    (lb lo lcap : Nat) (L : Nat → Bool) (hL : BoolsAt w lb lo len L) (hlb : lb < w.heap.size) (hcap : len ≤ lcap ∧ lcap ≤ 9223372036854775807)
    (i t : Nat) (hi : i < len) (ht : t ≤ len) (hit : (itAt its i).tg = (t : Int)) :
    Calls Try.prog 78 #[.slice a len cap, .slice (some ⟨lb, lo, none⟩) len lcap, .int .i64 (i : Int)] w fun e w' => e = .returned (.int .i64 (posL L t - posL L (i + 1))) ∧ Below w.heap.size w w' := by
  have hl : its.length = len := by simpa using h.count
  have hle := h.le
  have hmx := h.max
  obtain ⟨b0, off, ea, hbl, hcell⟩ := came_items h (by omega)
  subst ea
  have hcs := hcell i (by omega)
  rw [← itAt_get (by omega)] at hcs
  have c5 := hcs.c5
  rw [hit] at c5
  have hb0 : Below w.heap.size w (w.alloc (.cells #[.slice (some ⟨lb, lo, none⟩) len lcap] 23)) := (Below.refl _ _).alloc (Nat.le_refl _) _
  have HB0 := Lib.hid hb0
  have HL1 := Lib.hid (show BoolsAt (w.alloc (.cells #[.slice (some ⟨lb, lo, none⟩) len lcap] 23)) lb lo len L from fun k hk => (hb0.cell (p := ⟨lb, lo + k, none⟩) hlb).trans (hL k hk))
  have HBOX : Hid ((w.alloc (.cells #[.slice (some ⟨lb, lo, none⟩) len lcap] 23)).cell? ⟨w.heap.size, 0, none⟩ = some (.slice (some ⟨lb, lo, none⟩) len lcap)) := by unfold Hid; rw [World.cell?_alloc_new]; rfl
  have bt := posL_bd L t
  have bi := posL_bd L (i + 1)
  clear hcs hcell hb0 h hL hit hl
  by_cases hlt : i < t
  · have HS := Lib.hid (sum_any lb lo len lcap L w.heap.size (i + 1) t _ (by omega) ht hlen HL1.out hcap HBOX.out)
    have ei : (((i + 1 : Nat) : Int)) = (i : Int) + 1 := by omega
    rw [ei] at HS
    clear ei
    obtain ⟨p, hp⟩ : ∃ p, p = posL L t := ⟨_, rfl⟩
    obtain ⟨q, hq⟩ : ∃ q, q = posL L (i + 1) := ⟨_, rfl⟩
    rw [← hp] at bt HS ⊢
    rw [← hq] at bi HS ⊢
    clear hp hq
    go_enter Try.func78, Try.ntmps78
    go_wp2_with fail
    refine HS.out.mono ?_
    rintro e w2 ⟨rfl, rfl⟩
    go_wp2_with fail
    go_ret
    exact ⟨rfl, HB0.out⟩
  · have HS := Lib.hid (sum_any lb lo len lcap L w.heap.size t (i + 1) _ (by omega) (by omega) hlen HL1.out hcap HBOX.out)
    have ei : (((i + 1 : Nat) : Int)) = (i : Int) + 1 := by omega
    rw [ei] at HS
    clear ei
    have HM := Lib.hid (posL_mono L t (i + 1) (by omega))
    obtain ⟨p, hp⟩ : ∃ p, p = posL L t := ⟨_, rfl⟩
    obtain ⟨q, hq⟩ : ∃ q, q = posL L (i + 1) := ⟨_, rfl⟩
    rw [← hp] at bt HS ⊢
    rw [← hq] at bi HS ⊢
    clear hp hq HM
    go_enter Try.func78, Try.ntmps78
    go_wp2_with fail
    refine HS.out.mono ?_
    rintro e w2 ⟨rfl, rfl⟩
    go_wp2_with fail
    go_ret
    exact ⟨ret_int (by omega), HB0.out⟩
end Go.Proofs.Ytekckijcljgaoaa
