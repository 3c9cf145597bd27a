/- What RelaxSays needs besides: SameBools, the fact of law 4, equal choices give equal code. -/
import Derived.Test.YtekckijcljgaoaaItemWords
import Derived.Test.YtekckijcljgaoaaRelaxKeep
namespace Go.Proofs.Ytekckijcljgaoaa
open Go.RowKit
set_option linter.unusedVariables false

theorem codeTo_congr (its : List Item) (L M : Nat → Bool) (n : Nat) (hT : ∀ i, i < n → tgt its i ≤ n) (h : ∀ i, i < n → L i = M i) : ∀ k, k ≤ n → codeTo its L k = codeTo its M k := by
  intro k hk
  induction k with
  | zero => rfl
  | succ k ih =>
    have hp := pos_congr L M n h
    have hn : nOf its L k = nOf its M k := by
      unfold nOf
      rw [hp (tgt its k) (hT k (by omega)), hp (k + 1) hk]
    show codeTo its L k ++ wordsAt its L k = codeTo its M k ++ wordsAt its M k
    unfold wordsAt
    rw [ih (by omega), hn, h k (by omega)]

theorem came_take {w : World} {a : Option Addr} {len cap s : Nat} {vs : List (List Value)} (h : Came w a len cap s vs) (n : Nat) (hn : n ≤ len) : Came w a n cap s (vs.take n) := by
  have hc := h.count
  have hle := h.le
  have hmx := h.max
  refine ⟨by simp; omega, by omega, by omega, fun ha => ⟨by have := (h.nil ha).1; omega, (h.nil ha).2⟩, fun v hv => h.size v (List.mem_of_mem_take hv), fun h0 h1 => ?_⟩
  obtain ⟨b, o, ha, hb, hcell⟩ := h.cells (by omega) h1
  refine ⟨b, o, ha, hb, fun i v hv j hj => hcell i v ?_ j hj⟩
  rw [List.getElem?_take] at hv
  split at hv
  · exact hv
  · cases hv

theorem came_own_ints {w : World} {base : Nat} {e : TypeId} {v : Value} {n : Nat} {l : List Int} (h : w.ownsRow base e 1 v n (l.map (Value.int .i64))) : ∃ a cap, v = .slice a n cap ∧ Came w a n cap 1 (l.map intCells) := by
  obtain ⟨a, m, cap, rfl⟩ := owns_shape h
  obtain ⟨rfl, h2⟩ := came_of_owns (E := intCells) (zs := l) (fun z => ⟨_, rfl⟩) (by simpa [intCells] using h)
  exact ⟨a, cap, rfl, h2⟩

set_option maxHeartbeats 1000000 in
theorem same_bools (w : World) (b1 b2 n : Nat) (L : Nat → Bool) (h1 : BoolsAt w b1 0 n L) (h2 : BoolsAt w b2 0 n L) (hn : n ≤ 16384) :
    Calls Try.prog 45 #[.slice (some ⟨b1, 0, none⟩) n n, .slice (some ⟨b2, 0, none⟩) n n] w (BoolQ true w) := by
  have H1 := Lib.hid h1
  have H2 := Lib.hid h2
  clear h1 h2
  go_enter Try.func45, Try.ntmps45
  go_wp2
  go_loopw [13] (fun v wr => ∃ k m : Nat, k ≤ n ∧ v = .int .i64 k ∧ wr = w.drewN m) (fun v _ => n - (intOf v).toNat)
  case atStart => exact ⟨0, 0, Nat.zero_le _, rfl, rfl⟩
  case round =>
    obtain ⟨k, m, hk, rfl, rfl⟩ := hrel
    by_cases hlt : k < n
    · have p1 := H1.out k hlt
      have p2 := H2.out k hlt
      rw [Nat.zero_add] at p1 p2
      obtain ⟨x, hx⟩ : ∃ x, x = L k := ⟨_, rfl⟩
      rw [← hx] at p1 p2
      clear hx
      go_wp2
      go_quiet (fail)
      go_wp2
      go_roundw
      case rel => exact ⟨k + 1, _, by omega, by go_num, rfl⟩
      case measure => simp [intOf]; omega
    · go_wp2
      go_ret
      exact ⟨_, rfl, rfl⟩

set_option maxRecDepth 100000 in
set_option maxHeartbeats 1000000 in
theorem relaxFactL_ok (w : World) : Calls Try.prog 42 #[] w fun e w' => e = .returned (.bool true) ∧ Below w.heap.size w w' := by
  have HS := Lib.hid (renc_small (some ⟨w.heap.size, 0, none⟩) 2 2 [⟨19, 0, 0, 0, 0, 1⟩, ⟨0, 0, 0, 0, 0, -1⟩] true (w.alloc (.cells #[.int .i64 19, .int .i64 0, .int .i64 0, .int .i64 0, .int .i64 0, .int .i64 1, .int .i64 0, .int .i64 0, .int .i64 0, .int .i64 0, .int .i64 0, .int .i64 (-1)] 41))
    (came_of_blkG (zs := [⟨19, 0, 0, 0, 0, 1⟩, ⟨0, 0, 0, 0, 0, -1⟩]) (by omega) itemCells_len (Blk.new w [.int .i64 19, .int .i64 0, .int .i64 0, .int .i64 0, .int .i64 0, .int .i64 1, .int .i64 0, .int .i64 0, .int .i64 0, .int .i64 0, .int .i64 0, .int .i64 (-1)] 41) (by simp)) (by decide) (by omega))
  go_enter Try.func42, Try.ntmps42
  go_wp2_with fail
  refine HS.out.mono ?_
  rintro e w2 ⟨v, gs, L, rfl, hsz, hps, hown, hblk, hg, hb⟩
  have hm0 : allL [⟨19, 0, 0, 0, 0, 1⟩, ⟨0, 0, 0, 0, 0, -1⟩] true L 0 = true := by unfold allL; simp [lab, itAt]
  have hm1 : allL [⟨19, 0, 0, 0, 0, 1⟩, ⟨0, 0, 0, 0, 0, -1⟩] true L 1 = false := by
    have := hsz.base 1 (by omega) (by decide)
    unfold allL
    rw [this]
    decide
  have hcl := codeTo_len [⟨19, 0, 0, 0, 0, 1⟩, ⟨0, 0, 0, 0, 0, -1⟩] (allL [⟨19, 0, 0, 0, 0, 1⟩, ⟨0, 0, 0, 0, 0, -1⟩] true L) 2
  obtain ⟨M, hM⟩ : ∃ M, M = allL [⟨19, 0, 0, 0, 0, 1⟩, ⟨0, 0, 0, 0, 0, -1⟩] true L := ⟨_, rfl⟩
  rw [← hM] at hm0 hm1 hcl hown hblk
  have hp1 : posL M 1 = 2 := by simp [posL, hm0]
  have hp2 : posL M 2 = 3 := by simp [posL, hm0, hm1]
  have c0 := hblk.row (i := 1) (by omega)
  rw [hp1] at c0
  have hl3 : (codeTo [⟨19, 0, 0, 0, 0, 1⟩, ⟨0, 0, 0, 0, 0, -1⟩] M 2).length = 3 := by omega
  obtain ⟨a, cap, rfl, hcm⟩ := came_own_ints hown
  rw [hl3]
  have HB := Lib.hid hb
  clear hown hblk hcm hsz hps hg hb hm0 hm1 hcl hp1 hp2 hl3 hM HS
  go_wp2_with fail
  go_ret
  exact ⟨rfl, ((Below.refl _ _).alloc (Nat.le_refl _) _).trans (HB.out.mono (by simp))⟩
end Go.Proofs.Ytekckijcljgaoaa
