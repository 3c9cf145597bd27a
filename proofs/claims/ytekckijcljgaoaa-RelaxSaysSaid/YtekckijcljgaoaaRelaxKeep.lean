/- What the statements on relax share: the fact, the items, the laws on what is long. -/
import Derived.Test.YtekckijcljgaoaaItems
import Derived.Test.YtekckijcljgaoaaDecWords
namespace Go.Proofs.Ytekckijcljgaoaa
open Go.RowKit
set_option linter.unusedVariables false

theorem itemCells_len (i : Item) : (itemCells i).length = 6 := rfl
theorem allL_false (its : List Item) (L : Nat → Bool) : allL its false L = L := by funext k; unfold allL; simp

/-- an item that is long though it has a label would not fit if it were short -/
theorem long_far {its : List Item} {n : Nat} {L : Nat → Bool} (h : SizesOf its n L) (hT : ∀ i, i < n → tgt its i ≤ n) {i : Nat} (hi : i < n) (hl : lab its i = true) (hL : L i = true) : posL L (tgt its i) - posL L i ≤ -127 ∨ 128 < posL L (tgt its i) - posL L i := by
  have key : ¬ Holds its n (fun k => if k = i then false else L k) := by
    intro hM
    have := h.least _ hM i hi hL
    simp at this
  have hsub : ∀ k, k < n → (if k = i then false else L k) = true → L k = true := by
    intro k _ hk
    by_cases e : k = i
    · rw [if_pos e] at hk; cases hk
    · rwa [if_neg e] at hk
  have hfar : farL its (fun k => if k = i then false else L k) i = true := by
    refine Classical.byContradiction fun hno => key ⟨fun k hk hb => ?_, fun k hk hf => ?_⟩
    · by_cases e : k = i
      · subst e; unfold baseL at hb; rw [hl] at hb; simp at hb
      · simp only [if_neg e]; exact h.holds.base k hk hb
    · by_cases e : k = i
      · subst e; exact absurd hf hno
      · simp only [if_neg e]
        exact h.far k hk (far_mono hsub hk (hT k hk) hf)
  have hpre : ∀ j, j ≤ i → posL (fun k => if k = i then false else L k) j = posL L j := fun j hj => pos_congr _ _ i (fun k hk => if_neg (by omega)) j hj
  have hpost : ∀ d, posL (fun k => if k = i then false else L k) (i + 1 + d) = posL L (i + 1 + d) - 1 := by
    intro d
    induction d with
    | zero =>
      show posL (fun k => if k = i then false else L k) i + (if (if i = i then false else L i) = true then 2 else 1) = posL L i + (if L i = true then 2 else 1) - 1
      have e : (if i = i then false else L i) = false := if_pos rfl
      rw [hpre i (Nat.le_refl _), e, hL]; simp; omega
    | succ d ih =>
      show posL (fun k => if k = i then false else L k) (i + 1 + d) + (if (if i + 1 + d = i then false else L (i + 1 + d)) = true then 2 else 1) = posL L (i + 1 + d) + (if L (i + 1 + d) = true then 2 else 1) - 1
      have e : (if i + 1 + d = i then false else L (i + 1 + d)) = L (i + 1 + d) := if_neg (by omega)
      rw [ih, e]; omega
  unfold farL at hfar
  simp only [Bool.and_eq_true, Bool.not_eq_true'] at hfar
  have h2 := short_no.1 hfar.2
  unfold distL at h2
  rw [hpre i (Nat.le_refl _)] at h2
  by_cases hc : i < tgt its i
  · have h3 := hpost (tgt its i - (i + 1))
    rw [show i + 1 + (tgt its i - (i + 1)) = tgt its i by omega] at h3
    have h4 := pos_lt L i (tgt its i - i)
    rw [show i + (tgt its i - i) = tgt its i by omega] at h4
    omega
  · rw [hpre _ (by omega)] at h2
    have h4 := pos_lt L (tgt its i) (i - tgt its i)
    rw [show tgt its i + (i - tgt its i) = i by omega] at h4
    omega

theorem sizes_one {L : Nat → Bool} (h : SizesOf [⟨19, 0, 0, 0, 0, 0⟩] 1 L) : L 0 = false := by
  have hM : Holds [⟨19, 0, 0, 0, 0, 0⟩] 1 (fun _ => false) := by
    refine ⟨fun i hi hb => ?_, fun i hi hf => ?_⟩
    · obtain rfl : i = 0 := by omega
      exact absurd hb (by decide)
    · obtain rfl : i = 0 := by omega
      exact absurd hf (by decide)
  cases hl : L 0
  · rfl
  · have := h.least _ hM 0 (by omega) hl
    cases this

set_option maxHeartbeats 1000000 in
theorem relaxFactK_ok (w : World) : Calls Try.prog 19 #[] w fun e w' => e = .returned (.bool true) ∧ Below w.heap.size w w' := by
  have HS := Lib.hid (sizes_ok (some ⟨w.heap.size, 0, none⟩) 1 1 [⟨19, 0, 0, 0, 0, 0⟩] (w.alloc (.cells #[.int .i64 19, .int .i64 0, .int .i64 0, .int .i64 0, .int .i64 0, .int .i64 0] 41))
    (came_of_blkG (zs := [⟨19, 0, 0, 0, 0, 0⟩]) (by omega) itemCells_len (Blk.new w [.int .i64 19, .int .i64 0, .int .i64 0, .int .i64 0, .int .i64 0, .int .i64 0] 41) (by simp)) (by decide))
  go_enter Try.func19, Try.ntmps19
  go_wp2_with fail
  refine HS.out.mono ?_
  rintro e w2 ⟨g, L, rfl, hblk, hsz, hg, hb⟩
  have c0 := hblk.row (i := 0) (by omega)
  rw [sizes_one hsz] at c0
  have HB := Lib.hid hb
  clear hblk hsz hg hb
  go_wp2_with fail
  go_ret
  exact ⟨rfl, ((Below.refl _ _).alloc (Nat.le_refl _) _).trans (HB.out.mono (by simp))⟩

theorem items_any (av : Option Addr) (len cap : Nat) (its : List Item) (w : World) (h : Came w av len cap 6 (its.map itemCells)) :
    ∃ n, n ≤ 300 ∧ n ≤ len ∧ Calls Try.prog 20 #[.slice av len cap, .int .i64 300] w (ItemsPost its n w) := by
  by_cases hb : 300 < len
  · exact ⟨300, Nat.le_refl _, by omega, items_big av len cap its w hb h⟩
  · exact ⟨len, by omega, Nat.le_refl _, items_small av len cap its w (by omega) h⟩

theorem renc_small (a : Option Addr) (len cap : Nat) (its : List Item) (all : Bool) (w : World) (h : Came w a len cap 6 (its.map itemCells)) (he : itemsE its = 0) (hn : len ≤ 300) :
    Calls Try.prog 21 #[.slice a len cap, .bool all] w (EncPost its len all w) := by
  refine (renc_ok a len cap its all w h he).mono ?_
  rintro e w' (h1 | ⟨⟨L, _, h2⟩, _⟩)
  · exact h1
  · have := posL_bd (allL its all L) len
    omega
theorem tgt_le {its : List Item} {n : Nat} (hl : its.length = n) (he : itemsE its = 0) : ∀ i, i < n → tgt its i ≤ n := by
  intro i hi
  have := item_ok ((items_ok he).2 i (by omega))
  unfold tgt
  rw [hl] at this
  rcases this with ⟨_, h2, _⟩ | ⟨h2, _⟩ <;> omega
end Go.Proofs.Ytekckijcljgaoaa
