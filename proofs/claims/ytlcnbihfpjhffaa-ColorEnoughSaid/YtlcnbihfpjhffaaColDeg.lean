/- The degrees that ColorEnough counts: plain law. No program. -/
import Derived.Test.YtlcnbihfpjhffaaColEno
import Derived.Test.YtlcnbihfpjhffaaColIn
namespace Go.Proofs.Ytlcnbihfpjhffaa
open Go.RowKit
set_option linter.unusedVariables false
set_option linter.unusedSimpArgs false

/-- how often a pair names a register -/
def degC (x : Int × Int) (r : Nat) : Nat := (if x.1 = (r : Int) then 1 else 0) + if x.2 = (r : Int) then 1 else 0
def degL (l : List (Int × Int)) (r : Nat) : Nat := (l.map fun x => degC x r).sum
theorem degL_app (l l' : List (Int × Int)) (r : Nat) : degL (l ++ l') r = degL l r + degL l' r := by
 unfold degL
 rw [List.map_append, List.sum_append]
theorem degL_one (x : Int × Int) (r : Nat) : degL [x] r = degC x r := by simp [degL]
theorem degL_take {l : List (Int × Int)} {i : Nat} (h : i < l.length) (r : Nat) : degL (l.take (i + 1)) r = degL (l.take i) r + degC l[i] r := by
 rw [List.take_add_one, List.getElem?_eq_getElem h, degL_app]
 simp [degL_one]
theorem degL_le (l : List (Int × Int)) (r : Nat) : degL l r ≤ 2 * l.length := by
 induction l with
 | nil => simp [degL]
 | cons x l ih =>
  have : degL (x :: l) r = degC x r + degL l r := by simp [degL]
  rw [this]
  have : degC x r ≤ 2 := by unfold degC; split <;> split <;> omega
  simp only [List.length_cons]
  omega
theorem degL_row (X : Nat → Nat → Bool) (a r : Nat) : ∀ m, degL (rowTo X a m) r = if r = a then cntY m (fun b => decide (a < b) && X a b) else if a < r ∧ r < m ∧ X a r = true then 1 else 0
 | 0 => by
  have : rowTo X a 0 = [] := rfl
  rw [this]
  simp [degL, cntY]
 | m + 1 => by
  have ih := degL_row X a r m
  rw [rowTo_snoc, degL_app, ih]
  by_cases e : r = a
  ·subst e
   rw [if_pos rfl, if_pos rfl, cntY_succ]
   congr 1
   by_cases h : r < m ∧ X r m = true
   ·rw [if_pos h, if_pos (by simp [h.1, h.2]), degL_one]
    unfold degC
    simp
    omega
   ·rw [if_neg h, if_neg (by simpa using h)]
    rfl
  ·rw [if_neg e, if_neg e]
   by_cases h : a < m ∧ X a m = true
   ·rw [if_pos h, degL_one]
    unfold degC
    have h1 : ¬ ((a : Int) = (r : Int)) := by omega
    rw [if_neg h1]
    by_cases e2 : m = r
    ·subst e2
     simp [h.1, h.2]
    ·have h2 : ¬ ((m : Int) = (r : Int)) := by omega
     rw [if_neg h2]
     by_cases h3 : a < r ∧ r < m ∧ X a r = true
     ·rw [if_pos h3, if_pos ⟨h3.1, by omega, h3.2.2⟩]
     ·rw [if_neg h3, if_neg (fun h4 => h3 ⟨h4.1, by omega, h4.2.2⟩)]
   ·rw [if_neg h]
    have : degL [] r = 0 := rfl
    rw [this]
    by_cases h3 : a < r ∧ r < m ∧ X a r = true
    ·rw [if_pos h3, if_pos ⟨h3.1, by omega, h3.2.2⟩]
    ·rw [if_neg h3, if_neg (fun h4 => by
      by_cases e2 : m = r
      ·subst e2; exact h ⟨h4.1, h4.2.2⟩
      ·exact h3 ⟨h4.1, by omega, h4.2.2⟩)]
theorem degL_pairs (X : Nat → Nat → Bool) {n r : Nat} (hr : r < n) : ∀ m, degL (pairsTo X n m) r = (if r < m then cntY n (fun b => decide (r < b) && X r b) else 0) + cntY m (fun a => decide (a < r) && X a r)
 | 0 => by simp [pairsTo, degL, cntY]
 | m + 1 => by
  have ih := degL_pairs X hr m
  rw [pairsTo_snoc, degL_app, ih, degL_row, cntY_succ]
  by_cases e : r = m
  ·subst e
   rw [if_neg (by omega), if_pos rfl, if_pos (by omega), if_neg (by simp)]
   omega
  ·rw [if_neg e]
   by_cases h : m < r ∧ X m r = true
   ·have q1 : (if m < r ∧ r < n ∧ X m r = true then 1 else 0) = 1 := if_pos ⟨h.1, hr, h.2⟩
    have q2 : (if (decide (m < r) && X m r) = true then 1 else 0) = 1 := if_pos (by simp [h.1, h.2])
    rw [q1, q2]
    rw [if_neg (by omega), if_neg (by omega)]
    omega
   ·have q1 : (if m < r ∧ r < n ∧ X m r = true then 1 else 0) = 0 := if_neg (fun h2 => h ⟨h2.1, h2.2.2⟩)
    have q2 : (if (decide (m < r) && X m r) = true then 1 else 0) = 0 := if_neg (by simpa using h)
    rw [q1, q2]
    by_cases h1 : r < m
    ·rw [if_pos h1, if_pos (by omega)]; omega
    ·rw [if_neg h1, if_neg (by omega)]; omega
theorem cntY_or {n : Nat} {p q s : Nat → Bool} (h : ∀ r, r < n → p r = true → q r = true ∨ s r = true) : cntY n p ≤ cntY n q + cntY n s := by
 induction n with
 | zero => simp [cntY]
 | succ n ih =>
  have h1 := ih fun r hr => h r (by omega)
  rw [cntY_succ, cntY_succ, cntY_succ]
  have h2 := h n (by omega)
  cases hp : p n
  ·simp; omega
  ·rcases h2 hp with h3 | h3
   ·rw [h3]; simp; omega
   ·rw [h3]; simp; omega
/-- the number of neighbours is what is counted -/
theorem deg_cnt {f : VF} {n nb : Nat} {X Y : Nat → Nat → Bool} (hX : ∀ x y, 1 ≤ x ∧ x < n → 1 ≤ y ∧ y < n → x ≠ y → (X x y = true ↔ ClashP f nb x y)) (hY : ∀ x y, 1 ≤ x ∧ x < n → 1 ≤ y ∧ y < n → x ≠ y → (Y x y = true ↔ ClashP f nb x y)) (hs : SymZ Y) {r : Nat} (hr : r < n) : cntY n (Y r) ≤ degL (pairsTo X n n) r := by
 rw [degL_pairs X hr n, if_pos hr]
 refine cntY_or fun y hy h => ?_
 have hr0 : r ≠ 0 := fun e => by rw [e, hs.sym, hs.zero] at h; cases h
 have hy0 : y ≠ 0 := fun e => by rw [e, hs.zero] at h; cases h
 have hne : y ≠ r := fun e => by rw [e, hs.diag] at h; cases h
 rcases Nat.lt_or_gt_of_ne hne with h1 | h1
 ·right
  rw [hs.sym] at h
  have := (hX y r ⟨by omega, hy⟩ ⟨by omega, hr⟩ hne).2 ((hY y r ⟨by omega, hy⟩ ⟨by omega, hr⟩ hne).1 h)
  simp [h1, this]
 ·left
  have := (hX r y ⟨by omega, hr⟩ ⟨by omega, hy⟩ (Ne.symm hne)).2 ((hY r y ⟨by omega, hr⟩ ⟨by omega, hy⟩ (Ne.symm hne)).1 h)
  simp [h1, this]
theorem rowTo_bd {X : Nat → Nat → Bool} {a m : Nat} : ∀ x ∈ rowTo X a m, ∃ b : Nat, x = ((a : Int), (b : Int)) ∧ a < b ∧ b < m ∧ X a b = true := by
 intro x hx
 unfold rowTo at hx
 obtain ⟨b, hb, rfl⟩ := List.mem_map.1 hx
 have h1 := List.mem_filter.1 hb
 have h2 := List.mem_range.1 h1.1
 have h3 := h1.2
 simp only [Bool.and_eq_true, decide_eq_true_iff] at h3
 exact ⟨b, rfl, h3.1, h2, h3.2⟩
/-- both registers of a pair -/
theorem pairsTo_bd {X : Nat → Nat → Bool} {n m : Nat} : ∀ x ∈ pairsTo X n m, ∃ a b : Nat, x = ((a : Int), (b : Int)) ∧ a < b ∧ b < n := by
 intro x hx
 unfold pairsTo at hx
 obtain ⟨a, _, hb⟩ := List.mem_flatMap.1 hx
 obtain ⟨b, h1, h2, h3, _⟩ := rowTo_bd x hb
 exact ⟨a, b, h1, h2, h3⟩
end Go.Proofs.Ytlcnbihfpjhffaa
