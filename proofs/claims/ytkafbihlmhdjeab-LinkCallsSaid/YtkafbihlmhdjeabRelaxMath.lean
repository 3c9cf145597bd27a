/- Plain laws on which items are long: the least choice is one alone. No program. -/
import Derived.Test.YtkafbihlmhdjeabRelaxChk
import Derived.Test.YtkafbihlmhdjeabStarts
namespace Go.Proofs.Ytkafbihlmhdjeab
open Go.RowKit
set_option linter.unusedVariables false

def itAt (its : List Item) (i : Nat) : Item := its.getD i ⟨0, 0, 0, 0, 0, -1⟩
theorem itAt_get {its : List Item} {i : Nat} (h : i < its.length) : itAt its i = its[i] := by simp [itAt, h]
def lab (its : List Item) (i : Nat) : Bool := decide (0 ≤ (itAt its i).tg)
def tgt (its : List Item) (i : Nat) : Nat := (itAt its i).tg.toNat
def baseL (its : List Item) (i : Nat) : Bool := !lab its i && !shortB (itAt its i).n
def distL (its : List Item) (L : Nat → Bool) (i : Nat) : Int := posL L (tgt its i) - posL L i - 1
def farL (its : List Item) (L : Nat → Bool) (i : Nat) : Bool := lab its i && !shortB (distL its L i)
def stepL (its : List Item) (L : Nat → Bool) (i : Nat) : Bool := L i || farL its L i

/-- a choice that holds whatever must be long -/
structure Holds (its : List Item) (n : Nat) (M : Nat → Bool) : Prop where
  base : ∀ i, i < n → baseL its i = true → M i = true
  far : ∀ i, i < n → farL its M i = true → M i = true
/-- the least choice -/
structure SizesOf (its : List Item) (n : Nat) (L : Nat → Bool) : Prop where
  base : ∀ i, i < n → lab its i = false → L i = !shortB (itAt its i).n
  far : ∀ i, i < n → farL its L i = true → L i = true
  least : ∀ M, Holds its n M → ∀ i, i < n → L i = true → M i = true

theorem SizesOf.holds {its : List Item} {n : Nat} {L : Nat → Bool} (h : SizesOf its n L) : Holds its n L :=
  ⟨fun i hi hb => by
    unfold baseL at hb
    simp only [Bool.and_eq_true, Bool.not_eq_true'] at hb
    rw [h.base i hi hb.1, hb.2]; rfl, h.far⟩
theorem SizesOf.unique {its : List Item} {n : Nat} {L M : Nat → Bool} (h : SizesOf its n L) (k : SizesOf its n M) : ∀ i, i < n → L i = M i := by
  intro i hi
  rw [Bool.eq_iff_iff]
  exact ⟨h.least M k.holds i hi, k.least L h.holds i hi⟩

theorem pos_mono (L M : Nat → Bool) (i d : Nat) (h : ∀ k, k < i + d → L k = true → M k = true) : 0 ≤ posL L (i + d) - posL L i ∧ posL L (i + d) - posL L i ≤ posL M (i + d) - posL M i := by
  induction d with
  | zero => simp
  | succ d ih =>
    have h1 := ih fun k hk => h k (by omega)
    have h2 := h (i + d) (by omega)
    rw [show i + (d + 1) = (i + d) + 1 by omega]
    show 0 ≤ posL L (i + d) + _ - posL L i ∧ posL L (i + d) + _ - posL L i ≤ posL M (i + d) + _ - posL M i
    cases hl : L (i + d) <;> cases hm : M (i + d)
    · simp; omega
    · simp; omega
    · rw [hl, hm] at h2; simp at h2
    · simp; omega
theorem pos_lt (L : Nat → Bool) (i d : Nat) : (d : Int) ≤ posL L (i + d) - posL L i := by
  induction d with
  | zero => simp
  | succ d ih =>
    rw [show i + (d + 1) = (i + d) + 1 by omega]
    show _ ≤ posL L (i + d) + _ - posL L i
    split <;> omega
theorem pos_congr (L M : Nat → Bool) (n : Nat) (h : ∀ i, i < n → L i = M i) : ∀ i, i ≤ n → posL L i = posL M i := by
  intro i hi
  induction i with
  | zero => rfl
  | succ i ih => unfold posL; rw [ih (by omega), h i (by omega)]

theorem short_no {n : Int} : shortB n = false ↔ n < -128 ∨ 127 < n := inB_false
theorem short_yes {n : Int} : shortB n = true ↔ -128 ≤ n ∧ n ≤ 127 := inB_true

theorem far_mono {its : List Item} {n : Nat} {L M : Nat → Bool} (h : ∀ k, k < n → L k = true → M k = true) {i : Nat} (hi : i < n) (ht : tgt its i ≤ n) (hf : farL its L i = true) : farL its M i = true := by
  unfold farL at hf ⊢
  simp only [Bool.and_eq_true, Bool.not_eq_true'] at hf ⊢
  refine ⟨hf.1, ?_⟩
  have h1 := short_no.1 hf.2
  refine short_no.2 ?_
  unfold distL at h1 ⊢
  by_cases hc : i < tgt its i
  · have := pos_mono L M i (tgt its i - i) fun k hk => h k (by omega)
    have h3 := pos_lt L i (tgt its i - i)
    rw [show i + (tgt its i - i) = tgt its i by omega] at this h3
    omega
  · have := pos_mono L M (tgt its i) (i - tgt its i) fun k hk => h k (by omega)
    rw [show tgt its i + (i - tgt its i) = i by omega] at this
    omega

/-- what is known of a choice that grows towards the least one -/
structure Grows (its : List Item) (n : Nat) (L : Nat → Bool) : Prop where
  base : ∀ i, i < n → lab its i = false → L i = !shortB (itAt its i).n
  below : ∀ M, Holds its n M → ∀ i, i < n → L i = true → M i = true

theorem Grows.start (its : List Item) (n : Nat) : Grows its n (baseL its) :=
  ⟨fun i _ h => by unfold baseL; rw [h]; rfl, fun M hM i hi h => hM.base i hi h⟩
theorem Grows.add {its : List Item} {n : Nat} {L L' : Nat → Bool} (h : Grows its n L) (hT : ∀ i, i < n → tgt its i ≤ n) (hs : ∀ i, i < n → L' i = L i ∨ (farL its L i = true ∧ L' i = true)) : Grows its n L' := by
  refine ⟨fun i hi hl => ?_, fun M hM i hi h' => ?_⟩
  · rcases hs i hi with e | ⟨hf, _⟩
    · rw [e]; exact h.base i hi hl
    · unfold farL at hf; rw [hl] at hf; simp at hf
  · rcases hs i hi with e | ⟨hf, _⟩
    · rw [e] at h'; exact h.below M hM i hi h'
    · exact hM.far i hi (far_mono (h.below M hM) hi (hT i hi) hf)
theorem Grows.done {its : List Item} {n : Nat} {L : Nat → Bool} (h : Grows its n L) (hf : ∀ i, i < n → farL its L i = true → L i = true) : SizesOf its n L := ⟨h.base, hf, h.below⟩

/-- how many are still short -/
def shorts (n : Nat) (L : Nat → Bool) : Nat := ((List.range n).filter fun i => !L i).length
theorem shorts_succ (n : Nat) (L : Nat → Bool) : shorts (n + 1) L = shorts n L + (if L n = true then 0 else 1) := by
  unfold shorts
  rw [List.range_succ, List.filter_append, List.length_append]
  cases hl : L n <;> simp [hl]
theorem shorts_le (n : Nat) (L L' : Nat → Bool) (h : ∀ i, i < n → L i = true → L' i = true) : shorts n L' ≤ shorts n L := by
  induction n with
  | zero => simp [shorts]
  | succ n ih =>
    have h1 := ih fun i hi => h i (by omega)
    have h2 := h n (by omega)
    rw [shorts_succ, shorts_succ]
    cases hl : L n <;> cases hl' : L' n <;> simp [hl, hl'] at h2 ⊢ <;> omega
theorem shorts_lt (n : Nat) (L L' : Nat → Bool) (h : ∀ i, i < n → L i = true → L' i = true) (i : Nat) (hi : i < n) (h1 : L i = false) (h2 : L' i = true) : shorts n L' < shorts n L := by
  induction n with
  | zero => omega
  | succ n ih =>
    rw [shorts_succ, shorts_succ]
    by_cases e : i = n
    · subst e
      have := shorts_le i L L' fun k hk => h k (by omega)
      rw [h1, h2]; simp; omega
    · have h3 := ih (fun k hk => h k (by omega)) (by omega)
      have h4 := h n (by omega)
      cases hl : L n <;> cases hl' : L' n <;> simp [hl, hl'] at h4 ⊢ <;> omega

/-- a pass of the program, as far as item k -/
def midL (its : List Item) (L : Nat → Bool) (k i : Nat) : Bool := if i < k then stepL its L i else L i
def chgL (its : List Item) (L : Nat → Bool) : Nat → Bool
  | 0 => false
  | k + 1 => chgL its L k || (!L k && farL its L k)
theorem chg_ex (its : List Item) (L : Nat → Bool) (k : Nat) : chgL its L k = true ↔ ∃ i, i < k ∧ L i = false ∧ farL its L i = true := by
  induction k with
  | zero => simp [chgL]
  | succ k ih =>
    unfold chgL
    rw [Bool.or_eq_true, ih, Bool.and_eq_true, Bool.not_eq_true']
    constructor
    · rintro (⟨i, hi, h⟩ | ⟨h1, h2⟩)
      · exact ⟨i, by omega, h⟩
      · exact ⟨k, by omega, h1, h2⟩
    · rintro ⟨i, hi, h1, h2⟩
      by_cases e : i = k
      · subst e; exact .inr ⟨h1, h2⟩
      · exact .inl ⟨i, by omega, h1, h2⟩
theorem mid_self (its : List Item) (L : Nat → Bool) (k : Nat) : midL its L k k = L k := by unfold midL; rw [if_neg (Nat.lt_irrefl k)]
theorem mid_keep (its : List Item) (L : Nat → Bool) (k : Nat) (h : L k = true ∨ farL its L k = false) (i : Nat) : midL its L k i = midL its L (k + 1) i := by
  unfold midL
  by_cases e : i = k
  · subst e
    rw [if_neg (Nat.lt_irrefl i), if_pos (by omega)]
    unfold stepL
    rcases h with h | h
    · rw [h]; rfl
    · rw [h]; simp
  · by_cases e2 : i < k
    · rw [if_pos e2, if_pos (by omega)]
    · rw [if_neg e2, if_neg (by omega)]
theorem mid_turn (its : List Item) (L : Nat → Bool) (k : Nat) (h : farL its L k = true) (i : Nat) : (if i = k then true else midL its L k i) = midL its L (k + 1) i := by
  unfold midL
  by_cases e : i = k
  · subst e
    rw [if_pos rfl, if_pos (by omega)]
    unfold stepL; rw [h]; simp
  · rw [if_neg e]
    by_cases e2 : i < k
    · rw [if_pos e2, if_pos (by omega)]
    · rw [if_neg e2, if_neg (by omega)]
theorem chg_keep (its : List Item) (L : Nat → Bool) (k : Nat) (h : L k = true ∨ farL its L k = false) : chgL its L (k + 1) = chgL its L k := by
  show (chgL its L k || (!L k && farL its L k)) = _
  rcases h with h | h <;> rw [h] <;> simp
theorem chg_turn (its : List Item) (L : Nat → Bool) (k : Nat) (h0 : L k = false) (h : farL its L k = true) : chgL its L (k + 1) = true := by
  show (chgL its L k || (!L k && farL its L k)) = _
  rw [h, h0]; simp

theorem size_two (n : Int) : (sizeOfOp n == 2) = !shortB n := by unfold sizeOfOp; cases shortB n <;> rfl

/-- what a check that found nothing says -/
theorem items_ok {its : List Item} (h : itemsE its = 0) : its.length ≤ 16384 ∧ ∀ i, i < its.length → itemErr its.length (itAt its i) = 0 := by
  unfold itemsE at h
  by_cases hb : 16384 < its.length
  · rw [if_pos hb] at h; omega
  · rw [if_neg hb] at h
    refine ⟨by omega, fun i hi => ?_⟩
    rw [itAt_get hi]
    have key : ∀ (n : Nat) (l : List Item), itemsErr n l = 0 → ∀ i (hi : i < l.length), itemErr n l[i] = 0 := by
      intro n l
      induction l with
      | nil => intro _ i hi; simp at hi
      | cons x r ih =>
        intro h i hi
        unfold itemsErr at h
        by_cases hx : itemErr n x ≠ 0
        · rw [if_pos hx] at h; exact absurd h hx
        · rw [if_neg hx] at h
          cases i with
          | zero => simpa using hx
          | succ i => exact ih h i (by simpa using hi)
    exact key _ _ h i hi
theorem item_ok {len : Nat} {i : Item} (h : itemErr len i = 0) : (0 ≤ i.tg ∧ i.tg ≤ (len : Int) ∧ checkE i.op i.d i.a i.b 0 = 0 ∧ jumpB i.op = true ∧ i.n = 0) ∨ (i.tg = -1 ∧ checkE i.op i.d i.a i.b i.n = 0) := by
  rcases item_cases len i with ⟨c, _, _, h1, h2⟩ | ⟨_, _, _, h2⟩ | ⟨_, _, _, _, h2⟩ | ⟨_, _, _, _, _, h2⟩ | ⟨h1, h2, h3, h4, h5, _⟩ | ⟨c, _, _, h1, h2⟩ | ⟨_, _, h2⟩ | ⟨h1, h2, _⟩
  · exact absurd (h2.symm.trans h) h1
  · rw [h] at h2; omega
  · rw [h] at h2; omega
  · rw [h] at h2; omega
  · exact .inl ⟨h1, h2, h3, h4, h5⟩
  · exact absurd (h2.symm.trans h) h1
  · rw [h] at h2; omega
  · exact .inr ⟨h1, h2⟩
end Go.Proofs.Ytkafbihlmhdjeab
