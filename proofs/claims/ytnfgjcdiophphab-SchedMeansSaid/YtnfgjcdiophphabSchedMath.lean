/- List scheduling: orders in which dependent instructions stay in order. No function of the program. -/
import Derived.Test.YtnfgjcdiophphabDepends
import Derived.Test.YtnfgjcdiophphabStraight
namespace Go.Proofs.Ytnfgjcdiophphab
open Go.RowKit
set_option linter.unusedVariables false
set_option linter.unusedSimpArgs false

def depB (os : List Op5) (i k : Nat) : Bool := depOf (opAt0 os i).op (opAt0 os i).d (opAt0 os i).a (opAt0 os i).b (opAt0 os k).op (opAt0 os k).d (opAt0 os k).a (opAt0 os k).b
/-- how many instructions ahead of k, on which it depends, are not out yet -/
def openC (D : Nat → Nat → Bool) (out : List Nat) (k : Nat) : Nat := (List.range k).countP (fun i => D i k && !out.contains i)
/-- how many from i on: what build reckons -/
def openF (D : Nat → Nat → Bool) (i k : Nat) : Nat := (List.range k).countP (fun j => decide (i ≤ j) && D j k)
def afterU (D : Nat → Nat → Bool) (i k : Nat) : List Nat := (List.range k).filter (fun j => decide (i < j) && D i j)

theorem countP_one (f g : Nat → Bool) (i : Nat) (h : ∀ j, j ≠ i → f j = g j) (hf : f i = true) (hg : g i = false) : ∀ k, (List.range k).countP f = (List.range k).countP g + (if i < k then 1 else 0)
  | 0 => by simp
  | k + 1 => by
    rw [List.range_succ, List.countP_append, List.countP_append, countP_one f g i h hf hg k]
    by_cases e : i = k
    · subst e
      simp [List.countP_cons, hf, hg]
    · have := h k (fun e2 => e e2.symm)
      simp only [List.countP_cons, List.countP_nil, this]
      by_cases hk : i < k
      · simp only [if_pos hk, if_pos (show i < k + 1 by omega)]; omega
      · simp only [if_neg hk, if_neg (show ¬ i < k + 1 by omega)]; omega
theorem openC_snoc {D : Nat → Nat → Bool} {out : List Nat} {i : Nat} (hi : i ∉ out) (k : Nat) : openC D out k = openC D (out ++ [i]) k + (if i < k ∧ D i k = true then 1 else 0) := by
  unfold openC
  by_cases hd : D i k = true
  · rw [countP_one (fun j => D j k && !out.contains j) (fun j => D j k && !(out ++ [i]).contains j) i (fun j hj => by simp [hj]) (by simp [hd, hi]) (by simp) k]
    simp [hd]
  · rw [if_neg (fun h => hd h.2), Nat.add_zero]
    congr 1
    funext j
    by_cases e : j = i
    · subst e; simp [hd]
    · simp [e]
theorem openF_zero (D : Nat → Nat → Bool) (k : Nat) : openF D 0 k = openC D [] k := by unfold openF openC; congr 1; funext j; simp
theorem openF_succ (D : Nat → Nat → Bool) (i k : Nat) : openF D i k = openF D (i + 1) k + (if i < k ∧ D i k = true then 1 else 0) := by
  unfold openF
  by_cases hd : D i k = true
  · rw [countP_one (fun j => decide (i ≤ j) && D j k) (fun j => decide (i + 1 ≤ j) && D j k) i (fun j hj => by rw [show decide (i ≤ j) = decide (i + 1 ≤ j) from by congr 1; apply propext; omega]) (by simp [hd]) (by rw [decide_eq_false (by omega)]; rfl) k]
    simp [hd]
  · rw [if_neg (fun h => hd h.2), Nat.add_zero]
    congr 1
    funext j
    by_cases e : j = i
    · subst e; simp [hd]
    · rw [show decide (i ≤ j) = decide (i + 1 ≤ j) from by congr 1; apply propext; omega]
theorem openF_top (D : Nat → Nat → Bool) {i k : Nat} (h : k ≤ i) : openF D i k = 0 := by
  unfold openF
  rw [List.countP_eq_zero]
  intro j hj
  have := List.mem_range.1 hj
  simp; omega
theorem openF_le (D : Nat → Nat → Bool) (i k : Nat) : openF D i k ≤ k := by
  have := List.countP_le_length (p := fun j => decide (i ≤ j) && D j k) (l := List.range k)
  simpa [openF] using this
theorem openC_le (D : Nat → Nat → Bool) (out : List Nat) (k : Nat) : openC D out k ≤ k := by
  have := List.countP_le_length (p := fun i => D i k && !out.contains i) (l := List.range k)
  simpa [openC] using this
theorem afterU_succ (D : Nat → Nat → Bool) (i k : Nat) : afterU D i (k + 1) = afterU D i k ++ if i < k ∧ D i k = true then [k] else [] := by
  unfold afterU
  rw [List.range_succ, List.filter_append]
  congr 1
  by_cases h1 : i < k
  · cases h2 : D i k <;> simp [h1, h2]
  · simp [h1]
theorem afterU_start (D : Nat → Nat → Bool) (i : Nat) : afterU D i (i + 1) = [] := by
  unfold afterU
  rw [List.filter_eq_nil_iff]
  intro j hj
  have := List.mem_range.1 hj
  simp; omega
theorem afterU_mem {D : Nat → Nat → Bool} {i k j : Nat} : j ∈ afterU D i k ↔ j < k ∧ i < j ∧ D i j = true := by
  unfold afterU
  simp [List.mem_filter, List.mem_range]
theorem afterU_nodup (D : Nat → Nat → Bool) (i k : Nat) : (afterU D i k).Nodup := List.Pairwise.filter _ List.nodup_range
theorem afterU_len (D : Nat → Nat → Bool) (i k : Nat) : (afterU D i k).length ≤ k := by
  have := List.length_filter_le (fun j => decide (i < j) && D i j) (List.range k)
  simpa [afterU] using this

structure Ord (D : Nat → Nat → Bool) (n : Nat) (out : List Nat) : Prop where
  nd : out.Nodup
  lt : ∀ i ∈ out, i < n
  top : ∀ i k, k ∈ out → i < k → D i k = true → i ∈ out ∧ out.idxOf i < out.idxOf k
theorem Ord.nil (D : Nat → Nat → Bool) (n : Nat) : Ord D n [] := ⟨List.nodup_nil, fun i h => by simp at h, fun i k h => by simp at h⟩
theorem openC_zero {D : Nat → Nat → Bool} {out : List Nat} {k : Nat} : openC D out k = 0 ↔ ∀ i, i < k → D i k = true → i ∈ out := by
  unfold openC
  rw [List.countP_eq_zero]
  constructor
  · intro h i hi hd
    have := h i (List.mem_range.2 hi)
    simp only [hd, Bool.true_and, Bool.not_eq_true', Bool.not_eq_false, List.contains_iff_mem] at this
    exact this
  · intro h i hi
    have := h i (List.mem_range.1 hi)
    cases hd : D i k
    · simp
    · simp [this hd]
theorem Ord.next {D : Nat → Nat → Bool} {n : Nat} {out : List Nat} {i : Nat} (h : Ord D n out) (hi : i ∉ out) (hn : i < n) (h0 : openC D out i = 0) : Ord D n (out ++ [i]) := by
  rw [openC_zero] at h0
  refine ⟨?_, ?_, ?_⟩
  · rw [List.nodup_append]
    refine ⟨h.nd, by simp, fun a ha b hb => ?_⟩
    simp at hb
    subst hb
    exact fun e => hi (e ▸ ha)
  · intro j hj
    rcases List.mem_append.1 hj with hj | hj
    · exact h.lt j hj
    · simp at hj; omega
  · intro j k hk hjk hd
    have hin : ∀ j, j ∈ out → (out ++ [i]).idxOf j = out.idxOf j := fun j hj => by rw [List.idxOf_append, if_pos hj]
    have hii : (out ++ [i]).idxOf i = out.length := by rw [List.idxOf_append, if_neg hi]; simp
    rcases List.mem_append.1 hk with hk | hk
    · obtain ⟨h1, h2⟩ := h.top j k hk hjk hd
      exact ⟨List.mem_append_left _ h1, by rw [hin _ h1, hin _ hk]; exact h2⟩
    · simp at hk
      subst hk
      have h1 := h0 j hjk hd
      exact ⟨List.mem_append_left _ h1, by rw [hin _ h1, hii]; exact List.idxOf_lt_length_of_mem h1⟩
theorem all_len : ∀ (n : Nat) (out : List Nat), (∀ i, i < n → i ∈ out) → n ≤ out.length
  | 0, _, _ => Nat.zero_le _
  | n + 1, out, h => by
    have h1 := h n (Nat.lt_succ_self n)
    have h2 := all_len n (out.erase n) (fun i hi => (List.mem_erase_of_ne (by omega)).2 (h i (by omega)))
    rw [List.length_erase_of_mem h1] at h2
    have := List.length_pos_of_mem h1
    omega
theorem nodup_len : ∀ (n : Nat) (out : List Nat), out.Nodup → (∀ i ∈ out, i < n) → out.length ≤ n
  | 0, out, _, h => by
    cases out with
    | nil => exact Nat.le_refl _
    | cons a r => have := h a List.mem_cons_self; omega
  | n + 1, out, hd, h => by
    have h2 := nodup_len n (out.erase n) (hd.erase n) (fun i hi => by
      have h3 := (List.Nodup.mem_erase_iff hd).1 hi
      have := h i h3.2
      have := h3.1
      omega)
    have h4 : out.length ≤ (out.erase n).length + 1 := by rw [List.length_erase]; split <;> omega
    omega
theorem Ord.all {D : Nat → Nat → Bool} {n : Nat} {out : List Nat} (h : Ord D n out) (hl : out.length = n) : ∀ k, k < n → k ∈ out := by
  intro k hk
  refine Classical.byContradiction fun hno => ?_
  have := nodup_len n (k :: out) (List.nodup_cons.2 ⟨hno, h.nd⟩) (fun i hi => by
    rcases List.mem_cons.1 hi with rfl | hi
    · exact hk
    · exact h.lt i hi)
  simp at this
  omega
theorem least_out (out : List Nat) : ∀ n, (∀ i, i < n → i ∈ out) ∨ ∃ i, i < n ∧ i ∉ out ∧ ∀ j, j < i → j ∈ out
  | 0 => .inl fun i h => by omega
  | n + 1 => by
    rcases least_out out n with h | ⟨i, h1, h2, h3⟩
    · by_cases hn : n ∈ out
      · exact .inl fun i hi => by
          by_cases e : i = n
          · rw [e]; exact hn
          · exact h i (by omega)
      · exact .inr ⟨n, Nat.lt_succ_self n, hn, h⟩
    · exact .inr ⟨i, by omega, h2, h3⟩
theorem Ord.open {D : Nat → Nat → Bool} {n : Nat} {out : List Nat} (h : Ord D n out) (hl : out.length < n) : ∃ i, i < n ∧ i ∉ out ∧ openC D out i = 0 := by
  rcases least_out out n with h1 | ⟨i, h1, h2, h3⟩
  · have := all_len n out h1; omega
  · exact ⟨i, h1, h2, openC_zero.2 fun j hj _ => h3 j hj⟩
theorem idxOf_range : ∀ {n k : Nat}, k < n → (List.range n).idxOf k = k
  | 0, k, h => by omega
  | n + 1, k, h => by
    rw [List.range_succ, List.idxOf_append]
    by_cases e : k < n
    · rw [if_pos (List.mem_range.2 e), idxOf_range e]
    · have e2 : k = n := by omega
      subst e2
      rw [if_neg (by simp)]
      simp
theorem Ord.range (D : Nat → Nat → Bool) (n : Nat) : Ord D n (List.range n) :=
  ⟨List.nodup_range, fun i h => List.mem_range.1 h, fun i k hk hik _ => by
    have hkn := List.mem_range.1 hk
    exact ⟨List.mem_range.2 (by omega), by rw [idxOf_range (by omega), idxOf_range hkn]; exact hik⟩⟩
end Go.Proofs.Ytnfgjcdiophphab
