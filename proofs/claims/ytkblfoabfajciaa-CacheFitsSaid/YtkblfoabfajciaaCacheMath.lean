/- The cache with one line more in each set; the cache in which all lines fit: plain facts on the lists of lines. -/
import Derived.Test.YtkblfoabfajciaaCacheD
namespace Go.Proofs.Ytkblfoabfajciaa
set_option linter.unusedVariables false
set_option linter.unusedSimpArgs false

def Clean (xs : List CLine) : Prop := ∀ x ∈ xs, x.2 = false
theorem lineAt_take {line : Int} {xs : List CLine} {W : Nat} (h : lineAt line (xs.take W) < (xs.take W).length) : lineAt line (xs.take W) = lineAt line xs ∧ lineAt line xs < xs.length ∧ lineAt line xs < W := by
  have hl : (xs.take W).length ≤ W := by rw [List.length_take]; omega
  have hl2 : (xs.take W).length ≤ xs.length := by rw [List.length_take]; omega
  have e : lineAt line xs = lineAt line (xs.take W) := by
    unfold lineAt at h ⊢
    refine (List.findIdx_eq (by omega)).2 ⟨?_, fun j hj => ?_⟩
    · have := List.findIdx_getElem (w := h)
      rwa [List.getElem_take] at this
    · have := List.not_of_lt_findIdx hj
      rw [List.getElem_take] at this
      simpa using this
  omega
theorem lineAt_in {line : Int} {xs : List CLine} {W : Nat} (h : lineAt line xs < xs.length) (hW : lineAt line xs < W) : lineAt line (xs.take W) = lineAt line xs ∧ lineAt line (xs.take W) < (xs.take W).length := by
  have hl : lineAt line xs < (xs.take W).length := by rw [List.length_take]; omega
  have e : lineAt line (xs.take W) = lineAt line xs := by
    unfold lineAt at h hl ⊢
    refine (List.findIdx_eq hl).2 ⟨?_, fun j hj => ?_⟩
    · rw [List.getElem_take]; exact List.findIdx_getElem (w := h)
    · rw [List.getElem_take]
      have := List.not_of_lt_findIdx hj
      simpa using this
  omega

theorem eraseIdx_take (xs : List CLine) : ∀ (j W : Nat), j < W → (xs.eraseIdx j).take (W - 1) = (xs.take W).eraseIdx j := by
  induction xs with
  | nil => intro j W _; simp
  | cons x xs ih =>
    intro j W h
    obtain ⟨V, rfl⟩ : ∃ V, W = V + 1 := ⟨W - 1, by omega⟩
    cases j with
    | zero => simp
    | succ j =>
      obtain ⟨U, rfl⟩ : ∃ U, V = U + 1 := ⟨V - 1, by omega⟩
      have := ih j (U + 1) (by omega)
      simpa using this
theorem dropLast_take' (xs : List CLine) (W : Nat) (h : W ≤ xs.length) (h1 : 1 ≤ W) : (xs.take W).dropLast = xs.take (W - 1) := by
  rw [List.dropLast_eq_take, List.length_take, List.take_take]
  congr 1
  omega

/-- one line more: the first W lines are those of the smaller cache -/
theorem acc_take {W : Nat} {line : Int} {xs : List CLine} (hW : 1 ≤ W) (hl : xs.length ≤ W + 1) (hc : Clean xs) : acc W line false (xs.take W) = (acc (W + 1) line false xs).take W := by
  by_cases h : lineAt line xs < xs.length
  · by_cases hj : lineAt line xs < W
    · obtain ⟨e1, e2⟩ := lineAt_in h hj
      unfold acc
      rw [dif_pos e2, dif_pos h]
      obtain ⟨V, rfl⟩ : ∃ V, W = V + 1 := ⟨W - 1, by omega⟩
      rw [List.take_succ_cons]
      have e3 := eraseIdx_take xs (lineAt line xs) (V + 1) hj
      have e4 : (xs.take (V + 1))[lineAt line (xs.take (V + 1))] = xs[lineAt line xs] := by
        rw [List.getElem_take]; congr 1
      rw [e4, e1, ← e3]
      rfl
    · have hx : xs.length = W + 1 := by omega
      have hjW : lineAt line xs = W := by omega
      have hn : ¬ lineAt line (xs.take W) < (xs.take W).length := fun h9 => by have := lineAt_take h9; omega
      have hlt : (xs.take W).length = W := by rw [List.length_take]; omega
      unfold acc
      rw [dif_neg hn, if_pos hlt, dif_pos h]
      obtain ⟨V, rfl⟩ : ∃ V, W = V + 1 := ⟨W - 1, by omega⟩
      rw [List.take_succ_cons, dropLast_take' xs (V + 1) (by omega) (by omega), hc _ (List.getElem_mem h)]
      have : (xs.eraseIdx (lineAt line xs)).take V = xs.take V := by
        rw [hjW, List.eraseIdx_eq_take_drop_succ, List.take_append_of_le_length (by rw [List.length_take]; omega), List.take_take]
        congr 1
        omega
      rw [this]
      rfl
  · have hn : ¬ lineAt line (xs.take W) < (xs.take W).length := fun h9 => h (lineAt_take h9).2.1
    unfold acc
    rw [dif_neg hn, dif_neg h]
    obtain ⟨V, rfl⟩ : ∃ V, W = V + 1 := ⟨W - 1, by omega⟩
    by_cases h1 : xs.length = V + 1 + 1
    · have hlt : (xs.take (V + 1)).length = V + 1 := by rw [List.length_take]; omega
      rw [if_pos hlt, if_pos h1, List.take_succ_cons, dropLast_take' xs (V + 1) (by omega) (by omega), List.dropLast_eq_take, List.take_take]
      congr 2
      omega
    · rw [if_neg h1, List.take_succ_cons]
      by_cases h2 : xs.length = V + 1
      · have hlt : (xs.take (V + 1)).length = V + 1 := by rw [List.length_take]; omega
        rw [if_pos hlt, dropLast_take' xs (V + 1) (by omega) (by omega)]
        rfl
      · have hlt : ¬ (xs.take (V + 1)).length = V + 1 := by rw [List.length_take]; omega
        rw [if_neg hlt, List.take_of_length_le (by omega), List.take_of_length_le (by omega)]
theorem acc_clean {W : Nat} {line : Int} {xs : List CLine} (hc : Clean xs) : Clean (acc W line false xs) := by
  intro x hx
  unfold acc at hx
  split at hx
  · rename_i h
    rcases List.mem_cons.1 hx with rfl | hx
    · show (_ || false) = false
      rw [hc _ (List.getElem_mem h)]; rfl
    · exact hc x (List.mem_of_mem_eraseIdx hx)
  · split at hx
    · rcases List.mem_cons.1 hx with rfl | hx
      · rfl
      · exact hc x (List.dropLast_subset _ hx)
    · rcases List.mem_cons.1 hx with rfl | hx
      · rfl
      · exact hc x hx

theorem ways_run (w s y m : Nat) (hy : 1 ≤ y) (l : List Nat) : (∀ i, (runL ⟨w, s, y, m⟩ l).1 i = ((runL ⟨w, s, y + 1, m⟩ l).1 i).take y) ∧ (∀ i, ((runL ⟨w, s, y + 1, m⟩ l).1 i).length ≤ y + 1 ∧ Clean ((runL ⟨w, s, y + 1, m⟩ l).1 i)) ∧
    (runL ⟨w, s, y + 1, m⟩ l).2 ≤ (runL ⟨w, s, y, m⟩ l).2 := by
  induction l with
  | nil => exact ⟨fun i => by simp [runL], fun i => ⟨Nat.zero_le _, fun x hx => by cases hx⟩, Nat.le_refl _⟩
  | cons wd r ih =>
    obtain ⟨h1, h2, h3⟩ := ih
    show (∀ i, stepL ⟨w, s, y, m⟩ wd false (runL ⟨w, s, y, m⟩ r).1 i = (stepL ⟨w, s, y + 1, m⟩ wd false (runL ⟨w, s, y + 1, m⟩ r).1 i).take y) ∧ (∀ i, (stepL ⟨w, s, y + 1, m⟩ wd false (runL ⟨w, s, y + 1, m⟩ r).1 i).length ≤ y + 1 ∧ Clean (stepL ⟨w, s, y + 1, m⟩ wd false (runL ⟨w, s, y + 1, m⟩ r).1 i)) ∧
      mN ⟨w, s, y + 1, m⟩ wd (runL ⟨w, s, y + 1, m⟩ r).1 (runL ⟨w, s, y + 1, m⟩ r).2 ≤ mN ⟨w, s, y, m⟩ wd (runL ⟨w, s, y, m⟩ r).1 (runL ⟨w, s, y, m⟩ r).2
    generalize runL ⟨w, s, y, m⟩ r = A at h1 h3 ⊢
    generalize runL ⟨w, s, y + 1, m⟩ r = B at h1 h2 h3 ⊢
    obtain ⟨xa, ma⟩ := A
    obtain ⟨xb, mb⟩ := B
    simp only at h1 h2 h3 ⊢
    obtain ⟨ix, hix⟩ : ∃ ix, ix = wd / w % s := ⟨_, rfl⟩
    obtain ⟨ln, hln⟩ : ∃ ln, ln = wd / w := ⟨_, rfl⟩
    have e1 : ∀ i, stepL ⟨w, s, y, m⟩ wd false xa i = if i = ix then acc y (ln : Int) false (xa ix) else xa i := fun i => by rw [hix, hln]; rfl
    have e2 : ∀ i, stepL ⟨w, s, y + 1, m⟩ wd false xb i = if i = ix then acc (y + 1) (ln : Int) false (xb ix) else xb i := fun i => by rw [hix, hln]; rfl
    have e3 : mN ⟨w, s, y, m⟩ wd xa ma = if accHit (ln : Int) (xa ix) = true then ma else ma + 1 := by rw [hix, hln]; rfl
    have e4 : mN ⟨w, s, y + 1, m⟩ wd xb mb = if accHit (ln : Int) (xb ix) = true then mb else mb + 1 := by rw [hix, hln]; rfl
    refine ⟨fun i => ?_, fun i => ?_, ?_⟩
    · rw [e1, e2]
      split
      · rw [h1]; exact acc_take hy (h2 ix).1 (h2 ix).2
      · exact h1 i
    · rw [e2]
      split
      · exact ⟨acc_length (by omega) (h2 ix).1, acc_clean (h2 ix).2⟩
      · exact h2 i
    · rw [e3, e4]
      by_cases ha : accHit (ln : Int) (xa ix) = true
      · have hb : accHit (ln : Int) (xb ix) = true := by
          rw [h1 ix] at ha
          exact decide_eq_true (lineAt_take (of_decide_eq_true ha)).2.1
        rw [if_pos ha, if_pos hb]; exact h3
      · rw [if_neg ha]
        split <;> omega
theorem ways_less (w s y m : Nat) (hy : 1 ≤ y) (zs : List Int) : missN ⟨w, s, y + 1, m⟩ zs ≤ missN ⟨w, s, y, m⟩ zs := (ways_run w s y m hy _).2.2
end Go.Proofs.Ytkblfoabfajciaa
