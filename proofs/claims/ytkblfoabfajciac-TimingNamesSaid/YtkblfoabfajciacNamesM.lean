/- Consistent renaming: the mathematics. -/
import Derived.Test.YtkblfoabfajciacNames
namespace Go.Proofs.Ytkblfoabfajciac
open Go.RowKit
set_option linter.unusedVariables false
set_option linter.unusedSimpArgs false

theorem strB_cases {op : Int} (h : strB op = true) : (1 ≤ op ∧ op ≤ 15) ∨ op = 23 := by
  simp only [strB, Bool.or_eq_true, decide_eq_true_eq, beq_iff_eq] at h
  exact h
theorem nz_ren (y : Nat) (l : List Int) (h : ∀ x ∈ l, 0 ≤ x) : nz (l.map (renI y)) = (nz l).map (renI y) := by
  induction l with
  | nil => rfl
  | cons a l ih =>
    have ih := ih fun x hx => h x (List.mem_cons_of_mem _ hx)
    have ha := h a List.mem_cons_self
    unfold nz at ih ⊢
    by_cases e : a = 0
    · have e2 : renI y a = 0 := (renI_zero ha).2 e
      rw [List.map_cons, List.filter_cons_of_neg (by simp [e2]), List.filter_cons_of_neg (by simp [e])]
      exact ih
    · have e2 : ¬ renI y a = 0 := fun h => e ((renI_zero ha).1 h)
      simp [e2, e, ih]
theorem readsOf_ren {y : Nat} {op a b : Int} (h : strB op = true) (ha : 0 ≤ a) (hb : 0 ≤ b) : readsOf op (renI y a) (renI y b) = (readsOf op a b).map (renI y) := by
  have hc := strB_cases h
  have hr : rawReads op (renI y a) (renI y b) = (rawReads op a b).map (renI y) := by
    unfold rawReads
    have n0 : ¬ op = 0 := by omega
    have n1 : ¬ op = 22 := by omega
    simp only [if_neg n0, if_neg n1]
    by_cases h3 : (1 ≤ op ∧ op ≤ 7) ∨ op = 13 ∨ op = 15 ∨ op = 16 ∨ op = 17 ∨ op = 18
    · simp only [if_pos h3]; rfl
    · simp only [if_neg h3]
      by_cases h4 : op = 8 ∨ op = 9 ∨ op = 10 ∨ op = 12 ∨ op = 21 ∨ op = 23
      · simp only [if_pos h4]; rfl
      · simp only [if_neg h4]
        by_cases h5 : op = 14
        · simp only [if_pos h5]; rfl
        · simp only [if_neg h5]; rfl
  unfold readsOf
  rw [hr]
  refine nz_ren y _ fun x hx => ?_
  unfold rawReads at hx
  rw [if_neg (by omega), if_neg (by omega)] at hx
  repeat (first | (split at hx) | (simp at hx; done) | (simp at hx; omega))
theorem wrOf_ren {y : Nat} {op d : Int} (h : strB op = true) : wrOf op (renI y d) = renI y (wrOf op d) := by
  have hc := strB_cases h
  unfold wrOf
  have n0 : ¬ (op = 20 ∨ op = 21) := by omega
  simp only [if_neg n0]
  by_cases h3 : op = 0 ∨ op = 13 ∨ op = 16 ∨ op = 17 ∨ op = 18 ∨ op = 19 ∨ op = 22 ∨ op = 23 ∨ op = 24
  · simp only [if_pos h3]; rfl
  · simp only [if_neg h3]
theorem ren_good {y : Nat} {o : Op5} (h : GoodOp o) : GoodOp (renOp y o) := by
  obtain ⟨h1, h2⟩ := h
  obtain ⟨hd, ha, hb⟩ := good_regs h1
  have z1 : (renI y o.d != 0) = (o.d != 0) := by rw [Bool.eq_iff_iff]; simp [renI_zero (y := y) hd.1]
  have z2 : (renI y o.a != 0) = (o.a != 0) := by rw [Bool.eq_iff_iff]; simp [renI_zero (y := y) ha.1]
  have z3 : (renI y o.b != 0) = (o.b != 0) := by rw [Bool.eq_iff_iff]; simp [renI_zero (y := y) hb.1]
  have b1 : inB (renI y o.d) 0 15 = inB o.d 0 15 := by rw [inB_true.2 renI_bd, inB_true.2 hd]
  have b2 : inB (renI y o.a) 0 15 = inB o.a 0 15 := by rw [inB_true.2 renI_bd, inB_true.2 ha]
  have b3 : inB (renI y o.b) 0 15 = inB o.b 0 15 := by rw [inB_true.2 renI_bd, inB_true.2 hb]
  refine ⟨?_, h2⟩
  show checkE o.op (renI y o.d) (renI y o.a) (renI y o.b) o.n = 0
  rw [← h1]
  unfold checkE rangeBad formBad
  rw [z1, z2, z3, b1, b2, b3]

structure Sim (y : Nat) (S S' : TS) : Prop where
  n : S'.next = S.next
  d : S'.div = S.div
  e : S'.done = S.done
  w : S'.wr = S.wr
  r : ∀ r, r ≤ 15 → S'.rd (ren y r) = S.rd r
theorem rdMax_ren {y : Nat} {rd rd' : Nat → Nat} (h : ∀ r, r ≤ 15 → rd' (ren y r) = rd r) : ∀ (l : List Int) (m : Nat), (∀ x ∈ l, 0 ≤ x ∧ x ≤ 15) → rdMax rd' (l.map (renI y)) m = rdMax rd l m
  | [], m, _ => rfl
  | a :: l, m, hl => by
    have ha := hl a List.mem_cons_self
    show rdMax rd' (l.map (renI y)) (max m (rd' (renI y a).toNat)) = rdMax rd l (max m (rd a.toNat))
    rw [show (renI y a).toNat = ren y a.toNat from rfl, h _ (by omega)]
    exact rdMax_ren h l _ fun x hx => hl x (List.mem_cons_of_mem _ hx)
theorem startOf_ren {y : Nat} {S S' : TS} (hs : Sim y S S') {op d a b : Int} (lat : Nat) (h : strB op = true) (hd : 0 ≤ d ∧ d ≤ 15) (ha : 0 ≤ a ∧ a ≤ 15) (hb : 0 ≤ b ∧ b ≤ 15) : startOf S' op (renI y d) (renI y a) (renI y b) lat = startOf S op d a b lat := by
  have hw := wrOf_bd (op := op) hd
  have hz := renI_zero (y := y) hw.1
  unfold startOf
  dsimp only
  rw [readsOf_ren h ha.1 hb.1, rdMax_ren hs.r _ _ (fun x hx => reads_mem ha hb hx), hs.n, hs.d, hs.w, wrOf_ren h, show (renI y (wrOf op d)).toNat = ren y (wrOf op d).toNat from rfl, hs.r _ (by omega)]
  by_cases e : wrOf op d = 0
  · rw [if_pos (hz.2 e), if_pos e]
  · rw [if_neg (fun h => e (hz.1 h)), if_neg e]
theorem nextS_ren {y : Nat} {S S' : TS} (hs : Sim y S S') {o : Op5} (hg : GoodOp o) : Sim y (nextS S o.op o.d o.a o.b 0) (nextS S' o.op (renI y o.d) (renI y o.a) (renI y o.b) 0) := by
  obtain ⟨hd, ha, hb⟩ := good_regs hg.1
  have hst := startOf_ren hs (latOf o.op + 0) hg.2 hd ha hb
  have hw := wrOf_bd (op := o.op) hd
  have hz := renI_zero (y := y) hw.1
  unfold nextS
  dsimp only
  rw [hst, hs.e, hs.d, hs.w, wrOf_ren hg.2]
  generalize startOf S o.op o.d o.a o.b (latOf o.op + 0) = t
  refine ⟨rfl, rfl, rfl, ?_, fun r hr => ?_⟩
  · dsimp only
    by_cases e : wrOf o.op o.d = 0
    · rw [if_pos (hz.2 e), if_pos e]
    · rw [if_neg (fun h => e (hz.1 h)), if_neg e]
  · dsimp only
    by_cases e : wrOf o.op o.d = 0
    · rw [if_pos (hz.2 e), if_pos e]
      exact hs.r r hr
    · rw [if_neg (fun h => e (hz.1 h)), if_neg e, show (renI y (wrOf o.op o.d)).toNat = ren y (wrOf o.op o.d).toNat from rfl]
      unfold setRd
      by_cases e2 : r = (wrOf o.op o.d).toNat
      · rw [if_pos (by rw [e2]), if_pos e2]
      · rw [if_neg (fun h => e2 (ren_inj hr (by omega) h)), if_neg e2]
        exact hs.r r hr
theorem foldS_ren {y : Nat} : ∀ (l : List Op5) (S S' : TS), Sim y S S' → (∀ o ∈ l, GoodOp o) → Sim y (l.foldl (fun S o => nextS S o.op o.d o.a o.b 0) S) ((l.map (renOp y)).foldl (fun S o => nextS S o.op o.d o.a o.b 0) S')
  | [], S, S', hs, _ => hs
  | o :: l, S, S', hs, hg => foldS_ren l _ _ (nextS_ren hs (hg o List.mem_cons_self)) fun p hp => hg p (List.mem_cons_of_mem _ hp)
theorem runS_ren (y : Nat) (l : List Op5) (hg : ∀ o ∈ l, GoodOp o) : (runS (l.map (renOp y))).done = (runS l).done :=
  (foldS_ren l zeroTS zeroTS ⟨rfl, rfl, rfl, rfl, fun _ _ => rfl⟩ hg).e
end Go.Proofs.Ytkblfoabfajciac
