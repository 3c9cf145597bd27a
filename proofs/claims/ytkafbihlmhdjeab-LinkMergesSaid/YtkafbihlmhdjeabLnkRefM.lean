/- How many pairs are left: the measure of the reference's loop. No program. -/
import Derived.Test.YtkafbihlmhdjeabLnkRef
namespace Go.Proofs.Ytkafbihlmhdjeab
open Go.RowKit
set_option linter.unusedVariables false

def cntT (n : Nat) (l : Nat → Bool) : Nat := ((List.range n).filter fun r => l r).length
theorem cntT_le {n : Nat} {l l' : Nat → Bool} (h : ∀ r, r < n → l' r = true → l r = true) : cntT n l' ≤ cntT n l := by
  unfold cntT
  induction n with
  | zero => simp
  | succ n ih =>
    rw [List.range_succ, List.filter_append, List.filter_append, List.length_append, List.length_append]
    have h1 := ih fun r hr => h r (by omega)
    have h2 : ([n].filter fun r => l' r).length ≤ ([n].filter fun r => l r).length := by
      cases e : l' n
      · simp [e]
      · simp [e, h n (by omega) e]
    omega
theorem cntT_lt {n q : Nat} {l l' : Nat → Bool} (h : ∀ r, r < n → l' r = true → l r = true) (hq : q < n) (h1 : l q = true) (h2 : l' q = false) : cntT n l' < cntT n l := by
  induction n with
  | zero => omega
  | succ n ih =>
    unfold cntT
    rw [List.range_succ, List.filter_append, List.filter_append, List.length_append, List.length_append]
    have h0 : cntT n l' ≤ cntT n l := cntT_le fun r hr => h r (by omega)
    unfold cntT at h0
    by_cases e : q = n
    · subst e
      have h3 : ([q].filter fun r => l' r).length < ([q].filter fun r => l r).length := by simp [h1, h2]
      omega
    · have h4 := ih (fun r hr => h r (by omega)) (by omega)
      unfold cntT at h4
      have h3 : ([n].filter fun r => l' r).length ≤ ([n].filter fun r => l r).length := by
        cases e : l' n
        · simp [e]
        · simp [e, h n (by omega) e]
      omega
/-- pairs as places of the matrix -/
def flatY (n : Nat) (Y : Nat → Nat → Bool) : Nat → Bool := fun q => Y (q / n) (q % n)
def dropY (Y : Nat → Nat → Bool) (i k : Nat) : Nat → Nat → Bool := fun a b => if a = i ∧ b = k then false else Y a b
theorem cnt_drop {n nn : Nat} {Y : Nat → Nat → Bool} {i k : Nat} (hq : nn = n * n) (hi : i < n) (hk : k < n) (h : Y i k = true) : cntT nn (flatY n (dropY Y i k)) < cntT nn (flatY n Y) := by
  have h1 := mat_lt hi hk
  have h2 := mat_div (i := i) hk
  refine cntT_lt (q := i * n + k) (fun r hr hx => ?_) (by omega) ?_ ?_
  · unfold flatY dropY at hx
    unfold flatY
    split at hx
    · cases hx
    · exact hx
  · unfold flatY; rw [h2.1, h2.2]; exact h
  · unfold flatY dropY; rw [h2.1, h2.2, if_pos ⟨rfl, rfl⟩]
theorem EqAt.drop {w : World} {g n nn : Nat} {Y : Nat → Nat → Bool} (h : EqAt w g n nn Y) {i k m : Nat} (hi : i < n) (hk : k < n) (hm : m = i * n) : EqAt (w.setCell ⟨g, m + k, none⟩ (.bool false)) g n nn (dropY Y i k) := by
  refine ⟨h.sq, ?_⟩
  refine Blk.rowCongr (Blk.rowSet h.row (m + k) (.bool false)) fun q hq => ?_
  have hn : 0 < n := by omega
  have e1 := Nat.div_add_mod q n
  have h2 := mat_div (i := i) hk
  by_cases e : q = m + k
  · subst e; subst hm
    rw [if_pos rfl, h2.1, h2.2]
    unfold dropY
    rw [if_pos ⟨rfl, rfl⟩]
  · rw [if_neg e]
    unfold dropY
    rw [if_neg]
    rintro ⟨a, b⟩
    apply e
    rw [hm, ← a, ← b, Nat.mul_comm]
    omega
theorem EqAt.rest {w w' : World} {g n nn : Nat} {Y : Nat → Nat → Bool} (h : EqAt w g n nn Y) (e : w'.heap[g]? = w.heap[g]?) : EqAt w' g n nn Y := ⟨h.sq, Blk.of_heap h.row e⟩
/-- where a pass of the loop stands: Y0 at its beginning, Y now; all pairs ahead of (i, k) have been looked at -/
structure PassY (l : List LF) (n nn : Nat) (Y0 Y : Nat → Nat → Bool) (ch : Bool) (i k : Nat) : Prop where
  pairs : Pairs l Y
  less : ch = true → cntT nn (flatY n Y) < cntT nn (flatY n Y0)
  same : ch = false → Y = Y0
  seen : ch = false → ∀ a b (ha : a < l.length) (hb : b < l.length), (a < i ∨ (a = i ∧ b < k)) → Y a b = true → sameL Y l[a] l[b] = true
theorem PassY.keep {l : List LF} {n nn : Nat} {Y0 Y : Nat → Nat → Bool} {ch : Bool} {i k : Nat} (h : PassY l n nn Y0 Y ch i k) (hs : ∀ (hi : i < l.length) (hk : k < l.length), Y i k = true → sameL Y l[i] l[k] = true) : PassY l n nn Y0 Y ch i (k + 1) := by
  refine ⟨h.pairs, h.less, h.same, fun hc a b ha hb hab hy => ?_⟩
  by_cases e : a = i ∧ b = k
  · obtain ⟨rfl, rfl⟩ := e; exact hs ha hb hy
  · exact h.seen hc a b ha hb (by omega) hy
theorem PassY.drop {l : List LF} (hl : LfsIn l) {n nn : Nat} {Y0 Y : Nat → Nat → Bool} {ch : Bool} {i k : Nat} (h : PassY l n nn Y0 Y ch i k) (hq : nn = n * n) (hn : l.length = n) (hi : i < l.length) (hk : k < l.length) (hy : Y i k = true) (hs : sameL Y l[i] l[k] = false) : PassY l n nn Y0 (dropY Y i k) true i (k + 1) := by
  have h1 := cnt_drop (Y := Y) hq (show i < n by omega) (show k < n by omega) hy
  refine ⟨h.pairs.drop hl hi hk hs, fun _ => ?_, fun hc => (by cases hc), fun hc => (by cases hc)⟩
  cases ch
  · rw [h.same rfl] at h1 ⊢; exact h1
  · exact Nat.lt_trans h1 (h.less rfl)
theorem PassY.row {l : List LF} {n nn : Nat} {Y0 Y : Nat → Nat → Bool} {ch : Bool} {i : Nat} (h : PassY l n nn Y0 Y ch i l.length) : PassY l n nn Y0 Y ch (i + 1) 0 :=
  ⟨h.pairs, h.less, h.same, fun hc a b ha hb hab hy => h.seen hc a b ha hb (by omega) hy⟩
theorem Pairs.start (l : List LF) : Pairs l fun _ _ => true := ⟨fun _ _ _ => rfl⟩
/-- the least that is not told apart from i -/
def LeastG (l : List LF) (i m : Nat) : Prop := Gf l i m ∧ ∀ j, j < m → ¬ Gf l i j
end Go.Proofs.Ytkafbihlmhdjeab
