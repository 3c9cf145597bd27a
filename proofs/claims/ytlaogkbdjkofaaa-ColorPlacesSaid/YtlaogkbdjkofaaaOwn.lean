/- Rows of a call's own, of elements of any layout: plain facts on 'World.ownsRow'. No function of the program. -/
import Derived.Test.YtlaogkbdjkofaaaBlk
import Derived.Laws.AppendOwn
import Derived.Laws.OwnMore
import Derived.OwnWalk
import Derived.Below
namespace Go.Proofs.Ytlaogkbdjkofaaa
open Go.RowKit
set_option linter.unusedVariables false

section
variable {w w' : World} {base base' : Nat} {e : TypeId} {size : Nat} {v : Value} {n : Nat} {l : List Value}
theorem ownG_shape (h : w.ownsRow base e size v n l) : ∃ a cap, v = .slice a n cap := by
  rcases h.2 with ⟨rfl, rfl⟩ | ⟨g, c, cur, rfl, _⟩
  · exact ⟨_, _, rfl⟩
  · exact ⟨_, _, rfl⟩
theorem ownG_has (h : w.ownsRow base e size v n l) (hn : 0 < n) : ∃ g cap, v = .slice (some ⟨g, 0, none⟩) n cap ∧ base ≤ g ∧ g < w.heap.size ∧ n ≤ cap ∧ cap ≤ maxLen := by
  rcases h.2 with ⟨rfl, rfl⟩ | ⟨g, c, cur, rfl, h1, h2, h3, h4, _⟩
  · omega
  · exact ⟨g, c, rfl, h1, lt_of_block h2, h3, h4⟩
theorem ownG_base (h : w.ownsRow base e size v n l) (hb : base' ≤ base) : w.ownsRow base' e size v n l := by
  refine ⟨h.1, ?_⟩
  rcases h.2 with hn | ⟨g, cap, cur, h1, h2, h3⟩
  · exact .inl hn
  · exact .inr ⟨g, cap, cur, h1, Nat.le_trans hb h2, h3⟩
theorem ownG_kept (h : w.ownsRow base e size v n l) (hb : ∀ g, v.ownBlock = some g → w'.heap[g]? = w.heap[g]?) : w'.ownsRow base e size v n l := by
  refine ⟨h.1, ?_⟩
  rcases h.2 with hn | ⟨g, cap, cur, rfl, h2, h3, h4⟩
  · exact .inl hn
  · exact .inr ⟨g, cap, cur, rfl, h2, (hb g rfl).trans h3, h4⟩
theorem ownG_below (h : w.ownsRow base e size v n l) (hb : Below w.heap.size w w') : w'.ownsRow base e size v n l := ownG_kept h fun g hg => hb.block g (h.lt g hg).2
theorem ownG_other {a : Addr} (h : w.ownsRow base e size v n l) (ha : v.ownBlock ≠ some a.block) (u : Value) : (w.setCell a u).ownsRow base e size v n l :=
  ownG_kept h fun g hg => Below.heap_setCell _ _ _ _ (fun e => ha (by rw [hg, e]))
end
/-- the cells of a list of elements, each of k cells -/
theorem flatN_len {α : Type} {E : α → List Value} {k : Nat} (hE : ∀ x, (E x).length = k) : ∀ l : List α, (l.flatMap E).length = l.length * k
  | [] => by simp
  | x :: r => by rw [List.flatMap_cons, List.length_append, hE, flatN_len hE r, List.length_cons, Nat.add_mul]; omega
theorem flatN_get {α : Type} {E : α → List Value} {k : Nat} (hE : ∀ x, (E x).length = k) : ∀ (l : List α) (i j : Nat) (hi : i < l.length), j < k → (l.flatMap E)[i * k + j]? = (E l[i])[j]?
  | [], i, j, hi, _ => by simp at hi
  | x :: r, 0, j, hi, hj => by rw [List.flatMap_cons, List.getElem?_append_left (by rw [hE]; omega)]; simp
  | x :: r, i + 1, j, hi, hj => by
    rw [List.flatMap_cons, List.getElem?_append_right (by rw [hE, Nat.add_mul]; omega), hE, show (i + 1) * k + j - k = i * k + j by rw [Nat.add_mul]; omega]
    simpa using flatN_get hE r i j (by simpa using hi) hj
theorem flatN_set {α : Type} {E : α → List Value} {k : Nat} (hE : ∀ x, (E x).length = k) : ∀ (l : List α) (i j : Nat) (v : Value) (y : α) (hi : i < l.length), j < k → (E l[i]).set j v = E y → (l.flatMap E).set (i * k + j) v = (l.set i y).flatMap E
  | [], i, j, v, y, hi, _, _ => by simp at hi
  | x :: r, 0, j, v, y, hi, hj, he => by
    rw [List.flatMap_cons, List.set_append_left _ _ (by rw [hE]; omega), List.set_cons_zero, List.flatMap_cons, ← he]
    simp
  | x :: r, i + 1, j, v, y, hi, hj, he => by
    rw [List.flatMap_cons, List.set_append_right _ _ (by rw [hE, Nat.add_mul]; omega), hE, show (i + 1) * k + j - k = i * k + j by rw [Nat.add_mul]; omega, List.set_cons_succ, List.flatMap_cons]
    rw [flatN_set hE r i j v y (by simpa using hi) hj (by simpa using he)]
end Go.Proofs.Ytlaogkbdjkofaaa
