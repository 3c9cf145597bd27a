/- HeapPlays: the graph as it is read, and the map from its numbers to the heap. -/
import Derived.Test.YtkpeeemnholmnaaShowBind
namespace Go.Proofs.Ytkpeeemnholmnaa
open Go.RowKit
set_option linter.unusedVariables false

structure Fld where
  (word ref : Int)
structure Ob where
  tag : Int
  fv : Value
  fs : List Fld
def fC (f : Fld) : List Value := [.int .i64 f.word, .int .i64 f.ref]
def oC (o : Ob) : List Value := [.int .i64 o.tag, o.fv]
structure GRead (w : World) (G : Nat) (os : List Ob) (rs : List Nat) : Prop where
  box : ∃ oa oc ra rc, w.cell? ⟨G, 0, none⟩ = some (.slice oa os.length oc) ∧ w.cell? ⟨G, 1, none⟩ = some (.slice ra rs.length rc) ∧ Came w oa os.length oc 2 (os.map oC) ∧ Came w ra rs.length rc 1 ((intL rs).map intCells)
  fl : ∀ o ∈ os, ∃ fa fc, o.fv = .slice fa o.fs.length fc ∧ Came w fa o.fs.length fc 2 (o.fs.map fC)
  lt : G < w.heap.size
theorem GRead.later {w w' : World} {G : Nat} {os : List Ob} {rs : List Nat} (h : GRead w G os rs) (hb : Below w.heap.size w w') : GRead w' G os rs := by
  obtain ⟨oa, oc, ra, rc, h1, h2, h3, h4⟩ := h.box
  refine ⟨⟨oa, oc, ra, rc, (hb.cell h.lt).trans h1, (hb.cell h.lt).trans h2, h3.below hb, h4.below hb⟩, fun o ho => ?_, Nat.lt_of_lt_of_le h.lt hb.size⟩
  obtain ⟨fa, fc, h5, h6⟩ := h.fl o ho
  exact ⟨fa, fc, h5, h6.below hb⟩
/-- the roots zs represent the graph -/
structure Rep (S : HS) (l1 l2 : List Nat) (os : List Ob) (rs : List Nat) (zs : List Int) (L : Nat → Prop) (ψ : Nat → Nat) : Prop where
  len : zs.length = rs.length
  root : ∀ i, i < rs.length → L (rs.getD i 0) ∧ zs.getD i 0 = 2 * (ψ (rs.getD i 0) : Int)
  lt : ∀ k, L k → k < os.length
  mem : ∀ k, L k → ψ k ∈ l1 ++ l2
  tag : ∀ k, L k → ∀ o, os[k]? = some o → o.tag = S.m (ψ k) / 8192 ∧ o.fs.length = hsize (S.m (ψ k))
  fld : ∀ k, L k → ∀ o, os[k]? = some o → ∀ t f, o.fs[t]? = some f → (f.ref < 0 ∧ S.m (ψ k + t + 1) = 2 * f.word + 1) ∨ ∃ q : Nat, f.ref = (q : Int) ∧ L q ∧ S.m (ψ k + t + 1) = 2 * (ψ q : Int)
  inj : ∀ i j, L i → L j → ψ i = ψ j → i = j
/-- what is bound -/
structure BOk (L : Nat → Prop) (ψ : Nat → Nat) (n : Nat) (f : Nat → Int) (td : List Nat) : Prop where
  b : ∀ j, j < n → f j = 0 ∨ (L j ∧ f j = 2 * (ψ j : Int))
  t : ∀ k ∈ td, L k ∧ k < n ∧ f k = 2 * (ψ k : Int)
  nd : td.Nodup
section
variable {S : HS} {l1 l2 : List Nat} {os : List Ob} {rs : List Nat} {zs : List Int} {L : Nat → Prop} {ψ : Nat → Nat} {n : Nat} {f : Nat → Int} {td : List Nat}
theorem BOk.len (h : BOk L ψ n f td) : td.length ≤ n := nodup_bd h.nd fun k hk => (h.t k hk).2.1
theorem BOk.pre (h : BOk L ψ n f td) (hp : ∀ k, L k → 0 < ψ k) (hi : ∀ i j, L i → L j → ψ i = ψ j → i = j) {k : Nat} (hk : L k) (hkn : k < n) : (f k = 0 ∨ f k = 2 * (ψ k : Int)) ∧ ∀ j, j < n → j ≠ k → f j ≠ 2 * (ψ k : Int) := by
  refine ⟨(h.b k hkn).imp id (·.2), fun j hj hne e => ?_⟩
  have := hp k hk
  rcases h.b j hj with h1 | ⟨h1, h2⟩
  · omega
  · exact hne (hi j k h1 hk (by omega))
theorem BOk.bind (h : BOk L ψ n f td) (hp : ∀ k, L k → 0 < ψ k) {k : Nat} (hk : L k) (hkn : k < n) : BOk L ψ n (bindF f k (2 * (ψ k : Int))) (if f k = 0 then td ++ [k] else td) := by
  have hb : ∀ j, (j = k ∧ bindF f k (2 * (ψ k : Int)) j = 2 * (ψ k : Int)) ∨ (j ≠ k ∧ bindF f k (2 * (ψ k : Int)) j = f j) := fun j => by
    unfold bindF
    by_cases e : j = k
    · exact .inl ⟨e, if_pos e⟩
    · exact .inr ⟨e, if_neg e⟩
  have ht : ∀ j ∈ td, L j ∧ j < n ∧ bindF f k (2 * (ψ k : Int)) j = 2 * (ψ j : Int) := fun j hj => by
    obtain ⟨h1, h2, h3⟩ := h.t j hj
    refine ⟨h1, h2, ?_⟩
    rcases hb j with ⟨e, e2⟩ | ⟨e, e2⟩
    · rw [e2, e]
    · rw [e2, h3]
  refine ⟨fun j hj => ?_, fun j hj => ?_, ?_⟩
  · rcases hb j with ⟨e, e2⟩ | ⟨e, e2⟩
    · right; rw [e2, e]; exact ⟨hk, rfl⟩
    · rw [e2]; exact h.b j hj
  · by_cases e : f k = 0
    · rw [if_pos e] at hj
      rcases List.mem_append.1 hj with h9 | h9
      · exact ht j h9
      · have : j = k := by simpa using h9
        rw [this]
        exact ⟨hk, hkn, by unfold bindF; rw [if_pos rfl]⟩
    · rw [if_neg e] at hj; exact ht j hj
  · by_cases e : f k = 0
    · rw [if_pos e]
      refine List.nodup_append.2 ⟨h.nd, by simp, fun x hx y hy => ?_⟩
      rintro rfl
      have : x = k := by simpa using hy
      have h3 := (h.t x hx).2.2
      rw [this, e] at h3
      have := hp k hk
      omega
    · rw [if_neg e]; exact h.nd
/-- how many numbers have no place -/
def zeros : Nat → (Nat → Int) → Nat
  | 0, _ => 0
  | n + 1, f => (if f n = 0 then 1 else 0) + zeros n f
theorem zeros_bind {k : Nat} {p : Int} (hp : p ≠ 0) (n : Nat) : zeros n (bindF f k p) + (if k < n ∧ f k = 0 then 1 else 0) = zeros n f := by
  induction n with
  | zero => simp [zeros]
  | succ n ih =>
    unfold zeros
    by_cases e : n = k
    · have e1 : bindF f k p n = p := by unfold bindF; rw [if_pos e]
      rw [e1, if_neg hp]
      rw [if_neg (by omega)] at ih
      subst e
      have a1 : (if n < n + 1 ∧ f n = 0 then 1 else 0) = (if f n = 0 then 1 else 0) := by by_cases h0 : f n = 0 <;> simp [h0]
      rw [a1]
      omega
    · have e1 : bindF f k p n = f n := by unfold bindF; rw [if_neg e]
      have a1 : (if k < n + 1 ∧ f k = 0 then 1 else 0) = (if k < n ∧ f k = 0 then 1 else 0) := by
        have : k < n + 1 ↔ k < n := by omega
        simp only [this]
      rw [e1, a1]
      omega
end
end Go.Proofs.Ytkpeeemnholmnaa
