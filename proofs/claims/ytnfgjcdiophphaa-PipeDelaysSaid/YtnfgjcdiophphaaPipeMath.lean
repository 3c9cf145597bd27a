/- The pipeline's state after operations with additional cycles, and after a delay. -/
import Derived.Test.YtnfgjcdiophphaaPipe
namespace Go.Proofs.Ytnfgjcdiophphaa
open Go.RowKit
set_option linter.unusedVariables false
set_option linter.unusedSimpArgs false

def flushS (S : TS) (k : Nat) : TS := { S with next := S.next + k, done := max S.done (S.next + k), wr := S.wr.filter (fun x => decide (S.next + k ≤ x)) }
theorem flushS_zero {S : TS} {B : Nat} (ok : S.Ok B) (h : S.next ≤ S.done) : flushS S 0 = S := by
  obtain ⟨nx, dv, dn, rd, wr⟩ := S
  have hw := ok.w
  simp only at h hw
  unfold flushS
  simp only [Nat.add_zero, TS.mk.injEq, true_and]
  refine ⟨by omega, ?_⟩
  rw [List.filter_eq_self]
  intro x hx
  have := (hw x hx).1
  simpa using this

def runE (x : Nat → Nat) (l : List Op5) : Nat → TS
  | 0 => zeroTS
  | k + 1 => match l[k]? with
    | some o => nextS (runE x l k) o.op o.d o.a o.b (x k)
    | none => runE x l k
theorem runE_succ (x : Nat → Nat) (l : List Op5) (k : Nat) (h : k < l.length) : runE x l (k + 1) = nextS (runE x l k) l[k].op l[k].d l[k].a l[k].b (x k) := by
  rw [runE, List.getElem?_eq_getElem h]
theorem zeroTS_ok : zeroTS.Ok 0 := ⟨Nat.le_refl _, Nat.le_refl _, Nat.le_refl _, fun _ => Nat.le_refl _, fun x h => by simp [zeroTS] at h, List.Pairwise.nil, by simp [zeroTS]⟩
theorem nextS_done_ge (S : TS) (op d a b : Int) (x : Nat) : (nextS S op d a b x).next ≤ (nextS S op d a b x).done := by
  have hlb := latOf_bd op
  unfold nextS
  dsimp only
  generalize startOf S op d a b (latOf op + x) = t at *
  omega
theorem TS.Ok.mono {S : TS} {B B' : Nat} (h : S.Ok B) (hB : B ≤ B') : S.Ok B' :=
  ⟨Nat.le_trans h.n hB, Nat.le_trans h.d hB, Nat.le_trans h.e hB, fun i => Nat.le_trans (h.r i) hB, fun y hy => ⟨(h.w y hy).1, Nat.le_trans (h.w y hy).2 hB⟩, h.s, h.l⟩
theorem runE_ok (x : Nat → Nat) (l : List Op5) (hx : ∀ i, x i ≤ 10000) : ∀ k : Nat, k ≤ 4096 → (runE x l k).Ok (k * 20016) ∧ (runE x l k).wr.length ≤ k ∧ (runE x l k).next ≤ (runE x l k).done
  | 0, _ => ⟨by rw [Nat.zero_mul]; exact zeroTS_ok, Nat.le_refl _, Nat.le_refl _⟩
  | k + 1, hk => by
    obtain ⟨h1, h2, h3⟩ := runE_ok x l hx k (by omega)
    rw [runE]
    cases hl : l[k]? with
    | none =>
      simp only
      exact ⟨h1.mono (Nat.mul_le_mul_right _ (Nat.le_succ k)), by omega, h3⟩
    | some o =>
      simp only
      obtain ⟨h4, h5⟩ := nextS_ok h1 o.op o.d o.a o.b (x k) (hx k) (by omega)
      exact ⟨by rw [Nat.add_mul, Nat.one_mul]; exact h4, by omega, nextS_done_ge _ _ _ _ _ _⟩
theorem runE_zero (l : List Op5) : ∀ k : Nat, runE (fun _ => 0) l k = runS (l.take k)
  | 0 => by simp [runE, runS]
  | k + 1 => by
    by_cases h : k < l.length
    · rw [runE_succ _ _ _ h, runS_take l k h, runE_zero l k]
    · rw [runE, List.getElem?_eq_none (by omega), runE_zero l k, List.take_of_length_le (by omega), List.take_of_length_le (by omega)]
end Go.Proofs.Ytnfgjcdiophphaa
