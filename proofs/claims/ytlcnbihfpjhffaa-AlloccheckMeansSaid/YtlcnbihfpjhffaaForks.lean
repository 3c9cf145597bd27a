/- A drawn region stepped op by op, with forks where several effects may come next. -/
import Derived.Test.YtlcnbihfpjhffaaBase
import Derived.Deep.AppendLies
namespace Go.Proofs.Ytlcnbihfpjhffaa
open Go.RowKit
set_option linter.unusedVariables false
set_option linter.unusedSectionVars false

section
variable {P : Program} {ops : Array Oper} {R : World → World → Prop} [PreR R]

theorem wp_region_forks {id : Nat} {Q : Exit → Act → World → Prop} {a : Act} {w : World} (R : World → World → Prop) [PreR R] (n : Nat) (hn : ops.size = n) (hm : P.follows .mixedOrders = true)
    (h : anyR P ops R (fun a' w' => Q .normal a' w') n (Array.replicate n false) a w.drew) : (Code.region id ops true).wp P Q a w := by
  subst hn
  exact wp_region_any hm (anyR_sound (fun _ _ h => h) _ _ _ w.drew h)

theorem forks_read {l : List Oper} {Q : Act → World → Prop} {f : Nat} {listed : Array Bool} {a : Act} {b : World} (i : Nat) {o : Oper} (ho : l[i]? = some o)
    (hB : (Region.noSelect l.toArray && (Region.ready .any l.toArray listed).contains i && Region.free .any l.toArray listed i && plainB o.op) = true)
    (hw : wpQuiet P l.toArray (fun w' => ∃ x : AfterR R b, w' = x.world) (fun a' => anyR P l.toArray R Q f (listed.setIfInBounds i true) a' b) [o] a) : anyR P l.toArray R Q (f + 1) listed a b := by
  simp only [Bool.and_eq_true] at hB
  obtain ⟨⟨⟨hs, hr⟩, hf⟩, hp⟩ := hB
  have ho' : l.toArray[i]? = some o := by simpa using ho
  have hr' : i ∈ Region.ready .any l.toArray listed := by simpa using hr
  obtain ⟨v, hy, hK⟩ := yieldsIn_of_qOp (C := clsR R b) (K := fun a' => anyR P l.toArray R Q f (listed.setIfInBounds i true) a' b) ho' (by unfold qOp; simp only [ho']; exact hw)
  exact anyR_first ho' hp (Region.noSelect_spec hs) f listed a b (Region.free_spec ho' hf) hr' hy hK

theorem forks_end {Q : Act → World → Prop} {f : Nat} {listed : Array Bool} {a : Act} {b : World} (h0 : Region.ready .any ops listed = []) (h : Q a b) : anyR P ops R Q f listed a b := by
  cases f with
  | zero => exact ⟨h0, h⟩
  | succ f => exact ⟨fun _ => h, fun i hi => by rw [h0] at hi; cases hi⟩

/-- one of those that may come next, and it makes or writes memory -/
def Does (P : Program) (ops : Array Oper) (R : World → World → Prop) (Q : Act → World → Prop) (f : Nat) (listed : Array Bool) (a : Act) (b : World) (i : Nat) : Prop :=
  ∃ o, ops[i]? = some o ∧ Region.wanted o (yielded ops a.tmps) = true ∧ o.wp P a b (fun a' w' => R b w' ∧ anyR P ops R Q f (listed.setIfInBounds i true) a' w') NoWay

theorem does_op {Q : Act → World → Prop} {f : Nat} {listed : Array Bool} {a : Act} {b : World} {i : Nat} (h : Does P ops R Q f listed a b i) : opR P ops R i (anyR P ops R Q f (listed.setIfInBounds i true)) a b := by
  obtain ⟨o, ho, hw, h⟩ := h
  intro o' ho'
  obtain rfl : o = o' := Option.some.inj (ho.symm.trans ho')
  exact ⟨fun _ => .inr h, fun h1 => by rw [hw] at h1; cases h1⟩

theorem forks_does {Q : Act → World → Prop} {f : Nat} {listed : Array Bool} {a : Act} {b : World} (l : List Nat) (hl : Region.ready .any ops listed = l) (h0 : l ≠ [])
    (h : ∀ i ∈ l, Does P ops R Q f listed a b i) : anyR P ops R Q (f + 1) listed a b :=
  ⟨fun h1 => absurd (hl.symm.trans h1) h0, fun i hi => does_op (h i (by rw [← hl]; exact hi))⟩

theorem forks_one {Q : Act → World → Prop} {f : Nat} {listed : Array Bool} {a : Act} {b : World} (i : Nat) (hl : Region.ready .any ops listed = [i])
    (h : Does P ops R Q f listed a b i) : anyR P ops R Q (f + 1) listed a b :=
  forks_does [i] hl (by simp) (by simpa using h)
theorem forks_two {Q : Act → World → Prop} {f : Nat} {listed : Array Bool} {a : Act} {b : World} (i j : Nat) (hl : Region.ready .any ops listed = [i, j])
    (h1 : Does P ops R Q f listed a b i) (h2 : Does P ops R Q f listed a b j) : anyR P ops R Q (f + 1) listed a b :=
  forks_does [i, j] hl (by simp) (by intro k hk; simp at hk; rcases hk with rfl | rfl <;> assumption)

theorem does_intro {l : List Oper} {Q : Act → World → Prop} {f : Nat} {listed : Array Bool} {a : Act} {b : World} {i : Nat} {o : Oper} (ho : l[i]? = some o) (hw : Region.wanted o (yielded l.toArray a.tmps) = true)
    (h : ∀ (K : Act → World → Prop), (∀ a' w', R b w' → anyR P l.toArray R Q f (listed.setIfInBounds i true) a' w' → K a' w') → o.wp P a b K NoWay) : Does P l.toArray R Q f listed a b i :=
  ⟨o, by simpa using ho, hw, h _ fun a' w' p q => ⟨p, q⟩⟩
end



section
variable {B : Nat} {te tf : TypeId} {w w' : World} {va vo vs : Value} {A O S : List Value} {na no ns : Nat} {G : List (Nat × Array Value × TypeId)}



end
end Go.Proofs.Ytlcnbihfpjhffaa
