/- What is live: the least fixed point, and its approximations. No program. -/
import Derived.Test.YtlaogkbdjkofaaaVAfter
namespace Go.Proofs.Ytlaogkbdjkofaaa
open Go.RowKit
set_option linter.unusedVariables false

def nilVB : VB := ⟨none, 0, 0, [], ⟨0, 0, 0, 0, 0, none, 0, 0, []⟩⟩
def VF.blk (f : VF) (i : Nat) : VB := f.blocks.getD i nilVB
theorem VF.blk_get (f : VF) {i : Nat} (hi : i < f.blocks.length) : f.blocks[i] = f.blk i := by simp [VF.blk, List.getD_eq_getElem?_getD, hi]
/-- one step -/
def stepV (f : VF) (X : Nat → Nat → Bool) (i : Nat) : Nat → Bool := blkF (f.blk i) (aftF (f.blk i).e.to X)
def genV (b : VB) (r : Nat) : Bool := blkF b (fun _ => false) r
def thruV (b : VB) (r : Nat) : Bool := blkF b (fun _ => true) r
/-- what is live at the beginning of a block -/
inductive LiveI (f : VF) : Nat → Nat → Prop
  | here (i r : Nat) : genV (f.blk i) r = true → LiveI f i r
  | step (i t r : Nat) : thruV (f.blk i) r = true → (t : Int) ∈ (f.blk i).e.to → LiveI f t r → LiveI f i r

theorem fold_at (l l' : Nat → Bool) (r : Nat) : ∀ ins : List VI, l r = l' r → ins.foldr insF l r = ins.foldr insF l' r
  | [], h => h
  | x :: ins, h => by
    have ih := fold_at l l' r ins h
    show insF x (ins.foldr insF l) r = insF x (ins.foldr insF l') r
    generalize ins.foldr insF l = A at ih ⊢
    generalize ins.foldr insF l' = A' at ih ⊢
    unfold insF
    rw [ih]
theorem blkF_at (b : VB) {l l' : Nat → Bool} {r : Nat} (h : l r = l' r) : blkF b l r = blkF b l' r := by
  unfold blkF
  by_cases h0 : r = 0
  · rw [if_pos h0, if_pos h0]
  · rw [if_neg h0, if_neg h0]
    refine fold_at _ _ r _ ?_
    rw [h]
theorem fold_mono (r : Nat) : ∀ (ins : List VI) (l l' : Nat → Bool), (l r = true → l' r = true) → ins.foldr insF l r = true → ins.foldr insF l' r = true
  | [], l, l', h => h
  | x :: ins, l, l', h => by
    show insF x _ r = true → insF x _ r = true
    unfold insF
    split
    · exact id
    · split
      · exact id
      · exact fold_mono r ins l l' h
theorem blkF_mono (b : VB) {l l' : Nat → Bool} {r : Nat} (h : l r = true → l' r = true) : blkF b l r = true → blkF b l' r = true := by
  unfold blkF
  by_cases h0 : r = 0
  · rw [if_pos h0]; intro h; cases h
  · rw [if_neg h0, if_neg h0]
    refine fold_mono r _ _ _ ?_
    show (if (r : Int) ∈ endV b.e then true else l r) = true → (if (r : Int) ∈ endV b.e then true else l' r) = true
    split
    · exact id
    · exact h
theorem blkF_split (b : VB) (l : Nat → Bool) (r : Nat) : blkF b l r = true ↔ genV b r = true ∨ (thruV b r = true ∧ l r = true) := by
  unfold genV thruV
  constructor
  · intro h
    cases hl : l r
    · left; rw [blkF_at b (l' := l) (by rw [hl])]; exact h
    · right; exact ⟨by rw [blkF_at b (l' := l) (by rw [hl])]; exact h, rfl⟩
  · rintro (h | ⟨h, hl⟩)
    · exact blkF_mono b (fun h => by cases h) h
    · rw [blkF_at b (l' := fun _ => true) (by rw [hl])]; exact h
theorem stepV_iff (f : VF) (X : Nat → Nat → Bool) (i r : Nat) : stepV f X i r = true ↔ genV (f.blk i) r = true ∨ (thruV (f.blk i) r = true ∧ ∃ t ∈ (f.blk i).e.to, X t.toNat r = true) := by
  unfold stepV
  rw [blkF_split]
  unfold aftF
  rw [List.any_eq_true]
theorem genV_zero (b : VB) : genV b 0 = false := by unfold genV blkF; rw [if_pos rfl]
theorem thruV_zero (b : VB) : thruV b 0 = false := by unfold thruV blkF; rw [if_pos rfl]
theorem LiveI.pos {f : VF} {i r : Nat} (h : LiveI f i r) : r ≠ 0 := by
  cases h with
  | here _ _ h => rintro rfl; rw [genV_zero] at h; cases h
  | step _ _ _ h => rintro rfl; rw [thruV_zero] at h; cases h

/-- where the loop stands: sound, and no more than the step yields -/
structure Appr (f : VF) (m n : Nat) (X : Nat → Nat → Bool) : Prop where
  sound : ∀ i, i < m → ∀ r, r < n → X i r = true → LiveI f i r
  post : ∀ i, i < m → ∀ r, r < n → X i r = true → stepV f X i r = true
def FixV (f : VF) (m n : Nat) (X : Nat → Nat → Bool) : Prop := ∀ i, i < m → ∀ r, r < n → stepV f X i r = X i r
/-- the targets of the jumps are blocks -/
def TosV (f : VF) (m : Nat) : Prop := ∀ i, i < m → ∀ t ∈ (f.blk i).e.to, 0 ≤ t ∧ t < m
theorem step_mono {f : VF} {X X' : Nat → Nat → Bool} {i r m : Nat} (hto : ∀ t ∈ (f.blk i).e.to, 0 ≤ t ∧ t < m) (h : ∀ t : Nat, t < m → X t r = true → X' t r = true) (hs : stepV f X i r = true) : stepV f X' i r = true := by
  rw [stepV_iff] at hs ⊢
  rcases hs with hs | ⟨h1, t, ht, h2⟩
  · exact .inl hs
  · exact .inr ⟨h1, t, ht, h _ (by have := hto t ht; omega) h2⟩
theorem Appr.none (f : VF) (m n : Nat) : Appr f m n fun _ _ => false := ⟨fun i _ r _ h => (by cases h), fun i _ r _ h => (by cases h)⟩
def putV (X : Nat → Nat → Bool) (i : Nat) (l : Nat → Bool) : Nat → Nat → Bool := fun k => if k = i then l else X k
theorem Appr.put {f : VF} {m n : Nat} {X : Nat → Nat → Bool} (h : Appr f m n X) (ht : TosV f m) {i : Nat} (hi : i < m) : Appr f m n (putV X i (stepV f X i)) := by
  have hle : ∀ r, r < n → ∀ t : Nat, t < m → X t r = true → putV X i (stepV f X i) t r = true := fun r hr t htm hx => by
    unfold putV
    by_cases e : t = i
    · subst e; rw [if_pos rfl]; exact h.post t htm r hr hx
    · rw [if_neg e]; exact hx
  have hsound : ∀ r, r < n → stepV f X i r = true → LiveI f i r := fun r hr hs => by
    rw [stepV_iff] at hs
    rcases hs with hs | ⟨h1, t, htm, h2⟩
    · exact .here _ _ hs
    · have h3 := ht i hi t htm
      refine .step i t.toNat r h1 ?_ (h.sound t.toNat (by omega) r hr h2)
      rw [Int.toNat_of_nonneg h3.1]; exact htm
  refine ⟨fun k hk r hr hx => ?_, fun k hk r hr hx => ?_⟩
  · unfold putV at hx
    by_cases e : k = i
    · subst e; rw [if_pos rfl] at hx; exact hsound r hr hx
    · rw [if_neg e] at hx; exact h.sound k hk r hr hx
  · refine step_mono (ht k hk) (hle r hr) ?_
    unfold putV at hx
    by_cases e : k = i
    · subst e; rw [if_pos rfl] at hx; exact hx
    · rw [if_neg e] at hx; exact h.post k hk r hr hx
theorem Appr.fix {f : VF} {m n : Nat} {X : Nat → Nat → Bool} (h : Appr f m n X) (ht : TosV f m) (hf : FixV f m n X) : ∀ i, i < m → ∀ r, r < n → (X i r = true ↔ LiveI f i r) := by
  have key : ∀ i r, LiveI f i r → i < m → r < n → X i r = true := by
    intro i r hl
    induction hl with
    | here i r hg => intro hi hr; rw [← hf i hi r hr, stepV_iff]; exact .inl hg
    | step i t r h1 h2 _ ih =>
      intro hi hr
      have := ht i hi _ h2
      rw [← hf i hi r hr, stepV_iff]
      exact .inr ⟨h1, t, h2, ih (by omega) hr⟩
  exact fun i hi r hr => ⟨h.sound i hi r hr, fun hl => key i r hl hi hr⟩

/-- how many are not live yet -/
def cntR (n : Nat) (l : Nat → Bool) : Nat := ((List.range n).filter fun r => !l r).length
def cntV (m n : Nat) (X : Nat → Nat → Bool) : Nat := ((List.range m).map fun i => cntR n (X i)).sum
theorem cntR_le {n : Nat} {l l' : Nat → Bool} (h : ∀ r, r < n → l r = true → l' r = true) : cntR n l' ≤ cntR n l := by
  unfold cntR
  induction n with
  | zero => simp
  | succ n ih =>
    rw [List.range_succ, List.filter_append, List.filter_append, List.length_append, List.length_append]
    have h1 := ih fun r hr => h r (by omega)
    have h2 : ([n].filter fun r => !l' r).length ≤ ([n].filter fun r => !l r).length := by
      cases e : l n
      · cases e' : l' n <;> simp [e, e']
      · simp [e, h n (by omega) e]
    omega
theorem cntR_lt {n : Nat} {l l' : Nat → Bool} (h : ∀ r, r < n → l r = true → l' r = true) (hd : ∃ r, r < n ∧ l r ≠ l' r) : cntR n l' < cntR n l := by
  induction n with
  | zero => obtain ⟨r, hr, _⟩ := hd; omega
  | succ n ih =>
    unfold cntR
    rw [List.range_succ, List.filter_append, List.filter_append, List.length_append, List.length_append]
    have h0 : cntR n l' ≤ cntR n l := cntR_le fun r hr => h r (by omega)
    unfold cntR at h0
    by_cases e : l n = l' n
    · obtain ⟨r, hr, hne⟩ := hd
      have hrn : r < n := by
        rcases Nat.lt_or_ge r n with h9 | h9
        · exact h9
        · have : r = n := by omega
          subst this
          exact absurd e hne
      have h1 := ih (fun r hr => h r (by omega)) ⟨r, hrn, hne⟩
      unfold cntR at h1
      have h2 : ([n].filter fun r => !l' r).length ≤ ([n].filter fun r => !l r).length := by
        cases e1 : l' n <;> rw [e1] at e <;> simp [e1, e]
      omega
    · have h2 : ([n].filter fun r => !l' r).length < ([n].filter fun r => !l r).length := by
        cases e1 : l n
        · cases e2 : l' n
          · rw [e1, e2] at e; exact absurd rfl e
          · simp [e1, e2]
        · have := h n (by omega) e1; rw [e1, this] at e; exact absurd rfl e
      omega
theorem cntV_put {m n : Nat} {X : Nat → Nat → Bool} {i : Nat} {l : Nat → Bool} (hi : i < m) (h : ∀ r, r < n → X i r = true → l r = true) (hd : ∃ r, r < n ∧ X i r ≠ l r) : cntV m n (putV X i l) < cntV m n X := by
  have h1 := cntR_lt h hd
  unfold cntV
  induction m with
  | zero => omega
  | succ m ih =>
    rw [List.range_succ, List.map_append, List.map_append, List.sum_append, List.sum_append]
    by_cases e : i = m
    · subst e
      have h2 : ((List.range i).map fun k => cntR n (putV X i l k)) = (List.range i).map fun k => cntR n (X k) := by
        refine List.map_congr_left fun k hk => ?_
        have := List.mem_range.1 hk
        unfold putV
        rw [if_neg (by omega)]
      rw [h2]
      have h3 : cntR n (putV X i l i) = cntR n l := by unfold putV; rw [if_pos rfl]
      simp only [List.map_cons, List.map_nil, List.sum_cons, List.sum_nil, h3]
      omega
    · have h2 := ih (by omega)
      have h3 : cntR n (putV X i l m) = cntR n (X m) := by unfold putV; rw [if_neg (fun h => e h.symm)]
      simp only [List.map_cons, List.map_nil, List.sum_cons, List.sum_nil, h3]
      omega
end Go.Proofs.Ytlaogkbdjkofaaa
