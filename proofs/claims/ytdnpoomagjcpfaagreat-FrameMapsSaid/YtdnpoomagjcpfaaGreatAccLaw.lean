/- AlloccheckSays: what an allocation does to states, in plain Lean: distributes over the meet. No function of the program is walked. AlloccheckSays: what Accept's states say, in plain Lean. No function of the program is walked. Accept's states in memory. No function of the program is walked. -/
import Derived.Test.YtdnpoomagjcpfaaGreatHoldAll
import Derived.Test.YtdnpoomagjcpfaaGreatBase
namespace Go.Proofs.YtdnpoomagjcpfaaGreat
open Go.RowKit
set_option linter.unusedVariables false
set_option linter.unusedSimpArgs false

def St := Nat → Nat → Bool
def meetS (X Y : Nat → Nat → Bool) : Nat → Nat → Bool := fun i q => X i q && Y i q
def leS (X Y : Nat → Nat → Bool) : Prop := ∀ i q, X i q = true → Y i q = true
theorem useB_meet (a : AL) (X Y : Nat → Nat → Bool) (r : Nat) : useB a (meetS X Y) r = (useB a X r && useB a Y r) := by
 unfold useB meetS
 cases decide (plc 11 a r ≠ 0) <;> simp
theorem usedB_meet (a : AL) (X Y : Nat → Nat → Bool) (l : List Nat) : usedB a (meetS X Y) l = (usedB a X l && usedB a Y l) := by
 unfold usedB
 induction l with
 | nil => rfl
 | cons r l ih =>
  simp only [List.all_cons, ih, useB_meet]
  cases useB a X r <;> cases useB a Y r <;> cases l.all (useB a X) <;> cases l.all (useB a Y) <;> rfl
theorem callX_meet (x : VI) (X Y : Nat → Nat → Bool) : callX x (meetS X Y) = meetS (callX x X) (callX x Y) := by
 funext i q
 show callX x (meetS X Y) i q = (callX x X i q && callX x Y i q)
 unfold callX
 by_cases h : callB x.op = true ∧ 1 ≤ i ∧ i ≤ 10
 ·rw [if_pos h, if_pos h, if_pos h]; rfl
 ·rw [if_neg h, if_neg h, if_neg h]; rfl
theorem alsoA_meet (a : AL) (x : VI) (X Y : Nat → Nat → Bool) (q : Nat) : alsoA a x (meetS X Y) q = (alsoA a x X q && alsoA a x Y q) := by
 unfold alsoA
 by_cases h : x.op = 100 ∧ x.a ≠ 0
 ·rw [if_pos h, if_pos h, if_pos h]
  by_cases h2 : q = (defV x).toNat
  ·rw [if_pos h2, if_pos h2, if_pos h2]; rfl
  ·rw [if_neg h2, if_neg h2, if_neg h2]; rfl
 ·rw [if_neg h, if_neg h, if_neg h]; rfl
theorem defX_meet (X Y : Nat → Nat → Bool) (p r : Nat) (A B C : Nat → Bool) (hA : ∀ q, A q = (B q && C q)) (i q : Nat) : defX (meetS X Y) p r A i q = (defX X p r B i q && defX Y p r C i q) := by
 unfold defX
 by_cases h : p ≠ 0 ∧ i = p
 ·rw [if_pos h, if_pos h, if_pos h]
  by_cases h2 : q = r
  ·rw [if_pos h2, if_pos h2, if_pos h2]; rfl
  ·rw [if_neg h2, if_neg h2, if_neg h2]; exact hA q
 ·rw [if_neg h, if_neg h, if_neg h]
  by_cases h2 : q = r
  ·rw [if_pos h2, if_pos h2, if_pos h2]; rfl
  ·rw [if_neg h2, if_neg h2, if_neg h2]; rfl
theorem insX_meet (a : AL) (x : VI) (X Y : Nat → Nat → Bool) : insX a x (meetS X Y) = meetS (insX a x X) (insX a x Y) := by
 funext i q
 show insX a x (meetS X Y) i q = (insX a x X i q && insX a x Y i q)
 unfold insX
 rw [callX_meet]
 by_cases h : defV x = 0
 ·rw [if_pos h, if_pos h, if_pos h]; rfl
 ·rw [if_neg h, if_neg h, if_neg h]
  exact defX_meet _ _ _ _ _ _ _ (fun q => alsoA_meet a x (callX x X) (callX x Y) q) i q
/-- an instruction; none: a used value is not in its place -/
def insT (a : AL) (x : VI) (X : Nat → Nat → Bool) : Option (Nat → Nat → Bool) := if usedB a X (usesN x) = true then some (insX a x X) else none
def inssT (a : AL) : List VI → (Nat → Nat → Bool) → Option (Nat → Nat → Bool)
 | [], X => some X
 | x :: l, X => (insT a x X).bind (inssT a l)
def blkT (a : AL) (b : VB) (X : Nat → Nat → Bool) : Option (Nat → Nat → Bool) := (inssT a b.ins X).bind fun Z => if usedB a Z ((endV b.e).map Int.toNat) = true then some Z else none
def meetO : Option (Nat → Nat → Bool) → Option (Nat → Nat → Bool) → Option (Nat → Nat → Bool)
 | some X, some Y => some (meetS X Y)
 | _, _ => none
theorem insT_meet (a : AL) (x : VI) (X Y : Nat → Nat → Bool) : insT a x (meetS X Y) = meetO (insT a x X) (insT a x Y) := by
 unfold insT
 rw [usedB_meet]
 cases usedB a X (usesN x) <;> cases usedB a Y (usesN x) <;> simp [meetO, insX_meet]
theorem inssT_meet (a : AL) : ∀ (l : List VI) (X Y : Nat → Nat → Bool), inssT a l (meetS X Y) = meetO (inssT a l X) (inssT a l Y)
 | [], X, Y => rfl
 | x :: l, X, Y => by
  simp only [inssT, insT_meet]
  cases insT a x X with
  | none => rfl
  | some X' =>
   cases insT a x Y with
   | none => simp [meetO]
   | some Y' => simp only [meetO, Option.bind_some]; exact inssT_meet a l X' Y'
theorem blkT_meet (a : AL) (b : VB) (X Y : Nat → Nat → Bool) : blkT a b (meetS X Y) = meetO (blkT a b X) (blkT a b Y) := by
 unfold blkT
 rw [inssT_meet]
 cases inssT a b.ins X with
 | none => rfl
 | some X' =>
  cases inssT a b.ins Y with
  | none => simp [meetO]
  | some Y' =>
   simp only [meetO, Option.bind_some, usedB_meet]
   cases usedB a X' ((endV b.e).map Int.toNat) <;> cases usedB a Y' ((endV b.e).map Int.toNat) <;> simp [meetO]
theorem meetS_of_le {X Y : Nat → Nat → Bool} (h : leS X Y) : meetS X Y = X := by
 funext i q
 unfold meetS
 cases hx : X i q
 ·rfl
 ·rw [h i q hx]; rfl
/-- above a state with a result there is a result, above the result -/
theorem blkT_mono {a : AL} {b : VB} {X Y X' : Nat → Nat → Bool} (h : leS X Y) (hx : blkT a b X = some X') : ∃ Y', blkT a b Y = some Y' ∧ leS X' Y' := by
 have h1 := blkT_meet a b X Y
 rw [meetS_of_le h, hx] at h1
 cases hy : blkT a b Y with
 | none => rw [hy] at h1; simp [meetO] at h1
 | some Y' =>
  rw [hy] at h1
  simp only [meetO, Option.some.injEq] at h1
  refine ⟨Y', rfl, fun i q hq => ?_⟩
  rw [h1] at hq
  unfold meetS at hq
  simp at hq
  exact hq.2
/-- the states that are reached on some way -/
inductive ReachS (f : VF) (a : AL) (X0 : Nat → Nat → Bool) : Nat → (Nat → Nat → Bool) → Prop
 | start : ReachS f a X0 0 X0
 | step {i : Nat} {X X' : Nat → Nat → Bool} {b : VB} {t : Int} : ReachS f a X0 i X → f.blocks[i]? = some b → blkT a b X = some X' → t ∈ b.e.to → ReachS f a X0 t.toNat X'
/-- no use fails on any way -/
def GoodS (f : VF) (a : AL) (X0 : Nat → Nat → Bool) : Prop := ∀ i X b, ReachS f a X0 i X → f.blocks[i]? = some b → blkT a b X ≠ none
/-- what Accept ends with, where it accepts -/
structure FixS (f : VF) (a : AL) (X0 : Nat → Nat → Bool) (S : Nat → Option (Nat → Nat → Bool)) : Prop where
 start : ∃ M, S 0 = some M ∧ leS M X0
 step : ∀ i M b, S i = some M → f.blocks[i]? = some b → ∃ X', blkT a b M = some X' ∧ ∀ t ∈ b.e.to, ∃ N, S t.toNat = some N ∧ leS N X'
theorem leS.trans {X Y Z : Nat → Nat → Bool} (h : leS X Y) (k : leS Y Z) : leS X Z := fun i q hq => k i q (h i q hq)
theorem FixS.above {f : VF} {a : AL} {X0 : Nat → Nat → Bool} {S : Nat → Option (Nat → Nat → Bool)} (h : FixS f a X0 S) {i : Nat} {X : Nat → Nat → Bool} (hr : ReachS f a X0 i X) : ∃ M, S i = some M ∧ leS M X := by
 induction hr with
 | start => exact h.start
 | @step i X X' b t _ hb hx ht ih =>
  obtain ⟨M, hM, hle⟩ := ih
  obtain ⟨M', hM', hs⟩ := h.step i M b hM hb
  obtain ⟨N, hN, hN2⟩ := hs t ht
  obtain ⟨Y', hY, hle2⟩ := blkT_mono hle hM'
  rw [hx] at hY
  injection hY with hY
  subst hY
  exact ⟨N, hN, hN2.trans hle2⟩
theorem FixS.good {f : VF} {a : AL} {X0 : Nat → Nat → Bool} {S : Nat → Option (Nat → Nat → Bool)} (h : FixS f a X0 S) : GoodS f a X0 := fun i X b hr hb hn => by
 obtain ⟨M, hM, hle⟩ := h.above hr
 obtain ⟨M', hM', _⟩ := h.step i M b hM hb
 obtain ⟨Y', hY, _⟩ := blkT_mono hle hM'
 rw [hn] at hY; cases hY
/-- the meet of some reached states -/
inductive MeetR (f : VF) (a : AL) (X0 : Nat → Nat → Bool) (i : Nat) : (Nat → Nat → Bool) → Prop
 | one {X : Nat → Nat → Bool} : ReachS f a X0 i X → MeetR f a X0 i X
 | and {X Y : Nat → Nat → Bool} : MeetR f a X0 i X → MeetR f a X0 i Y → MeetR f a X0 i (meetS X Y)
theorem MeetR.step {f : VF} {a : AL} {X0 : Nat → Nat → Bool} {i : Nat} {X : Nat → Nat → Bool} {b : VB} (h : MeetR f a X0 i X) (hb : f.blocks[i]? = some b) : ∀ {X' : Nat → Nat → Bool}, blkT a b X = some X' → ∀ t ∈ b.e.to, MeetR f a X0 t.toNat X' := by
 induction h with
 | one hr => exact fun hx t ht => .one (.step hr hb hx ht)
 | @and X Y _ _ ih1 ih2 =>
  intro Z hZ t ht
  rw [blkT_meet] at hZ
  cases hx : blkT a b X with
  | none => rw [hx] at hZ; simp [meetO] at hZ
  | some X' =>
   cases hy : blkT a b Y with
   | none => rw [hx, hy] at hZ; simp [meetO] at hZ
   | some Y' =>
    rw [hx, hy] at hZ
    simp only [meetO, Option.some.injEq] at hZ
    subst hZ
    exact .and (ih1 hx t ht) (ih2 hy t ht)
theorem MeetR.bad {f : VF} {a : AL} {X0 : Nat → Nat → Bool} {i : Nat} {X : Nat → Nat → Bool} {b : VB} (h : MeetR f a X0 i X) (hb : f.blocks[i]? = some b) (hn : blkT a b X = none) : ¬ GoodS f a X0 := by
 induction h with
 | one hr => exact fun hg => hg _ _ _ hr hb hn
 | @and X Y _ _ ih1 ih2 =>
  rw [blkT_meet] at hn
  cases hx : blkT a b X with
  | none => exact ih1 hx
  | some X' =>
   cases hy : blkT a b Y with
   | none => exact ih2 hy
   | some Y' => rw [hx, hy] at hn; simp [meetO] at hn

/-- how many a state says -/
def cntT (m n : Nat) (X : Nat → Nat → Bool) : Nat := ((List.range m).map fun i => cntR n (fun r => !X i r)).sum
theorem cntR_top (n : Nat) (l : Nat → Bool) : cntR n l ≤ n := by
 unfold cntR
 have := List.length_filter_le (fun r => !l r) (List.range n)
 simpa using this
theorem cntT_top (m n : Nat) (X : Nat → Nat → Bool) : cntT m n X ≤ m * n := by
 unfold cntT
 induction m with
 | zero => simp
 | succ m ih =>
  rw [List.range_succ, List.map_append, List.sum_append]
  have := cntR_top n (fun r => !X m r)
  simp only [List.map_cons, List.map_nil, List.sum_cons, List.sum_nil]
  rw [Nat.succ_mul]
  omega
theorem cntT_lt {m n : Nat} {X Y : Nat → Nat → Bool} (h : ∀ i r, Y i r = true → X i r = true) (hd : ∃ i r, i < m ∧ r < n ∧ X i r = true ∧ Y i r = false) : cntT m n Y < cntT m n X := by
 unfold cntT
 have hle : ∀ i, cntR n (fun r => !Y i r) ≤ cntR n (fun r => !X i r) := fun i => cntR_le fun r _ hx => by
  cases hy : Y i r
  ·rfl
  ·rw [h i r hy] at hx; exact hx
 have hsum : ∀ k, ((List.range k).map fun i => cntR n (fun r => !Y i r)).sum ≤ ((List.range k).map fun i => cntR n (fun r => !X i r)).sum := by
  intro k
  induction k with
  | zero => simp
  | succ k ih =>
   rw [List.range_succ, List.map_append, List.map_append, List.sum_append, List.sum_append]
   have := hle k
   simp only [List.map_cons, List.map_nil, List.sum_cons, List.sum_nil]
   omega
 obtain ⟨i, r, hi, hr, hx, hy⟩ := hd
 have hlt : cntR n (fun r => !Y i r) < cntR n (fun r => !X i r) := cntR_lt (fun r _ hx => by
  cases hy : Y i r
  ·rfl
  ·rw [h i r hy] at hx; exact hx) ⟨r, hr, by rw [hx, hy]; decide⟩
 induction m with
 | zero => omega
 | succ m ih =>
  rw [List.range_succ, List.map_append, List.map_append, List.sum_append, List.sum_append]
  simp only [List.map_cons, List.map_nil, List.sum_cons, List.sum_nil]
  by_cases e : i = m
  ·subst e
   have := hsum i
   omega
  ·have := ih (by omega)
   have := hle m
   omega
def stN (m n : Nat) : Option (Nat → Nat → Bool) → Nat
 | none => m * n + 1
 | some M => cntT m n M
def setS (S : Nat → Option (Nat → Nat → Bool)) (t : Nat) (N : Nat → Nat → Bool) (i : Nat) : Option (Nat → Nat → Bool) := if i = t then some N else S i
theorem setS_at (S : Nat → Option (Nat → Nat → Bool)) (t : Nat) (N : Nat → Nat → Bool) : setS S t N t = some N := by unfold setS; rw [if_pos rfl]
theorem setS_ne (S : Nat → Option (Nat → Nat → Bool)) {t i : Nat} (N : Nat → Nat → Bool) (h : i ≠ t) : setS S t N i = S i := by unfold setS; rw [if_neg h]
def totN (nb m n : Nat) (S : Nat → Option (Nat → Nat → Bool)) : Nat := ((List.range nb).map fun i => stN m n (S i)).sum
theorem totN_lt {nb m n t : Nat} {S : Nat → Option (Nat → Nat → Bool)} {N : Nat → Nat → Bool} (ht : t < nb) (h : cntT m n N < stN m n (S t)) : totN nb m n (setS S t N) < totN nb m n S := by
 unfold totN
 induction nb with
 | zero => omega
 | succ nb ih =>
  rw [List.range_succ, List.map_append, List.map_append, List.sum_append, List.sum_append]
  simp only [List.map_cons, List.map_nil, List.sum_cons, List.sum_nil]
  by_cases e : t = nb
  ·subst e
   have h2 : ((List.range t).map fun i => stN m n (setS S t N i)) = (List.range t).map fun i => stN m n (S i) := by
    refine List.map_congr_left fun k hk => ?_
    have := List.mem_range.1 hk
    rw [setS_ne S N (by omega)]
   rw [h2, setS_at]
   show _ + cntT m n N + 0 < _
   omega
  ·have := ih (by omega)
   rw [setS_ne S N (fun h => e h.symm)]
   omega
theorem totN_top (nb m n : Nat) (S : Nat → Option (Nat → Nat → Bool)) : totN nb m n S ≤ nb * (m * n + 1) := by
 unfold totN
 induction nb with
 | zero => simp
 | succ nb ih =>
  rw [List.range_succ, List.map_append, List.sum_append]
  simp only [List.map_cons, List.map_nil, List.sum_cons, List.sum_nil]
  rw [Nat.succ_mul]
  have : stN m n (S nb) ≤ m * n + 1 := by
   cases S nb with
   | none => exact Nat.le_refl _
   | some M => exact Nat.le_succ_of_le (cntT_top m n M)
  omega

/-- where Accept's loop stands; the block i is being followed: its successors up to k are done -/
structure AccS (f : VF) (a : AL) (X0 : Nat → Nat → Bool) (S : Nat → Option (Nat → Nat → Bool)) (work : List Nat) (ex : Nat → (Nat → Nat → Bool) → Prop) : Prop where
 start : ∃ M, S 0 = some M ∧ leS M X0
 meets : ∀ i M, S i = some M → i < f.blocks.length ∧ MeetR f a X0 i M
 inw : ∀ i ∈ work, ∃ M, S i = some M
 step : ∀ i M, S i = some M → i ∉ work → ex i M ∨ ∃ X', blkT a (f.blk i) M = some X' ∧ ∀ t ∈ (f.blk i).e.to, ∃ N, S t.toNat = some N ∧ leS N X'
def partX (f : VF) (S : Nat → Option (Nat → Nat → Bool)) (i0 : Nat) (M0 X' : Nat → Nat → Bool) (k : Nat) (i : Nat) (M : Nat → Nat → Bool) : Prop := i = i0 ∧ M = M0 ∧ ∀ t ∈ (f.blk i).e.to.take k, ∃ N, S t.toNat = some N ∧ leS N X'
theorem AccS.fix {f : VF} {a : AL} {X0 : Nat → Nat → Bool} {S : Nat → Option (Nat → Nat → Bool)} (h : AccS f a X0 S [] (fun _ _ => False)) : FixS f a X0 S := by
 refine ⟨h.start, fun i M b hM hb => ?_⟩
 have hi := (h.meets i M hM).1
 have hbe : b = f.blk i := by
  have := VF.blk_get f hi
  rw [List.getElem?_eq_getElem hi] at hb
  injection hb with hb
  rw [← hb, this]
 subst hbe
 rcases h.step i M hM (by simp) with h1 | h1
 ·exact absurd h1 id
 ·exact h1
theorem AccS.init {f : VF} {a : AL} {X0 : Nat → Nat → Bool} (h0 : 0 < f.blocks.length) : AccS f a X0 (fun i => if i = 0 then some X0 else none) [0] (fun _ _ => False) := by
 refine ⟨⟨X0, rfl, fun _ _ h => h⟩, fun i M hM => ?_, fun i hi => ?_, fun i M hM hw => ?_⟩
 ·by_cases e : i = 0
  ·subst e
   simp at hM
   subst hM
   exact ⟨h0, .one .start⟩
  ·simp [e] at hM
 ·simp at hi; subst hi; exact ⟨X0, rfl⟩
 ·by_cases e : i = 0
  ·subst e; simp at hw
  ·simp [e] at hM
theorem AccS.pop {f : VF} {a : AL} {X0 : Nat → Nat → Bool} {S : Nat → Option (Nat → Nat → Bool)} {work : List Nat} {i : Nat} (h : AccS f a X0 S (work ++ [i]) (fun _ _ => False)) {M X' : Nat → Nat → Bool} (hM : S i = some M) : AccS f a X0 S work (partX f S i M X' 0) := by
 refine ⟨h.start, h.meets, fun j hj => h.inw j (List.mem_append_left _ hj), fun j N hN hw => ?_⟩
 by_cases e : j = i
 ·subst e
  rw [hM] at hN
  injection hN with hN
  exact .inl ⟨rfl, hN.symm, fun t ht => by simp at ht⟩
 ·exact .inr ((h.step j N hN (by simp [hw, e])).resolve_left id)
/-- a successor's state is there and says no more: it stays -/
theorem AccS.stay {f : VF} {a : AL} {X0 : Nat → Nat → Bool} {S : Nat → Option (Nat → Nat → Bool)} {work : List Nat} {i k : Nat} {M X' : Nat → Nat → Bool} (h : AccS f a X0 S work (partX f S i M X' k)) {t : Int} (ht : (f.blk i).e.to[k]? = some t) {N : Nat → Nat → Bool} (hN : S t.toNat = some N) (hle : leS N X') : AccS f a X0 S work (partX f S i M X' (k + 1)) := by
 refine ⟨h.start, h.meets, h.inw, fun j N' hN' hw => ?_⟩
 rcases h.step j N' hN' hw with ⟨rfl, rfl, h2⟩ | h2
 ·refine .inl ⟨rfl, rfl, fun u hu => ?_⟩
  rw [List.take_add_one, ht] at hu
  rcases List.mem_append.1 hu with hu | hu
  ·exact h2 u hu
  ·simp at hu; subst hu; exact ⟨N, hN, hle⟩
 ·exact .inr h2
/-- a successor's state is set -/
theorem AccS.put {f : VF} {a : AL} {X0 : Nat → Nat → Bool} {S : Nat → Option (Nat → Nat → Bool)} {work : List Nat} {i k : Nat} {M X' : Nat → Nat → Bool} (h : AccS f a X0 S work (partX f S i M X' k)) {t : Int} (ht : (f.blk i).e.to[k]? = some t) {N : Nat → Nat → Bool} (hlt : t.toNat < f.blocks.length) (hmeet : MeetR f a X0 t.toNat N) (hold : S t.toNat = none ∨ ∃ N0, S t.toNat = some N0 ∧ leS N N0) (hle : leS N X') : AccS f a X0 (setS S t.toNat N) (work ++ [t.toNat]) (partX f (setS S t.toNat N) i M X' (k + 1)) := by
 have hup : ∀ u N0 Z, S u = some N0 → leS N0 Z → ∃ N1, setS S t.toNat N u = some N1 ∧ leS N1 Z := fun u N0 Z hu hz => by
  by_cases e : u = t.toNat
  ·subst e
   rcases hold with h1 | ⟨N1, h1, h2⟩
   ·rw [h1] at hu; cases hu
   ·rw [h1] at hu
    injection hu with hu
    subst hu
    exact ⟨N, setS_at _ _ _, leS.trans h2 hz⟩
  ·exact ⟨N0, by rw [setS_ne S N e]; exact hu, hz⟩
 refine ⟨?_, fun j N' hN' => ?_, fun j hj => ?_, fun j N' hN' hw => ?_⟩
 ·obtain ⟨M0, h1, h2⟩ := h.start
  exact hup 0 M0 X0 h1 h2
 ·by_cases e : j = t.toNat
  ·subst e
   rw [setS_at] at hN'
   injection hN' with hN'
   subst hN'
   exact ⟨hlt, hmeet⟩
  ·rw [setS_ne S N e] at hN'
   exact h.meets j N' hN'
 ·by_cases e : j = t.toNat
  ·subst e; exact ⟨N, setS_at _ _ _⟩
  ·rw [setS_ne S N e]
   rcases List.mem_append.1 hj with hj | hj
   ·exact h.inw j hj
   ·simp at hj; exact absurd hj e
 ·have e : j ≠ t.toNat := fun e => hw (by simp [e])
  rw [setS_ne S N e] at hN'
  rcases h.step j N' hN' (fun h => hw (List.mem_append_left _ h)) with ⟨rfl, rfl, h2⟩ | ⟨X2, h2, h3⟩
  ·refine .inl ⟨rfl, rfl, fun u hu => ?_⟩
   rw [List.take_add_one, ht] at hu
   rcases List.mem_append.1 hu with hu | hu
   ·obtain ⟨N0, h3, h4⟩ := h2 u hu
    exact hup _ N0 X' h3 h4
   ·simp at hu; subst hu; exact ⟨N, setS_at _ _ _, hle⟩
  ·refine .inr ⟨X2, h2, fun u hu => ?_⟩
   obtain ⟨N0, h4, h5⟩ := h3 u hu
   exact hup _ N0 X2 h4 h5
theorem AccS.done {f : VF} {a : AL} {X0 : Nat → Nat → Bool} {S : Nat → Option (Nat → Nat → Bool)} {work : List Nat} {i k : Nat} {M X' : Nat → Nat → Bool} (h : AccS f a X0 S work (partX f S i M X' k)) (hk : (f.blk i).e.to.length ≤ k) (hx : blkT a (f.blk i) M = some X') : AccS f a X0 S work (fun _ _ => False) := by
 refine ⟨h.start, h.meets, h.inw, fun j N hN hw => .inr ?_⟩
 rcases h.step j N hN hw with ⟨rfl, rfl, h2⟩ | h2
 ·rw [List.take_of_length_le hk] at h2
  exact ⟨X', hx, h2⟩
 ·exact h2
/-- a state says only of places below m and registers below n -/
def SupS (m n : Nat) (X : Nat → Nat → Bool) : Prop := ∀ i q, X i q = true → i < m ∧ q < n
theorem meetS_le {X Y : Nat → Nat → Bool} : leS (meetS X Y) X ∧ leS (meetS X Y) Y := ⟨fun i q h => by unfold meetS at h; simp at h; exact h.1, fun i q h => by unfold meetS at h; simp at h; exact h.2⟩
theorem insX_sup {a : AL} {n m : Nat} (ha : a.Fit n m) {x : VI} (hd : 0 ≤ defV x ∧ defV x < n) {X : Nat → Nat → Bool} (h : SupS m n X) : SupS m n (insX a x X) := by
 have hc : SupS m n (callX x X) := fun i q hq => by
  unfold callX at hq
  split at hq
  ·cases hq
  ·exact h i q hq
 intro i q hq
 unfold insX at hq
 split at hq
 ·exact hc i q hq
 ·unfold defX at hq
  have hp := ha.pl (defV x).toNat (by omega)
  split at hq
  ·rename_i h1
   split at hq
   ·omega
   ·unfold alsoA at hq
    split at hq
    ·have := hc _ _ hq
     omega
    ·cases hq
  ·split at hq
   ·cases hq
   ·exact hc i q hq
theorem inssT_sup {a : AL} {n m : Nat} (ha : a.Fit n m) : ∀ {l : List VI}, (∀ x ∈ l, 0 ≤ defV x ∧ defV x < n) → ∀ {X X' : Nat → Nat → Bool}, SupS m n X → inssT a l X = some X' → SupS m n X'
 | [], _, X, X', h, e => by
  unfold inssT at e
  injection e with e
  subst e
  exact h
 | x :: l, hl, X, X', h, e => by
  unfold inssT insT at e
  cases hb : usedB a X (usesN x) with
  | false => rw [hb] at e; simp at e
  | true =>
   rw [hb] at e
   simp only [if_true, Option.bind_some] at e
   exact inssT_sup ha (fun y hy => hl y (List.mem_cons_of_mem _ hy)) (insX_sup ha (hl x (by simp)) h) e
theorem blkT_sup {a : AL} {n m : Nat} (ha : a.Fit n m) {b : VB} (hl : ∀ x ∈ b.ins, 0 ≤ defV x ∧ defV x < n) {X X' : Nat → Nat → Bool} (h : SupS m n X) (e : blkT a b X = some X') : SupS m n X' := by
 unfold blkT at e
 cases hz : inssT a b.ins X with
 | none => rw [hz] at e; simp at e
 | some Z =>
  rw [hz] at e
  simp only [Option.bind_some] at e
  split at e
  ·injection e with e
   subst e
   exact inssT_sup ha hl h hz
  ·cases e
theorem ReachS.sup {f : VF} {a : AL} {n m : Nat} (ha : a.Fit n m) (hf : ∀ b ∈ f.blocks, ∀ x ∈ b.ins, 0 ≤ defV x ∧ defV x < n) {X0 : Nat → Nat → Bool} (h0 : SupS m n X0) {i : Nat} {X : Nat → Nat → Bool} (hr : ReachS f a X0 i X) : SupS m n X := by
 induction hr with
 | start => exact h0
 | @step i X X' b t _ hb hx _ ih => exact blkT_sup ha (hf b (List.mem_of_getElem? hb)) ih hx
theorem MeetR.sup {f : VF} {a : AL} {n m : Nat} (ha : a.Fit n m) (hf : ∀ b ∈ f.blocks, ∀ x ∈ b.ins, 0 ≤ defV x ∧ defV x < n) {X0 : Nat → Nat → Bool} (h0 : SupS m n X0) {i : Nat} {X : Nat → Nat → Bool} (hr : MeetR f a X0 i X) : SupS m n X := by
 induction hr with
 | one h => exact h.sup ha hf h0
 | @and X Y _ _ ih _ => exact fun i q hq => ih i q (meetS_le.1 i q hq)

theorem RestS.toBelow {S : Nat → Prop} {w w' : World} {B : Nat} (h : RestS S w w') (hS : ∀ k, S k → B ≤ k) (hB : B ≤ w.heap.size) : Below B w w' :=
 ⟨h.os, h.tape, h.output, h.size, fun k hk => h.block k (by omega) (fun hs => by have := hS k hs; omega)⟩
theorem RestS.ofGrown {w w' : World} {row : Option Nat} (h : w.grownBy w' row) : RestS (fun k => row = some k) w w' := ⟨h.os, h.tape, h.output, h.size, fun k hk hs => h.block k hk (fun e => hs e.symm)⟩
theorem own_blkTy {w : World} {base : Nat} {e : TypeId} {size : Nat} {v : Value} {n : Nat} {l : List Value} (h : w.ownsRow base e size v n l) {g : Nat} (hg : v.ownBlock = some g) : ∃ cur, w.heap[g]? = some (.cells cur e (0, 0)) := by
 rcases h.2 with ⟨rfl, _⟩ | ⟨g1, c, cur, rfl, _, hb, _⟩
 ·simp [Value.ownBlock] at hg
 ·have e1 : g1 = g := by simpa [Value.ownBlock] using hg
  subst e1
  exact ⟨cur, hb⟩
theorem blk_noOwn {w : World} {base : Nat} {e t : TypeId} {size : Nat} {v : Value} {n : Nat} {l cs : List Value} {q : Nat} (hq : Blk w q t cs) (h : w.ownsRow base e size v n l) (hne : e ≠ t) : ¬ v.ownBlock = some q := fun hg => by
 obtain ⟨cur, hb⟩ := own_blkTy h hg
 have h2 : w.heap[q]? = _ := hq
 rw [hb] at h2
 injection h2 with h2
 injection h2 with _ h2 _
 exact hne h2
theorem HG.noOwn {w : World} {base base' : Nat} {e : TypeId} {size k G m n : Nat} {v : Value} {l : List Value} {X : Nat → Nat → Bool} {bs cp : Nat → Nat} (h : HG w base G m n X bs cp) (ho : w.ownsRow base' e size v k l) (h1 : e ≠ 4) (h2 : e ≠ 51) : ¬ v.ownBlock = some G ∧ ∀ p, p < m → ¬ v.ownBlock = some (bs p) := by
 refine ⟨blk_noOwn h.blk ho h2, fun p hp hg => ?_⟩
 obtain ⟨cur, hb⟩ := own_blkTy ho hg
 obtain ⟨cur', h3, _⟩ := h.row p hp
 rw [hb] at h3
 injection h3 with h3
 injection h3 with _ h3 _
 exact h1 h3
/-- the states in memory -/
structure StAt (w : World) (B Gs nb m n : Nat) (S : Nat → Option (Nat → Nat → Bool)) (gs : Nat → Nat) (bs cp : Nat → Nat → Nat) : Prop where
 blk : Blk w Gs 104 (rowL nb fun i => if (S i).isSome = true then .slice (some ⟨gs i, 0, none⟩) m m else .slice none 0 0)
 hg : ∀ i M, i < nb → S i = some M → HG w B (gs i) m n M (bs i) (cp i)
 ap : ∀ i j M N, i < nb → j < nb → S i = some M → S j = some N → i ≠ j → gs i ≠ gs j ∧ ∀ p q, p < m → q < m → bs i p ≠ bs j q
section
variable {w w' w0 : World} {B Gs nb m n : Nat} {S : Nat → Option (Nat → Nat → Bool)} {gs : Nat → Nat} {bs cp : Nat → Nat → Nat}
theorem StAt.rest {T : Nat → Prop} (h : StAt w B Gs nb m n S gs bs cp) (hr : RestS T w w') (hG : ¬ T Gs) (h1 : ∀ i M, i < nb → S i = some M → ¬ T (gs i) ∧ ∀ p, p < m → ¬ T (bs i p)) : StAt w' B Gs nb m n S gs bs cp :=
 ⟨Blk.of_heap h.blk (hr.block Gs (Blk.lt h.blk) hG), fun i M hi hM => (h.hg i M hi hM).restS hr (h1 i M hi hM).1 (h1 i M hi hM).2, h.ap⟩
theorem StAt.below (h : StAt w B Gs nb m n S gs bs cp) (hb : Below w.heap.size w w') : StAt w' B Gs nb m n S gs bs cp :=
 ⟨h.blk.below hb h.blk.lt, fun i M hi hM => (h.hg i M hi hM).below hb, h.ap⟩
/-- what the state t says is cut down -/
theorem StAt.meet {X : Nat → Nat → Bool} {t : Nat} {N : Nat → Nat → Bool} (h : StAt w B Gs nb m n S gs bs cp) (ht : t < nb) (hS : S t = some N) (hg : HG w' B (gs t) m n (meetS N X) (bs t) (cp t)) (hr : RestS (inB' m (bs t)) w w') : StAt w' B Gs nb m n (setS S t (meetS N X)) gs bs cp := by
 have hot := h.hg t N ht hS
 refine ⟨?_, fun i M hi hM => ?_, fun i j M M' hi hj hM hM' hne => ?_⟩
 ·refine Blk.rowCongr (Blk.of_heap h.blk (hr.block Gs (Blk.lt h.blk) (fun e => hot.blkNe h.blk (by decide) (by decide) (.inl e)))) fun i hi => ?_
  by_cases e : i = t
  ·subst e; rw [setS_at, hS]; rfl
  ·rw [setS_ne S _ e]
 ·by_cases e : i = t
  ·subst e
   rw [setS_at] at hM
   injection hM with hM
   subst hM
   exact hg
  ·rw [setS_ne S _ e] at hM
   have hoi := h.hg i M hi hM
   refine hoi.restS hr (fun ⟨p, hp, e2⟩ => (hot.row p hp).ne hoi.blk e2.symm) fun q hq ⟨p, hp, e2⟩ => ?_
   exact (h.ap i t M N hi ht hM hS e).2 q p hq hp e2
 ·by_cases e : i = t <;> by_cases e2 : j = t
  ·omega
  ·subst e
   rw [setS_ne S _ e2] at hM'
   exact h.ap i j N M' hi hj hS hM' hne
  ·subst e2
   rw [setS_ne S _ e] at hM
   exact h.ap i j M N hi hj hM hS hne
  ·rw [setS_ne S _ e] at hM
   rw [setS_ne S _ e2] at hM'
   exact h.ap i j M M' hi hj hM hM' hne
/-- a state is put in the row -/
theorem StAt.put {X : Nat → Nat → Bool} {t g base : Nat} {bs' cp' : Nat → Nat} (h : StAt w B Gs nb m n S gs bs cp) (ht : t < nb) (hS : S t = none) (hg : HG w base g m n X bs' cp') (hB : B ≤ base) (hfr : ∀ i M, i < nb → S i = some M → gs i < base ∧ ∀ p, p < m → bs i p < base) :
  StAt (w.setCell ⟨Gs, t, none⟩ (.slice (some ⟨g, 0, none⟩) m m)) B Gs nb m n (setS S t X) (fun i => if i = t then g else gs i) (fun i => if i = t then bs' else bs i) (fun i => if i = t then cp' else cp i) := by
 have hk : ∀ {b2 G2 : Nat} {Z : Nat → Nat → Bool} {bz cz : Nat → Nat}, HG w b2 G2 m n Z bz cz → HG (w.setCell ⟨Gs, t, none⟩ (.slice (some ⟨g, 0, none⟩) m m)) b2 G2 m n Z bz cz := fun hz =>
  hz.restS (S := fun k => k = Gs) (RestS.set (S := fun k => k = Gs) (RestS.refl _ w) (p := ⟨Gs, t, none⟩) rfl _) (fun e => hz.blkNe h.blk (by decide) (by decide) (.inr e.symm)) (fun i hi e => hz.blkNe h.blk (by decide) (by decide) (.inl ⟨i, hi, e.symm⟩))
 refine ⟨?_, fun i M hi hM => ?_, fun i j M M' hi hj hM hM' hne => ?_⟩
 ·refine Blk.rowCongr (Blk.rowSet h.blk t _) fun i hi => ?_
  by_cases e : i = t
  ·subst e; simp [setS_at]
  ·simp [e, setS_ne S _ e]
 ·by_cases e : i = t
  ·subst e
   rw [setS_at] at hM
   injection hM with hM
   subst hM
   simp only [if_true]
   have := hk hg
   exact ⟨this.blk, this.row, this.inj, Nat.le_trans hB this.lo.1, fun q hq => Nat.le_trans hB (this.lo.2 q hq)⟩
  ·rw [setS_ne S _ e] at hM
   simp only [e, if_false]
   exact hk (h.hg i M hi hM)
 ·by_cases e : i = t <;> by_cases e2 : j = t
  ·omega
  ·rw [setS_ne S _ e2] at hM'
   have := hfr j M' hj hM'
   simp only [e, e2, if_true, if_false]
   refine ⟨fun e3 => ?_, fun p q hp hq e3 => ?_⟩
   ·have := hg.lo.1; omega
   ·have h1 := hg.lo.2 p hp; have h2 := this.2 q hq; omega
  ·rw [setS_ne S _ e] at hM
   have := hfr i M hi hM
   simp only [e, e2, if_true, if_false]
   refine ⟨fun e3 => ?_, fun p q hp hq e3 => ?_⟩
   ·have := hg.lo.1; omega
   ·have h1 := hg.lo.2 q hq; have h2 := this.2 p hp; omega
  ·rw [setS_ne S _ e] at hM
   rw [setS_ne S _ e2] at hM'
   simp only [e, e2, if_false]
   exact h.ap i j M M' hi hj hM hM' hne
end
def fC (f : VF) : List Value := [.int .i64 f.name, .slice f.pa f.pn f.pc, .int .i64 f.regs, .slice f.sa f.sn f.sc]
/-- Accept's memory -/
structure AccI (w0 w : World) (pf cb Gs nb m n : Nat) (f : VF) (a : AL) (S : Nat → Option (Nat → Nat → Bool)) (gs : Nat → Nat) (bs cp : Nat → Nat → Nat) (work : List Nat) (wv : Value) : Prop where
 be : Below w0.heap.size w0 w
 bf : Blk w pf 25 (fC f)
 chk : ChkAt w cb f a
 st : StAt w w0.heap.size Gs nb m n S gs bs cp
 wk : w.ownsRow w0.heap.size 3 1 wv work.length (work.map fun (i : Nat) => Value.int .i64 (i : Int))
section
variable {w0 w w' : World} {pf cb Gs nb m n : Nat} {f : VF} {a : AL} {S : Nat → Option (Nat → Nat → Bool)} {gs : Nat → Nat} {bs cp : Nat → Nat → Nat} {work : List Nat} {wv : Value}
theorem AccI.below (h : AccI w0 w pf cb Gs nb m n f a S gs bs cp work wv) (hb : Below w.heap.size w w') : AccI w0 w' pf cb Gs nb m n f a S gs bs cp work wv :=
 ⟨h.be.trans (hb.mono h.be.size), h.bf.below hb h.bf.lt, Blk.below h.chk hb (Blk.lt h.chk), h.st.below hb, ownG_below h.wk hb⟩
theorem AccI.meet {X : Nat → Nat → Bool} {t : Nat} {N : Nat → Nat → Bool} (h : AccI w0 w pf cb Gs nb m n f a S gs bs cp work wv) (ht : t < nb) (hS : S t = some N) (hg : HG w' w0.heap.size (gs t) m n (meetS N X) (bs t) (cp t)) (hr : RestS (inB' m (bs t)) w w') : AccI w0 w' pf cb Gs nb m n f a (setS S t (meetS N X)) gs bs cp work wv := by
 have hot := h.st.hg t N ht hS
 refine ⟨h.be.trans (hr.toBelow (fun k ⟨i, hi, e⟩ => by rw [e]; exact hot.lo.2 i hi) h.be.size), ?_, ?_, h.st.meet ht hS hg hr, ?_⟩
 ·exact Blk.of_heap h.bf (hr.block _ (Blk.lt h.bf) (fun e => hot.blkNe h.bf (by decide) (by decide) (.inl e)))
 ·exact Blk.of_heap h.chk (hr.block _ (Blk.lt h.chk) (fun e => hot.blkNe h.chk (by decide) (by decide) (.inl e)))
 ·refine ownG_kept h.wk fun g hgo => hr.block g (h.wk.lt g hgo).2 fun ⟨i, hi, e⟩ => ?_
  exact (hot.noOwn h.wk (by decide) (by decide)).2 i hi (by rw [hgo, e])
theorem AccI.put {X : Nat → Nat → Bool} {t g base : Nat} {bs' cp' : Nat → Nat} (h : AccI w0 w pf cb Gs nb m n f a S gs bs cp work wv) (hGs : w0.heap.size ≤ Gs) (ht : t < nb) (hS : S t = none) (hg : HG w base g m n X bs' cp') (hB : w0.heap.size ≤ base) (hfr : ∀ i M, i < nb → S i = some M → gs i < base ∧ ∀ p, p < m → bs i p < base) :
  AccI w0 (w.setCell ⟨Gs, t, none⟩ (.slice (some ⟨g, 0, none⟩) m m)) pf cb Gs nb m n f a (setS S t X) (fun i => if i = t then g else gs i) (fun i => if i = t then bs' else bs i) (fun i => if i = t then cp' else cp i) work wv := by
 refine ⟨h.be.setCell (p := ⟨Gs, t, none⟩) hGs _, ?_, ?_, h.st.put ht hS hg hB hfr, ownG_other (a := ⟨Gs, t, none⟩) h.wk (blk_noOwn h.st.blk h.wk (by decide)) _⟩
 ·exact Blk.setOther h.bf (a := ⟨Gs, t, none⟩) (fun e => by
   have h1 : w.heap[pf]? = _ := h.bf
   have h2 : w.heap[Gs]? = _ := h.st.blk
   rw [show pf = Gs from e, h2] at h1
   injection h1 with h1
   injection h1 with _ h1 _
   exact absurd h1 (by decide)) _
 ·exact Blk.setOther h.chk (a := ⟨Gs, t, none⟩) (fun e => by
   have h1 : w.heap[cb]? = _ := h.chk
   have h2 : w.heap[Gs]? = _ := h.st.blk
   rw [show cb = Gs from e, h2] at h1
   injection h1 with h1
   injection h1 with _ h1 _
   exact absurd h1 (by decide)) _
theorem AccI.grow {work' : List Nat} {wv' : Value} (h : AccI w0 w pf cb Gs nb m n f a S gs bs cp work wv) (hown : w'.ownsRow w0.heap.size 3 1 wv' work'.length (work'.map fun (i : Nat) => Value.int .i64 (i : Int))) (hgr : w.grownBy w' wv.ownBlock) : AccI w0 w' pf cb Gs nb m n f a S gs bs cp work' wv' := by
 have hr := RestS.ofGrown hgr
 refine ⟨h.be.trans (hr.toBelow (fun k e => (h.wk.lt k e).1) h.be.size), ?_, ?_, ?_, hown⟩
 ·exact Blk.of_heap h.bf (hr.block _ (Blk.lt h.bf) (blk_noOwn h.bf h.wk (by decide)))
 ·exact Blk.of_heap h.chk (hr.block _ (Blk.lt h.chk) (blk_noOwn h.chk h.wk (by decide)))
 ·exact h.st.rest hr (blk_noOwn h.st.blk h.wk (by decide)) fun i M hi hM => (h.st.hg i M hi hM).noOwn h.wk (by decide) (by decide)
end
/-- what holds at the beginning: the parameters in their places -/
def startX (a : AL) (ps : List Nat) : Nat → Nat → Bool := ps.foldl (fun X r => defX X (plc 11 a r).toNat r (fun _ => false)) (fun _ _ => false)
theorem startX_snoc (a : AL) (ps : List Nat) (r : Nat) : startX a (ps ++ [r]) = defX (startX a ps) (plc 11 a r).toNat r (fun _ => false) := by unfold startX; rw [List.foldl_append]; rfl
theorem foldX_sup {a : AL} {n m : Nat} (ha : a.Fit n m) : ∀ (ps : List Nat) (X : Nat → Nat → Bool), SupS m n X → (∀ r ∈ ps, r < n) → SupS m n (ps.foldl (fun X r => defX X (plc 11 a r).toNat r (fun _ => false)) X)
 | [], X, h, _ => h
 | r :: ps, X, h, hps => by
  refine foldX_sup ha ps _ (fun i q hq => ?_) (fun x hx => hps x (List.mem_cons_of_mem _ hx))
  have hr := hps r (by simp)
  have hp := ha.pl r hr
  have hq : defX X (plc 11 a r).toNat r (fun _ => false) i q = true := hq
  unfold defX at hq
  split at hq
  ·split at hq
   ·omega
   ·cases hq
  ·split at hq
   ·cases hq
   ·exact h i q hq
theorem startX_sup {a : AL} {n m : Nat} (ha : a.Fit n m) {ps : List Nat} (h : ∀ r ∈ ps, r < n) : SupS m n (startX a ps) := foldX_sup ha ps _ (fun i q h => by cases h) h
end Go.Proofs.YtdnpoomagjcpfaaGreat
