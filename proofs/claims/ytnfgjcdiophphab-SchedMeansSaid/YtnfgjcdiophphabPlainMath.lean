/- Straight code on registers and a memory: what does not depend on each other commutes. No function of the program. -/
import Derived.Test.YtnfgjcdiophphabSchedMath
namespace Go.Proofs.Ytnfgjcdiophphab
open Go.RowKit
set_option linter.unusedVariables false
set_option linter.unusedSimpArgs false

def shlN : Nat → Int → Int
  | 0, a => a
  | k + 1, a => shlN k (wrap32 (a + a))
def sarN : Nat → Int → Int
  | 0, a => a
  | k + 1, a => sarN k ((a - a % 2) / 2)
def mathF (op a b n : Int) : Option Int :=
  if op = 1 then some (wrap32 (a + b)) else if op = 2 then some (wrap32 (a - b)) else if op = 3 then some (wrap32 (a * b))
  else if op = 4 ∨ op = 5 then (if b = 0 then none else if op = 4 then some (wrap32 (a.tdiv b)) else some (wrap32 (a - a.tdiv b * b)))
  else if op = 6 then some (if a < b then 1 else 0) else if op = 7 then some (if a = b then 1 else 0) else if op = 8 then some (wrap32 (a + n))
  else if op = 9 then some (shlN n.toNat a) else if op = 10 then some (sarN n.toNat a) else some n
def goodAddr (m : List Int) (x : Int) : Prop := x % 2 = 0 ∧ 2 ≤ x ∧ x / 2 < (m.length : Int)
instance (m : List Int) (x : Int) : Decidable (goodAddr m x) := by unfold goodAddr; infer_instance
def getM (m : List Int) (x : Int) : Option Int := if goodAddr m x then some (m.getD (x / 2).toNat 0) else none
def setM (m : List Int) (x v : Int) : Option (List Int) := if goodAddr m x then some (m.set (x / 2).toNat v) else none

structure PS where
  r : Nat → Int
  m : List Int
  p : List Int
def eff (op n a b : Int) (m p : List Int) : Option (Int × List Int × List Int) :=
  if op = 12 then (getM m (a + n)).map (fun v => (v, m, p))
  else if op = 13 then (setM m (a + n) b).map (fun m' => (0, m', p))
  else if op = 23 then (if a % 2 = 1 then some (0, m, p ++ [(a - 1) / 2]) else none)
  else (mathF op a b n).map (fun v => (v, m, p))
def updR (r : Nat → Int) (d : Int) (v : Int) : Nat → Int := if d = 0 then r else fun i => if i = d.toNat then v else r i
def stepP (o : Op5) (s : PS) : Option PS := (eff o.op o.n (s.r o.a.toNat) (s.r o.b.toNat) s.m s.p).map fun x => ⟨updR s.r (wrOf o.op o.d) x.1, x.2.1, x.2.2⟩
def execP : List Op5 → PS → Option PS
  | [], s => some s
  | o :: l, s => (stepP o s).bind (execP l)
theorem execP_append (l l' : List Op5) (s : PS) : execP (l ++ l') s = (execP l s).bind (execP l') := by
  induction l generalizing s with
  | nil => rfl
  | cons o l ih =>
    show (stepP o s).bind (execP (l ++ l')) = ((stepP o s).bind (execP l)).bind (execP l')
    cases stepP o s with
    | none => rfl
    | some t => exact ih t

def OkP (o : Op5) : Prop := (1 ≤ o.op ∧ o.op ≤ 13 ∨ o.op = 23) ∧ (0 ≤ o.d ∧ o.d ≤ 15) ∧ (0 ≤ o.a ∧ o.a ≤ 15) ∧ (0 ≤ o.b ∧ o.b ≤ 15)
theorem eff_congr {op n a a' b b' : Int} {m p : List Int} (h : 1 ≤ op ∧ op ≤ 13) (ha : op ≠ 11 → a = a') (hb : op ≤ 7 ∨ op = 13 → b = b') : eff op n a b m p = eff op n a' b' m p := by
  by_cases h11 : op = 11
  · subst h11; rfl
  · obtain rfl := ha h11
    by_cases hB : op ≤ 7 ∨ op = 13
    · rw [hb hB]
    · have hs : op = 8 ∨ op = 9 ∨ op = 10 ∨ op = 12 := by omega
      rcases hs with rfl | rfl | rfl | rfl <;> rfl
theorem eff_plain {op : Int} (n a b : Int) (m p : List Int) (h : op ≠ 12 ∧ op ≠ 13 ∧ op ≠ 23) : eff op n a b m p = (mathF op a b n).map (fun v => (v, m, p)) := by
  unfold eff
  rw [if_neg h.1, if_neg h.2.1, if_neg h.2.2]
theorem updR_ne {r : Nat → Int} {d v i : Int} (hd : 0 ≤ d) (hi : 0 ≤ i) (h : d = 0 ∨ i ≠ d) : updR r d v i.toNat = r i.toNat := by
  unfold updR
  by_cases e : d = 0
  · rw [if_pos e]
  · rw [if_neg e]
    show (if i.toNat = d.toNat then v else r i.toNat) = _
    rw [if_neg (by omega)]
theorem updR_comm {r : Nat → Int} {d d' v v' : Int} (hd : 0 ≤ d) (hd' : 0 ≤ d') (h : d = 0 ∨ d ≠ d') : updR (updR r d v) d' v' = updR (updR r d' v') d v := by
  unfold updR
  by_cases e : d = 0
  · rw [if_pos e, if_pos e]
  · by_cases e' : d' = 0
    · rw [if_neg e, if_pos e', if_neg e, if_pos e']
    · rw [if_neg e, if_neg e', if_neg e', if_neg e]
      funext i
      by_cases h1 : i = d'.toNat
      · rw [if_pos h1]
        show _ = if i = d.toNat then v else if i = d'.toNat then v' else r i
        rw [if_neg (by omega), if_pos h1]
      · rw [if_neg h1]
        show (if i = d.toNat then v else r i) = if i = d.toNat then v else if i = d'.toNat then v' else r i
        rw [if_neg h1]
theorem wrOf_le {o : Op5} (h : OkP o) : 0 ≤ wrOf o.op o.d := (wrOf_bd h.2.1).1
/-- the operands of y are as they were before x -/
theorem eff_after {x y : Op5} {r : Nat → Int} {v : Int} {m p : List Int} (hx : OkP x) (hy : OkP y) (h13 : y.op ≤ 13) (hd : (readsOf y.op y.a y.b).contains (wrOf x.op x.d) = false) :
    eff y.op y.n (updR r (wrOf x.op x.d) v y.a.toNat) (updR r (wrOf x.op x.d) v y.b.toNat) m p = eff y.op y.n (r y.a.toNat) (r y.b.toNat) m p := by
  have hw := wrOf_le hx
  have hnot : ∀ i, i ∈ rawReads y.op y.a y.b → wrOf x.op x.d = 0 ∨ i ≠ wrOf x.op x.d := fun i hi => by
    by_cases e : wrOf x.op x.d = 0
    · exact .inl e
    · right
      intro e2
      have h1 : wrOf x.op x.d ∈ readsOf y.op y.a y.b := by
        unfold readsOf nz
        rw [← e2]
        refine List.mem_filter.2 ⟨hi, ?_⟩
        rw [bne_iff_ne]
        exact fun e3 => e (e2 ▸ e3)
      rw [← List.contains_iff_mem, hd] at h1
      exact absurd h1 (by simp)
  have hop : 1 ≤ y.op ∧ y.op ≤ 13 := ⟨by have := hy.1; omega, h13⟩
  refine eff_congr hop (fun h11 => updR_ne hw hy.2.2.1.1 (hnot y.a ?_)) (fun hB => updR_ne hw hy.2.2.2.1 (hnot y.b ?_))
  · unfold rawReads
    rw [if_neg (by omega), if_neg (by omega)]
    by_cases h2 : (1 ≤ y.op ∧ y.op ≤ 7) ∨ y.op = 13 ∨ y.op = 15 ∨ y.op = 16 ∨ y.op = 17 ∨ y.op = 18
    · rw [if_pos h2]; simp
    · rw [if_neg h2, if_pos (by omega)]; simp
  · unfold rawReads
    rw [if_neg (by omega), if_neg (by omega), if_pos (by omega)]
    simp
theorem memoryB_not {op : Int} (h : memoryB op = false) : op ≠ 12 ∧ op ≠ 13 := by
  unfold memoryB at h
  simp only [Bool.or_eq_false_iff, beq_eq_false_iff_ne] at h
  exact h
theorem step_comm {x y : Op5} {s s1 s2 : PS} (hx : OkP x) (hy : OkP y) (hd : depOf x.op x.d x.a x.b y.op y.d y.a y.b = false) (h1 : stepP x s = some s1) (h2 : stepP y s1 = some s2) : ∃ t, stepP y s = some t ∧ stepP x t = some s2 := by
  unfold depOf at hd
  simp only [Bool.or_eq_false_iff, Bool.and_eq_false_iff] at hd
  obtain ⟨⟨⟨⟨⟨b1, b2⟩, hw⟩, hr1⟩, hr2⟩, hmm⟩ := hd
  have hb : ∀ op, barrierB op = false → op ≠ 23 := fun op h e => by subst e; simp [barrierB] at h
  have nx := hb _ b1
  have ny := hb _ b2
  have hx13 : x.op ≤ 13 := by have := hx.1; omega
  have hy13 : y.op ≤ 13 := by have := hy.1; omega
  have hww : wrOf x.op x.d = 0 ∨ wrOf x.op x.d ≠ wrOf y.op y.d := by
    rcases hw with h | h
    · left; simpa using h
    · right; simpa using h
  have hwx := wrOf_le hx
  have hwy := wrOf_le hy
  unfold stepP at h1 h2
  obtain ⟨⟨vx, mx, px⟩, e1, rfl⟩ := Option.map_eq_some_iff.1 h1
  obtain ⟨⟨vy, my, py⟩, e2, rfl⟩ := Option.map_eq_some_iff.1 h2
  simp only at e2
  rw [eff_after hx hy hy13 hr1] at e2
  by_cases hmy : memoryB y.op = false
  · obtain ⟨n1, n2⟩ := memoryB_not hmy
    rw [eff_plain _ _ _ _ _ ⟨n1, n2, ny⟩] at e2
    obtain ⟨v, e3, e4⟩ := Option.map_eq_some_iff.1 e2
    simp only [Prod.mk.injEq] at e4
    obtain ⟨rfl, rfl, rfl⟩ := e4
    refine ⟨⟨updR s.r (wrOf y.op y.d) v, s.m, s.p⟩, ?_, ?_⟩
    · unfold stepP
      rw [eff_plain _ _ _ _ _ ⟨n1, n2, ny⟩, e3]
      rfl
    · unfold stepP
      simp only
      rw [eff_after hy hx hx13 hr2, e1]
      simp only [Option.map_some, Option.some.injEq, PS.mk.injEq, and_true]
      exact (updR_comm hwx hwy hww).symm
  · have hmx : memoryB x.op = false := by
      rcases hmm with h | h
      · exact h
      · exact absurd h hmy
    obtain ⟨n1, n2⟩ := memoryB_not hmx
    rw [eff_plain _ _ _ _ _ ⟨n1, n2, nx⟩] at e1
    obtain ⟨v, e3, e4⟩ := Option.map_eq_some_iff.1 e1
    simp only [Prod.mk.injEq] at e4
    obtain ⟨rfl, rfl, rfl⟩ := e4
    refine ⟨⟨updR s.r (wrOf y.op y.d) vy, my, py⟩, ?_, ?_⟩
    · unfold stepP
      rw [e2]
      rfl
    · unfold stepP
      simp only
      rw [eff_after hy hx hx13 hr2, eff_plain _ _ _ _ _ ⟨n1, n2, nx⟩, e3]
      simp only [Option.map_some, Option.some.injEq, PS.mk.injEq, and_true]
      exact (updR_comm hwx hwy hww).symm

section
variable {os : List Op5}
/-- an instruction goes behind those that do not depend on it -/
theorem exec_behind {a : Nat} (hoa : OkP (opAt0 os a)) : ∀ (bs : List Nat), (∀ b ∈ bs, OkP (opAt0 os b)) → (∀ b ∈ bs, depB os a b = false) → ∀ {s t : PS}, execP ((a :: bs).map (opAt0 os)) s = some t → execP ((bs ++ [a]).map (opAt0 os)) s = some t
  | [], _, _, s, t, h => h
  | b :: bs, hok, hd, s, t, h => by
    simp only [List.map_cons, execP] at h
    obtain ⟨s1, h1, h2⟩ := Option.bind_eq_some_iff.1 h
    obtain ⟨s2, h3, h4⟩ := Option.bind_eq_some_iff.1 h2
    obtain ⟨u, h5, h6⟩ := step_comm hoa (hok b List.mem_cons_self) (hd b List.mem_cons_self) h1 h3
    show (stepP (opAt0 os b) s).bind (execP ((bs ++ [a]).map (opAt0 os))) = some t
    rw [h5]
    refine exec_behind hoa bs (fun c hc => hok c (List.mem_cons_of_mem _ hc)) (fun c hc => hd c (List.mem_cons_of_mem _ hc)) ?_
    show (stepP (opAt0 os a) u).bind (execP (bs.map (opAt0 os))) = some t
    rw [h6]
    exact h4
theorem exec_perm : ∀ (s out : List Nat), (∀ i ∈ s, OkP (opAt0 os i)) → s.Pairwise (· < ·) → out.Nodup → (∀ x, x ∈ out ↔ x ∈ s) → out.Pairwise (fun b x => x < b → depB os x b = false) → ∀ {st t : PS}, execP (s.map (opAt0 os)) st = some t → execP (out.map (opAt0 os)) st = some t
  | [], out, _, _, _, hm, _, st, t, h => by
    have : out = [] := List.eq_nil_iff_forall_not_mem.2 fun x hx => by have := (hm x).1 hx; simp at this
    rw [this]; exact h
  | a :: s, out, hok, hs, hn, hm, ht, st, t, h => by
    obtain ⟨l1, l2, rfl⟩ := List.append_of_mem ((hm a).2 List.mem_cons_self)
    obtain ⟨hs1, hs2⟩ := List.pairwise_cons.1 hs
    rw [List.nodup_append] at hn
    obtain ⟨n1, n2, n3⟩ := hn
    obtain ⟨n4, n5⟩ := List.nodup_cons.1 n2
    have hal : a ∉ l1 := fun ha => n3 a ha a List.mem_cons_self rfl
    have hn' : (l1 ++ l2).Nodup := by
      rw [List.nodup_append]
      exact ⟨n1, n5, fun x hx y hy => n3 x hx y (List.mem_cons_of_mem _ hy)⟩
    have hm' : ∀ x, x ∈ l1 ++ l2 ↔ x ∈ s := fun x => by
      have := hm x
      simp only [List.mem_append, List.mem_cons] at this ⊢
      have has : a ∉ s := fun ha => Nat.lt_irrefl _ (hs1 a ha)
      constructor
      · intro hx
        have hxa : x ≠ a := by
          rintro rfl
          rcases hx with hx | hx
          · exact hal hx
          · exact n4 hx
        rcases hx with hx | hx
        · exact (this.1 (.inl hx)).resolve_left hxa
        · exact (this.1 (.inr (.inr hx))).resolve_left hxa
      · intro hx
        have hxa : x ≠ a := fun e => has (e ▸ hx)
        rcases this.2 (.inr hx) with h1 | h1 | h1
        · exact .inl h1
        · exact absurd h1 hxa
        · exact .inr h1
    rw [List.pairwise_append] at ht
    obtain ⟨t1, t2, t3⟩ := ht
    obtain ⟨t4, t5⟩ := List.pairwise_cons.1 t2
    have ht' : (l1 ++ l2).Pairwise (fun b x => x < b → depB os x b = false) := by
      rw [List.pairwise_append]
      exact ⟨t1, t5, fun x hx y hy => t3 x hx y (List.mem_cons_of_mem _ hy)⟩
    simp only [List.map_cons, execP] at h
    obtain ⟨s1, h1, h2⟩ := Option.bind_eq_some_iff.1 h
    have h3 := exec_perm s (l1 ++ l2) (fun i hi => hok i (List.mem_cons_of_mem _ hi)) hs2 hn' hm' ht' h2
    rw [List.map_append, execP_append] at h3
    obtain ⟨s2, h4, h5⟩ := Option.bind_eq_some_iff.1 h3
    have h6 : execP ((a :: l1).map (opAt0 os)) st = some s2 := by
      show (stepP (opAt0 os a) st).bind (execP (l1.map (opAt0 os))) = some s2
      rw [h1]; exact h4
    have h7 := exec_behind (hok a List.mem_cons_self) l1 (fun b hb => hok b (List.mem_cons_of_mem _ ((hm' b).1 (List.mem_append_left _ hb)))) (fun b hb => t3 b hb a List.mem_cons_self (hs1 b ((hm' b).1 (List.mem_append_left _ hb)))) h6
    have e : (l1 ++ a :: l2) = (l1 ++ [a]) ++ l2 := by simp
    rw [e, List.map_append, execP_append, h7]
    exact h5
end
theorem Ord.before {D : Nat → Nat → Bool} {n : Nat} {out : List Nat} (h : Ord D n out) : out.Pairwise (fun b x => x < b → D x b = false) := by
  rw [List.pairwise_iff_getElem]
  intro i j hi hj hij hlt
  refine Classical.byContradiction fun hne => ?_
  have hd : D out[j] out[i] = true := by simpa using hne
  have h1 := (h.top out[j] out[i] (List.getElem_mem hi) hlt hd).2
  have h2 : ∀ k (hk : k < out.length), out.idxOf out[k] = k := fun k hk => by
    have h3 := List.idxOf_lt_length_of_mem (List.getElem_mem hk)
    have h4 : out[out.idxOf out[k]] = out[k] := List.getElem_idxOf h3
    refine Classical.byContradiction fun hn => ?_
    rcases Nat.lt_or_ge (out.idxOf out[k]) k with h5 | h5
    · exact List.pairwise_iff_getElem.mp h.nd _ k h3 hk h5 h4
    · exact List.pairwise_iff_getElem.mp h.nd k _ hk h3 (by omega) h4.symm
  rw [h2 i hi, h2 j hj] at h1
  omega
theorem range_sorted : ∀ n : Nat, (List.range n).Pairwise (· < ·)
  | n => by
    rw [List.pairwise_iff_getElem]
    intro i j hi hj hij
    simpa using hij
/-- what is scheduled does the same -/
theorem sched_same {os : List Op5} {n : Nat} {out : List Nat} (hok : ∀ o ∈ os, OkP o) (hn : os.length = n) (h : Ord (depB os) n out) (hl : out.length = n) {s t : PS} (he : execP os s = some t) : execP (out.map (opAt0 os)) s = some t := by
  have hall := h.all hl
  refine exec_perm (List.range n) out (fun i hi => ?_) (range_sorted n) h.nd (fun x => ⟨fun hx => List.mem_range.2 (h.lt x hx), fun hx => hall x (List.mem_range.1 hx)⟩) h.before ?_
  · have hi' := List.mem_range.1 hi
    rw [opAt0_get (by omega)]
    exact hok _ (List.getElem_mem _)
  · have e : (List.range n).map (opAt0 os) = os := by
      apply List.ext_getElem?
      intro i
      rw [List.getElem?_map]
      by_cases hi : i < n
      · rw [List.getElem?_range hi, List.getElem?_eq_getElem (by omega)]
        simp [opAt0_get (show i < os.length by omega)]
      · rw [List.getElem?_eq_none (by simpa using hi), List.getElem?_eq_none (by omega)]
        rfl
    rw [e]
    exact he
end Go.Proofs.Ytnfgjcdiophphab
