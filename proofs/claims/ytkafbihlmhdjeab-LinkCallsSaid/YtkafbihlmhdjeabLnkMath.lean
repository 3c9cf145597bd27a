/- Classes of equal functions: the greatest fixed point, and how two loops come to it. No program. -/
import Derived.Test.YtkafbihlmhdjeabLnk
namespace Go.Proofs.Ytkafbihlmhdjeab
open Go.RowKit
set_option linter.unusedVariables false

def itKey (i : Item) : Int × Int × Int × Int × Int × Int := (i.op, i.d, i.a, i.b, i.n, i.tg)
def lmKey (m : LM) : Int × Bool × List Int × Int := (m.item, m.after, m.slots, m.regs)
def callsEq (X : Nat → Nat → Bool) : List LC → List LC → Bool
  | [], [] => true
  | c :: cs, d :: ds => (c.item == d.item) && (X c.fn.toNat d.fn.toNat && callsEq X cs ds)
  | _, _ => false
/-- two functions are the same as far as X tells functions apart -/
def sameL (X : Nat → Nat → Bool) (a b : LF) : Bool := (a.size == b.size) && (decide (a.its.map itKey = b.its.map itKey) && (decide (a.maps.map lmKey = b.maps.map lmKey) && callsEq X a.calls b.calls))
def FnsIn (n : Nat) (cs : List LC) : Prop := ∀ c ∈ cs, 0 ≤ c.fn ∧ c.fn < n

theorem callsEq_mono {X Y : Nat → Nat → Bool} {n : Nat} (h : ∀ i k, i < n → k < n → X i k = true → Y i k = true) : ∀ cs ds : List LC, FnsIn n cs → FnsIn n ds → callsEq X cs ds = true → callsEq Y cs ds = true
  | [], [], _, _, _ => rfl
  | [], _ :: _, _, _, h => by simp [callsEq] at h
  | _ :: _, [], _, _, h => by simp [callsEq] at h
  | c :: cs, d :: ds, h1, h2, he => by
    simp only [callsEq, Bool.and_eq_true] at he ⊢
    have a1 := h1 c (by simp)
    have a2 := h2 d (by simp)
    exact ⟨he.1, h _ _ (by omega) (by omega) he.2.1, callsEq_mono h cs ds (fun x hx => h1 x (by simp [hx])) (fun x hx => h2 x (by simp [hx])) he.2.2⟩
theorem callsEq_refl {X : Nat → Nat → Bool} {n : Nat} (h : ∀ i, i < n → X i i = true) : ∀ cs : List LC, FnsIn n cs → callsEq X cs cs = true
  | [], _ => rfl
  | c :: cs, h1 => by
    have a1 := h1 c (by simp)
    simp only [callsEq, Bool.and_eq_true, beq_self_eq_true, true_and]
    exact ⟨h _ (by omega), callsEq_refl h cs (fun x hx => h1 x (by simp [hx]))⟩
theorem callsEq_symm {X : Nat → Nat → Bool} : ∀ cs ds : List LC, callsEq X cs ds = true → callsEq (fun i k => X k i) ds cs = true
  | [], [], _ => rfl
  | [], _ :: _, h => by simp [callsEq] at h
  | _ :: _, [], h => by simp [callsEq] at h
  | c :: cs, d :: ds, he => by
    simp only [callsEq, Bool.and_eq_true, beq_iff_eq] at he ⊢
    exact ⟨he.1.symm, he.2.1, callsEq_symm cs ds he.2.2⟩
theorem callsEq_trans {X Y Z : Nat → Nat → Bool} {n : Nat} (h : ∀ i j k, i < n → j < n → k < n → X i j = true → Y j k = true → Z i k = true) : ∀ cs ds es : List LC, FnsIn n cs → FnsIn n ds → FnsIn n es → callsEq X cs ds = true → callsEq Y ds es = true → callsEq Z cs es = true
  | [], [], [], _, _, _, _, _ => rfl
  | [], _ :: _, _, _, _, _, h, _ => by simp [callsEq] at h
  | _ :: _, [], _, _, _, _, h, _ => by simp [callsEq] at h
  | [], [], _ :: _, _, _, _, _, h => by simp [callsEq] at h
  | _ :: _, _ :: _, [], _, _, _, _, h => by simp [callsEq] at h
  | c :: cs, d :: ds, e :: es, h1, h2, h3, he, hf => by
    simp only [callsEq, Bool.and_eq_true, beq_iff_eq] at he hf ⊢
    have a1 := h1 c (by simp)
    have a2 := h2 d (by simp)
    have a3 := h3 e (by simp)
    exact ⟨he.1.trans hf.1, h _ _ _ (by omega) (by omega) (by omega) he.2.1 hf.2.1, callsEq_trans h cs ds es (fun x hx => h1 x (by simp [hx])) (fun x hx => h2 x (by simp [hx])) (fun x hx => h3 x (by simp [hx])) he.2.2 hf.2.2⟩
theorem sameL_iff {X : Nat → Nat → Bool} {a b : LF} : sameL X a b = true ↔ a.size = b.size ∧ a.its.map itKey = b.its.map itKey ∧ a.maps.map lmKey = b.maps.map lmKey ∧ callsEq X a.calls b.calls = true := by
  unfold sameL
  simp only [Bool.and_eq_true, beq_iff_eq, decide_eq_true_eq]
theorem sameL_mono {X Y : Nat → Nat → Bool} {n : Nat} {a b : LF} (h : ∀ i k, i < n → k < n → X i k = true → Y i k = true) (ha : FnsIn n a.calls) (hb : FnsIn n b.calls) (hs : sameL X a b = true) : sameL Y a b = true := by
  rw [sameL_iff] at hs ⊢
  exact ⟨hs.1, hs.2.1, hs.2.2.1, callsEq_mono h _ _ ha hb hs.2.2.2⟩
theorem sameL_refl {X : Nat → Nat → Bool} {n : Nat} {a : LF} (h : ∀ i, i < n → X i i = true) (ha : FnsIn n a.calls) : sameL X a a = true := by
  rw [sameL_iff]; exact ⟨rfl, rfl, rfl, callsEq_refl h _ ha⟩
theorem sameL_symm {X : Nat → Nat → Bool} {a b : LF} (hs : sameL X a b = true) : sameL (fun i k => X k i) b a = true := by
  rw [sameL_iff] at hs ⊢; exact ⟨hs.1.symm, hs.2.1.symm, hs.2.2.1.symm, callsEq_symm _ _ hs.2.2.2⟩
theorem sameL_trans {X Y Z : Nat → Nat → Bool} {n : Nat} {a b c : LF} (h : ∀ i j k, i < n → j < n → k < n → X i j = true → Y j k = true → Z i k = true) (ha : FnsIn n a.calls) (hb : FnsIn n b.calls) (hc : FnsIn n c.calls) (h1 : sameL X a b = true) (h2 : sameL Y b c = true) : sameL Z a c = true := by
  rw [sameL_iff] at h1 h2 ⊢
  exact ⟨h1.1.trans h2.1, h1.2.1.trans h2.2.1, h1.2.2.1.trans h2.2.2.1, callsEq_trans h _ _ _ ha hb hc h1.2.2.2 h2.2.2.2⟩

/-- all references lie within the list -/
def LfsIn (l : List LF) : Prop := ∀ f ∈ l, FnsIn l.length f.calls
/-- what may not be told apart -/
def PostF (l : List LF) (R : Nat → Nat → Bool) : Prop := ∀ i k, R i k = true → ∃ (hi : i < l.length) (hk : k < l.length), sameL R l[i] l[k] = true
def Gf (l : List LF) (i k : Nat) : Prop := ∃ R, PostF l R ∧ R i k = true
theorem Gf.lt {l : List LF} {i k : Nat} (h : Gf l i k) : i < l.length ∧ k < l.length := by
  obtain ⟨R, h1, h2⟩ := h
  obtain ⟨a, b, _⟩ := h1 _ _ h2
  exact ⟨a, b⟩
theorem Gf.refl {l : List LF} (hl : LfsIn l) {i : Nat} (hi : i < l.length) : Gf l i i := by
  refine ⟨fun a b => decide (a = b ∧ a < l.length), fun a b h => ?_, by simp [hi]⟩
  simp only [decide_eq_true_eq] at h
  obtain ⟨rfl, ha⟩ := h
  exact ⟨ha, ha, sameL_refl (n := l.length) (fun i hi => by simp [hi]) (hl _ (List.getElem_mem _))⟩
theorem Gf.symm {l : List LF} {i k : Nat} (h : Gf l i k) : Gf l k i := by
  obtain ⟨R, h1, h2⟩ := h
  refine ⟨fun a b => R b a, fun a b h => ?_, h2⟩
  obtain ⟨ha, hb, h3⟩ := h1 _ _ h
  exact ⟨hb, ha, sameL_symm h3⟩
theorem Gf.same {l : List LF} (hl : LfsIn l) {i k : Nat} (h : Gf l i k) {Y : Nat → Nat → Bool} (hY : ∀ i k, Gf l i k → Y i k = true) : ∃ (hi : i < l.length) (hk : k < l.length), sameL Y l[i] l[k] = true := by
  obtain ⟨R, h1, h2⟩ := h
  obtain ⟨ha, hb, h3⟩ := h1 _ _ h2
  exact ⟨ha, hb, sameL_mono (n := l.length) (fun a b _ _ h => hY _ _ ⟨R, h1, h⟩) (hl _ (List.getElem_mem _)) (hl _ (List.getElem_mem _)) h3⟩
open Classical in
theorem Gf.trans {l : List LF} (hl : LfsIn l) {i j k : Nat} (h : Gf l i j) (h' : Gf l j k) : Gf l i k := by
  refine ⟨fun a b => decide (∃ c, Gf l a c ∧ Gf l c b), fun a b hab => ?_, by simp only [decide_eq_true_eq]; exact ⟨j, h, h'⟩⟩
  simp only [decide_eq_true_eq] at hab
  obtain ⟨c, h1, h2⟩ := hab
  obtain ⟨ha, hc, s1⟩ := h1.same hl (Y := fun a b => decide (Gf l a b)) (fun _ _ h => by simpa using h)
  obtain ⟨_, hb, s2⟩ := h2.same hl (Y := fun a b => decide (Gf l a b)) (fun _ _ h => by simpa using h)
  refine ⟨ha, hb, sameL_trans (n := l.length) (fun x y z _ _ _ p q => ?_) (hl _ (List.getElem_mem _)) (hl _ (List.getElem_mem _)) (hl _ (List.getElem_mem _)) s1 s2⟩
  simp only [decide_eq_true_eq] at p q ⊢
  exact ⟨y, p, q⟩

/-- the classes as a loop of Merge finds them -/
structure Cls (l : List LF) (c : Nat → Nat) : Prop where
  le : ∀ i, i < l.length → c i ≤ i
  rep : ∀ i, i < l.length → c (c i) = c i
  coarse : ∀ i k, Gf l i k → c i = c k
def kerC (c : Nat → Nat) : Nat → Nat → Bool := fun i k => c i == c k
/-- the finer relation -/
def finE (l : List LF) (c : Nat → Nat) (i k : Nat) : Prop := ∃ (hi : i < l.length) (hk : k < l.length), c i = c k ∧ sameL (kerC c) l[i] l[k] = true
theorem finE.refl {l : List LF} (hl : LfsIn l) {c : Nat → Nat} {i : Nat} (hi : i < l.length) : finE l c i i := ⟨hi, hi, rfl, sameL_refl (n := l.length) (fun i _ => by simp [kerC]) (hl _ (List.getElem_mem _))⟩
theorem finE.symm {l : List LF} {c : Nat → Nat} {i k : Nat} (h : finE l c i k) : finE l c k i := by
  obtain ⟨hi, hk, h1, h2⟩ := h
  refine ⟨hk, hi, h1.symm, ?_⟩
  have := sameL_symm h2
  have e : (fun i k => kerC c k i) = kerC c := by funext a b; unfold kerC; exact Bool.eq_iff_iff.2 (by simp only [beq_iff_eq]; exact eq_comm)
  rwa [e] at this
theorem finE.trans {l : List LF} (hl : LfsIn l) {c : Nat → Nat} {i j k : Nat} (h : finE l c i j) (h' : finE l c j k) : finE l c i k := by
  obtain ⟨hi, hj, h1, h2⟩ := h
  obtain ⟨_, hk, h3, h4⟩ := h'
  exact ⟨hi, hk, h1.trans h3, sameL_trans (n := l.length) (fun x y z _ _ _ p q => by simp only [kerC, beq_iff_eq] at p q ⊢; exact p.trans q) (hl _ (List.getElem_mem _)) (hl _ (List.getElem_mem _)) (hl _ (List.getElem_mem _)) h2 h4⟩
/-- d i is the least that is not told apart from i -/
def Least (l : List LF) (c : Nat → Nat) (i m : Nat) : Prop := finE l c i m ∧ ∀ k, k < m → ¬ finE l c i k
theorem Least.le {l : List LF} (hl : LfsIn l) {c : Nat → Nat} {i m : Nat} (h : Least l c i m) (hi : i < l.length) : m ≤ i := by
  rcases Nat.lt_or_ge i m with h1 | h1
  · exact absurd (finE.refl hl hi) (h.2 i h1)
  · exact h1
theorem Least.unique {l : List LF} {c : Nat → Nat} {i m m' : Nat} (h : Least l c i m) (h' : Least l c i m') : m = m' := by
  rcases Nat.lt_trichotomy m m' with h1 | h1 | h1
  · exact absurd h.1 (h'.2 _ h1)
  · exact h1
  · exact absurd h'.1 (h.2 _ h1)
theorem Least.of {l : List LF} (hl : LfsIn l) {c : Nat → Nat} {i k m : Nat} (h : Least l c i m) (he : finE l c k i) : Least l c k m :=
  ⟨he.trans hl h.1, fun j hj hk => h.2 j hj (he.symm.trans hl hk)⟩
theorem Cls.next {l : List LF} (hl : LfsIn l) {c d : Nat → Nat} (h : Cls l c) (hd : ∀ i, i < l.length → Least l c i (d i)) : Cls l d ∧ (∀ i, i < l.length → c i ≤ d i) := by
  refine ⟨⟨fun i hi => (hd i hi).le hl hi, fun i hi => ?_, fun i k hg => ?_⟩, fun i hi => ?_⟩
  · have h1 := hd i hi
    have h2 := h1.le hl hi
    exact (hd (d i) (by omega)).unique (h1.of hl h1.1.symm)
  · obtain ⟨hi, hk, hs⟩ := hg.same hl (Y := kerC c) (fun a b hab => by simp only [kerC, beq_iff_eq]; exact h.coarse _ _ hab)
    have he : finE l c i k := ⟨hi, hk, h.coarse _ _ hg, hs⟩
    exact (hd i hi).unique ((hd k hk).of hl he)
  · obtain ⟨_, h2, h3, _⟩ := (hd i hi).1
    rw [h3]
    exact h.le _ h2
theorem Cls.done {l : List LF} (hl : LfsIn l) {c : Nat → Nat} (h : Cls l c) (hd : ∀ i, i < l.length → Least l c i (c i)) {i k : Nat} (hi : i < l.length) (hk : k < l.length) : c i = c k ↔ Gf l i k := by
  refine ⟨fun e => ⟨fun a b => decide (a < l.length ∧ b < l.length ∧ c a = c b), fun a b hab => ?_, by simp [hi, hk, e]⟩, h.coarse i k⟩
  simp only [decide_eq_true_eq] at hab
  obtain ⟨ha, hb, e2⟩ := hab
  have h1 := (hd a ha).1
  have h2 := (hd b hb).1
  rw [← e2] at h2
  obtain ⟨_, _, _, hs⟩ := h1.trans hl h2.symm
  refine ⟨ha, hb, sameL_mono (n := l.length) (fun x y hx hy hxy => ?_) (hl _ (List.getElem_mem _)) (hl _ (List.getElem_mem _)) hs⟩
  simp only [kerC, beq_iff_eq] at hxy
  simp [hx, hy, hxy]
/-- how far the loop of Merge still is -/
def restC (n : Nat) (c : Nat → Nat) : Nat := ((List.range n).map fun i => i - c i).sum
theorem restC_lt {n : Nat} {c d : Nat → Nat} (h : ∀ i, i < n → c i ≤ d i ∧ d i ≤ i) (hne : ∃ i, i < n ∧ d i ≠ c i) : restC n d < restC n c := by
  have key : ∀ n, (∀ i, i < n → c i ≤ d i ∧ d i ≤ i) → restC n d ≤ restC n c ∧ ((∃ i, i < n ∧ d i ≠ c i) → restC n d < restC n c) := by
    intro n
    induction n with
    | zero => intro _; exact ⟨Nat.le_refl _, fun ⟨i, h, _⟩ => by omega⟩
    | succ n ih =>
      intro hn
      obtain ⟨h1, h2⟩ := ih fun i hi => hn i (by omega)
      have h3 := hn n (by omega)
      unfold restC at h1 h2 ⊢
      rw [List.range_succ, List.map_append, List.map_append, List.sum_append, List.sum_append]
      simp only [List.map_cons, List.map_nil, List.sum_cons, List.sum_nil]
      refine ⟨by omega, fun ⟨i, hi, hne⟩ => ?_⟩
      by_cases e : i = n
      · subst e; omega
      · have := h2 ⟨i, by omega, hne⟩; omega
  exact (key n h).2 hne

/-- the classes, as they are in the end -/
structure Merged (l : List LF) (c : Nat → Nat) : Prop where
  le : ∀ i, i < l.length → c i ≤ i
  rep : ∀ i, i < l.length → c (c i) = c i
  iff : ∀ i k, i < l.length → k < l.length → (c i = c k ↔ Gf l i k)
theorem Merged.least {l : List LF} {c : Nat → Nat} (h : Merged l c) {i k : Nat} (hi : i < l.length) (hk : Gf l i k) (hmin : ∀ j, j < k → ¬ Gf l i j) : k = c i := by
  have h1 := h.le i hi
  have h2 : Gf l i (c i) := (h.iff i (c i) hi (by omega)).1 (h.rep i hi).symm
  have h3 := (h.iff i k hi hk.lt.2).2 hk
  have h4 := h.le k hk.lt.2
  rcases Nat.lt_trichotomy k (c i) with h9 | h9 | h9
  · omega
  · exact h9
  · exact absurd h2 (hmin _ h9)
/-- the reference's loop: pairs are removed -/
structure Pairs (l : List LF) (Y : Nat → Nat → Bool) : Prop where
  coarse : ∀ i k, Gf l i k → Y i k = true
theorem Pairs.drop {l : List LF} (hl : LfsIn l) {Y : Nat → Nat → Bool} (h : Pairs l Y) {i k : Nat} (hi : i < l.length) (hk : k < l.length) (hs : sameL Y l[i] l[k] = false) : Pairs l fun a b => if a = i ∧ b = k then false else Y a b := by
  refine ⟨fun a b hab => ?_⟩
  by_cases e : a = i ∧ b = k
  · obtain ⟨rfl, rfl⟩ := e
    obtain ⟨_, _, h2⟩ := hab.same hl h.coarse
    rw [hs] at h2; cases h2
  · rw [if_neg e]; exact h.coarse _ _ hab
theorem Pairs.done {l : List LF} (hl : LfsIn l) {Y : Nat → Nat → Bool} (h : Pairs l Y) (hf : ∀ i k (hi : i < l.length) (hk : k < l.length), Y i k = true → sameL Y l[i] l[k] = true) {i k : Nat} (hi : i < l.length) (hk : k < l.length) : Y i k = true ↔ Gf l i k := by
  refine ⟨fun e => ⟨fun a b => decide (a < l.length ∧ b < l.length ∧ Y a b = true), fun a b hab => ?_, by simp [hi, hk, e]⟩, h.coarse i k⟩
  simp only [decide_eq_true_eq] at hab
  obtain ⟨ha, hb, e2⟩ := hab
  refine ⟨ha, hb, sameL_mono (n := l.length) (fun x y hx hy hxy => by simp [hx, hy, hxy]) (hl _ (List.getElem_mem _)) (hl _ (List.getElem_mem _)) (hf a b ha hb e2)⟩
end Go.Proofs.Ytkafbihlmhdjeab
