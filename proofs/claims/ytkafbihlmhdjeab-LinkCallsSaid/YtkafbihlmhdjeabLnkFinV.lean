/- The items that the linker encodes. Plain facts. The items that the linker encodes are valid. Plain facts. -/
import Derived.Test.YtkafbihlmhdjeabLnkImage
namespace Go.Proofs.Ytkafbihlmhdjeab
open Go.RowKit
set_option linter.unusedVariables false
set_option linter.unusedSimpArgs false

def nilLF : LF := ⟨0, none, 0, 0, [], none, 0, 0, [], none, 0, 0, [], 0⟩
def fnAt (l : List LF) (k : Nat) : LF := l.getD k nilLF
theorem fnAt_get {l : List LF} {k : Nat} (h : k < l.length) : fnAt l k = l[k] := by simp [fnAt, List.getD_eq_getElem?_getD, h]
/-- where a function's items begin -/
def bpos (l : List LF) (c : Nat → Nat) : Nat → Nat
  | 0 => 2
  | k + 1 => bpos l c k + (if c k = k then (fnAt l k).its.length else 0)
def itsTo (l : List LF) (c : Nat → Nat) : Nat → List Item
  | 0 => [⟨20, 0, 0, 0, 0, 0⟩, ⟨0, 0, 0, 0, 0, -1⟩]
  | k + 1 => if c k = k then itsTo l c k ++ (fnAt l k).its.map (shiftI (bpos l c k)) else itsTo l c k
theorem itsTo_len (l : List LF) (c : Nat → Nat) : ∀ k, (itsTo l c k).length = bpos l c k
  | 0 => rfl
  | k + 1 => by
    unfold itsTo bpos
    split
    · rw [List.length_append, itsTo_len l c k, List.length_map]
    · rw [itsTo_len l c k, Nat.add_zero]
def bgTo (l : List LF) (c : Nat → Nat) : Nat → List Int
  | 0 => []
  | k + 1 => bgTo l c k ++ [if c k = k then ((bpos l c k : Nat) : Int) else -1]
theorem bgTo_len (l : List LF) (c : Nat → Nat) : ∀ k, (bgTo l c k).length = k
  | 0 => rfl
  | k + 1 => by unfold bgTo; rw [List.length_append, bgTo_len l c k]; rfl
theorem bgTo_get (l : List LF) (c : Nat → Nat) : ∀ (n i : Nat), i < n → (bgTo l c n)[i]? = some (if c i = i then ((bpos l c i : Nat) : Int) else -1)
  | 0, i, h => by omega
  | n + 1, i, h => by
    unfold bgTo
    by_cases e : i = n
    · subst e
      rw [List.getElem?_append_right (by rw [bgTo_len]; omega), bgTo_len, Nat.sub_self]
      rfl
    · rw [List.getElem?_append_left (by rw [bgTo_len]; omega)]
      exact bgTo_get l c n i (by omega)
theorem bpos_mono (l : List LF) (c : Nat → Nat) (i : Nat) : ∀ d, bpos l c i ≤ bpos l c (i + d)
  | 0 => Nat.le_refl _
  | d + 1 => Nat.le_trans (bpos_mono l c i d) (by show _ ≤ bpos l c (i + d) + _; omega)
theorem bpos_le (l : List LF) (c : Nat → Nat) {i j : Nat} (h : i ≤ j) : bpos l c i ≤ bpos l c j := by
  have := bpos_mono l c i (j - i)
  rwa [show i + (j - i) = j by omega] at this
theorem bpos_next (l : List LF) (c : Nat → Nat) {i n : Nat} (hi : i < n) (hc : c i = i) : bpos l c i + (fnAt l i).its.length ≤ bpos l c n := by
  have h1 := bpos_le l c (show i + 1 ≤ n from hi)
  have h2 : bpos l c (i + 1) = bpos l c i + (fnAt l i).its.length := by show bpos l c i + _ = _; rw [if_pos hc]
  omega
theorem bpos_two (l : List LF) (c : Nat → Nat) (n : Nat) : 2 ≤ bpos l c n := bpos_le l c (Nat.zero_le n)
/-- the entry's call leads to the main function -/
def itsMain (l : List LF) (c : Nat → Nat) (n main : Nat) : List Item := (itsTo l c n).set 0 ⟨20, 0, 0, 0, 0, ((bpos l c (c main) : Nat) : Int)⟩
def refsTo (l : List LF) (c : Nat → Nat) (n main : Nat) : Nat → List Item × List (Int × Int)
  | 0 => (itsMain l c n main, [])
  | k + 1 => if c k = k then (fnAt l k).calls.foldl (refStep (bgTo l c n) c (bpos l c k)) (refsTo l c n main k) else refsTo l c n main k
theorem refsTo_len (l : List LF) (c : Nat → Nat) (n main : Nat) : ∀ k, (refsTo l c n main k).1.length = bpos l c n
  | 0 => by show (itsMain l c n main).length = _; unfold itsMain; rw [List.length_set, itsTo_len]
  | k + 1 => by
    unfold refsTo
    split
    · rw [(refFold_len _ _ _ _ _).1, refsTo_len l c n main k]
    · exact refsTo_len l c n main k
/-- the items of a function, where they come to lie -/
theorem itsTo_at (l : List LF) (c : Nat → Nat) {i : Nat} (hc : c i = i) {t : Nat} (ht : t < (fnAt l i).its.length) : ∀ n, i < n → (itsTo l c n)[bpos l c i + t]? = some (shiftI (bpos l c i) (fnAt l i).its[t])
  | 0, h => by omega
  | n + 1, h => by
    by_cases e : i = n
    · subst e
      unfold itsTo
      rw [if_pos hc, List.getElem?_append_right (by rw [itsTo_len]; omega), itsTo_len, show bpos l c i + t - bpos l c i = t by omega, List.getElem?_map, List.getElem?_eq_getElem ht]
      rfl
    · have h1 := itsTo_at l c hc ht n (by omega)
      have h2 : bpos l c i + t < (itsTo l c n).length := (List.getElem?_eq_some_iff.1 h1).1
      unfold itsTo
      split
      · rw [List.getElem?_append_left h2]; exact h1
      · exact h1
/-- every place but the first two is a function's -/
theorem itsTo_cover (l : List LF) (c : Nat → Nat) : ∀ n j, 2 ≤ j → j < bpos l c n → ∃ i t, i < n ∧ c i = i ∧ t < (fnAt l i).its.length ∧ j = bpos l c i + t
  | 0, j, h1, h2 => by unfold bpos at h2; omega
  | n + 1, j, h1, h2 => by
    by_cases hj : j < bpos l c n
    · obtain ⟨i, t, a, b, d, e⟩ := itsTo_cover l c n j h1 hj
      exact ⟨i, t, by omega, b, d, e⟩
    · have h3 : bpos l c (n + 1) = bpos l c n + (if c n = n then (fnAt l n).its.length else 0) := rfl
      by_cases hc : c n = n
      · rw [if_pos hc] at h3
        exact ⟨n, j - bpos l c n, by omega, hc, by omega, by omega⟩
      · rw [if_neg hc] at h3; omega
/-- what a reference turns an item into -/
def updI (x : Item) (to_ : Int) : Item := if x.op = 20 then ⟨x.op, x.d, x.a, x.b, x.n, to_⟩ else ⟨x.op, x.d, x.a, x.b, 1048576, x.tg⟩
def stepR (T : Nat → Int) (s : List Item × List (Int × Int)) (x : Nat × Nat) : List Item × List (Int × Int) :=
  (s.1.set x.1 (updI (itAt s.1 x.1) (T x.2)), if (itAt s.1 x.1).op = 20 then s.2 else s.2 ++ [((x.1 : Int), T x.2)])
theorem refStep_eq (bg : List Int) (c : Nat → Nat) (base : Nat) (s : List Item × List (Int × Int)) (x : LC) : refStep bg c base s x = stepR (fun f => bg.getD (c f) 0) s (base + x.item.toNat, x.fn.toNat) := by
  unfold refStep stepR updI
  split <;> rfl
theorem foldR {T : Nat → Int} : ∀ (R : List (Nat × Nat)) (I : List Item) (A : List (Int × Int)), R.Pairwise (fun a b => a.1 < b.1) → (∀ x ∈ R, x.1 < I.length) →
    (R.foldl (stepR T) (I, A)).1.length = I.length ∧ (∀ j, (∀ x ∈ R, x.1 ≠ j) → (R.foldl (stepR T) (I, A)).1[j]? = I[j]?) ∧ (∀ x ∈ R, (R.foldl (stepR T) (I, A)).1[x.1]? = some (updI (itAt I x.1) (T x.2))) ∧
    (∀ y, y ∈ (R.foldl (stepR T) (I, A)).2 ↔ y ∈ A ∨ ∃ x ∈ R, (itAt I x.1).op ≠ 20 ∧ y = ((x.1 : Int), T x.2))
  | [], I, A, _, _ => ⟨rfl, fun _ _ => rfl, fun x hx => (by cases hx), fun y => by simp⟩
  | r :: R, I, A, hp, hl => by
    rw [List.pairwise_cons] at hp
    have hr := hl r (by simp)
    obtain ⟨h1, h2, h3, h4⟩ := foldR (T := T) R (stepR T (I, A) r).1 (stepR T (I, A) r).2 hp.2 (fun x hx => by show x.1 < (I.set _ _).length; rw [List.length_set]; exact hl x (by simp [hx]))
    have hI : ∀ j, j ≠ r.1 → (stepR T (I, A) r).1[j]? = I[j]? := fun j hj => by show (I.set _ _)[j]? = _; rw [List.getElem?_set_ne (fun e => hj e.symm)]
    have hIA : ∀ j, j ≠ r.1 → itAt (stepR T (I, A) r).1 j = itAt I j := fun j hj => by unfold itAt; rw [List.getD_eq_getElem?_getD, List.getD_eq_getElem?_getD, hI j hj]
    have hset : (stepR T (I, A) r).1[r.1]? = some (updI (itAt I r.1) (T r.2)) := by
      show (I.set _ _)[r.1]? = _
      rw [List.getElem?_set_self (by exact hr)]
    rw [List.foldl_cons]
    refine ⟨by rw [h1]; show (I.set _ _).length = _; rw [List.length_set], fun j hj => ?_, fun x hx => ?_, fun y => ?_⟩
    · rw [h2 j (fun x hx => hj x (by simp [hx])), hI j (fun e => hj r (by simp) e.symm)]
    · rcases List.mem_cons.1 hx with rfl | hx
      · rw [h2 x.1 (fun y hy e => by have := hp.1 y hy; omega)]
        exact hset
      · rw [h3 x hx, hIA x.1 (by have := hp.1 x hx; omega)]
    · rw [h4 y]
      have e2 : (stepR T (I, A) r).2 = if (itAt I r.1).op = 20 then A else A ++ [((r.1 : Int), T r.2)] := rfl
      constructor
      · rintro (hy | ⟨x, hx, ho, rfl⟩)
        · rw [e2] at hy
          split at hy
          · exact .inl hy
          · rename_i ho
            rcases List.mem_append.1 hy with hy | hy
            · exact .inl hy
            · exact .inr ⟨r, by simp, ho, by simpa using hy⟩
        · exact .inr ⟨x, by simp [hx], by rw [hIA x.1 (by have := hp.1 x hx; omega)] at ho; exact ho, rfl⟩
      · rintro (hy | ⟨x, hx, ho, rfl⟩)
        · left
          rw [e2]
          split
          · exact hy
          · exact List.mem_append.2 (.inl hy)
        · rcases List.mem_cons.1 hx with rfl | hx
          · left
            rw [e2, if_neg ho]
            exact List.mem_append.2 (.inr (by simp))
          · exact .inr ⟨x, hx, by rw [hIA x.1 (by have := hp.1 x hx; omega)]; exact ho, rfl⟩
/-- the references of the functions that stay: places and functions -/
def refsL (l : List LF) (c : Nat → Nat) : Nat → List (Nat × Nat)
  | 0 => []
  | k + 1 => if c k = k then refsL l c k ++ (fnAt l k).calls.map (fun x => (bpos l c k + x.item.toNat, x.fn.toNat)) else refsL l c k
def toB (l : List LF) (c : Nat → Nat) (n : Nat) (f : Nat) : Int := (bgTo l c n).getD (c f) 0
theorem refsTo_fold (l : List LF) (c : Nat → Nat) (n main : Nat) : ∀ k, refsTo l c n main k = (refsL l c k).foldl (stepR (toB l c n)) (itsMain l c n main, [])
  | 0 => rfl
  | k + 1 => by
    unfold refsTo refsL
    split
    · rw [List.foldl_append, ← refsTo_fold l c n main k, List.foldl_map]
      generalize refsTo l c n main k = s
      congr 1
      funext s x
      exact refStep_eq _ _ _ _ _
    · exact refsTo_fold l c n main k
theorem callsE_ok (its : List Item) (many : Nat) : ∀ (cs : List LC) (last : Int), -1 ≤ last → callsE its many last cs = 0 →
    (∀ x ∈ cs, last < x.item ∧ x.item < its.length ∧ 0 ≤ x.fn ∧ x.fn < many ∧ ((its.getD x.item.toNat nilItem).op = 20 ∨ (its.getD x.item.toNat nilItem).op = 11) ∧ (its.getD x.item.toNat nilItem).tg < 0 ∧ (its.getD x.item.toNat nilItem).n = 0) ∧ cs.Pairwise (fun a b => a.item < b.item)
  | [], _, _, _ => ⟨fun x hx => (by cases hx), List.Pairwise.nil⟩
  | x :: cs, last, hl, h => by
    have h' : (if callE its many last x ≠ 0 then callE its many last x else callsE its many x.item cs) = 0 := h
    by_cases hc : callE its many last x = 0
    · rw [if_neg (by simp [hc])] at h'
      have hx : last < x.item ∧ x.item < its.length ∧ 0 ≤ x.fn ∧ x.fn < many ∧ ((its.getD x.item.toNat nilItem).op = 20 ∨ (its.getD x.item.toNat nilItem).op = 11) ∧ (its.getD x.item.toNat nilItem).tg < 0 ∧ (its.getD x.item.toNat nilItem).n = 0 := by
        unfold callE at hc
        by_cases h9 : x.item ≤ last ∨ (its.length : Int) ≤ x.item ∨ x.fn < 0 ∨ (many : Int) ≤ x.fn
        · rw [if_pos h9] at hc; cases hc
        · rw [if_neg h9] at hc
          by_cases h8 : ((its.getD x.item.toNat nilItem).op ≠ 20 ∧ (its.getD x.item.toNat nilItem).op ≠ 11) ∨ 0 ≤ (its.getD x.item.toNat nilItem).tg ∨ (its.getD x.item.toNat nilItem).n ≠ 0
          · rw [if_pos h8] at hc; cases hc
          · refine ⟨by omega, by omega, by omega, by omega, ?_, by omega, ?_⟩
            · by_cases a : (its.getD x.item.toNat nilItem).op = 20
              · exact .inl a
              · by_cases b : (its.getD x.item.toNat nilItem).op = 11
                · exact .inr b
                · exact absurd (.inl ⟨a, b⟩) h8
            · exact Classical.not_not.1 (fun a => h8 (.inr (.inr a)))
      obtain ⟨i1, i2⟩ := callsE_ok its many cs x.item (by omega) h'
      refine ⟨fun y hy => ?_, ?_⟩
      · rcases List.mem_cons.1 hy with rfl | hy
        · exact hx
        · have := i1 y hy
          exact ⟨by omega, this.2⟩
      · rw [List.pairwise_cons]
        exact ⟨fun y hy => (i1 y hy).1, i2⟩
    · rw [if_pos hc] at h'; exact absurd h' hc
/-- what the check tells of a function -/
structure FnOk (many : Nat) (f : LF) : Prop where
  items : itemsE f.its = 0
  some_ : 0 < f.its.length
  ends : ∀ x ∈ f.its, x.tg ≠ (f.its.length : Int)
  calls : ∀ x ∈ f.calls, 0 ≤ x.item ∧ x.item < f.its.length ∧ 0 ≤ x.fn ∧ x.fn < many ∧ ((f.its.getD x.item.toNat nilItem).op = 20 ∨ (f.its.getD x.item.toNat nilItem).op = 11) ∧ (f.its.getD x.item.toNat nilItem).tg < 0 ∧ (f.its.getD x.item.toNat nilItem).n = 0
  order : f.calls.Pairwise (fun a b => a.item < b.item)
  maps : mapsE f.its.length (-1) f.maps = 0
theorem chkE_fn {l : List LF} (h : chkE l = 0) (hl : ∀ f ∈ l, f.its.length = f.il) : ∀ f ∈ l, FnOk l.length f := by
  unfold chkE at h
  by_cases h1 : 256 < l.length
  · rw [if_pos h1] at h; cases h
  · rw [if_neg h1] at h
    intro f hf
    obtain ⟨a, b, _, d⟩ := fnL_calls (chkL_in _ _ h f hf)
    obtain ⟨e1, e2, e3⟩ := refsE_calls d
    obtain ⟨g1, g2⟩ := callsE_ok f.its l.length f.calls (-1) (by omega) e2
    exact ⟨a, by rw [hl f hf]; omega, e1, fun x hx => by have := g1 x hx; exact ⟨by omega, this.2⟩, g2, e3⟩
theorem refsL_ok {l : List LF} {c : Nat → Nat} (hf : ∀ k, k < l.length → FnOk l.length (fnAt l k)) : ∀ k, k ≤ l.length → (refsL l c k).Pairwise (fun a b => a.1 < b.1) ∧ (∀ x ∈ refsL l c k, x.1 < bpos l c k ∧ ∃ i, i < k ∧ c i = i ∧ ∃ y ∈ (fnAt l i).calls, x = (bpos l c i + y.item.toNat, y.fn.toNat))
  | 0, _ => ⟨List.Pairwise.nil, fun x hx => (by cases hx)⟩
  | k + 1, hk => by
    obtain ⟨h1, h2⟩ := refsL_ok hf k (by omega)
    have hb : bpos l c (k + 1) = bpos l c k + (if c k = k then (fnAt l k).its.length else 0) := rfl
    unfold refsL
    by_cases hc : c k = k
    · rw [if_pos hc]
      rw [if_pos hc] at hb
      have hfk := hf k (by omega)
      refine ⟨?_, fun x hx => ?_⟩
      · rw [List.pairwise_append]
        refine ⟨h1, ?_, fun a ha b hb2 => ?_⟩
        · rw [List.pairwise_map]
          refine List.Pairwise.imp_of_mem ?_ hfk.order
          intro a b ha hb2 hab
          have := (hfk.calls a ha).1
          have := (hfk.calls b hb2).1
          show bpos l c k + _ < bpos l c k + _
          omega
        · obtain ⟨y, hy, rfl⟩ := List.mem_map.1 hb2
          have := (h2 a ha).1
          show a.1 < bpos l c k + _
          omega
      · rcases List.mem_append.1 hx with hx | hx
        · obtain ⟨a, i, b, d⟩ := h2 x hx
          exact ⟨by omega, i, by omega, d⟩
        · obtain ⟨y, hy, rfl⟩ := List.mem_map.1 hx
          have := hfk.calls y hy
          exact ⟨by show bpos l c k + _ < _; omega, k, by omega, hc, y, hy, rfl⟩
    · rw [if_neg hc]
      rw [if_neg hc] at hb
      refine ⟨h1, fun x hx => ?_⟩
      obtain ⟨a, i, b, d⟩ := h2 x hx
      exact ⟨by omega, i, by omega, d⟩
theorem refsL_mem {l : List LF} {c : Nat → Nat} {i : Nat} (hc : c i = i) {y : LC} (hy : y ∈ (fnAt l i).calls) : ∀ k, i < k → (bpos l c i + y.item.toNat, y.fn.toNat) ∈ refsL l c k
  | 0, h => by omega
  | k + 1, h => by
    unfold refsL
    by_cases e : i = k
    · subst e
      rw [if_pos hc]
      exact List.mem_append.2 (.inr (List.mem_map.2 ⟨y, hy, rfl⟩))
    · have := refsL_mem hc hy k (by omega)
      split
      · exact List.mem_append.2 (.inl this)
      · exact this

theorem check_li {d a b : Int} (h : checkE 11 d a b 0 = 0) (n : Int) (hn : -2147483648 ≤ n ∧ n ≤ 2147483647) : checkE 11 d a b n = 0 := by
  obtain ⟨h0, h1, h2, h3, h4, h5, h6⟩ := checkE_ok h
  have hu : (usesOf 11).n = true := rfl
  unfold checkE
  rw [if_neg (by rw [inB_true.2 h0]; simp), if_neg, if_neg, if_neg]
  · unfold limBad; simp
  · unfold formBad at h5 ⊢
    rw [hu] at h5 ⊢
    simpa using h5
  · unfold rangeBad
    rw [inB_true.2 h1, inB_true.2 h2, inB_true.2 h3, inB_true.2 hn]; simp
theorem itemErr_lab {N : Nat} {x : Item} (h1 : 0 ≤ x.tg) (h2 : x.tg ≤ N) (h3 : checkE x.op x.d x.a x.b 0 = 0) (h4 : jumpB x.op = true) (h5 : x.n = 0) : itemErr N x = 0 := by
  unfold itemErr
  rw [if_pos h1, if_neg (by simp [h3]), if_neg (by omega), if_neg]
  rintro ⟨_, h | h⟩
  · rw [h4] at h; cases h
  · exact h h5
theorem itemErr_no {N : Nat} {x : Item} (h1 : x.tg = -1) (h3 : checkE x.op x.d x.a x.b x.n = 0) : itemErr N x = 0 := by
  unfold itemErr
  have e : (if 0 ≤ x.tg then 0 else x.n) = x.n := if_neg (by omega)
  rw [e, if_neg (by simp [h3]), if_neg (by omega), if_neg (by omega)]

section
variable {l : List LF} {c : Nat → Nat} {main : Nat}
/-- what the linker is handed -/
structure LinkIn (l : List LF) (c : Nat → Nat) (main : Nat) : Prop where
  fn : ∀ k, k < l.length → FnOk l.length (fnAt l k)
  le : ∀ k, k < l.length → c k ≤ k
  rep : ∀ k, k < l.length → c (c k) = c k
  main : main < l.length
theorem LinkIn.lt (h : LinkIn l c main) {k : Nat} (hk : k < l.length) : c k < l.length := Nat.lt_of_le_of_lt (h.le k hk) hk
theorem LinkIn.toBv (h : LinkIn l c main) {f : Nat} (hf : f < l.length) : toB l c l.length f = ((bpos l c (c f) : Nat) : Int) ∧ bpos l c (c f) < bpos l c l.length := by
  have h1 := h.lt hf
  have h2 := h.rep f hf
  refine ⟨?_, ?_⟩
  · unfold toB
    rw [List.getD_eq_getElem?_getD, bgTo_get l c l.length (c f) h1, if_pos h2]
    rfl
  · have h3 := bpos_next l c h1 h2
    have h4 := (h.fn (c f) h1).some_
    omega
def finS (l : List LF) (c : Nat → Nat) (main : Nat) : List Item × List (Int × Int) := refsTo l c l.length main l.length
theorem finS_len : (finS l c main).1.length = bpos l c l.length := refsTo_len l c l.length main l.length
theorem itsMain_at (j : Nat) (hj : j ≠ 0) : (itsMain l c l.length main)[j]? = (itsTo l c l.length)[j]? := by unfold itsMain; rw [List.getElem?_set_ne (fun e => hj e.symm)]
theorem LinkIn.fold (h : LinkIn l c main) : (∀ j, (∀ x ∈ refsL l c l.length, x.1 ≠ j) → (finS l c main).1[j]? = (itsMain l c l.length main)[j]?) ∧ (∀ x ∈ refsL l c l.length, (finS l c main).1[x.1]? = some (updI (itAt (itsMain l c l.length main) x.1) (toB l c l.length x.2))) ∧
    (∀ y, y ∈ (finS l c main).2 ↔ ∃ x ∈ refsL l c l.length, (itAt (itsMain l c l.length main) x.1).op ≠ 20 ∧ y = ((x.1 : Int), toB l c l.length x.2)) := by
  obtain ⟨h1, h2⟩ := refsL_ok h.fn l.length (Nat.le_refl _)
  have hl : (itsMain l c l.length main).length = bpos l c l.length := by unfold itsMain; rw [List.length_set, itsTo_len]
  obtain ⟨_, a, b, d⟩ := foldR (T := toB l c l.length) (refsL l c l.length) (itsMain l c l.length main) [] h1 (fun x hx => by rw [hl]; exact (h2 x hx).1)
  unfold finS
  rw [refsTo_fold]
  exact ⟨a, b, fun y => by rw [d y]; simp⟩
theorem LinkIn.place (h : LinkIn l c main) {x : Nat × Nat} (hx : x ∈ refsL l c l.length) : 2 ≤ x.1 ∧ ∃ i, i < l.length ∧ c i = i ∧ ∃ y ∈ (fnAt l i).calls, x = (bpos l c i + y.item.toNat, y.fn.toNat) := by
  obtain ⟨_, i, hi, hc, y, hy, rfl⟩ := (refsL_ok h.fn l.length (Nat.le_refl _)).2 x hx
  exact ⟨by have := bpos_two l c i; show 2 ≤ bpos l c i + _; omega, i, hi, hc, y, hy, rfl⟩
theorem bpos_inj {i i' t t' : Nat} (hi : c i = i) (hi' : c i' = i') (ht : t < (fnAt l i).its.length) (ht' : t' < (fnAt l i').its.length) (he : bpos l c i + t = bpos l c i' + t') : i = i' ∧ t = t' := by
  rcases Nat.lt_trichotomy i i' with h1 | h1 | h1
  · have := bpos_next l c h1 hi; omega
  · subst h1; exact ⟨rfl, by omega⟩
  · have := bpos_next l c h1 hi'; omega
/-- a function's item, as it is encoded -/
theorem LinkIn.item (h : LinkIn l c main) {i : Nat} (hi : i < l.length) (hc : c i = i) {t : Nat} (ht : t < (fnAt l i).its.length) :
    (∃ y ∈ (fnAt l i).calls, y.item = (t : Int) ∧ (finS l c main).1[bpos l c i + t]? = some (updI (shiftI (bpos l c i) (fnAt l i).its[t]) ((bpos l c (c y.fn.toNat) : Nat) : Int)) ∧ ((shiftI (bpos l c i) (fnAt l i).its[t]).op ≠ 20 → (((bpos l c i + t : Nat) : Int), ((bpos l c (c y.fn.toNat) : Nat) : Int)) ∈ (finS l c main).2)) ∨
    ((∀ y ∈ (fnAt l i).calls, y.item ≠ (t : Int)) ∧ (finS l c main).1[bpos l c i + t]? = some (shiftI (bpos l c i) (fnAt l i).its[t])) := by
  obtain ⟨f1, f2, f3⟩ := h.fold
  have hb := bpos_two l c i
  have h0 := itsTo_at l c hc ht l.length hi
  have hm : (itsMain l c l.length main)[bpos l c i + t]? = some (shiftI (bpos l c i) (fnAt l i).its[t]) := by rw [itsMain_at _ (by omega)]; exact h0
  have hma : itAt (itsMain l c l.length main) (bpos l c i + t) = shiftI (bpos l c i) (fnAt l i).its[t] := by unfold itAt; rw [List.getD_eq_getElem?_getD, hm]; rfl
  by_cases hx : ∃ y ∈ (fnAt l i).calls, y.item = (t : Int)
  · obtain ⟨y, hy, hyt⟩ := hx
    have hmem := refsL_mem (l := l) hc hy l.length hi
    have hyc := (h.fn i hi).calls y hy
    rw [hyt, Int.toNat_natCast] at hmem
    have h1 := f2 _ hmem
    have h2 := (h.toBv (f := y.fn.toNat) (by omega)).1
    simp only at h1
    rw [hma, h2] at h1
    refine .inl ⟨y, hy, hyt, h1, fun ho => (f3 _).2 ⟨_, hmem, by simp only; rw [hma]; exact ho, by simp only; rw [h2]⟩⟩
  · refine .inr ⟨fun y hy e => hx ⟨y, hy, e⟩, ?_⟩
    rw [f1 _ (fun x hx' e => ?_), hm]
    obtain ⟨_, i', hi', hc', y, hy, rfl⟩ := h.place hx'
    have hyc := (h.fn i' hi').calls y hy
    simp only at e
    obtain ⟨rfl, e2⟩ := bpos_inj (l := l) hc' hc (t := y.item.toNat) (t' := t) (by omega) ht e
    exact hx ⟨y, hy, by omega⟩
theorem LinkIn.first (h : LinkIn l c main) : (finS l c main).1[0]? = some ⟨20, 0, 0, 0, 0, ((bpos l c (c main) : Nat) : Int)⟩ ∧ (finS l c main).1[1]? = some ⟨0, 0, 0, 0, 0, -1⟩ := by
  obtain ⟨f1, _, _⟩ := h.fold
  have h0 : ∀ k, (itsTo l c k)[1]? = some ⟨0, 0, 0, 0, 0, -1⟩ := by
    intro k
    induction k with
    | zero => rfl
    | succ k ih =>
      unfold itsTo
      split
      · rw [List.getElem?_append_left (List.getElem?_eq_some_iff.1 ih).1]; exact ih
      · exact ih
  refine ⟨?_, ?_⟩
  · rw [f1 0 (fun x hx e => by have := (h.place hx).1; omega)]
    unfold itsMain
    rw [List.getElem?_set_self (by rw [itsTo_len]; have := bpos_two l c l.length; omega)]
  · rw [f1 1 (fun x hx e => by have := (h.place hx).1; omega), itsMain_at 1 (by omega)]
    exact h0 l.length
theorem FnOk.at {many : Nat} {f : LF} (h : FnOk many f) {t : Nat} (ht : t < f.its.length) : (0 ≤ f.its[t].tg ∧ f.its[t].tg < (f.its.length : Int) ∧ checkE f.its[t].op f.its[t].d f.its[t].a f.its[t].b 0 = 0 ∧ jumpB f.its[t].op = true ∧ f.its[t].n = 0) ∨ (f.its[t].tg = -1 ∧ checkE f.its[t].op f.its[t].d f.its[t].a f.its[t].b f.its[t].n = 0) := by
  have h1 := (items_ok h.items).2 t ht
  rw [itAt_get ht] at h1
  have h2 := h.ends _ (List.getElem_mem ht)
  rcases item_ok h1 with ⟨a, b, d, e, g⟩ | ⟨a, b⟩
  · exact .inl ⟨a, by omega, d, e, g⟩
  · exact .inr ⟨a, b⟩
theorem shift_no {b : Nat} {x : Item} (h : x.tg < 0) : shiftI b x = x := by unfold shiftI; rw [if_neg (by omega)]
theorem shift_op (b : Nat) (x : Item) : (shiftI b x).op = x.op := by unfold shiftI; split <;> rfl
/-- every item is valid -/
theorem LinkIn.valid (h : LinkIn l c main) (j : Nat) (hj : j < bpos l c l.length) : itemErr (bpos l c l.length) (itAt (finS l c main).1 j) = 0 := by
  have hat : ∀ {j : Nat} {x : Item}, (finS l c main).1[j]? = some x → itAt (finS l c main).1 j = x := fun hx => by unfold itAt; rw [List.getD_eq_getElem?_getD, hx]; rfl
  obtain ⟨g0, g1⟩ := h.first
  rcases j with _ | _ | j
  · rw [hat g0]
    have := (h.toBv (f := main) h.main).2
    exact itemErr_lab (by show 0 ≤ ((bpos l c (c main) : Nat) : Int); omega) (by show ((bpos l c (c main) : Nat) : Int) ≤ _; omega) (show checkE 20 0 0 0 0 = 0 by decide) (show jumpB 20 = true by decide) rfl
  · rw [hat g1]
    exact itemErr_no rfl (by decide)
  · obtain ⟨i, t, hi, hc, ht, he⟩ := itsTo_cover l c l.length (j + 1 + 1) (by omega) hj
    have hfn := h.fn i hi
    have hn := bpos_next l c hi hc
    rw [he]
    rcases h.item hi hc ht with ⟨y, hy, hyt, hx, _⟩ | ⟨_, hx⟩
    · rw [hat hx]
      have hyc := hfn.calls y hy
      rw [hyt, Int.toNat_natCast] at hyc
      have e1 : (fnAt l i).its.getD t nilItem = (fnAt l i).its[t] := by rw [List.getD_eq_getElem?_getD, List.getElem?_eq_getElem ht]; rfl
      rw [e1] at hyc
      obtain ⟨_, _, h4, h5, hop, htg, hnz⟩ := hyc
      have hB := (h.toBv (f := y.fn.toNat) (by omega)).2
      rw [shift_no htg]
      rcases hfn.at ht with ⟨a, _⟩ | ⟨a, b⟩
      · omega
      · rw [hnz] at b
        unfold updI
        rcases hop with hop | hop
        · rw [if_pos hop]
          exact itemErr_lab (by show 0 ≤ ((bpos l c (c y.fn.toNat) : Nat) : Int); omega) (by show ((bpos l c (c y.fn.toNat) : Nat) : Int) ≤ _; omega) b (by show jumpB (fnAt l i).its[t].op = true; rw [hop]; decide) hnz
        · rw [if_neg (by omega)]
          rw [hop] at b
          exact itemErr_no a (by show checkE (fnAt l i).its[t].op _ _ _ _ = 0; rw [hop]; exact check_li b 1048576 (by omega))
    · rw [hat hx]
      rcases hfn.at ht with ⟨a, b, d, e, g⟩ | ⟨a, b⟩
      · unfold shiftI
        rw [if_pos a]
        exact itemErr_lab (by show 0 ≤ (fnAt l i).its[t].tg + _; omega) (by show (fnAt l i).its[t].tg + _ ≤ _; omega) d e g
      · rw [shift_no (by omega)]
        exact itemErr_no a b
theorem LinkIn.items (h : LinkIn l c main) (hN : bpos l c l.length ≤ 16384) : itemsE (finS l c main).1 = 0 := by
  unfold itemsE
  rw [finS_len, if_neg (by omega)]
  refine itemsErr_zero _ _ fun i hi => ?_
  have h1 := h.valid i (by rw [← finS_len (main := main)]; exact hi)
  rw [itAt_get hi] at h1
  exact h1
theorem LinkIn.ads (h : LinkIn l c main) : ∀ x ∈ (finS l c main).2, 0 ≤ x.1 ∧ x.1.toNat < (finS l c main).1.length ∧ baseL (finS l c main).1 x.1.toNat = true ∧ 0 ≤ x.2 ∧ x.2.toNat < (finS l c main).1.length := by
  intro x hx
  obtain ⟨f1, f2, f3⟩ := h.fold
  obtain ⟨r, hr, ho, rfl⟩ := (f3 x).1 hx
  obtain ⟨h2, i, hi, hc, y, hy, rfl⟩ := h.place hr
  have hyc := (h.fn i hi).calls y hy
  have hB := h.toBv (f := y.fn.toNat) (by omega)
  have hn := bpos_next l c hi hc
  have hu := f2 _ hr
  simp only at hu ho ⊢
  rw [hB.1, Int.toNat_natCast, Int.toNat_natCast, finS_len]
  have ht : y.item.toNat < (fnAt l i).its.length := by omega
  have hm : itAt (itsMain l c l.length main) (bpos l c i + y.item.toNat) = shiftI (bpos l c i) (fnAt l i).its[y.item.toNat] := by
    unfold itAt
    rw [List.getD_eq_getElem?_getD, itsMain_at _ (by have := bpos_two l c i; omega), itsTo_at l c hc ht l.length hi]
    rfl
  rw [hm] at hu ho
  have e1 : (fnAt l i).its.getD y.item.toNat nilItem = (fnAt l i).its[y.item.toNat] := by rw [List.getD_eq_getElem?_getD, List.getElem?_eq_getElem ht]; rfl
  rw [e1] at hyc
  rw [shift_no hyc.2.2.2.2.2.1] at hu ho
  refine ⟨by omega, by omega, ?_, by omega, hB.2⟩
  have hat : itAt (finS l c main).1 (bpos l c i + y.item.toNat) = updI (fnAt l i).its[y.item.toNat] (toB l c l.length y.fn.toNat) := by unfold itAt; rw [List.getD_eq_getElem?_getD, hu]; rfl
  unfold baseL lab
  rw [hat]
  unfold updI
  rw [if_neg ho]
  simp only [Bool.and_eq_true, Bool.not_eq_true', decide_eq_false_iff_not]
  exact ⟨by have := hyc.2.2.2.2.2.1; omega, by decide⟩
end
end Go.Proofs.Ytkafbihlmhdjeab
