/- A copying collection: plain facts. No function of the program. -/
import Derived.Test.YtkpeeemnholmnaaHeapE
namespace Go.Proofs.Ytkpeeemnholmnaa
set_option linter.unusedVariables false
set_option linter.unusedSimpArgs false

section
variable (m0 : Nat → Int)
def osz (i : Nat) : Nat := hsize (m0 i) + 1
def tot : List Nat → Nat
  | [] => 0
  | j :: r => osz m0 j + tot r
/-- where the copy of object i lies -/
def addrC (b : Nat) : List Nat → Nat → Nat
  | [], _ => 0
  | j :: r, i => if i = j then b else addrC (b + osz m0 j) r i
/-- the words behind the copying of the objects of a list to b, b + .. -/
def rawC (b : Nat) : List Nat → Nat → Int
  | [], i => m0 i
  | j :: r, i => if b ≤ i ∧ i < b + osz m0 j then m0 (j + (i - b)) else rawC (b + osz m0 j) r i
def fwdC (b : Nat) (cp : List Nat) (v : Int) : Int := if v % 2 = 0 ∧ 0 < v ∧ (v / 2).toNat ∈ cp then 2 * (addrC m0 b cp (v / 2).toNat : Int) else v
def memC (b : Nat) (cp : List Nat) (d : Nat → Bool) (i : Nat) : Int := if d i = true then fwdC m0 b cp (rawC m0 b cp i) else rawC m0 b cp i
end

section
variable {m0 : Nat → Int}
theorem osz_pos (i : Nat) : 1 ≤ osz m0 i := by unfold osz; omega
theorem tot_append (l r : List Nat) : tot m0 (l ++ r) = tot m0 l + tot m0 r := by
  induction l with
  | nil => simp [tot]
  | cons j l ih => simp only [List.cons_append, tot, ih]; omega
theorem tot_perm {l r : List Nat} (h : l.Perm r) : tot m0 l = tot m0 r := by
  induction h with
  | nil => rfl
  | cons x _ ih => simp only [tot, ih]
  | swap x y l => simp only [tot]; omega
  | trans _ _ h1 h2 => rw [h1, h2]
theorem tot_sub {l r : List Nat} (hl : l.Nodup) (h : ∀ x ∈ l, x ∈ r) : tot m0 l ≤ tot m0 r := by
  induction l generalizing r with
  | nil => simp [tot]
  | cons x l ih =>
    obtain ⟨h1, h2⟩ := List.nodup_cons.1 hl
    have hp := List.perm_cons_erase (h x List.mem_cons_self)
    rw [tot_perm hp]
    simp only [tot]
    have := ih (r := r.erase x) h2 fun y hy => (List.mem_erase_of_ne (fun e => h1 (by rw [← e]; exact hy))).2 (h y (List.mem_cons_of_mem _ hy))
    omega
theorem addrC_bd {b : Nat} {cp : List Nat} {i : Nat} (h : i ∈ cp) : b ≤ addrC m0 b cp i ∧ addrC m0 b cp i + osz m0 i ≤ b + tot m0 cp := by
  induction cp generalizing b with
  | nil => cases h
  | cons j r ih =>
    unfold addrC
    simp only [tot]
    by_cases e : i = j
    · subst e; rw [if_pos rfl]; omega
    · rw [if_neg e]
      have := ih (b := b + osz m0 j) (by rcases List.mem_cons.1 h with h | h; exact absurd h e; exact h)
      omega
theorem addrC_old {b : Nat} {cp l : List Nat} {i : Nat} (h : i ∈ cp) : addrC m0 b (cp ++ l) i = addrC m0 b cp i := by
  induction cp generalizing b with
  | nil => cases h
  | cons j r ih =>
    simp only [List.cons_append, addrC]
    by_cases e : i = j
    · rw [if_pos e, if_pos e]
    · rw [if_neg e, if_neg e]
      exact ih (by rcases List.mem_cons.1 h with h | h; exact absurd h e; exact h)
theorem addrC_new {b : Nat} {cp : List Nat} {i : Nat} (h : i ∉ cp) : addrC m0 b (cp ++ [i]) i = b + tot m0 cp := by
  induction cp generalizing b with
  | nil => simp [addrC, tot]
  | cons j r ih =>
    simp only [List.cons_append, addrC, tot]
    rw [if_neg (fun e => h (by rw [e]; exact List.mem_cons_self)), ih (fun e => h (List.mem_cons_of_mem _ e))]
    omega
theorem addrC_inj {b : Nat} {cp : List Nat} {i j : Nat} (hi : i ∈ cp) (hj : j ∈ cp) (h : addrC m0 b cp i = addrC m0 b cp j) : i = j := by
  induction cp generalizing b with
  | nil => cases hi
  | cons k r ih =>
    unfold addrC at h
    have hk := osz_pos (m0 := m0) k
    by_cases e1 : i = k
    · by_cases e2 : j = k
      · rw [e1, e2]
      · rw [if_pos e1, if_neg e2] at h
        have := (addrC_bd (m0 := m0) (b := b + osz m0 k) (by rcases List.mem_cons.1 hj with h | h; exact absurd h e2; exact h : j ∈ r)).1
        omega
    · by_cases e2 : j = k
      · rw [if_neg e1, if_pos e2] at h
        have := (addrC_bd (m0 := m0) (b := b + osz m0 k) (by rcases List.mem_cons.1 hi with h | h; exact absurd h e1; exact h : i ∈ r)).1
        omega
      · rw [if_neg e1, if_neg e2] at h
        exact ih (by rcases List.mem_cons.1 hi with h | h; exact absurd h e1; exact h) (by rcases List.mem_cons.1 hj with h | h; exact absurd h e2; exact h) h
theorem rawC_out {b : Nat} {cp : List Nat} {i : Nat} (h : i < b ∨ b + tot m0 cp ≤ i) : rawC m0 b cp i = m0 i := by
  induction cp generalizing b with
  | nil => rfl
  | cons j r ih =>
    simp only [tot] at h
    unfold rawC
    rw [if_neg (by omega)]
    exact ih (by omega)
theorem rawC_in {b : Nat} {cp : List Nat} {j t : Nat} (h : j ∈ cp) (ht : t < osz m0 j) : rawC m0 b cp (addrC m0 b cp j + t) = m0 (j + t) := by
  induction cp generalizing b with
  | nil => cases h
  | cons k r ih =>
    unfold rawC addrC
    by_cases e : j = k
    · subst e
      rw [if_pos rfl, if_pos (by omega)]
      congr 1
      omega
    · have hm : j ∈ r := by rcases List.mem_cons.1 h with h | h; exact absurd h e; exact h
      have := (addrC_bd (m0 := m0) (b := b + osz m0 k) hm).1
      rw [if_neg e, if_neg (by omega)]
      exact ih hm
theorem rawC_snoc {b : Nat} {cp : List Nat} {j i : Nat} : rawC m0 b (cp ++ [j]) i = if b + tot m0 cp ≤ i ∧ i < b + tot m0 cp + osz m0 j then m0 (j + (i - (b + tot m0 cp))) else rawC m0 b cp i := by
  induction cp generalizing b with
  | nil =>
    have ht : tot m0 [] = 0 := rfl
    rw [ht, Nat.add_zero]
    rfl
  | cons k r ih =>
    have ht : tot m0 (k :: r) = osz m0 k + tot m0 r := rfl
    have e : b + (osz m0 k + tot m0 r) = b + osz m0 k + tot m0 r := by omega
    rw [ht, e]
    show (if b ≤ i ∧ i < b + osz m0 k then m0 (k + (i - b)) else rawC m0 (b + osz m0 k) (r ++ [j]) i) = (if b + osz m0 k + tot m0 r ≤ i ∧ i < b + osz m0 k + tot m0 r + osz m0 j then m0 (j + (i - (b + osz m0 k + tot m0 r))) else if b ≤ i ∧ i < b + osz m0 k then m0 (k + (i - b)) else rawC m0 (b + osz m0 k) r i)
    rw [ih]
    by_cases h1 : b ≤ i ∧ i < b + osz m0 k
    · rw [if_pos h1, if_neg (by omega), if_pos h1]
    · rw [if_neg h1, if_neg h1]
/-- every copied word is a word of a copied object -/
theorem rawC_at {b : Nat} {cp : List Nat} {i : Nat} (hn : cp.Nodup) (h1 : b ≤ i) (h2 : i < b + tot m0 cp) : ∃ j ∈ cp, ∃ t, t < osz m0 j ∧ i = addrC m0 b cp j + t := by
  induction cp generalizing b with
  | nil => simp [tot] at h2; omega
  | cons k r ih =>
    obtain ⟨hk, hr⟩ := List.nodup_cons.1 hn
    simp only [tot] at h2
    by_cases h : i < b + osz m0 k
    · refine ⟨k, List.mem_cons_self, i - b, by omega, ?_⟩
      unfold addrC; rw [if_pos rfl]; omega
    · obtain ⟨j, hj, t, ht, e1⟩ := ih (b := b + osz m0 k) hr (by omega) (by omega)
      have e : j ≠ k := fun e => hk (by rw [← e]; exact hj)
      refine ⟨j, List.mem_cons_of_mem _ hj, t, ht, ?_⟩
      unfold addrC; rw [if_neg e]; exact e1

theorem fwdC_in {b : Nat} {cp : List Nat} {j : Nat} (h : j ∈ cp) (h0 : 0 < j) : fwdC m0 b cp (2 * (j : Int)) = 2 * (addrC m0 b cp j : Int) := by
  unfold fwdC
  have e : (2 * (j : Int) / 2).toNat = j := by omega
  rw [e, if_pos ⟨by omega, by omega, h⟩]
theorem fwdC_not {b : Nat} {cp : List Nat} {v : Int} (h : ∀ j ∈ cp, 0 < j → v ≠ 2 * (j : Int)) : fwdC m0 b cp v = v := by
  unfold fwdC
  rw [if_neg]
  rintro ⟨h1, h2, h3⟩
  exact h _ h3 (by omega) (by omega)
theorem fwdC_ext {Src : List Nat} {b : Nat} {cp l : List Nat} {v : Int} (hc : ∀ j ∈ Src, v = 2 * (j : Int) → j ∈ cp) (hs : ∀ j ∈ cp ++ l, j ∈ Src) : fwdC m0 b (cp ++ l) v = fwdC m0 b cp v := by
  by_cases h : ∃ j ∈ cp ++ l, 0 < j ∧ v = 2 * (j : Int)
  · obtain ⟨j, h1, h2, h3⟩ := h
    have h4 := hc j (hs j h1) h3
    rw [h3, fwdC_in h1 h2, fwdC_in h4 h2, addrC_old h4]
  · rw [fwdC_not fun j h1 h2 h3 => h ⟨j, h1, h2, h3⟩, fwdC_not fun j h1 h2 h3 => h ⟨j, List.mem_append_left _ h1, h2, h3⟩]
theorem fwdC_odd {b : Nat} {cp : List Nat} {v : Int} (h : v % 2 = 1) : fwdC m0 b cp v = v := fwdC_not fun j _ _ e => by omega
end

/-- a collection under way: cp lies copied from b on; d: the words that have been forwarded -/
structure Gc (m0 : Nat → Int) (Src : List Nat) (b L : Nat) (cp : List Nat) (d : Nat → Bool) : Prop where
  nd : cp.Nodup
  sub : ∀ j ∈ cp, j ∈ Src
  lim : b + tot m0 cp ≤ L
  cl : ∀ i, d i = true → ∀ j ∈ Src, rawC m0 b cp i = 2 * (j : Int) → j ∈ cp
  dn : ∀ i, d i = true → i < b + tot m0 cp
  sep : ∀ j ∈ Src, 0 < j ∧ ∀ t, t < osz m0 j → d (j + t) = false ∧ (j + t < b ∨ L ≤ j + t)
def setd (d : Nat → Bool) (k : Nat) : Nat → Bool := fun i => d i || decide (i = k)
theorem setd_true {d : Nat → Bool} {k i : Nat} : setd d k i = true ↔ d i = true ∨ i = k := by simp [setd]

section
variable {m0 : Nat → Int} {Src : List Nat} {b L : Nat} {cp : List Nat} {d : Nat → Bool}
theorem Gc.word (h : Gc m0 Src b L cp d) {j t : Nat} (hj : j ∈ Src) (ht : t < osz m0 j) : memC m0 b cp d (j + t) = m0 (j + t) := by
  obtain ⟨h1, h2⟩ := (h.sep j hj).2 t ht
  unfold memC
  rw [if_neg (by rw [h1]; simp), rawC_out]
  have := h.lim
  omega
theorem Gc.copy (h : Gc m0 Src b L cp d) {x : Nat} (hx : x ∈ Src) (hn : x ∉ cp) (hl : b + tot m0 cp + osz m0 x ≤ L) :
    Gc m0 Src b L (cp ++ [x]) d ∧ ∀ i, memC m0 b (cp ++ [x]) d i = if b + tot m0 cp ≤ i ∧ i < b + tot m0 cp + osz m0 x then m0 (x + (i - (b + tot m0 cp))) else memC m0 b cp d i := by
  have ht : tot m0 (cp ++ [x]) = tot m0 cp + osz m0 x := by rw [tot_append]; simp [tot]
  have hsub : ∀ j ∈ cp ++ [x], j ∈ Src := fun j hj => by
    rcases List.mem_append.1 hj with h1 | h1
    · exact h.sub j h1
    · simp at h1; rw [h1]; exact hx
  refine ⟨⟨?_, hsub, by rw [ht]; omega, fun i hi j hj e => ?_, fun i hi => by have := h.dn i hi; omega, h.sep⟩, fun i => ?_⟩
  · exact List.nodup_append.2 ⟨h.nd, by simp, fun a ha c hc e => by simp at hc; subst hc; subst e; exact hn ha⟩
  · have hd := h.dn i hi
    rw [rawC_snoc, if_neg (by omega)] at e
    exact List.mem_append_left _ (h.cl i hi j hj e)
  · unfold memC
    cases hd : d i
    · simp only [Bool.false_eq_true, if_false]
      rw [rawC_snoc]
    · have hdn := h.dn i hd
      simp only [if_true]
      rw [rawC_snoc, if_neg (by omega), if_neg (by omega)]
      exact fwdC_ext (fun j hj e => h.cl i hd j hj e) hsub
theorem Gc.mark (h : Gc m0 Src b L cp d) {k : Nat} (hk : k < b + tot m0 cp) (hs : ∀ j ∈ Src, ∀ t, t < osz m0 j → j + t ≠ k) (hc : ∀ j ∈ Src, rawC m0 b cp k = 2 * (j : Int) → j ∈ cp) :
    Gc m0 Src b L cp (setd d k) ∧ ∀ i, memC m0 b cp (setd d k) i = if i = k then fwdC m0 b cp (rawC m0 b cp k) else memC m0 b cp d i := by
  refine ⟨⟨h.nd, h.sub, h.lim, fun i hi j hj e => ?_, fun i hi => ?_, fun j hj => ⟨(h.sep j hj).1, fun t ht => ⟨?_, ((h.sep j hj).2 t ht).2⟩⟩⟩, fun i => ?_⟩
  · rcases setd_true.1 hi with h1 | rfl
    · exact h.cl i h1 j hj e
    · exact hc j hj e
  · rcases setd_true.1 hi with h1 | rfl
    · exact h.dn i h1
    · exact hk
  · rw [← Bool.not_eq_true, setd_true]
    rintro (h1 | h1)
    · rw [((h.sep j hj).2 t ht).1] at h1; cases h1
    · exact hs j hj t ht h1
  · unfold memC
    by_cases e : i = k
    · subst e
      rw [if_pos rfl, if_pos (setd_true.2 (.inr rfl))]
    · rw [if_neg e]
      cases hd : d i
      · rw [if_neg (by rw [setd_true]; rintro (h1 | h1); (rw [hd] at h1; cases h1); exact e h1)]; simp
      · rw [if_pos (setd_true.2 (.inl hd))]; simp
theorem Gc.free (h : Gc m0 Src b L cp d) {k : Nat} (hk : d k = false) : memC m0 b cp d k = rawC m0 b cp k := by unfold memC; rw [if_neg (by rw [hk]; simp)]
/-- the words of a copy -/
theorem Gc.copied (h : Gc m0 Src b L cp d) {j t : Nat} (hj : j ∈ cp) (ht : t < osz m0 j) : rawC m0 b cp (addrC m0 b cp j + t) = m0 (j + t) := rawC_in hj ht
end
end Go.Proofs.Ytkpeeemnholmnaa
