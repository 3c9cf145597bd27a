/- linear's scan: the plain law. No function of the program. -/
import Derived.Test.YtlcnbihfpjhffaaLinRow
namespace Go.Proofs.Ytlcnbihfpjhffaa
open Go.RowKit
set_option linter.unusedVariables false
set_option linter.unusedSimpArgs false

def updI (R : Int → Int) (r v : Int) : Int → Int := fun q => if q = r then v else R q
theorem updI_self (R : Int → Int) (r v : Int) : updI R r v r = v := if_pos rfl
theorem updI_ne (R : Int → Int) {r q : Int} (v : Int) (h : q ≠ r) : updI R r v q = R q := if_neg h
/-- a scan: registers, slots, the active ranges, the ends of the slots' last ranges -/
structure LS where
  (R S : Int → Int) (act : List RG) (sl : List Int)
def LS.init : LS := ⟨fun _ => -1, fun _ => -1, [], []⟩
def stillA (act : List RG) (b : Int) : List RG := act.filter fun y => !decide (y.e < b)
def SlotP (s : LS) (x : RG) (s' : LS) : Prop :=
  ∃ i : Nat, (((∃ e, s.sl[i]? = some e ∧ e < x.b) ∧ s'.sl = s.sl.set i x.e) ∨ (i = s.sl.length ∧ s'.sl = s.sl ++ [x.e])) ∧ s'.R = updI s.R x.r (-1) ∧ s'.S = updI s.S x.r (i : Int) ∧ s'.act = s.act
def spillS (s : LS) (x : RG) : LS := ⟨updI s.R x.r (-1), updI s.S x.r (s.sl.length : Int), s.act, s.sl ++ [x.e]⟩
def EnterP (s : LS) (x : RG) (n : Int) (s' : LS) : Prop := s'.R = updI s.R x.r n ∧ s'.S = updI s.S x.r (-1) ∧ s'.sl = s.sl ∧ s'.act.Perm (x :: s.act)
def FreeP (k : Int) (s : LS) (n : Int) : Prop := (1 ≤ n ∧ n ≤ k ∧ ∀ y ∈ s.act, s.R y.r ≠ n) ∨ (n = 0 ∧ ∀ m : Nat, 1 ≤ m → (m : Int) ≤ k → ∃ y ∈ s.act, s.R y.r = (m : Int))
def StepL (k : Int) (s : LS) (x : RG) (s' : LS) : Prop :=
  (x.s = true ∧ SlotP { s with act := stillA s.act x.b } x s') ∨
  (x.s = false ∧ ∃ n, FreeP k { s with act := stillA s.act x.b } n ∧
    ((1 ≤ n ∧ EnterP { s with act := stillA s.act x.b } x n s') ∨
     (n = 0 ∧ ∃ a' last, stillA s.act x.b = a' ++ [last] ∧ ((last.e ≤ x.e ∧ SlotP { s with act := stillA s.act x.b } x s') ∨ (x.e < last.e ∧ EnterP (spillS { s with act := a' } last) x (s.R last.r) s')))))
inductive RunL (k : Int) : List RG → LS → Prop
  | nil : RunL k [] LS.init
  | snoc (l : List RG) (x : RG) (s s' : LS) : RunL k l s → StepL k s x s' → RunL k (l ++ [x]) s'
/-- what the scan keeps -/
structure ScI (k : Int) (l : List RG) (b : Int) (s : LS) : Prop where
  place : ∀ x ∈ l, (1 ≤ s.R x.r ∧ s.R x.r ≤ k ∧ s.S x.r = -1) ∨ (s.R x.r = -1 ∧ 0 ≤ s.S x.r ∧ s.S x.r < s.sl.length)
  none : ∀ q, (∀ x ∈ l, x.r ≠ q) → s.R q = -1 ∧ s.S q = -1
  act : ∀ y ∈ s.act, y ∈ l ∧ 1 ≤ s.R y.r
  actR : s.act.Pairwise fun x y => s.R x.r ≠ s.R y.r
  gone : ∀ y ∈ l, 1 ≤ s.R y.r → y ∈ s.act ∨ y.e < b
  slots : ∀ y ∈ l, ∀ i : Nat, s.S y.r = (i : Int) → ∃ e, s.sl[i]? = some e ∧ y.e ≤ e
  apart : ∀ x ∈ l, ∀ y ∈ l, x.r ≠ y.r → x.b ≤ y.e → y.b ≤ x.e → ¬ (s.R x.r = s.R y.r ∧ 1 ≤ s.R x.r) ∧ ¬ (s.S x.r = s.S y.r ∧ 0 ≤ s.S x.r)
  kept : ∀ x ∈ l, x.s = true → 0 ≤ s.S x.r
theorem ScI.init (k b : Int) : ScI k [] b LS.init :=
  ⟨fun x h => (by cases h), fun q _ => ⟨rfl, rfl⟩, fun y h => (by cases h), List.Pairwise.nil, fun y h => (by cases h), fun y h => (by cases h), fun x h => (by cases h), fun x h => (by cases h)⟩
theorem stillA_mem {act : List RG} {b : Int} {y : RG} : y ∈ stillA act b ↔ y ∈ act ∧ b ≤ y.e := by
  unfold stillA
  rw [List.mem_filter]
  simp
theorem ScI.still {k : Int} {l : List RG} {b c : Int} {s : LS} (h : ScI k l b s) (hc : b ≤ c) : ScI k l c { s with act := stillA s.act c } := by
  refine ⟨h.place, h.none, fun y hy => h.act y (stillA_mem.1 hy).1, h.actR.filter _, fun y hy hr => ?_, h.slots, h.apart, h.kept⟩
  by_cases e : y.e < c
  · exact .inr e
  · rcases h.gone y hy hr with h1 | h1
    · exact .inl (stillA_mem.2 ⟨h1, by omega⟩)
    · exact .inr (by omega)
theorem ScI.slot {k : Int} {l : List RG} {s s' : LS} {x : RG} (h : ScI k l x.b s) (hx : ∀ y ∈ l, y.r ≠ x.r) (hbe : x.b ≤ x.e) (hs : SlotP s x s') : ScI k (l ++ [x]) x.b s' := by
  obtain ⟨i, hsl, hR, hS, hA⟩ := hs
  have hRy : ∀ y ∈ l, s'.R y.r = s.R y.r := fun y hy => by rw [hR, updI_ne _ _ (hx y hy)]
  have hSy : ∀ y ∈ l, s'.S y.r = s.S y.r := fun y hy => by rw [hS, updI_ne _ _ (hx y hy)]
  have hRx : s'.R x.r = -1 := by rw [hR, updI_self]
  have hSx : s'.S x.r = (i : Int) := by rw [hS, updI_self]
  have hlen : s.sl.length ≤ s'.sl.length ∧ i < s'.sl.length := by
    rcases hsl with ⟨⟨e, he, _⟩, h2⟩ | ⟨rfl, h2⟩
    · have := (List.getElem?_eq_some_iff.1 he).1
      rw [h2, List.length_set]; omega
    · rw [h2, List.length_append]; simp
  have hold : ∀ y ∈ l, s.S y.r = (i : Int) → y.e < x.b := fun y hy hi => by
    obtain ⟨e, h1, h2⟩ := h.slots y hy i hi
    rcases hsl with ⟨⟨e', he, h3⟩, _⟩ | ⟨rfl, _⟩
    · rw [h1] at he
      injection he with he
      omega
    · have := (List.getElem?_eq_some_iff.1 h1).1
      omega
  refine ⟨fun y hy => ?_, fun q hq => ?_, fun y hy => ?_, ?_, fun y hy hr => ?_, fun y hy j hj => ?_, fun y hy z hz hne h1 h2 => ?_, fun y hy hs => ?_⟩
  · rcases List.mem_append.1 hy with hy | hy
    · rw [hRy y hy, hSy y hy]
      rcases h.place y hy with h1 | h1
      · exact .inl h1
      · exact .inr ⟨h1.1, h1.2.1, by omega⟩
    · rw [List.mem_singleton.1 hy, hRx, hSx]
      exact .inr ⟨rfl, by omega, by omega⟩
  · have hqx := hq x (List.mem_append_right _ (List.mem_singleton.2 rfl))
    rw [hR, hS, updI_ne _ _ (fun e => hqx e.symm), updI_ne _ _ (fun e => hqx e.symm)]
    exact h.none q fun y hy => hq y (List.mem_append_left _ hy)
  · rw [hA] at hy
    have h1 := h.act y hy
    rw [hRy y h1.1]
    exact ⟨List.mem_append_left _ h1.1, h1.2⟩
  · rw [hA]
    refine h.actR.imp_of_mem fun {a b} ha hb hab => ?_
    rw [hRy a (h.act a ha).1, hRy b (h.act b hb).1]
    exact hab
  · rcases List.mem_append.1 hy with hy | hy
    · rw [hRy y hy] at hr
      rw [hA]
      exact h.gone y hy hr
    · rw [List.mem_singleton.1 hy, hRx] at hr
      omega
  · rcases List.mem_append.1 hy with hy | hy
    · rw [hSy y hy] at hj
      obtain ⟨e, h1, h2⟩ := h.slots y hy j hj
      by_cases e9 : j = i
      · subst e9
        have h3 := hold y hy hj
        refine ⟨x.e, ?_, by omega⟩
        have hl := (List.getElem?_eq_some_iff.1 h1).1
        rcases hsl with ⟨_, h4⟩ | ⟨rfl, h4⟩
        · rw [h4, List.getElem?_set_self hl]
        · omega
      · refine ⟨e, ?_, h2⟩
        have hl := (List.getElem?_eq_some_iff.1 h1).1
        rcases hsl with ⟨_, h4⟩ | ⟨rfl, h4⟩
        · rw [h4, List.getElem?_set_ne (fun e => e9 e.symm)]; exact h1
        · rw [h4, List.getElem?_append_left hl]; exact h1
    · rw [List.mem_singleton.1 hy] at hj ⊢
      rw [hSx] at hj
      obtain rfl : i = j := by omega
      refine ⟨x.e, ?_, Int.le_refl _⟩
      rcases hsl with ⟨⟨e, he, _⟩, h4⟩ | ⟨rfl, h4⟩
      · rw [h4, List.getElem?_set_self (List.getElem?_eq_some_iff.1 he).1]
      · rw [h4]; simp
  · rcases List.mem_append.1 hy with hy | hy
    · rcases List.mem_append.1 hz with hz | hz
      · rw [hRy y hy, hRy z hz, hSy y hy, hSy z hz]
        exact h.apart y hy z hz hne h1 h2
      · rw [List.mem_singleton.1 hz] at h1 h2 ⊢
        rw [hRy y hy, hRx, hSy y hy, hSx]
        exact ⟨fun h9 => by omega, fun h9 => by have := hold y hy h9.1; omega⟩
    · rw [List.mem_singleton.1 hy] at h1 h2 hne ⊢
      rcases List.mem_append.1 hz with hz | hz
      · rw [hRy z hz, hRx, hSy z hz, hSx]
        exact ⟨fun h9 => by omega, fun h9 => by have := hold z hz h9.1.symm; omega⟩
      · rw [List.mem_singleton.1 hz] at hne
        exact absurd rfl hne
  · rcases List.mem_append.1 hy with hy | hy
    · rw [hSy y hy]; exact h.kept y hy hs
    · rw [List.mem_singleton.1 hy, hSx]; omega
theorem ScI.enter {k : Int} {l : List RG} {s s' : LS} {x : RG} {n : Int} (h : ScI k l x.b s) (hx : ∀ y ∈ l, y.r ≠ x.r) (hn : 1 ≤ n ∧ n ≤ k) (hf : ∀ y ∈ s.act, s.R y.r ≠ n) (hxs : x.s = false) (hs : EnterP s x n s') : ScI k (l ++ [x]) x.b s' := by
  obtain ⟨hR, hS, hsl, hA⟩ := hs
  have hRy : ∀ y ∈ l, s'.R y.r = s.R y.r := fun y hy => by rw [hR, updI_ne _ _ (hx y hy)]
  have hSy : ∀ y ∈ l, s'.S y.r = s.S y.r := fun y hy => by rw [hS, updI_ne _ _ (hx y hy)]
  have hRx : s'.R x.r = n := by rw [hR, updI_self]
  have hSx : s'.S x.r = -1 := by rw [hS, updI_self]
  have hold : ∀ y ∈ l, s.R y.r = n → y.e < x.b := fun y hy hi => by
    rcases h.gone y hy (by omega) with h1 | h1
    · exact absurd hi (hf y h1)
    · exact h1
  refine ⟨fun y hy => ?_, fun q hq => ?_, fun y hy => ?_, ?_, fun y hy hr => ?_, fun y hy j hj => ?_, fun y hy z hz hne h1 h2 => ?_, fun y hy hs => ?_⟩
  · rw [hsl]
    rcases List.mem_append.1 hy with hy | hy
    · rw [hRy y hy, hSy y hy]
      exact h.place y hy
    · rw [List.mem_singleton.1 hy, hRx, hSx]
      exact .inl ⟨hn.1, hn.2, rfl⟩
  · have hqx := hq x (List.mem_append_right _ (List.mem_singleton.2 rfl))
    rw [hR, hS, updI_ne _ _ (fun e => hqx e.symm), updI_ne _ _ (fun e => hqx e.symm)]
    exact h.none q fun y hy => hq y (List.mem_append_left _ hy)
  · rcases List.mem_cons.1 (hA.subset hy) with rfl | hy
    · rw [hRx]
      exact ⟨List.mem_append_right _ (List.mem_singleton.2 rfl), hn.1⟩
    · have h1 := h.act y hy
      rw [hRy y h1.1]
      exact ⟨List.mem_append_left _ h1.1, h1.2⟩
  · refine (hA.pairwise_iff (fun h => fun e => h e.symm)).2 (List.pairwise_cons.2 ⟨fun y hy => ?_, ?_⟩)
    · rw [hRx, hRy y (h.act y hy).1]
      exact fun e => hf y hy e.symm
    · refine h.actR.imp_of_mem fun {a b} ha hb hab => ?_
      rw [hRy a (h.act a ha).1, hRy b (h.act b hb).1]
      exact hab
  · rcases List.mem_append.1 hy with hy | hy
    · rw [hRy y hy] at hr
      exact (h.gone y hy hr).imp (fun h1 => hA.symm.subset (List.mem_cons_of_mem _ h1)) id
    · rw [List.mem_singleton.1 hy]
      exact .inl (hA.symm.subset (List.mem_cons_self ..))
  · rw [hsl]
    rcases List.mem_append.1 hy with hy | hy
    · rw [hSy y hy] at hj
      exact h.slots y hy j hj
    · rw [List.mem_singleton.1 hy, hSx] at hj
      omega
  · rcases List.mem_append.1 hy with hy | hy
    · rcases List.mem_append.1 hz with hz | hz
      · rw [hRy y hy, hRy z hz, hSy y hy, hSy z hz]
        exact h.apart y hy z hz hne h1 h2
      · rw [List.mem_singleton.1 hz] at h1 h2 ⊢
        rw [hRy y hy, hRx, hSy y hy, hSx]
        exact ⟨fun h9 => by have := hold y hy h9.1; omega, fun h9 => by omega⟩
    · rw [List.mem_singleton.1 hy] at h1 h2 hne ⊢
      rcases List.mem_append.1 hz with hz | hz
      · rw [hRy z hz, hRx, hSy z hz, hSx]
        exact ⟨fun h9 => by have := hold z hz h9.1.symm; omega, fun h9 => by omega⟩
      · rw [List.mem_singleton.1 hz] at hne
        exact absurd rfl hne
  · rcases List.mem_append.1 hy with hy | hy
    · rw [hSy y hy]; exact h.kept y hy hs
    · rw [List.mem_singleton.1 hy, hxs] at hs
      cases hs
theorem ScI.spill {k : Int} {l : List RG} {c : Int} {s : LS} {a' : List RG} {last : RG} (h : ScI k l c s) (hl : l.Pairwise fun x y => x.r ≠ y.r) (ha : s.act = a' ++ [last]) : ScI k l c (spillS { s with act := a' } last) ∧ ∀ y ∈ a', (spillS { s with act := a' } last).R y.r ≠ s.R last.r := by
  have hlast : last ∈ s.act := by rw [ha]; exact List.mem_append_right _ (List.mem_singleton.2 rfl)
  have hll := h.act last hlast
  have hpw := h.actR
  rw [ha, List.pairwise_append] at hpw
  have hne : ∀ y ∈ l, y ≠ last → y.r ≠ last.r := fun y hy hne he => by
    have hsym : ∀ x ∈ l, ∀ y ∈ l, x ≠ y → x.r ≠ y.r := fun x hx y hy hxy => by
      obtain ⟨i, hi, rfl⟩ := List.getElem_of_mem hx
      obtain ⟨j, hj, rfl⟩ := List.getElem_of_mem hy
      rw [List.pairwise_iff_getElem] at hl
      rcases Nat.lt_trichotomy i j with h1 | h1 | h1
      · exact hl i j hi hj h1
      · subst h1; exact absurd rfl hxy
      · exact fun e => hl j i hj hi h1 e.symm
    exact hsym y hy last hll.1 hne he
  have hna : ∀ y ∈ a', y ≠ last := fun y hy e => by
    subst e
    exact hpw.2.2 y hy y (List.mem_singleton.2 rfl) rfl
  have hal : ∀ y ∈ a', y ∈ l := fun y hy => (h.act y (by rw [ha]; exact List.mem_append_left _ hy)).1
  have hRy : ∀ y ∈ l, y ≠ last → (spillS { s with act := a' } last).R y.r = s.R y.r := fun y hy hn => updI_ne _ _ (hne y hy hn)
  have hSy : ∀ y ∈ l, y ≠ last → (spillS { s with act := a' } last).S y.r = s.S y.r := fun y hy hn => updI_ne _ _ (hne y hy hn)
  have hRl : (spillS { s with act := a' } last).R last.r = -1 := updI_self _ _ _
  have hSl : (spillS { s with act := a' } last).S last.r = (s.sl.length : Int) := updI_self _ _ _
  have hsl : (spillS { s with act := a' } last).sl = s.sl ++ [last.e] := rfl
  have hA : (spillS { s with act := a' } last).act = a' := rfl
  have dec : ∀ y : RG, y = last ∨ y ≠ last := fun y => Classical.em _
  refine ⟨⟨fun y hy => ?_, fun q hq => ?_, fun y hy => ?_, ?_, fun y hy hr => ?_, fun y hy j hj => ?_, fun y hy z hz hnr h1 h2 => ?_, fun y hy hs => ?_⟩, fun y hy => ?_⟩
  · rw [hsl, List.length_append]
    rcases dec y with e | e
    · rw [e, hRl, hSl]
      exact .inr ⟨rfl, by omega, by simp; omega⟩
    · rw [hRy y hy e, hSy y hy e]
      rcases h.place y hy with h1 | h1
      · exact .inl h1
      · exact .inr ⟨h1.1, h1.2.1, by simp; omega⟩
  · have h1 := hq last hll.1
    show updI s.R last.r (-1) q = -1 ∧ updI s.S last.r (s.sl.length : Int) q = -1
    rw [updI_ne _ _ (fun e => h1 e.symm), updI_ne _ _ (fun e => h1 e.symm)]
    exact h.none q hq
  · rw [hA] at hy
    rw [hRy y (hal y hy) (hna y hy)]
    exact ⟨hal y hy, (h.act y (by rw [ha]; exact List.mem_append_left _ hy)).2⟩
  · rw [hA]
    refine hpw.1.imp_of_mem fun {a b} ha' hb hab => ?_
    rw [hRy a (hal a ha') (hna a ha'), hRy b (hal b hb) (hna b hb)]
    exact hab
  · rcases dec y with e | e
    · rw [e, hRl] at hr; omega
    · rw [hRy y hy e] at hr
      rcases h.gone y hy hr with h1 | h1
      · rw [ha] at h1
        rcases List.mem_append.1 h1 with h1 | h1
        · exact .inl h1
        · exact absurd (List.mem_singleton.1 h1) e
      · exact .inr h1
  · rw [hsl]
    rcases dec y with e | e
    · rw [e, hSl] at hj
      obtain rfl : s.sl.length = j := by omega
      rw [e]
      exact ⟨last.e, by simp, Int.le_refl _⟩
    · rw [hSy y hy e] at hj
      obtain ⟨e9, h1, h2⟩ := h.slots y hy j hj
      exact ⟨e9, by rw [List.getElem?_append_left (List.getElem?_eq_some_iff.1 h1).1]; exact h1, h2⟩
  · have hnew : ∀ z ∈ l, s.S z.r ≠ (s.sl.length : Int) := fun z hz e => by
      rcases h.place z hz with h3 | h3 <;> omega
    rcases dec y with e | e
    · rcases dec z with e' | e'
      · rw [e, e'] at hnr; exact absurd rfl hnr
      · rw [e, hRl, hSl, hSy z hz e']
        exact ⟨fun h9 => by omega, fun h9 => hnew z hz h9.1.symm⟩
    · rcases dec z with e' | e'
      · rw [e', hRl, hSl, hRy y hy e, hSy y hy e]
        exact ⟨fun h9 => by omega, fun h9 => hnew y hy h9.1⟩
      · rw [hRy y hy e, hSy y hy e, hRy z hz e', hSy z hz e']
        exact h.apart y hy z hz hnr h1 h2
  · rcases dec y with e | e
    · rw [e, hSl]; omega
    · rw [hSy y hy e]; exact h.kept y hy hs
  · rw [hRy y (hal y hy) (hna y hy)]
    exact hpw.2.2 y hy last (List.mem_singleton.2 rfl)
theorem ScI.step {k : Int} {l : List RG} {b : Int} {s s' : LS} {x : RG} (h : ScI k l b s) (hb : b ≤ x.b) (hl : l.Pairwise fun x y => x.r ≠ y.r) (hx : ∀ y ∈ l, y.r ≠ x.r) (hbe : x.b ≤ x.e) (hs : StepL k s x s') : ScI k (l ++ [x]) x.b s' := by
  have h1 := h.still hb
  rcases hs with ⟨_, h2⟩ | ⟨h2, n, h3, h4⟩
  · exact h1.slot hx hbe h2
  · rcases h4 with ⟨h4, h5⟩ | ⟨h4, a', last, h5, h6⟩
    · rcases h3 with h3 | h3
      · exact h1.enter hx ⟨h3.1, h3.2.1⟩ h3.2.2 h2 h5
      · omega
    · rcases h6 with ⟨_, h6⟩ | ⟨_, h6⟩
      · exact h1.slot hx hbe h6
      · have hlast : last ∈ ({ s with act := stillA s.act x.b } : LS).act := by
          show last ∈ stillA s.act x.b
          rw [h5]; exact List.mem_append_right _ (List.mem_singleton.2 rfl)
        have h7 := h1.act last hlast
        have h8 : s.R last.r ≤ k := by
          rcases h.place last h7.1 with h9 | h9
          · exact h9.2.1
          · have : 1 ≤ s.R last.r := h7.2
            omega
        obtain ⟨h9, h10⟩ := h1.spill (a' := a') (last := last) hl h5
        exact h9.enter hx ⟨h7.2, h8⟩ h10 h2 h6
/-- the whole scan -/
theorem RunL.sci {k : Int} {l : List RG} {s : LS} (h : RunL k l s) (ho : l.Pairwise LexR) (hr : l.Pairwise fun x y => x.r ≠ y.r) (hbe : ∀ x ∈ l, x.b ≤ x.e) : ∃ b, (∀ c, (∀ x ∈ l, x.b ≤ c) → b ≤ c ∨ l = []) ∧ ScI k l b s := by
  induction h with
  | nil => exact ⟨0, fun _ _ => .inr rfl, ScI.init k 0⟩
  | snoc l x s s' _ hs ih =>
    rw [List.pairwise_append] at ho hr
    obtain ⟨b, h1, h2⟩ := ih ho.1 hr.1 fun y hy => hbe y (List.mem_append_left _ hy)
    have hle : ∀ y ∈ l, y.b ≤ x.b := fun y hy => by
      rcases ho.2.2 y hy x (List.mem_singleton.2 rfl) with h3 | h3 <;> omega
    have hx : ∀ y ∈ l, y.r ≠ x.r := fun y hy => hr.2.2 y hy x (List.mem_singleton.2 rfl)
    have hxe := hbe x (List.mem_append_right _ (List.mem_singleton.2 rfl))
    refine ⟨x.b, fun c hc => .inl (hc x (List.mem_append_right _ (List.mem_singleton.2 rfl))), ?_⟩
    rcases h1 x.b hle with h3 | h3
    · exact h2.step h3 hr.1 hx hxe hs
    · subst h3
      have h4 : ScI k [] (min b x.b) s := ⟨h2.place, h2.none, h2.act, h2.actR, fun y hy => (by cases hy), h2.slots, h2.apart, h2.kept⟩
      exact h4.step (by omega) hr.1 hx hxe hs
/-! ## when there is room -/
theorem RunL.one {s : LS} (h : RunL 1 [⟨1, 0, 0, false⟩] s) : s.R 1 = 1 := by
  generalize hl : [(⟨1, 0, 0, false⟩ : RG)] = l at h
  cases h with
  | nil => cases hl
  | snoc l x s s' hrun hstep =>
    obtain ⟨rfl, rfl⟩ : l = [] ∧ x = ⟨1, 0, 0, false⟩ := by
      match l, hl with
      | [], hl => injection hl with h1; exact ⟨rfl, h1.symm⟩
      | y :: l, hl => simp at hl
    generalize hl2 : ([] : List RG) = l2 at hrun
    cases hrun with
    | snoc l x _ _ _ _ => simp at hl2
    | nil =>
      rcases hstep with ⟨h1, _⟩ | ⟨_, n, h3, h4⟩
      · cases h1
      · rcases h4 with ⟨h4, h5⟩ | ⟨_, a', last, h5, _⟩
        · rcases h3 with h3 | ⟨h3, _⟩
          · obtain rfl : n = 1 := by omega
            rw [h5.1, updI_self]
          · omega
        · simp [stillA, LS.init] at h5
end Go.Proofs.Ytlcnbihfpjhffaa
