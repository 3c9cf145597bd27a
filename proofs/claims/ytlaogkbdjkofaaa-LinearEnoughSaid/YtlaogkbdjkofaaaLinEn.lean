/- Where no range lies over a call and no point lies in more than k ranges, the scan makes no slots: the plain law. -/
import Derived.Test.YtlaogkbdjkofaaaScanF
namespace Go.Proofs.Ytlaogkbdjkofaaa
open Go.RowKit
set_option linter.unusedVariables false
set_option linter.unusedSimpArgs false

theorem ranges_mem {f : VF} {n nb : Nat} {l l' : List RG} (h : RangesP f n nb l) (h' : RangesP f n nb l') {x : RG} (hx : x ∈ l') : x ∈ l := by
  obtain ⟨q, h1, h2, h3, h4, h5, h6, h7⟩ := h'.el x hx
  obtain ⟨y, hy, hyq⟩ := h.all q x.b h2 h3 h4
  obtain ⟨q', h1', _, _, h4', h5', h6', h7'⟩ := h.el y hy
  obtain rfl : q = q' := by omega
  have e1 := h6 _ h4'
  have e2 := h6 _ h5'
  have e3 := h6' _ h4
  have e4 := h6' _ h5
  have hb : y.b = x.b := by omega
  have he : y.e = x.e := by omega
  have hs : y.s = x.s := by
    rw [Bool.eq_iff_iff, h7, h7', hb, he]
  have : y = x := by
    cases x; cases y
    simp at hb he hs hyq h1
    subst hb he hs
    simp; omega
  rw [← this]; exact hy
theorem ranges_be {f : VF} {n nb : Nat} {l : List RG} (h : RangesP f n nb l) : ∀ x ∈ l, x.b ≤ x.e := fun x hx => by
  obtain ⟨_, _, _, _, h4, _, h6, _⟩ := h.el x hx
  exact (h6 _ h4).2
theorem lin_none {f : VF} {n nb k : Nat} {a : AL} (h : LinLaw f n nb k a) {l : List RG} (hl : RangesP f n nb l) (hs : ∀ x ∈ l, x.s = false) (hc : ∀ x ∈ l, crossN l x ≤ k) : a.k = 0 := by
  obtain ⟨l', s, h1, h2, _, _, h5, _⟩ := h
  have hnil : s.sl = [] := RunL.room h1.ord h1.once (ranges_be h1) (fun x hx => hs x (ranges_mem hl h1 hx)) (fun x hx => by
    refine Nat.le_trans ?_ (hc x (ranges_mem hl h1 hx))
    unfold crossN
    have h7 := sub_len ((l'.filter fun y => decide (y.b ≤ x.b) && decide (x.b ≤ y.e)).map RG.r) ((l.filter fun y => decide (y.b ≤ x.b) && decide (x.b ≤ y.e)).map RG.r) (by
      rw [List.pairwise_map]
      exact (h1.once.filter _).imp fun h => h) (fun q hq => by
      obtain ⟨y, hy, rfl⟩ := List.mem_map.1 hq
      rw [List.mem_filter] at hy
      exact List.mem_map.2 ⟨y, List.mem_filter.2 ⟨ranges_mem hl h1 hy.1, hy.2⟩, rfl⟩)
    simpa using h7) h2 (r := []) (by simp)
  rw [h5, hnil]; rfl
/-- how many of the first j ranges hold x's begin -/
def cntC (l : List RG) (x : RG) (j : Nat) : Nat := ((l.take j).filter fun y => decide (y.b ≤ x.b) && decide (x.b ≤ y.e)).length
theorem cntC_le (l : List RG) (x : RG) (j : Nat) : cntC l x j ≤ j := Nat.le_trans (List.length_filter_le ..) (by simp; omega)
theorem cntC_all (l : List RG) (x : RG) : cntC l x l.length = crossN l x := by unfold cntC crossN; rw [List.take_length]
theorem cntC_yes {l : List RG} {x : RG} {j : Nat} (hj : j < l.length) (h : l[j].b ≤ x.b ∧ x.b ≤ l[j].e) : cntC l x (j + 1) = cntC l x j + 1 := by
  unfold cntC
  rw [List.take_add_one, List.getElem?_eq_getElem hj, Option.toList_some, List.filter_append, List.filter_cons_of_pos (by simp; omega), List.length_append]
  simp
theorem cntC_no {l : List RG} {x : RG} {j : Nat} (hj : j < l.length) (h : ¬ (l[j].b ≤ x.b ∧ x.b ≤ l[j].e)) : cntC l x (j + 1) = cntC l x j := by
  unfold cntC
  rw [List.take_add_one, List.getElem?_eq_getElem hj, Option.toList_some, List.filter_append, List.filter_cons_of_neg (by simp; omega)]
  simp
end Go.Proofs.Ytlaogkbdjkofaaa
