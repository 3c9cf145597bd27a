/- Plain facts on a sorted list into which one number is put; a slice that came in, cut at its front. No function of the program. -/
import Derived.Test.YtgcbdndfobiphabRunApp
import Derived.Test.YtgcbdndfobiphabCycles
namespace Go.Proofs.Ytgcbdndfobiphab
open Go.RowKit
set_option linter.unusedVariables false
set_option linter.unusedSimpArgs false

theorem insN_first {l : List Nat} {e : Nat} (h : ∀ y ∈ l, e < y) : insN l e = e :: l := by
  have hz : l.countP (· < e) = 0 := by
    rw [List.countP_eq_zero]
    intro x hx
    simp only [decide_eq_true_eq, Nat.not_lt]
    have := h x hx; omega
  unfold insN
  rw [hz]; rfl
theorem filter_insN (nx e : Nat) : ∀ (l : List Nat), l.Pairwise (· < ·) → e ∉ l → (insN l e).filter (fun y => decide (nx ≤ y)) = if nx ≤ e then insN (l.filter fun y => decide (nx ≤ y)) e else l.filter fun y => decide (nx ≤ y)
  | [], _, _ => by
    by_cases h : nx ≤ e <;> simp [insN, h]
  | a :: l, hs, he => by
    obtain ⟨h1, h2⟩ := List.pairwise_cons.1 hs
    have hae : a ≠ e := fun h => he (by rw [h]; exact List.mem_cons_self)
    have hel : e ∉ l := fun h => he (List.mem_cons_of_mem _ h)
    by_cases hlt : a < e
    · rw [insN_cons a l e hlt]
      have ih := filter_insN nx e l h2 hel
      by_cases hna : nx ≤ a
      · have hne : nx ≤ e := by omega
        simp only [List.filter_cons, hna, decide_true, if_true, ih, hne]
        rw [insN_cons a _ e hlt]
      · simp only [List.filter_cons, hna, decide_false, Bool.false_eq_true, if_false, ih]
    · have hgt : ∀ y ∈ a :: l, e < y := fun y hy => by
        rcases List.mem_cons.1 hy with rfl | hy
        · omega
        · have := h1 y hy; omega
      rw [insN_first hgt]
      by_cases hne : nx ≤ e
      · rw [if_pos hne, insN_first (fun y hy => hgt y (List.mem_filter.1 hy).1)]
        simp [List.filter_cons, hne]
      · rw [if_neg hne]
        simp [List.filter_cons, hne]
theorem insN_at {l : List Nat} {e k : Nat} (hs : l.Pairwise (· < ·)) (he : e ∉ l) (hk : k ≤ l.length) (h1 : ∀ j (hj : j < l.length), k ≤ j → e < l[j]) (h2 : k = 0 ∨ ∃ h : k - 1 < l.length, ¬ e < l[k - 1]) : l.take k ++ e :: l.drop k = insN l e := by
  have hc : l.countP (· < e) = k := by
    rw [← List.take_append_drop k l, List.countP_append]
    have e1 : (l.take k).countP (· < e) = k := by
      rw [List.countP_eq_length.2]
      · simp; omega
      · intro x hx
        obtain ⟨j, hj, rfl⟩ := List.getElem_of_mem hx
        simp at hj ⊢
        rcases h2 with h2 | ⟨h3, h2⟩
        · omega
        · have hne : l[k - 1] ≠ e := fun h => he (by rw [← h]; exact List.getElem_mem _)
          by_cases ej : j = k - 1
          · subst ej; omega
          · have := List.pairwise_iff_getElem.mp hs j (k - 1) (by omega) h3 (by omega)
            omega
    have e2 : (l.drop k).countP (· < e) = 0 := by
      rw [List.countP_eq_zero]
      intro x hx
      obtain ⟨j, hj, rfl⟩ := List.getElem_of_mem hx
      simp at hj ⊢
      have := h1 (k + j) (by omega) (by omega)
      omega
    omega
  unfold insN
  rw [hc]

/-- 's[k:]' of a slice that came in -/
def dropA (a : Option Addr) (k c : Nat) : Option Addr := match a with | none => none | some ad => if c = k then some ad else some (ad.add k)
theorem came_drop {w : World} {a : Option Addr} {n c k : Nat} {zs : List Int} (h : Came w a n c 1 (zs.map intCells)) (hk : k ≤ n) : Came w (dropA a k c) (n - k) (c - k) 1 ((zs.drop k).map intCells) := by
  have hl : zs.length = n := by simpa using h.count
  have h1 := h.le
  have h2 := h.max
  refine ⟨by simp; omega, by omega, by omega, fun e => ?_, fun v hv => ?_, fun h0 _ => ?_⟩
  · cases a with
    | none => obtain ⟨rfl, rfl⟩ := h.nil rfl; simp
    | some ad => unfold dropA at e; simp only [] at e; split at e <;> cases e
  · obtain ⟨z, _, rfl⟩ := List.mem_map.1 hv; rfl
  · obtain ⟨b, off, rfl, hb, hc⟩ := h.cells (by omega) (by omega)
    refine ⟨b, off + k, by simp [dropA, show c ≠ k by omega, Addr.add_lit], hb, fun i v hv j hj => ?_⟩
    have := hc (k + i) v (by rw [List.getElem?_map] at hv ⊢; rw [List.getElem?_drop] at hv; exact hv) j hj
    rw [← this, show off + k + (i * 1 + j) = off + ((k + i) * 1 + j) by omega]
theorem owns_row_one (w : World) (z : Int) : (w.alloc (.cells #[.int .i64 z] 3)).ownsRow w.heap.size 3 1 (.slice (some ⟨w.heap.size, 0, none⟩) 1 1) 1 ([z].map (Value.int .i64)) :=
  ⟨rfl, .inr ⟨w.heap.size, 1, #[.int .i64 z], rfl, Nat.le_refl _, heap_alloc_new w _, Nat.le_refl _, by decide, rfl, rfl⟩⟩
/-- append(v0, append([]int{z}, s...)...) -/
theorem two_apps (w : World) (B : Nat) (v0 : Value) (xs ys : List Int) (z : Int) (a : Option Addr) (m c : Nat) (ty1 ty2 : TypeId) (h0 : IRow w v0 xs) (hB : ∀ q, v0.ownBlock = some q → B ≤ q) (hBw : B ≤ w.heap.size) (hc : Came w a m c 1 (ys.map intCells)) (hn : xs.length + (1 + m) ≤ 100000) :
    ∃ b1 c1 w1 v3 w3, (Builtin.append_ #[23, 23] ty1 #[.slice (some ⟨w.heap.size, 0, none⟩) 1 1, .slice a m c]).run Try.prog (w.alloc (.cells #[.int .i64 z] 3)) = .ok (.slice (some ⟨b1, 0, none⟩) (1 + m) c1) w1 ∧
      (Builtin.append_ #[23, 23] ty2 #[v0, .slice (some ⟨b1, 0, none⟩) (1 + m) c1]).run Try.prog w1 = .ok v3 w3 ∧ IRow w3 v3 (xs ++ z :: ys) ∧ Below B (w.alloc (.cells #[.int .i64 z] 3)) w1 ∧ Below B w1 w3 := by
  obtain ⟨i0, hi0, hz0, hz1, hz2⟩ := info_parts Try.infoT3
  have hm : ys.length = m := by simpa using hc.count
  have hba : Below w.heap.size w (w.alloc (.cells #[.int .i64 z] 3)) := (Below.refl _ _).alloc (Nat.le_refl _) _
  obtain ⟨v1, w1, r1, o1, g1⟩ := run_app (w.alloc (.cells #[.int .i64 z] 3)) ty1 (.slice (some ⟨w.heap.size, 0, none⟩) 1 1) w.heap.size 1 [z] (owns_row_one w z) a m c ys (hc.below hba) (by omega) (by simp)
  have hir : IRow w1 v1 ([z] ++ ys) := IRow.owns (n := 1 + m) (base := w.heap.size) o1
  have hlen : ([z] ++ ys).length = 1 + m := by simp; omega
  rcases o1.2 with ⟨_, e0⟩ | ⟨b1, c1, cur, rfl, hb1, hcu, h3, h4, h5, h6⟩
  · omega
  have hb1' : Below w.heap.size (w.alloc (.cells #[.int .i64 z] 3)) w1 := grown_below g1 (fun q hq => by simp [Value.ownBlock] at hq; omega) (by simp)
  have hi1 : IRow w1 v0 xs := h0.kept fun q hq => by
    have hql := h0.lt q hq
    rw [hb1'.block q hql, hba.block q hql]
  obtain ⟨v3, w3, r3, i3, g3, _⟩ := run_append_irow (P := Try.prog) (w := w1) (v := v0) (zs := xs) (ys := z :: ys) 23 ty2 i0 Try.underlying23 hi0 hz0 hz1 hz2 hi1 ⟨b1, 0, none⟩ c1 (fun j hj => by
    rw [Addr.add_lit, Nat.zero_add, hir.word (g := b1) rfl (i := j) (by simpa using hj)]
    rfl) (by simp; omega)
  refine ⟨b1, c1, w1, v3, w3, r1, ?_, i3, hb1'.mono hBw, grown_below g3 hB (Nat.le_trans hBw (by have := hb1'.size; simp at this; omega))⟩
  have e : (z :: ys).length = 1 + m := by simp; omega
  rw [e] at r3
  exact r3
end Go.Proofs.Ytgcbdndfobiphab
