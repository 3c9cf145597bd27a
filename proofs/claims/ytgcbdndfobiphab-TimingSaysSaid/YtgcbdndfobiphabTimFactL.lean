/- The law's timingFact. -/
import Derived.Test.YtgcbdndfobiphabCycles
namespace Go.Proofs.Ytgcbdndfobiphab
open Go.RowKit
set_option linter.unusedVariables false
set_option linter.unusedSimpArgs false

def flat5 (l : List Op5) : List Value := l.flatMap opC
theorem flat5_len (l : List Op5) : (flat5 l).length = l.length * 5 := by
  induction l with
  | nil => rfl
  | cons a l ih =>
    show (opC a ++ flat5 l).length = _
    rw [List.length_append, ih, opC_len, List.length_cons]; omega
theorem flat5_append (l l' : List Op5) : flat5 (l ++ l') = flat5 l ++ flat5 l' := by simp [flat5]
theorem flat5_get : ∀ (l : List Op5) (i j : Nat) (h : i < l.length), j < 5 → (flat5 l)[i * 5 + j]? = (opC l[i])[j]?
  | a :: l, 0, j, _, hj => by
    show (opC a ++ flat5 l)[0 * 5 + j]? = _
    rw [Nat.zero_mul, Nat.zero_add, List.getElem?_append_left (by rw [opC_len]; exact hj)]
    rfl
  | a :: l, i + 1, j, h, hj => by
    show (opC a ++ flat5 l)[(i + 1) * 5 + j]? = _
    rw [List.getElem?_append_right (by rw [opC_len]; omega), opC_len, show (i + 1) * 5 + j - 5 = i * 5 + j by omega]
    exact flat5_get l i j (by simpa using h) hj
theorem came_flat5 {w : World} {base : Nat} {e : TypeId} {v : Value} {l : List Op5} (h : w.ownsRow base e 5 v l.length (flat5 l)) : ∃ a c, v = .slice a l.length c ∧ Came w a l.length c 5 (l.map opC) := by
  obtain ⟨_, h2⟩ := h
  have hsz : ∀ v ∈ l.map opC, v.length = 5 := by
    intro v hv
    obtain ⟨o, _, rfl⟩ := List.mem_map.1 hv
    rfl
  rcases h2 with ⟨rfl, h0⟩ | ⟨g, c, cur, rfl, hbg, hg, hle, hmx, hcs, htk⟩
  · refine ⟨none, 0, by rw [h0], ⟨by simp, by omega, by omega, fun _ => ⟨by omega, rfl⟩, hsz, fun h => by omega⟩⟩
  · unfold maxLen at hmx
    refine ⟨_, c, rfl, ⟨by simp, hle, by omega, fun h => by simp at h, hsz, fun h0 _ => ⟨g, 0, rfl, lt_of_block hg, fun i u hu j hj => ?_⟩⟩⟩
    have hil : i < l.length := by have := (List.getElem?_eq_some_iff.1 hu).1; simpa using this
    rw [List.getElem?_map, List.getElem?_eq_getElem hil] at hu
    simp at hu
    have h3 := flat5_get l i j hil hj
    rw [← htk, List.getElem?_take, if_pos (by omega)] at h3
    rw [← hu, ← h3]
    simp [World.cell?, hg]

def mulAdd : List Op5 := [⟨12, 1, 2, 0, 0⟩, ⟨8, 3, 1, 0, 0⟩]
theorem mulAdd_done : (runS mulAdd).done = 4 := by decide
theorem mulAdd_good : ∀ o ∈ mulAdd, GoodOp o := by
  intro o ho
  simp only [mulAdd, List.mem_cons, List.not_mem_nil, or_false] at ho
  rcases ho with rfl | rfl
  · exact ⟨by decide, by decide⟩
  · exact ⟨by decide, by decide⟩

theorem timingFactL_ok (w : World) : Calls Try.prog 4 #[] w fun e w' => e = .returned (.bool true) ∧ Below w.heap.size w w' := by
  have hb : Below w.heap.size w (w.alloc (.cells (flat5 mulAdd).toArray 27)) := (Below.refl _ _).alloc (Nat.le_refl _) _
  obtain ⟨a, c, he, hc⟩ := came_flat5 (w := w.alloc (.cells (flat5 mulAdd).toArray 27)) (base := 0) (e := 27) (v := .slice (some ⟨w.heap.size, 0, none⟩) 2 2) (l := mulAdd) ⟨rfl, .inr ⟨w.heap.size, 2, _, rfl, Nat.zero_le _, heap_alloc_new w _, Nat.le_refl _, by unfold maxLen; omega, rfl, rfl⟩⟩
  simp only [Value.slice.injEq] at he
  obtain ⟨rfl, hz2, rfl⟩ := he
  clear hz2
  have HCY := Lib.hid (cycles_ok mulAdd _ 2 2 _ hc (by omega) mulAdd_good)
  rw [mulAdd_done] at HCY
  have HB := Lib.hid hb
  clear hc hb
  go_enter Try.func4, Try.ntmps4
  go_wp2_with fail
  refine HCY.out.mono ?_
  rintro e w' ⟨rfl, hb2⟩
  have HB2 := Lib.hid (HB.out.trans (hb2.mono HB.out.size))
  clear hb2
  go_wp2
  go_ret
  exact ⟨rfl, HB2.out⟩
end Go.Proofs.Ytgcbdndfobiphab
