/- A row of integers that may be cut short (its capacity may be less than its block), and what 'append' makes of it. No function of the program. -/
import Derived.Test.YtgcbdndfobiphabOwn
import Derived.Test.YtgcbdndfobiphabOpens
import Derived.Test.YtgcbdndfobiphabIssue
namespace Go.Proofs.Ytgcbdndfobiphab
open Go.RowKit
set_option linter.unusedVariables false

def intV (z : Int) : Value := .int .i64 z
/-- an own row of integers, or its beginning -/
def IRow (w : World) (v : Value) (zs : List Int) : Prop :=
  (v = .slice none 0 0 ∧ zs = []) ∨
  ∃ g cap cur, v = .slice (some ⟨g, 0, none⟩) zs.length cap ∧ w.heap[g]? = some (.cells cur 3 (0, 0)) ∧ zs.length ≤ cap ∧ cap ≤ cur.size ∧ cap ≤ maxLen ∧ cur.toList.take zs.length = zs.map intV

section
variable {w w' : World} {v : Value} {zs ys : List Int}
theorem IRow.nil (w : World) : IRow w (.slice none 0 0) [] := .inl ⟨rfl, rfl⟩
theorem IRow.lt (h : IRow w v zs) : ∀ g, v.ownBlock = some g → g < w.heap.size := fun g hg => by
  rcases h with ⟨rfl, _⟩ | ⟨g', cap, cur, rfl, h1, _⟩
  · cases hg
  · have : g' = g := by simpa [Value.ownBlock] using hg
    subst this
    exact lt_of_block h1
theorem IRow.kept (h : IRow w v zs) (hb : ∀ g, v.ownBlock = some g → w'.heap[g]? = w.heap[g]?) : IRow w' v zs := by
  rcases h with ⟨rfl, rfl⟩ | ⟨g, cap, cur, rfl, h1, h2⟩
  · exact .inl ⟨rfl, rfl⟩
  · exact .inr ⟨g, cap, cur, rfl, (hb g rfl).trans h1, h2⟩
theorem IRow.owns {n : Nat} {base : Nat} (h : w.ownsRow base 3 1 v n (zs.map intV)) : IRow w v zs := by
  have hl : zs.length = n := by have := h.1; simpa using this
  rcases h.2 with ⟨rfl, rfl⟩ | ⟨g, cap, cur, rfl, h1, h2, h3, h4, h5, h6⟩
  · exact .inl ⟨rfl, List.eq_nil_of_length_eq_zero hl⟩
  · exact .inr ⟨g, cap, cur, by rw [hl], h2, by omega, by omega, h4, by rw [hl]; simpa using h6⟩
theorem IRow.shape (h : IRow w v zs) : ∃ a cap, v = .slice a zs.length cap ∧ zs.length ≤ cap ∧ cap ≤ maxLen := by
  rcases h with ⟨rfl, rfl⟩ | ⟨g, cap, cur, rfl, h1, h2, h3, h4, h5⟩
  · exact ⟨_, _, rfl, Nat.le_refl _, by decide⟩
  · exact ⟨_, _, rfl, h2, h4⟩
theorem IRow.word {g : Nat} (h : IRow w v zs) (hg : v.ownBlock = some g) {i : Nat} (hi : i < zs.length) : w.cell? ⟨g, i, none⟩ = some (.int .i64 zs[i]) := by
  rcases h with ⟨rfl, _⟩ | ⟨g', cap, cur, rfl, h1, h2, h3, h4, h5⟩
  · cases hg
  · have : g' = g := by simpa [Value.ownBlock] using hg
    subst this
    rw [cell_of_row w g' i cur _ _ h1]
    have h6 : (cur.toList.take zs.length)[i]? = some (intV zs[i]) := by rw [h5, List.getElem?_map, List.getElem?_eq_getElem hi]; rfl
    rw [List.getElem?_take_of_lt hi] at h6
    simpa [intV] using h6
theorem IRow.form (h : IRow w v zs) (h0 : 0 < zs.length) : ∃ g cap, v = .slice (some ⟨g, 0, none⟩) zs.length cap ∧ g < w.heap.size ∧ zs.length ≤ cap ∧ cap ≤ maxLen := by
  rcases h with ⟨rfl, rfl⟩ | ⟨g, cap, cur, rfl, h1, h2, h3, h4, h5⟩
  · simp at h0
  · exact ⟨_, _, rfl, lt_of_block h1, h2, h4⟩
theorem IRow.came {a : Option Addr} {n cap : Nat} (h : IRow w (.slice a n cap) zs) : n = zs.length ∧ Came w a n cap 1 (zs.map intCells) := by
  rcases h with ⟨e, rfl⟩ | ⟨g, c, cur, e, h1, h2, h3, h4, h5⟩
  · injection e with e1 e2 e3
    subst e1 e2 e3
    exact ⟨rfl, ⟨rfl, Nat.le_refl _, by omega, fun _ => ⟨rfl, rfl⟩, fun v hv => by simp at hv, fun h => by omega⟩⟩
  · injection e with e1 e2 e3
    subst e1 e2 e3
    refine ⟨rfl, ⟨by simp, h2, by unfold maxLen at h4; omega, fun h => by simp at h, fun v hv => ?_, fun h0 _ => ⟨g, 0, rfl, lt_of_block h1, fun i v hv j hj => ?_⟩⟩⟩
    · obtain ⟨z, _, rfl⟩ := List.mem_map.1 hv; rfl
    · rw [List.getElem?_map] at hv
      cases hz : zs[i]? with
      | none => rw [hz] at hv; cases hv
      | some z =>
        rw [hz] at hv
        have hv : intCells z = v := by simpa using hv
        subst hv
        obtain ⟨hi, rfl⟩ := List.getElem?_eq_some_iff.1 hz
        have : j = 0 := by omega
        subst this
        rw [show 0 + (i * 1 + 0) = i by omega, IRow.word (.inr ⟨g, cap, cur, rfl, h1, h2, h3, h4, h5⟩) rfl hi]
        rfl
/-- its beginning, with nothing behind it -/
theorem IRow.cut {g n cap : Nat} (h : IRow w (.slice (some ⟨g, 0, none⟩) n cap) zs) {k : Nat} (hk : k ≤ zs.length) : IRow w (.slice (some ⟨g, 0, none⟩) k k) (zs.take k) := by
  rcases h with ⟨e, _⟩ | ⟨g', c, cur, e, h1, h2, h3, h4, h5⟩
  · cases e
  · injection e with e1 e2 e3
    injection e1 with e1
    injection e1 with e1
    subst e1 e2 e3
    have hl : (zs.take k).length = k := by simp; omega
    refine .inr ⟨g, k, cur, by rw [hl], h1, by omega, by omega, by unfold maxLen at h4 ⊢; omega, ?_⟩
    rw [hl, List.map_take, ← h5, List.take_take, Nat.min_eq_left hk]

/-- what append makes of it -/
theorem run_append_irow {P : Program} (t ty : TypeId) (i : TypeInfo) (ht : P.underlying t = some (.slice 3)) (hi : P.info? 3 = some i) (hz : i.zero = some (.int .i64 0))
    (hsize : i.size = 1) (hby : i.bytes = 8) (hown : IRow w v zs) (ad : Addr) (c : Nat) (hnews : ∀ j (hj : j < ys.length), w.cell? (ad.add j) = some (intV ys[j])) (hn : zs.length + ys.length ≤ 100000) :
    ∃ v' w', (Builtin.append_ #[t, t] ty #[v, .slice (some ad) ys.length c]).run P w = .ok v' w' ∧ IRow w' v' (zs ++ ys) ∧ w.grownBy w' v.ownBlock ∧ (∀ g, v'.ownBlock = some g → v.ownBlock = some g ∨ g = w.heap.size) := by
  have hnw : ∀ j u, (ys.map intV)[j]? = some u → w.cell? (ad.add j) = some u := fun j u hu => by
    rw [List.getElem?_map] at hu
    cases hy : ys[j]? with
    | none => rw [hy] at hu; cases hu
    | some y =>
      rw [hy] at hu
      obtain ⟨hj, rfl⟩ := List.getElem?_eq_some_iff.1 hy
      rw [hnews j hj]
      exact hu
  have h1c : ∀ u ∈ ys.map intV, u.oneCell' = true := fun u hu => by obtain ⟨z, _, rfl⟩ := List.mem_map.1 hu; rfl
  rcases hown with ⟨rfl, rfl⟩ | ⟨g, cap, cur, rfl, h1, h2, h3, h4, h5⟩
  · have hown : w.ownsRow 0 3 1 (.slice none 0 0) 0 [] := World.ownsRow_nil _ _ _ _
    obtain ⟨v', w', e1, e2, e3, e4⟩ := run_append_own (P := P) w 0 t ty 3 i (.int .i64 0) 1 8 ht hi hz hsize hby rfl (by decide) _ 0 [] hown ad ys.length c (ys.map intV) (by simp) hnw h1c (by unfold maxLen; simp at hn; omega) (by simp at hn; omega) (Nat.zero_le _)
    refine ⟨v', w', e1, IRow.owns (n := 0 + ys.length) (base := 0) (by simpa using e2), e3, fun g hg => ?_⟩
    by_cases hy : ys.length = 0
    · rw [e4.2 ⟨rfl, hy⟩] at hg; cases hg
    · have hr := run_append_nil (P := P) w t ty 3 i (.int .i64 0) ht hi hz ad ys.length c (ys.map intV) (by simp [hsize]) hnw (by omega) (by simp at hn; omega) (by rw [hby]; simp at hn; omega)
      rw [hr] at e1
      injection e1 with e1 _
      subst e1
      right
      simpa [Value.ownBlock] using hg.symm
  · have hl : (zs ++ ys).length = zs.length + ys.length := by simp
    by_cases hroom : zs.length + ys.length ≤ cap
    · have hr := run_append_room (P := P) w t ty 3 i ht hi g zs.length cap cur h1 ad ys.length c (ys.map intV) (by simp [hsize]) hnw h1c hroom (by simp [hsize]; omega)
      refine ⟨_, _, hr, .inr ⟨g, cap, _, by rw [hl], setRow_heap w g cur _ _ _ h1, by omega, ?_, h4, ?_⟩, ⟨rfl, rfl, rfl, by simp, fun k _ hk => setRow_other w g k _ (fun e => hk (by simp [Value.ownBlock, e]))⟩, fun g' hg => .inl hg⟩
      · simp [hsize]; omega
      · rw [hl, hsize, Nat.mul_one, h5]
        have e : ((zs.map intV ++ ys.map intV ++ cur.toList.drop (zs.length + (ys.map intV).length)).toArray).toList.take (zs.length + ys.length) = (zs.map intV ++ ys.map intV) := by
          rw [List.toList_toArray]
          exact List.take_left' (by simp)
        rw [e, List.map_append]
    · have holds : ∀ j u, (zs.map intV)[j]? = some u → w.cell? ((⟨g, 0, none⟩ : Addr).add j) = some u := fun j u hu => by
        rw [List.getElem?_map] at hu
        cases hy : zs[j]? with
        | none => rw [hy] at hu; cases hu
        | some y =>
          rw [hy] at hu
          obtain ⟨hj, rfl⟩ := List.getElem?_eq_some_iff.1 hy
          have hadd : (⟨g, 0, none⟩ : Addr).add j = ⟨g, j, none⟩ := by unfold Addr.add; split <;> simp_all
          rw [hadd, IRow.word (.inr ⟨g, cap, cur, rfl, h1, h2, h3, h4, h5⟩) rfl hj]
          exact hu
      have hr := run_append_grow (P := P) w t ty 3 i (.int .i64 0) ht hi hz ⟨g, 0, none⟩ zs.length cap (zs.map intV) (by simp [hsize]) holds ad ys.length c (ys.map intV) (by simp [hsize]) hnw (by omega) (by omega) (growslice_fits (by omega) (by rw [hby]; omega))
      have hge := grownCap_ge w (zs.length + ys.length) cap 3
      have hcm : grownCap w (zs.length + ys.length) cap 3 ≤ maxLen := grownCap_le_maxLen w (zs.length + ys.length) cap 3 (by unfold maxLen; omega)
      refine ⟨_, _, hr, .inr ⟨w.heap.size, _, _, by rw [hl], heap_alloc_new w.drew _, by omega, ?_, hcm, ?_⟩, ⟨rfl, rfl, rfl, by simp, fun k hk _ => heap_alloc_old w.drew _ hk⟩, fun g' hg => .inr (by simpa [Value.ownBlock] using hg.symm)⟩
      · simp only [Array.size_append, List.size_toArray, size_zeroCells]
        simp [Value.cells]
        omega
      · simp only [Array.toList_append, List.append_assoc]
        rw [← List.append_assoc, hl]
        have e : (zs.map intV).toArray.toList ++ (ys.map intV).toArray.toList = (zs ++ ys).map intV := by simp
        rw [e]
        exact List.take_left' (by simp)
end
end Go.Proofs.Ytgcbdndfobiphab
