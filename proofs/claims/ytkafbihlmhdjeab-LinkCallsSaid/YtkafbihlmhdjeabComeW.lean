/- A slice that came in, with the reach of what lies in it. No program. -/
import Derived.Test.YtkafbihlmhdjeabOpens
import Derived.SizedLaws
import Derived.Lib.SmallJoins
namespace Go.Proofs.Ytkafbihlmhdjeab
open Go.Joins Go.ChangeShapes Go.WideShapes Go.ChangeAt Go.RowKit Go.Deep
set_option linter.unusedVariables false

section
variable {H : Type} {enc : TypeId × Value → H} {P : Program} {w : World} {base : Nat} {held : Bool}

theorem weightsAll_mem {e : TypeId} {x : DataW H} {y : Nat} : ∀ {l : List (DataW H)}, x ∈ l → y ∈ x.weights P e → y ∈ DataW.weightsAll P e l
  | a :: l, h, hy => by
    simp only [DataW.weightsAll, List.mem_append]
    rcases List.mem_cons.1 h with rfl | h
    · exact .inl hy
    · exact .inr (weightsAll_mem h hy)

/-- a slice of whatever elements, the reach of each known -/
theorem come_sliceW {α : Type} {t e : TypeId} {a : Option Addr} {len cap sz : Nat} {d : DataW H} {p : List MemPlace} (R : Nat) (E : α → List Value) (Q : α → Prop)
    (ht : P.underlying t = some (.slice e)) (hC : P.cellsOf e = sz)
    (hE : ∀ n cs x, DataW.trod enc P w base (fun _ => true) held n e cs = some x → (∀ y ∈ x.1.weights P e, y ≤ R) → ∃ z, cs = E z ∧ Q z)
    (h : DataW.Trod enc P w base (fun _ => true) held t (.slice a len cap) d p) (hw : ∀ y ∈ d.weights P t, y ≤ R) :
    ∃ zs : List α, Came w a len cap sz (zs.map E) ∧ (∀ z ∈ zs, Q z) ∧ len * P.bytesOf e ≤ R := by
  obtain ⟨fuel, hf⟩ := h
  rcases open_slice ht hf with ⟨hcs, _⟩ | ⟨x, l, c, m, n, D, Pl, hcs, _, hl, hm, hmm, hd, hi⟩
  · simp [Value.cells] at hcs
    obtain ⟨rfl, rfl, rfl⟩ := hcs
    exact ⟨[], ⟨rfl, Nat.le_refl _, by omega, fun _ => ⟨rfl, rfl⟩, fun v hv => by simp at hv, fun h => by omega⟩, fun z hz => by simp at hz, by omega⟩
  · simp [Value.cells] at hcs
    obtain ⟨rfl, rfl, rfl⟩ := hcs
    simp only [if_true] at hmm
    subst hmm
    rw [hC] at hi
    simp only [Prod.mk.injEq] at hd
    obtain ⟨rfl, _⟩ := hd
    rw [DataW.weights, ht] at hw
    simp only [List.length_map, List.length_range, List.mem_cons, List.mem_append] at hw
    obtain ⟨zs, hzl, hzs⟩ := exists_list len (fun i z => w.cells? base (x.add (i * sz)) sz = some (E z) ∧ Q z) (fun i hil => by
      obtain ⟨cs', hc, htr⟩ := hi i (by omega)
      obtain ⟨z, rfl, hq⟩ := hE _ _ _ htr (fun y hy => hw y (.inr (.inl (weightsAll_mem (List.mem_map.2 ⟨i, List.mem_range.2 hil, rfl⟩) hy))))
      exact ⟨z, hc, hq⟩)
    have hrow : ∀ z ∈ zs, (E z).length = sz ∧ Q z := fun z hz => by
      obtain ⟨i, hi', rfl⟩ := List.getElem_of_mem hz
      obtain ⟨h1, h2⟩ := hzs i _ (List.getElem?_eq_getElem hi')
      exact ⟨(World.cells?_some h1).2.1, h2⟩
    have hb := hw _ (.inl rfl)
    refine ⟨zs, ⟨by simpa using hzl, hl, by unfold maxLen at hm; omega, fun h => by simp at h, ?_, ?_⟩, fun z hz => (hrow z hz).2, Nat.le_trans (Nat.mul_le_mul_right _ (Nat.le_add_right _ _)) hb⟩
    · intro v hv
      obtain ⟨z, hz, rfl⟩ := List.mem_map.1 hv
      exact (hrow z hz).1
    · intro h0 h1
      have hz0 : zs[0]? = some (zs[0]'(by omega)) := List.getElem?_eq_getElem (by omega)
      have hc0 := (World.cells?_some (hzs 0 _ hz0).1).2.2 0 h1
      have hl0 := (World.cells?_some (hzs 0 _ hz0).1).2.1
      rw [List.getElem?_eq_getElem (by omega)] at hc0
      obtain ⟨b, off, spot⟩ := x
      have hspot : spot = none := by simpa [Addr.add] using World.cell?_spot hc0
      subst hspot
      refine ⟨b, off, rfl, ?_, ?_⟩
      · have := World.block_lt_of_cell? w _ hc0; simpa [Addr.add_lit] using this
      · intro i v hv j hj
        rw [List.getElem?_map] at hv
        obtain ⟨z, hz, rfl⟩ := Option.map_eq_some_iff.1 hv
        have := (World.cells?_some (hzs i z hz).1).2.2 j hj
        simpa [Addr.add_lit, Nat.add_assoc] using this


theorem int_cellV {t : TypeId} {n : Nat} {c : Value} {x : DataW H × List MemPlace} (ht : P.underlying t = some (.int .i64)) (h : DataW.trod enc P w base (fun _ => true) held n t [c] = some x) : ∃ z : Int, c = .int .i64 z ∧ I64 z := by
  obtain ⟨z, e, _, hz⟩ := DataW.trod_int ht h
  simp only [List.cons.injEq, and_true] at e
  exact ⟨z, e, wf_bounds_i64 hz⟩
theorem slice_cellV {t e : TypeId} {n : Nat} {c : Value} {x : DataW H × List MemPlace} (ht : P.underlying t = some (.slice e)) (h : DataW.trod enc P w base (fun _ => true) held n t [c] = some x) : ∃ a l k, c = .slice a l k ∧ DataW.Trod enc P w base (fun _ => true) held t (.slice a l k) x.1 x.2 := by
  obtain ⟨a, l, k, hc⟩ : ∃ a l k, c = .slice a l k := by
    rcases open_slice ht h with ⟨hcs, _⟩ | ⟨x, l, c, m', n', D, Pl, hcs, _⟩
    · simp at hcs; exact ⟨_, _, _, hcs⟩
    · simp at hcs; exact ⟨_, _, _, hcs⟩
  subst hc
  exact ⟨a, l, k, rfl, n, h⟩
theorem come_intsW {t e : TypeId} {a : Option Addr} {len cap : Nat} {d : DataW H} {p : List MemPlace} (ht : P.underlying t = some (.slice e)) (he : P.underlying e = some (.int .i64)) (hC : P.cellsOf e = 1) (hb : P.bytesOf e = 8)
    (h : DataW.Trod enc P w base (fun _ => true) held t (.slice a len cap) d p) (hw : ∀ y ∈ d.weights P t, y ≤ reachBytes) : ∃ zs : List Int, Came w a len cap 1 (zs.map intCells) ∧ (∀ z ∈ zs, I64 z) ∧ len * 8 ≤ 140737488351232 := by
  obtain ⟨zs, h1, h2, h3⟩ := come_sliceW (sz := 1) reachBytes intCells I64 ht hC (fun n cs x hx _ => by
    have hl : cs.length = 1 := by
      obtain ⟨z, e, _⟩ := DataW.trod_int he hx
      rw [e]; rfl
    match cs, hl with
    | [c], _ =>
      obtain ⟨z, rfl, hz⟩ := int_cellV he hx
      exact ⟨z, rfl, hz⟩) h hw
  rw [hb] at h3
  exact ⟨zs, h1, h2, Nat.le_trans h3 (by decide)⟩
end
end Go.Proofs.Ytkafbihlmhdjeab
