/- A slice that came in, with the reach of what lies in it; a slice of marks. No program. -/
import Derived.Test.YtnfgjcdiophphabDebugFind
import Derived.SizedLaws
namespace Go.Proofs.Ytnfgjcdiophphab
open Go.Joins Go.ChangeShapes Go.WideShapes Go.ChangeAt Go.RowKit Go.Deep
set_option linter.unusedVariables false

section
variable {H : Type} {enc : TypeId × Value → H} {P : Program} {w : World} {base : Nat} {held : Bool}

theorem weightsAll_mem {e : TypeId} {x : DataW H} {y : Nat} : ∀ {l : List (DataW H)}, x ∈ l → y ∈ x.weights P e → y ∈ DataW.weightsAll P e l
  | a :: l, h, hy => by
    simp only [DataW.weightsAll, List.mem_append]
    rcases List.mem_cons.1 h with rfl | h
    · exact .inl hy
    · exact .inr (weightsAll_mem h hy)

/-- a slice of whatever elements, the reach of each known -/
theorem come_sliceW {α : Type} {t e : TypeId} {a : Option Addr} {len cap sz : Nat} {d : DataW H} {p : List MemPlace} (R : Nat) (E : α → List Value) (Q : α → Prop)
    (ht : P.underlying t = some (.slice e)) (hC : P.cellsOf e = sz)
    (hE : ∀ n cs x, DataW.trod enc P w base (fun _ => true) held n e cs = some x → (∀ y ∈ x.1.weights P e, y ≤ R) → ∃ z, cs = E z ∧ Q z)
    (h : DataW.Trod enc P w base (fun _ => true) held t (.slice a len cap) d p) (hw : ∀ y ∈ d.weights P t, y ≤ R) :
    ∃ zs : List α, Came w a len cap sz (zs.map E) ∧ (∀ z ∈ zs, Q z) ∧ len * P.bytesOf e ≤ R := by
  obtain ⟨fuel, hf⟩ := h
  rcases open_slice ht hf with ⟨hcs, _⟩ | ⟨x, l, c, m, n, D, Pl, hcs, _, hl, hm, hmm, hd, hi⟩
  · simp [Value.cells] at hcs
    obtain ⟨rfl, rfl, rfl⟩ := hcs
    exact ⟨[], ⟨rfl, Nat.le_refl _, by omega, fun _ => ⟨rfl, rfl⟩, fun v hv => by simp at hv, fun h => by omega⟩, fun z hz => by simp at hz, by omega⟩
  · simp [Value.cells] at hcs
    obtain ⟨rfl, rfl, rfl⟩ := hcs
    simp only [if_true] at hmm
    subst hmm
    rw [hC] at hi
    simp only [Prod.mk.injEq] at hd
    obtain ⟨rfl, _⟩ := hd
    rw [DataW.weights, ht] at hw
    simp only [List.length_map, List.length_range, List.mem_cons, List.mem_append] at hw
    obtain ⟨zs, hzl, hzs⟩ := exists_list len (fun i z => w.cells? base (x.add (i * sz)) sz = some (E z) ∧ Q z) (fun i hil => by
      obtain ⟨cs', hc, htr⟩ := hi i (by omega)
      obtain ⟨z, rfl, hq⟩ := hE _ _ _ htr (fun y hy => hw y (.inr (.inl (weightsAll_mem (List.mem_map.2 ⟨i, List.mem_range.2 hil, rfl⟩) hy))))
      exact ⟨z, hc, hq⟩)
    have hrow : ∀ z ∈ zs, (E z).length = sz ∧ Q z := fun z hz => by
      obtain ⟨i, hi', rfl⟩ := List.getElem_of_mem hz
      obtain ⟨h1, h2⟩ := hzs i _ (List.getElem?_eq_getElem hi')
      exact ⟨(World.cells?_some h1).2.1, h2⟩
    have hb := hw _ (.inl rfl)
    refine ⟨zs, ⟨by simpa using hzl, hl, by unfold maxLen at hm; omega, fun h => by simp at h, ?_, ?_⟩, fun z hz => (hrow z hz).2, Nat.le_trans (Nat.mul_le_mul_right _ (Nat.le_add_right _ _)) hb⟩
    · intro v hv
      obtain ⟨z, hz, rfl⟩ := List.mem_map.1 hv
      exact (hrow z hz).1
    · intro h0 h1
      have hz0 : zs[0]? = some (zs[0]'(by omega)) := List.getElem?_eq_getElem (by omega)
      have hc0 := (World.cells?_some (hzs 0 _ hz0).1).2.2 0 h1
      have hl0 := (World.cells?_some (hzs 0 _ hz0).1).2.1
      rw [List.getElem?_eq_getElem (by omega)] at hc0
      obtain ⟨b, off, spot⟩ := x
      have hspot : spot = none := by simpa [Addr.add] using World.cell?_spot hc0
      subst hspot
      refine ⟨b, off, rfl, ?_, ?_⟩
      · have := World.block_lt_of_cell? w _ hc0; simpa [Addr.add_lit] using this
      · intro i v hv j hj
        rw [List.getElem?_map] at hv
        obtain ⟨z, hz, rfl⟩ := Option.map_eq_some_iff.1 hv
        have := (World.cells?_some (hzs i z hz).1).2.2 j hj
        simpa [Addr.add_lit, Nat.add_assoc] using this

theorem come_marksW {t e ei ev es eg : TypeId} {f0 f1 f2 f3 g0 g1 g2 : Field} {a : Option Addr} {len cap : Nat} {d : DataW H} {p : List MemPlace} (ht : P.underlying t = some (.slice e)) (he : P.underlying e = some (.struct #[f0, f1, f2, f3])) (hi : P.underlying ei = some (.int .i64))
    (hev : P.underlying ev = some (.slice es)) (hes : P.underlying es = some (.struct #[g0, g1, g2])) (hg : P.underlying eg = some .string)
    (hC : (P.cellsOf e == 4 && (P.cellsOf ei == 1 && (P.cellsOf ev == 1 && (f0.offset == 0 && (f1.offset == 1 && (f2.offset == 2 && (f3.offset == 3 && (f0.type == ei && (f1.type == ei && (f2.type == ei && (f3.type == ev && (P.cellsOf es == 3 && (P.cellsOf eg == 1 && (g0.offset == 0 && (g1.offset == 1 && (g2.offset == 2 && (g0.type == eg && (g1.type == ei && (g2.type == ei && P.bytesOf es == 32))))))))))))))))))) = true)
    (h : DataW.Trod enc P w base (fun _ => true) held t (.slice a len cap) d p) (hw : ∀ y ∈ d.weights P t, y ≤ reachBytes) :
    ∃ zs : List MarkD, Came w a len cap 4 (zs.map markCells) ∧ ∀ z ∈ zs, VarsOk w z := by
  simp only [Bool.and_eq_true, beq_iff_eq] at hC
  obtain ⟨k, ki, kv, o0, o1, o2, o3, t0, t1, t2, t3, ks, kg, q0, q1, q2, s0, s1, s2, kb⟩ := hC
  have hmain := come_sliceW (sz := 4) reachBytes markCells (VarsOk w) ht k (fun n cs x hx hwx => ?_) h hw
  · obtain ⟨zs, h1, h2, _⟩ := hmain
    exact ⟨zs, h1, h2⟩
  · obtain ⟨xs, m, _, hxe, hlen, hxl, hgt⟩ := DataW.trod_struct he hx
    rw [k] at hlen
    match cs, hlen with
    | [c0, c1, c2, c3], _ =>
      match xs, hxl with
      | [y0, y1, y2, y3], _ =>
        have h0 := hgt 0 f0 rfl
        have h1 := hgt 1 f1 rfl
        have h2 := hgt 2 f2 rfl
        have h3 := hgt 3 f3 rfl
        rw [o0, t0, ki] at h0
        rw [o1, t1, ki] at h1
        rw [o2, t2, ki] at h2
        rw [o3, t3, kv] at h3
        obtain ⟨z0, e0, _⟩ := DataW.trod_int hi (cs := [c0]) (x := y0) h0
        obtain ⟨z1, e1, _⟩ := DataW.trod_int hi (cs := [c1]) (x := y1) h1
        obtain ⟨z2, e2, _⟩ := DataW.trod_int hi (cs := [c2]) (x := y2) h2
        simp only [List.cons.injEq, and_true] at e0 e1 e2
        subst e0
        subst e1
        subst e2
        have hwy : ∀ y ∈ y3.1.weights P ev, y ≤ reachBytes := by
          intro y hy
          refine hwx y ?_
          rw [hxe, DataW.weights, he]
          simp only [List.map_cons, List.map_nil, DataW.weightsEach, List.mem_append, t3]
          exact .inr (.inr (.inr (.inl hy)))
        have h3' : DataW.trod enc P w base (fun _ => true) held m ev [c3] = some y3 := h3
        obtain ⟨va, vl, vc, hc3⟩ : ∃ va vl vc, c3 = .slice va vl vc := by
          rcases open_slice hev h3' with ⟨hcs, _⟩ | ⟨x, l, c, m', n', D, Pl, hcs, _⟩
          · simp at hcs; exact ⟨_, _, _, hcs⟩
          · simp at hcs; exact ⟨_, _, _, hcs⟩
        subst hc3
        have hT : DataW.Trod enc P w base (fun _ => true) held ev (.slice va vl vc) y3.1 y3.2 := ⟨m, h3'⟩
        have hin := come_sliceW (sz := 3) reachBytes (fun cs : List Value => cs) (fun cs => ∀ u ∈ cs, u.oneCell' = true) hev ks (fun n' cs' x' hx' _ => by
          obtain ⟨xs', m', _, _, hlen', hxl', hgt'⟩ := DataW.trod_struct hes hx'
          rw [ks] at hlen'
          match cs', hlen' with
          | [c0', c1', c2'], _ =>
            match xs', hxl' with
            | [y0', y1', y2'], _ =>
              have h0' := hgt' 0 g0 rfl
              have h1' := hgt' 1 g1 rfl
              have h2' := hgt' 2 g2 rfl
              rw [q0, s0, kg] at h0'
              rw [q1, s1, ki] at h1'
              rw [q2, s2, ki] at h2'
              obtain ⟨z0', e0', _⟩ := DataW.trod_string hg (cs := [c0']) (x := y0') h0'
              obtain ⟨z1', e1', _⟩ := DataW.trod_int hi (cs := [c1']) (x := y1') h1'
              obtain ⟨z2', e2', _⟩ := DataW.trod_int hi (cs := [c2']) (x := y2') h2'
              simp only [List.cons.injEq, and_true] at e0' e1' e2'
              subst e0'
              subst e1'
              subst e2'
              refine ⟨_, rfl, fun u hu => ?_⟩
              simp only [List.mem_cons, List.not_mem_nil, or_false] at hu
              rcases hu with rfl | rfl | rfl <;> rfl) hT hwy
        obtain ⟨vs, hv1, hv2, hv3⟩ := hin
        rw [List.map_id'] at hv1
        rw [kb] at hv3
        exact ⟨⟨z0, z1, z2, va, vl, vc⟩, rfl, vs, hv1, hv2, Nat.le_trans hv3 (by have := reachBytes_lt; omega)⟩
end
end Go.Proofs.Ytnfgjcdiophphab
