/- A state of the pipeline that came in. -/
import Derived.Test.YtgcbdndfobiphabTimeG
import Derived.Test.YtgcbdndfobiphabOpens
import Derived.SizedLaws
import Derived.Lib.SmallJoins
namespace Go.Proofs.Ytgcbdndfobiphab
open Go.Joins Go.ChangeShapes Go.WideShapes Go.ChangeAt Go.RowKit Go.Deep
set_option linter.unusedVariables false
set_option linter.unusedSimpArgs false

section
variable {H : Type} {enc : TypeId × Value → H} {P : Program} {w : World} {base : Nat} {held : Bool}

theorem weightsAll_mem {e : TypeId} {x : DataW H} {y : Nat} : ∀ {l : List (DataW H)}, x ∈ l → y ∈ x.weights P e → y ∈ DataW.weightsAll P e l
  | a :: l, h, hy => by
    simp only [DataW.weightsAll, List.mem_append]
    rcases List.mem_cons.1 h with rfl | h
    · exact .inl hy
    · exact .inr (weightsAll_mem h hy)

/-- a slice of whatever elements, the reach of each known -/
theorem come_sliceW {α : Type} {t e : TypeId} {a : Option Addr} {len cap sz : Nat} {d : DataW H} {p : List MemPlace} (R : Nat) (E : α → List Value) (Q : α → Prop)
    (ht : P.underlying t = some (.slice e)) (hC : P.cellsOf e = sz)
    (hE : ∀ n cs x, DataW.trod enc P w base (fun _ => true) held n e cs = some x → (∀ y ∈ x.1.weights P e, y ≤ R) → ∃ z, cs = E z ∧ Q z)
    (h : DataW.Trod enc P w base (fun _ => true) held t (.slice a len cap) d p) (hw : ∀ y ∈ d.weights P t, y ≤ R) :
    ∃ zs : List α, Came w a len cap sz (zs.map E) ∧ (∀ z ∈ zs, Q z) ∧ len * P.bytesOf e ≤ R := by
  obtain ⟨fuel, hf⟩ := h
  rcases open_slice ht hf with ⟨hcs, _⟩ | ⟨x, l, c, m, n, D, Pl, hcs, _, hl, hm, hmm, hd, hi⟩
  · simp [Value.cells] at hcs
    obtain ⟨rfl, rfl, rfl⟩ := hcs
    exact ⟨[], ⟨rfl, Nat.le_refl _, by omega, fun _ => ⟨rfl, rfl⟩, fun v hv => by simp at hv, fun h => by omega⟩, fun z hz => by simp at hz, by omega⟩
  · simp [Value.cells] at hcs
    obtain ⟨rfl, rfl, rfl⟩ := hcs
    simp only [if_true] at hmm
    subst hmm
    rw [hC] at hi
    simp only [Prod.mk.injEq] at hd
    obtain ⟨rfl, _⟩ := hd
    rw [DataW.weights, ht] at hw
    simp only [List.length_map, List.length_range, List.mem_cons, List.mem_append] at hw
    obtain ⟨zs, hzl, hzs⟩ := exists_list len (fun i z => w.cells? base (x.add (i * sz)) sz = some (E z) ∧ Q z) (fun i hil => by
      obtain ⟨cs', hc, htr⟩ := hi i (by omega)
      obtain ⟨z, rfl, hq⟩ := hE _ _ _ htr (fun y hy => hw y (.inr (.inl (weightsAll_mem (List.mem_map.2 ⟨i, List.mem_range.2 hil, rfl⟩) hy))))
      exact ⟨z, hc, hq⟩)
    have hrow : ∀ z ∈ zs, (E z).length = sz ∧ Q z := fun z hz => by
      obtain ⟨i, hi', rfl⟩ := List.getElem_of_mem hz
      obtain ⟨h1, h2⟩ := hzs i _ (List.getElem?_eq_getElem hi')
      exact ⟨(World.cells?_some h1).2.1, h2⟩
    have hb := hw _ (.inl rfl)
    refine ⟨zs, ⟨by simpa using hzl, hl, by unfold maxLen at hm; omega, fun h => by simp at h, ?_, ?_⟩, fun z hz => (hrow z hz).2, Nat.le_trans (Nat.mul_le_mul_right _ (Nat.le_add_right _ _)) hb⟩
    · intro v hv
      obtain ⟨z, hz, rfl⟩ := List.mem_map.1 hv
      exact (hrow z hz).1
    · intro h0 h1
      have hz0 : zs[0]? = some (zs[0]'(by omega)) := List.getElem?_eq_getElem (by omega)
      have hc0 := (World.cells?_some (hzs 0 _ hz0).1).2.2 0 h1
      have hl0 := (World.cells?_some (hzs 0 _ hz0).1).2.1
      rw [List.getElem?_eq_getElem (by omega)] at hc0
      obtain ⟨b, off, spot⟩ := x
      have hspot : spot = none := by simpa [Addr.add] using World.cell?_spot hc0
      subst hspot
      refine ⟨b, off, rfl, ?_, ?_⟩
      · have := World.block_lt_of_cell? w _ hc0; simpa [Addr.add_lit] using this
      · intro i v hv j hj
        rw [List.getElem?_map] at hv
        obtain ⟨z, hz, rfl⟩ := Option.map_eq_some_iff.1 hv
        have := (World.cells?_some (hzs i z hz).1).2.2 j hj
        simpa [Addr.add_lit, Nat.add_assoc] using this


theorem int_cellV {t : TypeId} {n : Nat} {c : Value} {x : DataW H × List MemPlace} (ht : P.underlying t = some (.int .i64)) (h : DataW.trod enc P w base (fun _ => true) held n t [c] = some x) : ∃ z : Int, c = .int .i64 z ∧ I64 z := by
  obtain ⟨z, e, _, hz⟩ := DataW.trod_int ht h
  simp only [List.cons.injEq, and_true] at e
  exact ⟨z, e, wf_bounds_i64 hz⟩
theorem slice_cellV {t e : TypeId} {n : Nat} {c : Value} {x : DataW H × List MemPlace} (ht : P.underlying t = some (.slice e)) (h : DataW.trod enc P w base (fun _ => true) held n t [c] = some x) : ∃ a l k, c = .slice a l k ∧ DataW.Trod enc P w base (fun _ => true) held t (.slice a l k) x.1 x.2 := by
  obtain ⟨a, l, k, hc⟩ : ∃ a l k, c = .slice a l k := by
    rcases open_slice ht h with ⟨hcs, _⟩ | ⟨x, l, c, m', n', D, Pl, hcs, _⟩
    · simp at hcs; exact ⟨_, _, _, hcs⟩
    · simp at hcs; exact ⟨_, _, _, hcs⟩
  subst hc
  exact ⟨a, l, k, rfl, n, h⟩
theorem come_intsW {t e : TypeId} {a : Option Addr} {len cap : Nat} {d : DataW H} {p : List MemPlace} (ht : P.underlying t = some (.slice e)) (he : P.underlying e = some (.int .i64)) (hC : P.cellsOf e = 1) (hb : P.bytesOf e = 8)
    (h : DataW.Trod enc P w base (fun _ => true) held t (.slice a len cap) d p) (hw : ∀ y ∈ d.weights P t, y ≤ reachBytes) : ∃ zs : List Int, Came w a len cap 1 (zs.map intCells) ∧ (∀ z ∈ zs, I64 z) ∧ len * 8 ≤ 140737488351232 := by
  obtain ⟨zs, h1, h2, h3⟩ := come_sliceW (sz := 1) reachBytes intCells I64 ht hC (fun n cs x hx _ => by
    have hl : cs.length = 1 := by
      obtain ⟨z, e, _⟩ := DataW.trod_int he hx
      rw [e]; rfl
    match cs, hl with
    | [c], _ =>
      obtain ⟨z, rfl, hz⟩ := int_cellV he hx
      exact ⟨z, rfl, hz⟩) h hw
  rw [hb] at h3
  exact ⟨zs, h1, h2, Nat.le_trans h3 (by decide)⟩
end
section
variable {H : Type} {enc : TypeId × Value → H} {w : World} {base : Nat} {held : Bool}
set_option maxRecDepth 100000 in
theorem come_arr16 {n : Nat} {cs : List Value} {x : DataW H × List MemPlace} (h : DataW.trod enc Try.prog w base (fun _ => true) held n 22 cs = some x) : ∃ f : Nat → Int, cs = [.int .i64 (f 0), .int .i64 (f 1), .int .i64 (f 2), .int .i64 (f 3), .int .i64 (f 4), .int .i64 (f 5), .int .i64 (f 6), .int .i64 (f 7), .int .i64 (f 8), .int .i64 (f 9), .int .i64 (f 10), .int .i64 (f 11), .int .i64 (f 12), .int .i64 (f 13), .int .i64 (f 14), .int .i64 (f 15)] ∧ ∀ i, i < 16 → I64 (f i) := by
  obtain ⟨xs, m, _, hxe, hlen, hxl, hgt⟩ := DataW.trod_array Try.underlying22 h
  rw [show Try.prog.cellsOf 22 = 16 from by kernel_rfl] at hlen
  have hc1 : Try.prog.cellsOf 3 = 1 := by kernel_rfl
  rw [hc1] at hgt
  have hz : ∀ i (hi : i < 16), ∃ z : Int, cs[i]'(by omega) = .int .i64 z ∧ I64 z := fun i hi => by
    have h1 := hgt i hi
    rw [List.getElem?_eq_getElem (show i < xs.length by omega), Nat.mul_one, List.drop_eq_getElem_cons (show i < cs.length by omega)] at h1
    exact int_cellV Try.underlying3 h1
  obtain ⟨f, hf⟩ : ∃ f : Nat → Int, ∀ i (hi : i < 16), cs[i]'(by omega) = .int .i64 (f i) ∧ I64 (f i) := ⟨fun i => if hi : i < 16 then (hz i hi).choose else 0, fun i hi => by simp only [dif_pos hi]; exact (hz i hi).choose_spec⟩
  refine ⟨f, ?_, fun i hi => (hf i hi).2⟩
  refine List.ext_getElem (by rw [hlen]; rfl) fun i h1 h2 => ?_
  have hi : i < 16 := by omega
  rw [(hf i hi).1]
  rcases (show i = 0 ∨ i = 1 ∨ i = 2 ∨ i = 3 ∨ i = 4 ∨ i = 5 ∨ i = 6 ∨ i = 7 ∨ i = 8 ∨ i = 9 ∨ i = 10 ∨ i = 11 ∨ i = 12 ∨ i = 13 ∨ i = 14 ∨ i = 15 by omega) with rfl | rfl | rfl | rfl | rfl | rfl | rfl | rfl | rfl | rfl | rfl | rfl | rfl | rfl | rfl | rfl <;> rfl
set_option maxRecDepth 100000 in
theorem come_state {v : Value} {b0 : Nat} {d : DataW H} {p : List MemPlace} (hv : Value.okWide Try.prog w .any b0 25 v) (h : DataW.Trod enc Try.prog w base (fun _ => true) held 25 v d p) (hw : ∀ y ∈ d.weights Try.prog 25, y ≤ reachBytes) :
    ∃ (S : TI) (wv : Value), v = .agg (tiCells S wv).toArray ∧ (I64 S.next ∧ I64 S.div ∧ I64 S.done ∧ (∀ i, i < 16 → I64 (S.rd i)) ∧ ∀ z ∈ S.wr, I64 z) ∧ WrI w wv S.wr := by
  obtain ⟨cs, rfl, hsz⟩ := okWide_struct Try.underlying25 hv
  rw [show Try.prog.cellsOf 25 = 20 from by kernel_rfl] at hsz
  obtain ⟨fuel, hf⟩ := h
  obtain ⟨xs, m, _, hxe, _, hxl, hgt⟩ := DataW.trod_struct Try.underlying25 hf
  obtain ⟨l⟩ := cs
  match l, hsz with
  | [c0, c1, c2, c3, c4, c5, c6, c7, c8, c9, c10, c11, c12, c13, c14, c15, c16, c17, c18, c19], _ =>
    match xs, hxl with
    | [y0, y1, y2, y3, y4], _ =>
      have h0 : DataW.trod enc Try.prog w base (fun _ => true) held m 3 (List.take (Try.prog.cellsOf 3) [c0, c1, c2, c3, c4, c5, c6, c7, c8, c9, c10, c11, c12, c13, c14, c15, c16, c17, c18, c19]) = some y0 := hgt 0 _ rfl
      have h1 : DataW.trod enc Try.prog w base (fun _ => true) held m 3 (List.take (Try.prog.cellsOf 3) [c1, c2, c3, c4, c5, c6, c7, c8, c9, c10, c11, c12, c13, c14, c15, c16, c17, c18, c19]) = some y1 := hgt 1 _ rfl
      have h2 : DataW.trod enc Try.prog w base (fun _ => true) held m 3 (List.take (Try.prog.cellsOf 3) [c2, c3, c4, c5, c6, c7, c8, c9, c10, c11, c12, c13, c14, c15, c16, c17, c18, c19]) = some y2 := hgt 2 _ rfl
      have h3 : DataW.trod enc Try.prog w base (fun _ => true) held m 22 (List.take (Try.prog.cellsOf 22) [c3, c4, c5, c6, c7, c8, c9, c10, c11, c12, c13, c14, c15, c16, c17, c18, c19]) = some y3 := hgt 3 _ rfl
      have h4 : DataW.trod enc Try.prog w base (fun _ => true) held m 23 (List.take (Try.prog.cellsOf 23) [c19]) = some y4 := hgt 4 _ rfl
      rw [show Try.prog.cellsOf 3 = 1 from by kernel_rfl] at h0 h1 h2
      rw [show Try.prog.cellsOf 22 = 16 from by kernel_rfl] at h3
      rw [show Try.prog.cellsOf 23 = 1 from by kernel_rfl] at h4
      obtain ⟨z0, rfl, i0⟩ := int_cellV (c := c0) Try.underlying3 h0
      obtain ⟨z1, rfl, i1⟩ := int_cellV (c := c1) Try.underlying3 h1
      obtain ⟨z2, rfl, i2⟩ := int_cellV (c := c2) Try.underlying3 h2
      obtain ⟨f, hf3, i3⟩ := come_arr16 (cs := [c3, c4, c5, c6, c7, c8, c9, c10, c11, c12, c13, c14, c15, c16, c17, c18]) h3
      simp only [List.cons.injEq, and_true] at hf3
      obtain ⟨rfl, rfl, rfl, rfl, rfl, rfl, rfl, rfl, rfl, rfl, rfl, rfl, rfl, rfl, rfl, rfl⟩ := hf3
      obtain ⟨a, l, k, rfl, h6⟩ := slice_cellV (c := c19) Try.underlying23 h4
      obtain ⟨zs, j1, j2, j3⟩ := come_intsW Try.underlying23 Try.underlying3 (by kernel_rfl) (by kernel_rfl) h6 (fun y hy => by
        refine hw y ?_
        obtain ⟨rfl, _⟩ := Prod.mk.injEq _ _ _ _ ▸ hxe
        rw [DataW.weights, Try.underlying25]
        simp only [List.map_cons, List.map_nil, DataW.weightsEach, List.mem_append]
        exact .inr (.inr (.inr (.inr (.inl hy)))))
      have hzl : zs.length = l := by simpa using j1.count
      refine ⟨⟨z0, z1, z2, f, zs⟩, .slice a l k, rfl, ⟨i0, i1, i2, i3, j2⟩, a, k, by rw [hzl], by rw [hzl]; exact j1, by show zs.length ≤ _; omega⟩
end
end Go.Proofs.Ytgcbdndfobiphab
