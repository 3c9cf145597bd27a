/- A function in virtual code that came in. -/
import Derived.Test.YtdnpoomagjcpfaaGreatVBase
import Derived.Test.YtdnpoomagjcpfaaGreatBase
import Derived.SizedLaws
import Derived.Lib.SmallJoins
namespace Go.Proofs.YtdnpoomagjcpfaaGreat
open Go.Joins Go.ChangeShapes Go.WideShapes Go.ChangeAt Go.RowKit Go.Deep
set_option linter.unusedVariables false

section
variable {H : Type} {enc : TypeId × Value → H} {P : Program} {w : World} {base : Nat} {held : Bool}

theorem weightsAll_mem {e : TypeId} {x : DataW H} {y : Nat} : ∀ {l : List (DataW H)}, x ∈ l → y ∈ x.weights P e → y ∈ DataW.weightsAll P e l
 | a :: l, h, hy => by
  simp only [DataW.weightsAll, List.mem_append]
  rcases List.mem_cons.1 h with rfl | h
  ·exact .inl hy
  ·exact .inr (weightsAll_mem h hy)

/-- a slice of whatever elements, the reach of each known -/
theorem come_sliceW {α : Type} {t e : TypeId} {a : Option Addr} {len cap sz : Nat} {d : DataW H} {p : List MemPlace} (R : Nat) (E : α → List Value) (Q : α → Prop)
  (ht : P.underlying t = some (.slice e)) (hC : P.cellsOf e = sz)
  (hE : ∀ n cs x, DataW.trod enc P w base (fun _ => true) held n e cs = some x → (∀ y ∈ x.1.weights P e, y ≤ R) → ∃ z, cs = E z ∧ Q z)
  (h : DataW.Trod enc P w base (fun _ => true) held t (.slice a len cap) d p) (hw : ∀ y ∈ d.weights P t, y ≤ R) :
  ∃ zs : List α, Came w a len cap sz (zs.map E) ∧ (∀ z ∈ zs, Q z) ∧ len * P.bytesOf e ≤ R := by
 obtain ⟨fuel, hf⟩ := h
 rcases open_slice ht hf with ⟨hcs, _⟩ | ⟨x, l, c, m, n, D, Pl, hcs, _, hl, hm, hmm, hd, hi⟩
 ·simp [Value.cells] at hcs
  obtain ⟨rfl, rfl, rfl⟩ := hcs
  exact ⟨[], ⟨rfl, Nat.le_refl _, by omega, fun _ => ⟨rfl, rfl⟩, fun v hv => by simp at hv, fun h => by omega⟩, fun z hz => by simp at hz, by omega⟩
 ·simp [Value.cells] at hcs
  obtain ⟨rfl, rfl, rfl⟩ := hcs
  simp only [if_true] at hmm
  subst hmm
  rw [hC] at hi
  simp only [Prod.mk.injEq] at hd
  obtain ⟨rfl, _⟩ := hd
  rw [DataW.weights, ht] at hw
  simp only [List.length_map, List.length_range, List.mem_cons, List.mem_append] at hw
  obtain ⟨zs, hzl, hzs⟩ := exists_list len (fun i z => w.cells? base (x.add (i * sz)) sz = some (E z) ∧ Q z) (fun i hil => by
   obtain ⟨cs', hc, htr⟩ := hi i (by omega)
   obtain ⟨z, rfl, hq⟩ := hE _ _ _ htr (fun y hy => hw y (.inr (.inl (weightsAll_mem (List.mem_map.2 ⟨i, List.mem_range.2 hil, rfl⟩) hy))))
   exact ⟨z, hc, hq⟩)
  have hrow : ∀ z ∈ zs, (E z).length = sz ∧ Q z := fun z hz => by
   obtain ⟨i, hi', rfl⟩ := List.getElem_of_mem hz
   obtain ⟨h1, h2⟩ := hzs i _ (List.getElem?_eq_getElem hi')
   exact ⟨(World.cells?_some h1).2.1, h2⟩
  have hb := hw _ (.inl rfl)
  refine ⟨zs, ⟨by simpa using hzl, hl, by unfold maxLen at hm; omega, fun h => by simp at h, ?_, ?_⟩, fun z hz => (hrow z hz).2, Nat.le_trans (Nat.mul_le_mul_right _ (Nat.le_add_right _ _)) hb⟩
  ·intro v hv
   obtain ⟨z, hz, rfl⟩ := List.mem_map.1 hv
   exact (hrow z hz).1
  ·intro h0 h1
   have hz0 : zs[0]? = some (zs[0]'(by omega)) := List.getElem?_eq_getElem (by omega)
   have hc0 := (World.cells?_some (hzs 0 _ hz0).1).2.2 0 h1
   have hl0 := (World.cells?_some (hzs 0 _ hz0).1).2.1
   rw [List.getElem?_eq_getElem (by omega)] at hc0
   obtain ⟨b, off, spot⟩ := x
   have hspot : spot = none := by simpa [Addr.add] using World.cell?_spot hc0
   subst hspot
   refine ⟨b, off, rfl, ?_, ?_⟩
   ·have := World.block_lt_of_cell? w _ hc0; simpa [Addr.add_lit] using this
   ·intro i v hv j hj
    rw [List.getElem?_map] at hv
    obtain ⟨z, hz, rfl⟩ := Option.map_eq_some_iff.1 hv
    have := (World.cells?_some (hzs i z hz).1).2.2 j hj
    simpa [Addr.add_lit, Nat.add_assoc] using this


theorem int_cellV {t : TypeId} {n : Nat} {c : Value} {x : DataW H × List MemPlace} (ht : P.underlying t = some (.int .i64)) (h : DataW.trod enc P w base (fun _ => true) held n t [c] = some x) : ∃ z : Int, c = .int .i64 z ∧ I64 z := by
 obtain ⟨z, e, _, hz⟩ := DataW.trod_int ht h
 simp only [List.cons.injEq, and_true] at e
 exact ⟨z, e, wf_bounds_i64 hz⟩
theorem slice_cellV {t e : TypeId} {n : Nat} {c : Value} {x : DataW H × List MemPlace} (ht : P.underlying t = some (.slice e)) (h : DataW.trod enc P w base (fun _ => true) held n t [c] = some x) : ∃ a l k, c = .slice a l k ∧ DataW.Trod enc P w base (fun _ => true) held t (.slice a l k) x.1 x.2 := by
 obtain ⟨a, l, k, hc⟩ : ∃ a l k, c = .slice a l k := by
  rcases open_slice ht h with ⟨hcs, _⟩ | ⟨x, l, c, m', n', D, Pl, hcs, _⟩
  ·simp at hcs; exact ⟨_, _, _, hcs⟩
  ·simp at hcs; exact ⟨_, _, _, hcs⟩
 subst hc
 exact ⟨a, l, k, rfl, n, h⟩
theorem come_intsW {t e : TypeId} {a : Option Addr} {len cap : Nat} {d : DataW H} {p : List MemPlace} (ht : P.underlying t = some (.slice e)) (he : P.underlying e = some (.int .i64)) (hC : P.cellsOf e = 1) (hb : P.bytesOf e = 8)
  (h : DataW.Trod enc P w base (fun _ => true) held t (.slice a len cap) d p) (hw : ∀ y ∈ d.weights P t, y ≤ reachBytes) : ∃ zs : List Int, Came w a len cap 1 (zs.map intCells) ∧ (∀ z ∈ zs, I64 z) ∧ len * 8 ≤ 140737488351232 := by
 obtain ⟨zs, h1, h2, h3⟩ := come_sliceW (sz := 1) reachBytes intCells I64 ht hC (fun n cs x hx _ => by
  have hl : cs.length = 1 := by
   obtain ⟨z, e, _⟩ := DataW.trod_int he hx
   rw [e]; rfl
  match cs, hl with
  | [c], _ =>
   obtain ⟨z, rfl, hz⟩ := int_cellV he hx
   exact ⟨z, rfl, hz⟩) h hw
 rw [hb] at h3
 exact ⟨zs, h1, h2, Nat.le_trans h3 (by decide)⟩
end
section
variable {H : Type} {enc : TypeId × Value → H} {w : World} {base : Nat} {held : Bool}
set_option maxRecDepth 100000 in
theorem come_viW {n : Nat} {cs : List Value} {x : DataW H × List MemPlace} (h : DataW.trod enc Tryz.prog w base (fun _ => true) held n 48 cs = some x) (hw : ∀ y ∈ x.1.weights Tryz.prog 48, y ≤ reachBytes) : ∃ z : VI, cs = viC z ∧ z.Ok w := by
 obtain ⟨xs, m, _, hxe, hlen, hxl, hgt⟩ := DataW.trod_struct Tryz.underlying48 h
 rw [show Tryz.prog.cellsOf 48 = 6 from by kernel_rfl] at hlen
 match cs, hlen with
 | [c0, c1, c2, c3, c4, c5], _ =>
  match xs, hxl with
  | [y0, y1, y2, y3, y4, y5], _ =>
   have h0 : DataW.trod enc Tryz.prog w base (fun _ => true) held m 3 (List.take (Tryz.prog.cellsOf 3) [c0, c1, c2, c3, c4, c5]) = some y0 := hgt 0 _ rfl
   have h1 : DataW.trod enc Tryz.prog w base (fun _ => true) held m 3 (List.take (Tryz.prog.cellsOf 3) [c1, c2, c3, c4, c5]) = some y1 := hgt 1 _ rfl
   have h2 : DataW.trod enc Tryz.prog w base (fun _ => true) held m 3 (List.take (Tryz.prog.cellsOf 3) [c2, c3, c4, c5]) = some y2 := hgt 2 _ rfl
   have h3 : DataW.trod enc Tryz.prog w base (fun _ => true) held m 3 (List.take (Tryz.prog.cellsOf 3) [c3, c4, c5]) = some y3 := hgt 3 _ rfl
   have h4 : DataW.trod enc Tryz.prog w base (fun _ => true) held m 3 (List.take (Tryz.prog.cellsOf 3) [c4, c5]) = some y4 := hgt 4 _ rfl
   have h5 : DataW.trod enc Tryz.prog w base (fun _ => true) held m 22 (List.take (Tryz.prog.cellsOf 22) [c5]) = some y5 := hgt 5 _ rfl
   rw [show Tryz.prog.cellsOf 3 = 1 from by kernel_rfl] at h0 h1 h2 h3 h4
   rw [show Tryz.prog.cellsOf 22 = 1 from by kernel_rfl] at h5
   obtain ⟨z0, rfl, i0⟩ := int_cellV (c := c0) Tryz.underlying3 h0
   obtain ⟨z1, rfl, i1⟩ := int_cellV (c := c1) Tryz.underlying3 h1
   obtain ⟨z2, rfl, i2⟩ := int_cellV (c := c2) Tryz.underlying3 h2
   obtain ⟨z3, rfl, i3⟩ := int_cellV (c := c3) Tryz.underlying3 h3
   obtain ⟨z4, rfl, i4⟩ := int_cellV (c := c4) Tryz.underlying3 h4
   obtain ⟨a, l, k, rfl, h6⟩ := slice_cellV (c := c5) Tryz.underlying22 h5
   obtain ⟨zs, j1, j2, j3⟩ := come_intsW Tryz.underlying22 Tryz.underlying3 (by kernel_rfl) (by kernel_rfl) h6 (fun y hy => by
    refine hw y ?_
    rw [hxe, DataW.weights, Tryz.underlying48]
    simp only [List.map_cons, List.map_nil, DataW.weightsEach, List.mem_append]
    exact .inr (.inr (.inr (.inr (.inr (.inl hy))))))
   exact ⟨⟨z0, z1, z2, z3, z4, a, l, k, zs⟩, rfl, j1, j3, i0, i1, i2, i3, i4, j2⟩
set_option maxRecDepth 100000 in
theorem come_veW {n : Nat} {cs : List Value} {x : DataW H × List MemPlace} (h : DataW.trod enc Tryz.prog w base (fun _ => true) held n 44 cs = some x) (hw : ∀ y ∈ x.1.weights Tryz.prog 44, y ≤ reachBytes) : ∃ z : VE, cs = veC z ∧ z.Ok w := by
 obtain ⟨xs, m, _, hxe, hlen, hxl, hgt⟩ := DataW.trod_struct Tryz.underlying44 h
 rw [show Tryz.prog.cellsOf 44 = 6 from by kernel_rfl] at hlen
 match cs, hlen with
 | [c0, c1, c2, c3, c4, c5], _ =>
  match xs, hxl with
  | [y0, y1, y2, y3, y4, y5], _ =>
   have h0 : DataW.trod enc Tryz.prog w base (fun _ => true) held m 3 (List.take (Tryz.prog.cellsOf 3) [c0, c1, c2, c3, c4, c5]) = some y0 := hgt 0 _ rfl
   have h1 : DataW.trod enc Tryz.prog w base (fun _ => true) held m 3 (List.take (Tryz.prog.cellsOf 3) [c1, c2, c3, c4, c5]) = some y1 := hgt 1 _ rfl
   have h2 : DataW.trod enc Tryz.prog w base (fun _ => true) held m 3 (List.take (Tryz.prog.cellsOf 3) [c2, c3, c4, c5]) = some y2 := hgt 2 _ rfl
   have h3 : DataW.trod enc Tryz.prog w base (fun _ => true) held m 3 (List.take (Tryz.prog.cellsOf 3) [c3, c4, c5]) = some y3 := hgt 3 _ rfl
   have h4 : DataW.trod enc Tryz.prog w base (fun _ => true) held m 3 (List.take (Tryz.prog.cellsOf 3) [c4, c5]) = some y4 := hgt 4 _ rfl
   have h5 : DataW.trod enc Tryz.prog w base (fun _ => true) held m 22 (List.take (Tryz.prog.cellsOf 22) [c5]) = some y5 := hgt 5 _ rfl
   rw [show Tryz.prog.cellsOf 3 = 1 from by kernel_rfl] at h0 h1 h2 h3 h4
   rw [show Tryz.prog.cellsOf 22 = 1 from by kernel_rfl] at h5
   obtain ⟨z0, rfl, i0⟩ := int_cellV (c := c0) Tryz.underlying3 h0
   obtain ⟨z1, rfl, i1⟩ := int_cellV (c := c1) Tryz.underlying3 h1
   obtain ⟨z2, rfl, i2⟩ := int_cellV (c := c2) Tryz.underlying3 h2
   obtain ⟨z3, rfl, i3⟩ := int_cellV (c := c3) Tryz.underlying3 h3
   obtain ⟨z4, rfl, i4⟩ := int_cellV (c := c4) Tryz.underlying3 h4
   obtain ⟨a, l, k, rfl, h6⟩ := slice_cellV (c := c5) Tryz.underlying22 h5
   obtain ⟨zs, j1, j2, j3⟩ := come_intsW Tryz.underlying22 Tryz.underlying3 (by kernel_rfl) (by kernel_rfl) h6 (fun y hy => by
    refine hw y ?_
    rw [hxe, DataW.weights, Tryz.underlying44]
    simp only [List.map_cons, List.map_nil, DataW.weightsEach, List.mem_append]
    exact .inr (.inr (.inr (.inr (.inr (.inl hy))))))
   exact ⟨⟨z0, z1, z2, z3, z4, a, l, k, zs⟩, rfl, j1, j3, i0, i1, i2, i3, i4, j2⟩
set_option maxRecDepth 100000 in
theorem come_vbW {n : Nat} {cs : List Value} {x : DataW H × List MemPlace} (h : DataW.trod enc Tryz.prog w base (fun _ => true) held n 46 cs = some x) (hw : ∀ y ∈ x.1.weights Tryz.prog 46, y ≤ reachBytes) : ∃ z : VB, cs = vbC z ∧ z.Ok w := by
 obtain ⟨xs, m, _, hxe, hlen, hxl, hgt⟩ := DataW.trod_struct Tryz.underlying46 h
 rw [show Tryz.prog.cellsOf 46 = 7 from by kernel_rfl] at hlen
 match cs, hlen with
 | [c0, c1, c2, c3, c4, c5, c6], _ =>
  match xs, hxl with
  | [y0, y1], _ =>
   have h0 : DataW.trod enc Tryz.prog w base (fun _ => true) held m 42 (List.take (Tryz.prog.cellsOf 42) [c0, c1, c2, c3, c4, c5, c6]) = some y0 := hgt 0 _ rfl
   have h1 : DataW.trod enc Tryz.prog w base (fun _ => true) held m 44 (List.take (Tryz.prog.cellsOf 44) [c1, c2, c3, c4, c5, c6]) = some y1 := hgt 1 _ rfl
   rw [show Tryz.prog.cellsOf 42 = 1 from by kernel_rfl] at h0
   rw [show Tryz.prog.cellsOf 44 = 6 from by kernel_rfl] at h1
   have hwe : ∀ y, y ∈ y0.1.weights Tryz.prog 42 ∨ y ∈ y1.1.weights Tryz.prog 44 → y ≤ reachBytes := fun y hy => by
    refine hw y ?_
    rw [hxe, DataW.weights, Tryz.underlying46]
    simp only [List.map_cons, List.map_nil, DataW.weightsEach, List.mem_append]
    exact hy.elim .inl fun h => .inr (.inl h)
   obtain ⟨a, l, k, rfl, h6⟩ := slice_cellV (c := c0) Tryz.underlying42 h0
   obtain ⟨zs, j1, j2, j3⟩ := come_sliceW (sz := 6) reachBytes viC (VI.Ok w) Tryz.underlying42 (by kernel_rfl) (fun n cs x hx hwx => come_viW hx hwx) h6 (fun y hy => hwe y (.inl hy))
   obtain ⟨e, he1, he2⟩ := come_veW (cs := [c1, c2, c3, c4, c5, c6]) h1 (fun y hy => hwe y (.inr hy))
   rw [show Tryz.prog.bytesOf 48 = 64 from by kernel_rfl] at j3
   exact ⟨⟨a, l, k, zs, e⟩, by rw [he1]; rfl, j1, (by show l * 48 ≤ 140737488351232; have hRB : reachBytes = 140737488351232 := (by decide); omega), j2, he2⟩
set_option maxRecDepth 100000 in
theorem come_vfn {v : Value} {b0 : Nat} {d : DataW H} {p : List MemPlace} (hv : Value.okWide Tryz.prog w .any b0 25 v) (h : DataW.Trod enc Tryz.prog w base (fun _ => true) held 25 v d p) (hw : ∀ y ∈ d.weights Tryz.prog 25, y ≤ reachBytes) :
  ∃ f : VF, v = f.v ∧ f.Ok w := by
 obtain ⟨v0, v1, v2, v3, y0, y1, y2, y3, n, rfl, rfl, rfl, h0, h1, h2, h3⟩ := open_agg4 Tryz.underlying25 (by kernel_rfl) (by kernel_rfl) hv h
 have hwe : ∀ y, y ∈ y1.1.weights Tryz.prog 22 ∨ y ∈ y3.1.weights Tryz.prog 23 → y ≤ reachBytes := fun y hy => by
  refine hw y ?_
  rw [DataW.weights, Tryz.underlying25]
  simp only [List.map_cons, List.map_nil, DataW.weightsEach, List.mem_append]
  exact hy.elim (fun h => .inr (.inl h)) fun h => .inr (.inr (.inr (.inl h)))
 obtain ⟨z0, rfl, i0⟩ := int_cellV (c := v0) Tryz.underlying3 h0
 obtain ⟨z2, rfl, i2⟩ := int_cellV (c := v2) Tryz.underlying3 h2
 obtain ⟨pa, pn, pc, rfl, h4⟩ := slice_cellV (c := v1) Tryz.underlying22 h1
 obtain ⟨sa, sn, sc, rfl, h5⟩ := slice_cellV (c := v3) Tryz.underlying23 h3
 obtain ⟨ps, j1, j2, j3⟩ := come_intsW Tryz.underlying22 Tryz.underlying3 (by kernel_rfl) (by kernel_rfl) h4 (fun y hy => hwe y (.inl hy))
 obtain ⟨zs, k1, k2, k3⟩ := come_sliceW (sz := 7) reachBytes vbC (VB.Ok w) Tryz.underlying23 (by kernel_rfl) (fun n cs x hx hwx => come_vbW hx hwx) h5 (fun y hy => hwe y (.inr hy))
 rw [show Tryz.prog.bytesOf 46 = 88 from by kernel_rfl] at k3
 exact ⟨⟨z0, z2, pa, pn, pc, ps, sa, sn, sc, zs⟩, rfl, j1, j3, j2, i0, i2, k1, (by show sn * 56 ≤ 140737488351232; have hRB : reachBytes = 140737488351232 := (by decide); omega), k2⟩
end
end Go.Proofs.YtdnpoomagjcpfaaGreat
