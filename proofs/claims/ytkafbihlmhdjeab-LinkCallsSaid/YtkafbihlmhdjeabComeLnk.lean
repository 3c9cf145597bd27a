/- Functions before they are linked that came in. -/
import Derived.Test.YtkafbihlmhdjeabLnk
import Derived.Test.YtkafbihlmhdjeabComeW
namespace Go.Proofs.Ytkafbihlmhdjeab
open Go.Joins Go.ChangeShapes Go.WideShapes Go.ChangeAt Go.RowKit Go.Deep
set_option linter.unusedVariables false
section
variable {H : Type} {enc : TypeId × Value → H} {w : World} {base : Nat} {held : Bool}
set_option maxRecDepth 100000 in
theorem come_opW {n : Nat} {cs : List Value} {x : DataW H × List MemPlace} (h : DataW.trod enc Try.prog w base (fun _ => true) held n 36 cs = some x) (hw : ∀ y ∈ x.1.weights Try.prog 36, y ≤ reachBytes) : ∃ o0 o1 o2 o3 o4 : Int, cs = [.int .i64 o0, .int .i64 o1, .int .i64 o2, .int .i64 o3, .int .i64 o4] ∧ I64 o0 ∧ I64 o1 ∧ I64 o2 ∧ I64 o3 ∧ I64 o4 := by
  obtain ⟨xs, m, _, hxe, hlen, hxl, hgt⟩ := DataW.trod_struct Try.underlying36 h
  rw [show Try.prog.cellsOf 36 = 5 from by kernel_rfl] at hlen
  match cs, hlen with
  | [c0, c1, c2, c3, c4], _ =>
    match xs, hxl with
    | [y0, y1, y2, y3, y4], _ =>
      have h0 : DataW.trod enc Try.prog w base (fun _ => true) held m 3 (List.take (Try.prog.cellsOf 3) [c0, c1, c2, c3, c4]) = some y0 := hgt 0 _ rfl
      have h1 : DataW.trod enc Try.prog w base (fun _ => true) held m 3 (List.take (Try.prog.cellsOf 3) [c1, c2, c3, c4]) = some y1 := hgt 1 _ rfl
      have h2 : DataW.trod enc Try.prog w base (fun _ => true) held m 3 (List.take (Try.prog.cellsOf 3) [c2, c3, c4]) = some y2 := hgt 2 _ rfl
      have h3 : DataW.trod enc Try.prog w base (fun _ => true) held m 3 (List.take (Try.prog.cellsOf 3) [c3, c4]) = some y3 := hgt 3 _ rfl
      have h4 : DataW.trod enc Try.prog w base (fun _ => true) held m 3 (List.take (Try.prog.cellsOf 3) [c4]) = some y4 := hgt 4 _ rfl
      rw [show Try.prog.cellsOf 3 = 1 from by kernel_rfl] at h0 h1 h2 h3 h4
      obtain ⟨z0, rfl, i0⟩ := int_cellV (c := c0) Try.underlying3 h0
      obtain ⟨z1, rfl, i1⟩ := int_cellV (c := c1) Try.underlying3 h1
      obtain ⟨z2, rfl, i2⟩ := int_cellV (c := c2) Try.underlying3 h2
      obtain ⟨z3, rfl, i3⟩ := int_cellV (c := c3) Try.underlying3 h3
      obtain ⟨z4, rfl, i4⟩ := int_cellV (c := c4) Try.underlying3 h4
      exact ⟨z0, z1, z2, z3, z4, rfl, i0, i1, i2, i3, i4⟩
set_option maxRecDepth 100000 in
theorem come_itemW {n : Nat} {cs : List Value} {x : DataW H × List MemPlace} (h : DataW.trod enc Try.prog w base (fun _ => true) held n 68 cs = some x) (hw : ∀ y ∈ x.1.weights Try.prog 68, y ≤ reachBytes) : ∃ z : Item, cs = itemCells z ∧ (I64 z.op ∧ I64 z.d ∧ I64 z.a ∧ I64 z.b ∧ I64 z.n ∧ I64 z.tg) := by
  obtain ⟨xs, m, _, hxe, hlen, hxl, hgt⟩ := DataW.trod_struct Try.underlying68 h
  rw [show Try.prog.cellsOf 68 = 6 from by kernel_rfl] at hlen
  match cs, hlen with
  | [c0, c1, c2, c3, c4, c5], _ =>
    match xs, hxl with
    | [y0, y1], _ =>
      have h0 : DataW.trod enc Try.prog w base (fun _ => true) held m 36 (List.take (Try.prog.cellsOf 36) [c0, c1, c2, c3, c4, c5]) = some y0 := hgt 0 _ rfl
      have h1 : DataW.trod enc Try.prog w base (fun _ => true) held m 3 (List.take (Try.prog.cellsOf 3) [c5]) = some y1 := hgt 1 _ rfl
      rw [show Try.prog.cellsOf 36 = 5 from by kernel_rfl] at h0
      rw [show Try.prog.cellsOf 3 = 1 from by kernel_rfl] at h1
      have hwe : ∀ y, y ∈ y0.1.weights Try.prog 36 → y ≤ reachBytes := fun y hy => by
        refine hw y ?_
        rw [hxe, DataW.weights, Try.underlying68]
        simp only [List.map_cons, List.map_nil, DataW.weightsEach, List.mem_append]
        have h := hy
        exact .inl h
      obtain ⟨z1, rfl, i1⟩ := int_cellV (c := c5) Try.underlying3 h1
      obtain ⟨o0, o1, o2, o3, o4, e9, j0, j1, j2, j3, j4⟩ := come_opW (cs := [c0, c1, c2, c3, c4]) h0 (fun y hy => hwe y hy)
      simp only [List.cons.injEq, and_true] at e9
      obtain ⟨rfl, rfl, rfl, rfl, rfl⟩ := e9
      exact ⟨⟨o0, o1, o2, o3, o4, z1⟩, rfl, j0, j1, j2, j3, j4, i1⟩
set_option maxRecDepth 100000 in
theorem come_callW {n : Nat} {cs : List Value} {x : DataW H × List MemPlace} (h : DataW.trod enc Try.prog w base (fun _ => true) held n 56 cs = some x) (hw : ∀ y ∈ x.1.weights Try.prog 56, y ≤ reachBytes) : ∃ z : LC, cs = lcC z ∧ (I64 z.item ∧ I64 z.fn) := by
  obtain ⟨xs, m, _, hxe, hlen, hxl, hgt⟩ := DataW.trod_struct Try.underlying56 h
  rw [show Try.prog.cellsOf 56 = 2 from by kernel_rfl] at hlen
  match cs, hlen with
  | [c0, c1], _ =>
    match xs, hxl with
    | [y0, y1], _ =>
      have h0 : DataW.trod enc Try.prog w base (fun _ => true) held m 3 (List.take (Try.prog.cellsOf 3) [c0, c1]) = some y0 := hgt 0 _ rfl
      have h1 : DataW.trod enc Try.prog w base (fun _ => true) held m 3 (List.take (Try.prog.cellsOf 3) [c1]) = some y1 := hgt 1 _ rfl
      rw [show Try.prog.cellsOf 3 = 1 from by kernel_rfl] at h0 h1
      obtain ⟨z0, rfl, i0⟩ := int_cellV (c := c0) Try.underlying3 h0
      obtain ⟨z1, rfl, i1⟩ := int_cellV (c := c1) Try.underlying3 h1
      exact ⟨⟨z0, z1⟩, rfl, i0, i1⟩
set_option maxRecDepth 100000 in
theorem come_mapW {n : Nat} {cs : List Value} {x : DataW H × List MemPlace} (h : DataW.trod enc Try.prog w base (fun _ => true) held n 101 cs = some x) (hw : ∀ y ∈ x.1.weights Try.prog 101, y ≤ reachBytes) : ∃ z : LM, cs = lmC z ∧ z.Ok w := by
  obtain ⟨xs, m, _, hxe, hlen, hxl, hgt⟩ := DataW.trod_struct Try.underlying101 h
  rw [show Try.prog.cellsOf 101 = 4 from by kernel_rfl] at hlen
  match cs, hlen with
  | [c0, c1, c2, c3], _ =>
    match xs, hxl with
    | [y0, y1, y2, y3], _ =>
      have h0 : DataW.trod enc Try.prog w base (fun _ => true) held m 3 (List.take (Try.prog.cellsOf 3) [c0, c1, c2, c3]) = some y0 := hgt 0 _ rfl
      have h1 : DataW.trod enc Try.prog w base (fun _ => true) held m 4 (List.take (Try.prog.cellsOf 4) [c1, c2, c3]) = some y1 := hgt 1 _ rfl
      have h2 : DataW.trod enc Try.prog w base (fun _ => true) held m 24 (List.take (Try.prog.cellsOf 24) [c2, c3]) = some y2 := hgt 2 _ rfl
      have h3 : DataW.trod enc Try.prog w base (fun _ => true) held m 3 (List.take (Try.prog.cellsOf 3) [c3]) = some y3 := hgt 3 _ rfl
      rw [show Try.prog.cellsOf 3 = 1 from by kernel_rfl] at h0 h3
      rw [show Try.prog.cellsOf 4 = 1 from by kernel_rfl] at h1
      rw [show Try.prog.cellsOf 24 = 1 from by kernel_rfl] at h2
      have hwe : ∀ y, y ∈ y2.1.weights Try.prog 24 → y ≤ reachBytes := fun y hy => by
        refine hw y ?_
        rw [hxe, DataW.weights, Try.underlying101]
        simp only [List.map_cons, List.map_nil, DataW.weightsEach, List.mem_append]
        have h := hy
        exact .inr (.inr (.inl h))
      obtain ⟨z0, rfl, i0⟩ := int_cellV (c := c0) Try.underlying3 h0
      obtain ⟨z1, e1, _⟩ := DataW.trod_bool Try.underlying4 (cs := [c1]) (x := y1) h1
      obtain rfl : c1 = .bool z1 := by simpa using e1
      obtain ⟨z3, rfl, i3⟩ := int_cellV (c := c3) Try.underlying3 h3
      obtain ⟨a2, l2, k2, rfl, g2⟩ := slice_cellV (c := c2) Try.underlying24 h2
      obtain ⟨zs2, p2, q2, r2⟩ := come_intsW Try.underlying24 Try.underlying3 (by kernel_rfl) (by kernel_rfl) g2 (fun y hy => hwe y (hy))
      exact ⟨⟨z0, z1, a2, l2, k2, zs2, z3⟩, rfl, p2, r2, i0, i3, q2⟩
set_option maxRecDepth 100000 in
theorem come_lfW {n : Nat} {cs : List Value} {x : DataW H × List MemPlace} (h : DataW.trod enc Try.prog w base (fun _ => true) held n 53 cs = some x) (hw : ∀ y ∈ x.1.weights Try.prog 53, y ≤ reachBytes) : ∃ z : LF, cs = lfC z ∧ z.Ok w := by
  obtain ⟨xs, m, _, hxe, hlen, hxl, hgt⟩ := DataW.trod_struct Try.underlying53 h
  rw [show Try.prog.cellsOf 53 = 5 from by kernel_rfl] at hlen
  match cs, hlen with
  | [c0, c1, c2, c3, c4], _ =>
    match xs, hxl with
    | [y0, y1, y2, y3, y4], _ =>
      have h0 : DataW.trod enc Try.prog w base (fun _ => true) held m 3 (List.take (Try.prog.cellsOf 3) [c0, c1, c2, c3, c4]) = some y0 := hgt 0 _ rfl
      have h1 : DataW.trod enc Try.prog w base (fun _ => true) held m 49 (List.take (Try.prog.cellsOf 49) [c1, c2, c3, c4]) = some y1 := hgt 1 _ rfl
      have h2 : DataW.trod enc Try.prog w base (fun _ => true) held m 50 (List.take (Try.prog.cellsOf 50) [c2, c3, c4]) = some y2 := hgt 2 _ rfl
      have h3 : DataW.trod enc Try.prog w base (fun _ => true) held m 51 (List.take (Try.prog.cellsOf 51) [c3, c4]) = some y3 := hgt 3 _ rfl
      have h4 : DataW.trod enc Try.prog w base (fun _ => true) held m 3 (List.take (Try.prog.cellsOf 3) [c4]) = some y4 := hgt 4 _ rfl
      rw [show Try.prog.cellsOf 3 = 1 from by kernel_rfl] at h0 h4
      rw [show Try.prog.cellsOf 49 = 1 from by kernel_rfl] at h1
      rw [show Try.prog.cellsOf 50 = 1 from by kernel_rfl] at h2
      rw [show Try.prog.cellsOf 51 = 1 from by kernel_rfl] at h3
      have hwe : ∀ y, y ∈ y1.1.weights Try.prog 49 ∨ y ∈ y2.1.weights Try.prog 50 ∨ y ∈ y3.1.weights Try.prog 51 → y ≤ reachBytes := fun y hy => by
        refine hw y ?_
        rw [hxe, DataW.weights, Try.underlying53]
        simp only [List.map_cons, List.map_nil, DataW.weightsEach, List.mem_append]
        exact hy.elim (fun h => .inr (.inl h)) fun hy => hy.elim (fun h => .inr (.inr (.inl h))) fun h => .inr (.inr (.inr (.inl h)))
      obtain ⟨z0, rfl, i0⟩ := int_cellV (c := c0) Try.underlying3 h0
      obtain ⟨z4, rfl, i4⟩ := int_cellV (c := c4) Try.underlying3 h4
      obtain ⟨a1, l1, k1, rfl, g1⟩ := slice_cellV (c := c1) Try.underlying49 h1
      obtain ⟨zs1, p1, q1, r1⟩ := come_sliceW (sz := 6) reachBytes itemCells (fun z => I64 z.op ∧ I64 z.d ∧ I64 z.a ∧ I64 z.b ∧ I64 z.n ∧ I64 z.tg) Try.underlying49 (by kernel_rfl) (fun n cs x hx hwx => come_itemW hx hwx) g1 (fun y hy => hwe y (.inl hy))
      obtain ⟨a2, l2, k2, rfl, g2⟩ := slice_cellV (c := c2) Try.underlying50 h2
      obtain ⟨zs2, p2, q2, r2⟩ := come_sliceW (sz := 2) reachBytes lcC (fun z => I64 z.item ∧ I64 z.fn) Try.underlying50 (by kernel_rfl) (fun n cs x hx hwx => come_callW hx hwx) g2 (fun y hy => hwe y (.inr (.inl hy)))
      obtain ⟨a3, l3, k3, rfl, g3⟩ := slice_cellV (c := c3) Try.underlying51 h3
      obtain ⟨zs3, p3, q3, r3⟩ := come_sliceW (sz := 4) reachBytes lmC (LM.Ok w) Try.underlying51 (by kernel_rfl) (fun n cs x hx hwx => come_mapW hx hwx) g3 (fun y hy => hwe y (.inr (.inr (hy))))
      rw [show Try.prog.bytesOf 68 = 48 from by kernel_rfl] at r1
      rw [show Try.prog.bytesOf 56 = 16 from by kernel_rfl] at r2
      rw [show Try.prog.bytesOf 101 = 48 from by kernel_rfl] at r3
      have hRB : reachBytes = 140737488351232 := by decide
      exact ⟨⟨z0, a1, l1, k1, zs1, a2, l2, k2, zs2, a3, l3, k3, zs3, z4⟩, rfl, p1, by show l1 * 48 ≤ _; omega, p2, by show l2 * 16 ≤ _; omega, p3, by show l3 * 40 ≤ _; omega, q3, i0, i4, q1, q2⟩
/-- the list -/
theorem come_lfsW {a : Option Addr} {len cap : Nat} {d : DataW H} {p : List MemPlace} (h : DataW.Trod enc Try.prog w base (fun _ => true) held 22 (.slice a len cap) d p) (hw : ∀ y ∈ d.weights Try.prog 22, y ≤ reachBytes) :
    ∃ l : List LF, Lnk w a len cap l ∧ len * 88 ≤ 140737488351232 := by
  obtain ⟨zs, p1, q1, r1⟩ := come_sliceW (sz := 5) reachBytes lfC (LF.Ok w) Try.underlying22 (by kernel_rfl) (fun n cs x hx hwx => come_lfW hx hwx) h hw
  rw [show Try.prog.bytesOf 53 = 88 from by kernel_rfl] at r1
  exact ⟨zs, ⟨p1, q1⟩, Nat.le_trans r1 (by decide)⟩
end
end Go.Proofs.Ytkafbihlmhdjeab
