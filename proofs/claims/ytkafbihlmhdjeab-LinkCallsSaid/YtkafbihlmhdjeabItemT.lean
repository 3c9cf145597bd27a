/- Items, as their cells lie. No program. -/
import Derived.Test.YtkafbihlmhdjeabOpens
import Derived.Test.YtkafbihlmhdjeabBlk
namespace Go.Proofs.Ytkafbihlmhdjeab
open Go.RowKit
set_option linter.unusedVariables false

structure Item where
  (op d a b n tg : Int)
def itemCells (i : Item) : List Value := [.int .i64 i.op, .int .i64 i.d, .int .i64 i.a, .int .i64 i.b, .int .i64 i.n, .int .i64 i.tg]
/-- an item's cells, from offset o on -/
structure ItemAt (w : World) (b o : Nat) (i : Item) : Prop where
  c0 : w.cell? ⟨b, o, none⟩ = some (.int .i64 i.op)
  c1 : w.cell? ⟨b, o + 1, none⟩ = some (.int .i64 i.d)
  c2 : w.cell? ⟨b, o + 2, none⟩ = some (.int .i64 i.a)
  c3 : w.cell? ⟨b, o + 3, none⟩ = some (.int .i64 i.b)
  c4 : w.cell? ⟨b, o + 4, none⟩ = some (.int .i64 i.n)
  c5 : w.cell? ⟨b, o + 5, none⟩ = some (.int .i64 i.tg)
theorem ItemAt.later {w w' : World} {b o B : Nat} {i : Item} (h : ItemAt w b o i) (hb : Below B w w') (hB : b < B) : ItemAt w' b o i :=
  ⟨(hb.cell (by exact hB)).trans h.c0, (hb.cell (by exact hB)).trans h.c1, (hb.cell (by exact hB)).trans h.c2, (hb.cell (by exact hB)).trans h.c3, (hb.cell (by exact hB)).trans h.c4, (hb.cell (by exact hB)).trans h.c5⟩
theorem came_items {w : World} {a : Option Addr} {len cap : Nat} {its : List Item} (h : Came w a len cap 6 (its.map itemCells)) (h0 : 0 < len) :
    ∃ b off, a = some ⟨b, off, none⟩ ∧ b < w.heap.size ∧ ∀ i (hi : i < its.length), ItemAt w b (off + i * 6) its[i] := by
  obtain ⟨b, off, ha, hb, hc⟩ := h.cells h0 (by omega)
  refine ⟨b, off, ha, hb, fun i hi => ?_⟩
  have hcl := hc i (itemCells its[i]) (by rw [List.getElem?_map, List.getElem?_eq_getElem hi]; rfl)
  exact ⟨hcl 0 (by omega), hcl 1 (by omega), hcl 2 (by omega), hcl 3 (by omega), hcl 4 (by omega), hcl 5 (by omega)⟩
end Go.Proofs.Ytkafbihlmhdjeab
