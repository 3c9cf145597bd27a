/- A slice of instructions that came in. No program. -/
import Derived.Test.YtekckijcljgaoaaComeItems
namespace Go.Proofs.Ytekckijcljgaoaa
open Go.Joins Go.ChangeShapes Go.WideShapes Go.ChangeAt Go.RowKit Go.Deep
set_option linter.unusedVariables false

structure Op5 where
  (op d a b n : Int)
def opC (i : Op5) : List Value := [.int .i64 i.op, .int .i64 i.d, .int .i64 i.a, .int .i64 i.b, .int .i64 i.n]
theorem opC_len (i : Op5) : (opC i).length = 5 := rfl
def opAt0 (zs : List Op5) (i : Nat) : Op5 := zs.getD i ⟨0, 0, 0, 0, 0⟩
theorem opAt0_get {zs : List Op5} {i : Nat} (h : i < zs.length) : opAt0 zs i = zs[i] := by simp [opAt0, h]

section
variable {H : Type} {enc : TypeId × Value → H} {P : Program} {w : World} {base : Nat} {held : Bool}
theorem come_struct5 {t e ei : TypeId} {g0 g1 g2 g3 g4 : Field} {a : Option Addr} {len cap : Nat} {d : DataW H} {p : List MemPlace} (ht : P.underlying t = some (.slice e)) (he : P.underlying e = some (.struct #[g0, g1, g2, g3, g4]))
    (hi : P.underlying ei = some (.int .i64)) (_ _ _ _ : P.underlying ei = some (.int .i64))
    (hC : (P.cellsOf e == 5 && (P.cellsOf ei == 1 && (g0.offset == 0 && (g1.offset == 1 && (g2.offset == 2 && (g3.offset == 3 && (g4.offset == 4 && (g0.type == ei && (g1.type == ei && (g2.type == ei && (g3.type == ei && g4.type == ei))))))))))) = true)
    (h : DataW.Trod enc P w base (fun _ => true) held t (.slice a len cap) d p) : ∃ zs : List Op5, Came w a len cap 5 (zs.map opC) ∧ ∀ z ∈ zs, True := by
  have hC' := hC
  simp only [Bool.and_eq_true, beq_iff_eq] at hC'
  refine come_slice opC (fun _ => True) ht hC'.1 (fun n cs x hx => ?_) h
  obtain ⟨a, b, c, d, e, e0⟩ := trod_opcells he hi hC hx
  exact ⟨⟨a, b, c, d, e⟩, e0, trivial⟩
end

structure OpAt5 (w : World) (b o : Nat) (i : Op5) : Prop where
  c0 : w.cell? ⟨b, o, none⟩ = some (.int .i64 i.op)
  c1 : w.cell? ⟨b, o + 1, none⟩ = some (.int .i64 i.d)
  c2 : w.cell? ⟨b, o + 2, none⟩ = some (.int .i64 i.a)
  c3 : w.cell? ⟨b, o + 3, none⟩ = some (.int .i64 i.b)
  c4 : w.cell? ⟨b, o + 4, none⟩ = some (.int .i64 i.n)
theorem OpAt5.later {w w' : World} {b o B : Nat} {i : Op5} (h : OpAt5 w b o i) (hb : Below B w w') (hB : b < B) : OpAt5 w' b o i :=
  ⟨(hb.cell (by exact hB)).trans h.c0, (hb.cell (by exact hB)).trans h.c1, (hb.cell (by exact hB)).trans h.c2, (hb.cell (by exact hB)).trans h.c3, (hb.cell (by exact hB)).trans h.c4⟩
theorem came_ops {w : World} {a : Option Addr} {len cap : Nat} {zs : List Op5} (h : Came w a len cap 5 (zs.map opC)) (h0 : 0 < len) :
    ∃ b off, a = some ⟨b, off, none⟩ ∧ b < w.heap.size ∧ ∀ i (hi : i < zs.length), OpAt5 w b (off + i * 5) zs[i] := by
  obtain ⟨b, off, ha, hb, hc⟩ := h.cells h0 (by omega)
  refine ⟨b, off, ha, hb, fun i hi => ?_⟩
  have hcl := hc i (opC zs[i]) (by rw [List.getElem?_map, List.getElem?_eq_getElem hi]; rfl)
  exact ⟨hcl 0 (by omega), hcl 1 (by omega), hcl 2 (by omega), hcl 3 (by omega), hcl 4 (by omega)⟩
end Go.Proofs.Ytekckijcljgaoaa
