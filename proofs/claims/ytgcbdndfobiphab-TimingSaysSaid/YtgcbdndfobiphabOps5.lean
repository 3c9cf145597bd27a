/- A slice of instructions that came in (no relax in the seat). No program. -/
import Derived.Test.YtgcbdndfobiphabOpens
import Derived.Test.YtgcbdndfobiphabInsnB
import Derived.Test.YtgcbdndfobiphabTimingA
namespace Go.Proofs.Ytgcbdndfobiphab
open Go.Joins Go.ChangeShapes Go.WideShapes Go.ChangeAt Go.RowKit Go.Deep
set_option linter.unusedVariables false

section
variable {H : Type} {enc : TypeId × Value → H} {P : Program} {w : World} {base : Nat} {held : Bool}

theorem trod_opcells {eo ei : TypeId} {g0 g1 g2 g3 g4 : Field} {n : Nat} {cs : List Value} {x : DataW H × List MemPlace} (ho : P.underlying eo = some (.struct #[g0, g1, g2, g3, g4])) (hi : P.underlying ei = some (.int .i64))
    (hC : (P.cellsOf eo == 5 && (P.cellsOf ei == 1 && (g0.offset == 0 && (g1.offset == 1 && (g2.offset == 2 && (g3.offset == 3 && (g4.offset == 4 && (g0.type == ei && (g1.type == ei && (g2.type == ei && (g3.type == ei && g4.type == ei))))))))))) = true)
    (h : DataW.trod enc P w base (fun _ => true) held n eo cs = some x) : ∃ a b c d e : Int, cs = [.int .i64 a, .int .i64 b, .int .i64 c, .int .i64 d, .int .i64 e] := by
  simp only [Bool.and_eq_true, beq_iff_eq] at hC
  obtain ⟨k0, k1, o0, o1, o2, o3, o4, t0, t1, t2, t3, t4⟩ := hC
  obtain ⟨xs, m, _, _, hlen, hxl, hg⟩ := DataW.trod_struct ho h
  rw [k0] at hlen
  match cs, hlen with
  | [c0, c1, c2, c3, c4], _ =>
    match xs, hxl with
    | [y0, y1, y2, y3, y4], _ =>
      have h0 := hg 0 g0 rfl
      have h1 := hg 1 g1 rfl
      have h2 := hg 2 g2 rfl
      have h3 := hg 3 g3 rfl
      have h4 := hg 4 g4 rfl
      rw [o0, t0, k1] at h0
      rw [o1, t1, k1] at h1
      rw [o2, t2, k1] at h2
      rw [o3, t3, k1] at h3
      rw [o4, t4, k1] at h4
      obtain ⟨a, e0, _⟩ := DataW.trod_int hi (cs := [c0]) (x := y0) h0
      obtain ⟨b, e1, _⟩ := DataW.trod_int hi (cs := [c1]) (x := y1) h1
      obtain ⟨c, e2, _⟩ := DataW.trod_int hi (cs := [c2]) (x := y2) h2
      obtain ⟨d, e3, _⟩ := DataW.trod_int hi (cs := [c3]) (x := y3) h3
      obtain ⟨e, e4, _⟩ := DataW.trod_int hi (cs := [c4]) (x := y4) h4
      simp only [List.cons.injEq, and_true] at e0 e1 e2 e3 e4
      subst e0 e1 e2 e3 e4
      exact ⟨a, b, c, d, e, rfl⟩
end

structure Op5 where
  (op d a b n : Int)
def opC (i : Op5) : List Value := [.int .i64 i.op, .int .i64 i.d, .int .i64 i.a, .int .i64 i.b, .int .i64 i.n]
theorem opC_len (i : Op5) : (opC i).length = 5 := rfl
def opAt0 (zs : List Op5) (i : Nat) : Op5 := zs.getD i ⟨0, 0, 0, 0, 0⟩
theorem opAt0_get {zs : List Op5} {i : Nat} (h : i < zs.length) : opAt0 zs i = zs[i] := by simp [opAt0, h]

section
variable {H : Type} {enc : TypeId × Value → H} {P : Program} {w : World} {base : Nat} {held : Bool}
theorem come_struct5 {t e ei : TypeId} {g0 g1 g2 g3 g4 : Field} {a : Option Addr} {len cap : Nat} {d : DataW H} {p : List MemPlace} (ht : P.underlying t = some (.slice e)) (he : P.underlying e = some (.struct #[g0, g1, g2, g3, g4]))
    (hi : P.underlying ei = some (.int .i64)) (_ _ _ _ : P.underlying ei = some (.int .i64))
    (hC : (P.cellsOf e == 5 && (P.cellsOf ei == 1 && (g0.offset == 0 && (g1.offset == 1 && (g2.offset == 2 && (g3.offset == 3 && (g4.offset == 4 && (g0.type == ei && (g1.type == ei && (g2.type == ei && (g3.type == ei && g4.type == ei))))))))))) = true)
    (h : DataW.Trod enc P w base (fun _ => true) held t (.slice a len cap) d p) : ∃ zs : List Op5, Came w a len cap 5 (zs.map opC) ∧ ∀ z ∈ zs, True := by
  have hC' := hC
  simp only [Bool.and_eq_true, beq_iff_eq] at hC'
  refine come_slice opC (fun _ => True) ht hC'.1 (fun n cs x hx => ?_) h
  obtain ⟨a, b, c, d, e, e0⟩ := trod_opcells he hi hC hx
  exact ⟨⟨a, b, c, d, e⟩, e0, trivial⟩
end

structure OpAt5 (w : World) (b o : Nat) (i : Op5) : Prop where
  c0 : w.cell? ⟨b, o, none⟩ = some (.int .i64 i.op)
  c1 : w.cell? ⟨b, o + 1, none⟩ = some (.int .i64 i.d)
  c2 : w.cell? ⟨b, o + 2, none⟩ = some (.int .i64 i.a)
  c3 : w.cell? ⟨b, o + 3, none⟩ = some (.int .i64 i.b)
  c4 : w.cell? ⟨b, o + 4, none⟩ = some (.int .i64 i.n)
theorem OpAt5.later {w w' : World} {b o B : Nat} {i : Op5} (h : OpAt5 w b o i) (hb : Below B w w') (hB : b < B) : OpAt5 w' b o i :=
  ⟨(hb.cell (by exact hB)).trans h.c0, (hb.cell (by exact hB)).trans h.c1, (hb.cell (by exact hB)).trans h.c2, (hb.cell (by exact hB)).trans h.c3, (hb.cell (by exact hB)).trans h.c4⟩
theorem came_ops {w : World} {a : Option Addr} {len cap : Nat} {zs : List Op5} (h : Came w a len cap 5 (zs.map opC)) (h0 : 0 < len) :
    ∃ b off, a = some ⟨b, off, none⟩ ∧ b < w.heap.size ∧ ∀ i (hi : i < zs.length), OpAt5 w b (off + i * 5) zs[i] := by
  obtain ⟨b, off, ha, hb, hc⟩ := h.cells h0 (by omega)
  refine ⟨b, off, ha, hb, fun i hi => ?_⟩
  have hcl := hc i (opC zs[i]) (by rw [List.getElem?_map, List.getElem?_eq_getElem hi]; rfl)
  exact ⟨hcl 0 (by omega), hcl 1 (by omega), hcl 2 (by omega), hcl 3 (by omega), hcl 4 (by omega)⟩
end Go.Proofs.Ytgcbdndfobiphab
