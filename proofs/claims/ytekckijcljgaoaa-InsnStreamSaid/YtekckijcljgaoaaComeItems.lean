/- A slice of items that came in. No program. -/
import Derived.Test.YtekckijcljgaoaaRelaxChk
import Derived.Test.YtekckijcljgaoaaOpens
namespace Go.Proofs.Ytekckijcljgaoaa
open Go.Joins Go.ChangeShapes Go.WideShapes Go.ChangeAt Go.RowKit Go.Deep
set_option linter.unusedVariables false

section
variable {H : Type} {enc : TypeId × Value → H} {P : Program} {w : World} {base : Nat} {held : Bool}

theorem trod_opcells {eo ei : TypeId} {g0 g1 g2 g3 g4 : Field} {n : Nat} {cs : List Value} {x : DataW H × List MemPlace} (ho : P.underlying eo = some (.struct #[g0, g1, g2, g3, g4])) (hi : P.underlying ei = some (.int .i64))
    (hC : (P.cellsOf eo == 5 && (P.cellsOf ei == 1 && (g0.offset == 0 && (g1.offset == 1 && (g2.offset == 2 && (g3.offset == 3 && (g4.offset == 4 && (g0.type == ei && (g1.type == ei && (g2.type == ei && (g3.type == ei && g4.type == ei))))))))))) = true)
    (h : DataW.trod enc P w base (fun _ => true) held n eo cs = some x) : ∃ a b c d e : Int, cs = [.int .i64 a, .int .i64 b, .int .i64 c, .int .i64 d, .int .i64 e] := by
  simp only [Bool.and_eq_true, beq_iff_eq] at hC
  obtain ⟨k0, k1, o0, o1, o2, o3, o4, t0, t1, t2, t3, t4⟩ := hC
  obtain ⟨xs, m, _, _, hlen, hxl, hg⟩ := DataW.trod_struct ho h
  rw [k0] at hlen
  match cs, hlen with
  | [c0, c1, c2, c3, c4], _ =>
    match xs, hxl with
    | [y0, y1, y2, y3, y4], _ =>
      have h0 := hg 0 g0 rfl
      have h1 := hg 1 g1 rfl
      have h2 := hg 2 g2 rfl
      have h3 := hg 3 g3 rfl
      have h4 := hg 4 g4 rfl
      rw [o0, t0, k1] at h0
      rw [o1, t1, k1] at h1
      rw [o2, t2, k1] at h2
      rw [o3, t3, k1] at h3
      rw [o4, t4, k1] at h4
      obtain ⟨a, e0, _⟩ := DataW.trod_int hi (cs := [c0]) (x := y0) h0
      obtain ⟨b, e1, _⟩ := DataW.trod_int hi (cs := [c1]) (x := y1) h1
      obtain ⟨c, e2, _⟩ := DataW.trod_int hi (cs := [c2]) (x := y2) h2
      obtain ⟨d, e3, _⟩ := DataW.trod_int hi (cs := [c3]) (x := y3) h3
      obtain ⟨e, e4, _⟩ := DataW.trod_int hi (cs := [c4]) (x := y4) h4
      simp only [List.cons.injEq, and_true] at e0 e1 e2 e3 e4
      subst e0 e1 e2 e3 e4
      exact ⟨a, b, c, d, e, rfl⟩

theorem come_struct6 {t e eo ei : TypeId} {f0 f1 g0 g1 g2 g3 g4 : Field} {a : Option Addr} {len cap : Nat} {d : DataW H} {p : List MemPlace} (ht : P.underlying t = some (.slice e)) (he : P.underlying e = some (.struct #[f0, f1])) (ho : P.underlying eo = some (.struct #[g0, g1, g2, g3, g4])) (hi : P.underlying ei = some (.int .i64))
    (hC : (P.cellsOf e == 6 && (f0.offset == 0 && (f1.offset == 5 && (f0.type == eo && (f1.type == ei && (P.cellsOf eo == 5 && (P.cellsOf ei == 1 && (g0.offset == 0 && (g1.offset == 1 && (g2.offset == 2 && (g3.offset == 3 && (g4.offset == 4 && (g0.type == ei && (g1.type == ei && (g2.type == ei && (g3.type == ei && g4.type == ei)))))))))))))))) = true)
    (h : DataW.Trod enc P w base (fun _ => true) held t (.slice a len cap) d p) : ∃ zs : List Item, Came w a len cap 6 (zs.map itemCells) ∧ ∀ z ∈ zs, True := by
  simp only [Bool.and_eq_true, beq_iff_eq] at hC
  obtain ⟨k, o0, o1, t0, t1, hr⟩ := hC
  have hr' : (P.cellsOf eo == 5 && (P.cellsOf ei == 1 && (g0.offset == 0 && (g1.offset == 1 && (g2.offset == 2 && (g3.offset == 3 && (g4.offset == 4 && (g0.type == ei && (g1.type == ei && (g2.type == ei && (g3.type == ei && g4.type == ei))))))))))) = true := by
    simp only [Bool.and_eq_true, beq_iff_eq]; exact hr
  refine come_slice itemCells (fun _ => True) ht k (fun n cs x hx => ?_) h
  obtain ⟨xs, m, _, _, hlen, hxl, hg⟩ := DataW.trod_struct he hx
  rw [k] at hlen
  match cs, hlen with
  | [c0, c1, c2, c3, c4, c5], _ =>
    match xs, hxl with
    | [y0, y1], _ =>
      have h0 := hg 0 f0 rfl
      have h1 := hg 1 f1 rfl
      rw [o0, t0, hr.1] at h0
      rw [o1, t1, hr.2.1] at h1
      obtain ⟨a, b, c, d, e, e0⟩ := trod_opcells ho hi hr' (cs := [c0, c1, c2, c3, c4]) (x := y0) h0
      obtain ⟨z, e1, _⟩ := DataW.trod_int hi (cs := [c5]) (x := y1) h1
      simp only [List.cons.injEq, and_true] at e0 e1
      obtain ⟨rfl, rfl, rfl, rfl, rfl⟩ := e0
      subst e1
      exact ⟨⟨a, b, c, d, e, z⟩, rfl, trivial⟩
end
end Go.Proofs.Ytekckijcljgaoaa
