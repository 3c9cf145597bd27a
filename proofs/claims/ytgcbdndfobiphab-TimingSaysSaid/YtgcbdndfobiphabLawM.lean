/- TimingSays: the numbers of a state as one list. -/
import Derived.Test.YtgcbdndfobiphabIssueA
namespace Go.Proofs.Ytgcbdndfobiphab
open Go.RowKit
set_option linter.unusedVariables false
set_option linter.unusedSimpArgs false

theorem wpList_load_row_g {P : Program} {ops : Array Oper} {rest : List Oper} {o : Oper} {a : Act} {w : World} {Q : Exit → Act → World → Prop} (hw : Region.wanted o (yielded ops a.tmps) = true) (ty : TypeId) (x : Operand) (ho : o.op = .load ty x)
    (g : Nat) (hx : a.eval x = .pointer (some ⟨g, 0, none⟩)) (t : TypeId) (cs : Array Value) (fr : Nat × Nat) (d : TypeDesc) (hg : w.heap[g]? = some (.cells cs t fr))
    (hu : P.underlying ty = some d) (hd : (match d with | .struct _ | .array _ _ => true | _ => false) = true) (hi : (P.info? ty).map (·.size) = some cs.size)
    (h : wpList P ops Q rest (a.put o.dst (.agg cs)) w) : wpList P ops Q (o :: rest) a w := by
  unfold wpList
  rw [if_pos hw]
  exact .inl (wp_load_row ty x ho g hx t cs fr d hg hu hd hi h)
def rdsL (S : TI) : List Int := [S.rd 0, S.rd 1, S.rd 2, S.rd 3, S.rd 4, S.rd 5, S.rd 6, S.rd 7, S.rd 8, S.rd 9, S.rd 10, S.rd 11, S.rd 12, S.rd 13, S.rd 14, S.rd 15]
def allL (S : TI) : List Int := ([S.next, S.div, S.done] ++ rdsL S) ++ S.wr
theorem came_rds {w : World} {b : Nat} {t : TypeId} {S : TI} {wv : Value} (h : Blk w b t (tiCells S wv)) : Came w (some ⟨b, 3, none⟩) 16 16 1 ((rdsL S).map intCells) := by
  refine ⟨rfl, Nat.le_refl _, by omega, fun e => (nomatch e), fun v hv => ?_, fun _ _ => ⟨b, 3, rfl, h.lt, fun i v hv j hj => ?_⟩⟩
  · obtain ⟨z, _, rfl⟩ := List.mem_map.1 hv; rfl
  · have hil : i < 16 := by have := (List.getElem?_eq_some_iff.1 hv).1; simpa [rdsL] using this
    obtain rfl : j = 0 := by omega
    rw [show 3 + (i * 1 + 0) = 3 + i by omega, h.cell (3 + i)]
    rcases (show i = 0 ∨ i = 1 ∨ i = 2 ∨ i = 3 ∨ i = 4 ∨ i = 5 ∨ i = 6 ∨ i = 7 ∨ i = 8 ∨ i = 9 ∨ i = 10 ∨ i = 11 ∨ i = 12 ∨ i = 13 ∨ i = 14 ∨ i = 15 by omega) with rfl | rfl | rfl | rfl | rfl | rfl | rfl | rfl | rfl | rfl | rfl | rfl | rfl | rfl | rfl | rfl
    all_goals
      simp only [rdsL, List.map_cons, List.getElem?_cons_zero, List.getElem?_cons_succ, Option.some.injEq] at hv
      rw [← hv]; rfl
theorem law_apps (w : World) (x y z : Int) (rds wr : List Int) (a1 a2 : Option Addr) (m c : Nat) (ty1 ty2 : TypeId) (h1 : Came w a1 16 16 1 (rds.map intCells)) (h2 : Came w a2 m c 1 (wr.map intCells)) (hm : m ≤ 16384) :
    ∃ v1 w1 a' c' w2, (Builtin.append_ #[23, 23] ty1 #[.slice (some ⟨w.heap.size, 0, none⟩) 3 3, .slice a1 16 16]).run Try.prog (w.alloc (.cells #[.int .i64 x, .int .i64 y, .int .i64 z] 3)) = .ok v1 w1 ∧
      (Builtin.append_ #[23, 23] ty2 #[v1, .slice a2 m c]).run Try.prog w1 = .ok (.slice a' (19 + m) c') w2 ∧ Came w2 a' (19 + m) c' 1 ((([x, y, z] ++ rds) ++ wr).map intCells) ∧ Below w.heap.size (w.alloc (.cells #[.int .i64 x, .int .i64 y, .int .i64 z] 3)) w1 ∧ Below w.heap.size w1 w2 := by
  have hba : Below w.heap.size w (w.alloc (.cells #[.int .i64 x, .int .i64 y, .int .i64 z] 3)) := (Below.refl _ _).alloc (Nat.le_refl _) _
  have o0 : (w.alloc (.cells #[.int .i64 x, .int .i64 y, .int .i64 z] 3)).ownsRow w.heap.size 3 1 (.slice (some ⟨w.heap.size, 0, none⟩) 3 3) 3 ([x, y, z].map (Value.int .i64)) :=
    ⟨rfl, .inr ⟨w.heap.size, 3, #[.int .i64 x, .int .i64 y, .int .i64 z], rfl, Nat.le_refl _, heap_alloc_new w _, Nat.le_refl _, by decide, rfl, rfl⟩⟩
  obtain ⟨v1, w1, r1, o1, g1⟩ := run_app _ ty1 _ w.heap.size 3 [x, y, z] o0 a1 16 16 rds (h1.below hba) (by omega) (by simp)
  have hb1 : Below w.heap.size (w.alloc (.cells #[.int .i64 x, .int .i64 y, .int .i64 z] 3)) w1 := grown_below g1 (fun q hq => (World.ownsRow.lt o0 q hq).1) (by simp)
  obtain ⟨v2, w2, r2, o2, g2⟩ := run_app w1 ty2 v1 w.heap.size (3 + 16) ([x, y, z] ++ rds) o1 a2 m c wr (h2.below (hba.trans hb1)) (by omega) (by have := hb1.size; simp at this; omega)
  have hb2 : Below w.heap.size w1 w2 := grown_below g2 (fun q hq => (World.ownsRow.lt o1 q hq).1) (by have := hb1.size; simp at this; omega)
  obtain ⟨a', l', c', rfl⟩ := owns_shape o2
  obtain ⟨e, hc⟩ := came_of_owns (E := intCells) (zs := ([x, y, z] ++ rds) ++ wr) (fun z => ⟨_, rfl⟩) (by simpa [intCells] using o2)
  obtain rfl : l' = 19 + m := by omega
  exact ⟨v1, w1, a', c', w2, r1, r2, hc, hb1, hb2⟩
theorem small_iff {S : TI} (h : ∀ z ∈ allL S, z ≤ 1099511627776) : smallT S := by
  refine ⟨h _ (by simp [allL]), h _ (by simp [allL]), h _ (by simp [allL]), fun i hi => h _ ?_, fun z hz => h _ (by simp [allL, hz])⟩
  rcases (show i = 0 ∨ i = 1 ∨ i = 2 ∨ i = 3 ∨ i = 4 ∨ i = 5 ∨ i = 6 ∨ i = 7 ∨ i = 8 ∨ i = 9 ∨ i = 10 ∨ i = 11 ∨ i = 12 ∨ i = 13 ∨ i = 14 ∨ i = 15 by omega) with rfl | rfl | rfl | rfl | rfl | rfl | rfl | rfl | rfl | rfl | rfl | rfl | rfl | rfl | rfl | rfl
  all_goals simp [allL, rdsL]
end Go.Proofs.Ytgcbdndfobiphab
