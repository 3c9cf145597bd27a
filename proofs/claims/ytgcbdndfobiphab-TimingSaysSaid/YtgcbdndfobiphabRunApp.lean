/- What append makes of a row of the call's own and a slice that came in. -/
import Derived.Test.YtgcbdndfobiphabIRow
import Derived.Laws.AppendOwnNone
namespace Go.Proofs.Ytgcbdndfobiphab
open Go.RowKit
set_option linter.unusedVariables false

set_option maxRecDepth 100000 in
/-- a slice that came in, put behind a row of the call's own -/
theorem run_app (w : World) (ty : TypeId) (v : Value) (base n : Nat) (xs : List Int) (h : w.ownsRow base 3 1 v n (xs.map (Value.int .i64))) (a : Option Addr) (m c : Nat) (ys : List Int) (hc : Came w a m c 1 (ys.map intCells)) (hb : (n + m) * 8 ≤ 140737488355328) (hbase : base ≤ w.heap.size) :
    ∃ v' w', (Builtin.append_ #[23, 23] ty #[v, .slice a m c]).run Try.prog w = .ok v' w' ∧ w'.ownsRow base 3 1 v' (n + m) ((xs ++ ys).map (Value.int .i64)) ∧ w.grownBy w' v.ownBlock := by
  obtain ⟨i, hi, hz, hs, hby⟩ := info_parts Try.infoT3
  have hl : ys.length = m := by simpa using hc.count
  cases a with
  | none =>
    obtain ⟨rfl, rfl⟩ := hc.nil rfl
    obtain rfl : ys = [] := List.eq_nil_of_length_eq_zero hl
    exact ⟨v, w, run_append_owned_none (P := Try.prog) (w := w) base 23 ty 3 i 1 Try.underlying23 hi v n _ h, by simpa using h, ⟨rfl, rfl, rfl, Nat.le_refl _, fun _ _ _ => rfl⟩⟩
  | some ad =>
    have hnews : ∀ j u, (ys.map (Value.int .i64))[j]? = some u → w.cell? (ad.add j) = some u := fun j u hu => by
      rw [List.getElem?_map] at hu
      cases hy : ys[j]? with
      | none => rw [hy] at hu; cases hu
      | some y =>
        rw [hy] at hu
        obtain ⟨hj, rfl⟩ := List.getElem?_eq_some_iff.1 hy
        obtain ⟨g, off, ha, _, hcc⟩ := hc.ints (by omega)
        injection ha with ha
        subst ha
        rw [Addr.add_lit, hcc j hj]
        exact hu
    have hm9 : n + m ≤ maxLen := by unfold maxLen; omega
    obtain ⟨v', w', e1, e2, e3, _⟩ := run_append_own (P := Try.prog) w base 23 ty 3 i (.int .i64 0) 1 8 Try.underlying23 hi hz hs hby rfl (by decide) v n _ h ad m c (ys.map (Value.int .i64)) (by simpa using hl) hnews (by intro u hu; obtain ⟨z, _, rfl⟩ := List.mem_map.1 hu; rfl) hm9 hb hbase
    exact ⟨v', w', e1, by rw [List.map_append]; exact e2, e3⟩
theorem belowOf {w w' : World} {base B : Nat} {r : Option Nat} (h : w.grownBy w' r) (hr : ∀ g, r = some g → B ≤ g) (hb : B ≤ w.heap.size) : Below B w w' :=
  ⟨h.os, h.tape, h.output, h.size, fun k hk => h.block k (Nat.lt_of_lt_of_le hk hb) fun e => by have := hr k e.symm; omega⟩

end Go.Proofs.Ytgcbdndfobiphab
