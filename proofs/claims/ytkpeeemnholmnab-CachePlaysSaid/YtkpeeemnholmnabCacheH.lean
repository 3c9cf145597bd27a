/- slices.Clone at []api.CacheLine; Cache.Lines where it answers the lines. -/
import Derived.Test.YtkpeeemnholmnabCacheG
import Derived.Test.YtkpeeemnholmnabLevSet
import Derived.Lib.SliceRun
namespace Go.Proofs.Ytkpeeemnholmnab
open Go.RowKit
set_option linter.unusedVariables false
set_option linter.unusedSimpArgs false

set_option maxRecDepth 100000 in
set_option maxHeartbeats 1000000 in
theorem clone_lines (w : World) (v : Value) (xs : List CLine) (h : Lines w v xs) (hn : xs.length ≤ 1000000) :
    Calls Try.prog 31 #[v] w (SetLPost xs w) := by
  have q22 : ∀ (w : World) (a : Option Addr) (n c n' c' : Nat), (binOp .eql 40 (.slice a n c) (.slice none n' c')).run Try.prog w = .ok (.bool a.isNone) w := fun w a n c n' c' => Lib.run_eql_slice_nil w _ _ a n c n' c' Try.underlying40
  rcases h with ⟨rfl, rfl⟩ | ⟨g, cap, cur, rfl, hg, h1, h2, h3, h4⟩
  · go_enter Try.func31, Try.ntmps31
    go_wp2
    go_ret
    exact ⟨_, rfl, .inl ⟨rfl, rfl⟩, Below.refl _ _⟩
  · have HN : Hid (∀ j u, (xs.flatMap cC)[j]? = some u → w.cell? ⟨g, j, none⟩ = some u) := by
      intro j u hu
      have hjl : j < xs.length * 2 := by
        have := (List.getElem?_eq_some_iff.1 hu).1
        rwa [flatN_len cC_len] at this
      obtain ⟨a, b⟩ := h4 (j / 2) (by omega)
      have e : j = j / 2 * 2 + j % 2 := by omega
      have := flatN_get cC_len xs (j / 2) (j % 2) (by omega) (by omega)
      rw [← e, hu] at this
      rcases Nat.mod_two_eq_zero_or_one j with h0 | h0
      · rw [h0] at this e
        have e2 : j = j / 2 * 2 := by omega
        rw [← e2] at a
        simp [World.cell?, hg, a]
        simpa [cC] using this.symm
      · rw [h0] at this e
        rw [← e] at b
        simp [World.cell?, hg, b]
        simpa [cC] using this.symm
    obtain ⟨vl, hvl⟩ : ∃ vl, vl = xs.length := ⟨_, rfl⟩
    have HL : Hid ((xs.flatMap cC).length = vl * 2) := by unfold Hid; rw [flatN_len cC_len, hvl]
    have H1 : Hid (∀ u ∈ xs.flatMap cC, u.oneCell' = true) := by
      intro u hu
      obtain ⟨x, _, hx⟩ := List.mem_flatMap.1 hu
      simp [cC] at hx
      rcases hx with rfl | rfl <;> rfl
    have HVL := Lib.hid hvl
    rw [← hvl] at hn h1 ⊢
    obtain ⟨i0, hi0, hz0, hz1, hz2⟩ := info_parts Try.infoL90
    clear h3 h4 hg hvl
    go_enter Try.func31, Try.ntmps31
    go_wp2_with (at_builtin; refine wpList_append_own _ rfl _ _ 40 rfl w.heap.size 90 i0 (.agg #[.int .i64 0, .bool false]) 2 16 Try.underlying40 hi0 hz0 hz1 hz2 rfl (by decide) _ _ _ rfl (World.ownsRow_made w #[] 0 (Nat.le_refl _) (Nat.zero_le _) rfl) ⟨g, 0, none⟩ vl cap (xs.flatMap cC) rfl ?qc1 ?qc2 ?qc3 ?qc4 ?qc5 ?qc6 ?_)
    case qc1 => exact HL.out
    case qc2 =>
      intro j u hj
      rw [Addr.add_lit, Nat.zero_add]
      exact Lib.cell?_alloc_some _ (HN.out j u hj)
    case qc3 => exact H1.out
    case qc4 => unfold maxLen; omega
    case qc5 => omega
    case qc6 => simp
    intro v' w1 hown hgrow hnil
    obtain ⟨a', c', rfl⟩ := ownG_shape hown
    have HB := Lib.hid (((Below.refl _ w).alloc (Nat.le_refl _) _).grown hgrow (by simp) (by intro k hk; simp [Value.ownBlock] at hk; omega))
    have HLN : Hid (Lines w1 (.slice a' vl c') xs) := by
      refine lines_of_owns (base := w.heap.size) ?_
      rw [← HVL.out]
      simpa using hown
    clear hown hgrow hnil
    go_wp2
    go_ret
    exact ⟨.slice a' vl c', rfl, HLN.out, HB.out⟩
theorem LevelSt.row {w : World} {p sb : Nat} {c : Conf} {sv : Nat → Value} {xs : Nat → List CLine} (h : LevelSt w p sb c sv xs) {i : Nat} (hi : i < c.sets) : w.cell? ⟨sb, i, none⟩ = some (sv i) := h.ss.row hi
def LinesCPost (xs : List CLine) (w : World) (e : Ending) (w' : World) : Prop := ∃ v, e = .returned (.tuple #[v, .int .i64 0]) ∧ Lines w' v xs ∧ Below w.heap.size w w'
set_option maxHeartbeats 1000000 in
theorem clines_one (w : World) (q p1 sb1 p2 sb2 : Nat) (c1 c2 : Conf) (sv1 sv2 : Nat → Value) (x1 x2 : Nat → List CLine) (m : Nat) (h : CacheSt w q p1 sb1 p2 sb2 c1 c2 sv1 sv2 x1 x2 m) (ok1 : c1.Ok) (i : Nat) (hi : i < c1.sets) :
    Calls Try.prog 12 #[.pointer (some ⟨q, 0, none⟩), .int .i64 1, .int .i64 (i : Int)] w (LinesCPost (x1 i) w) := by
  have q0 := h.st.cell 0
  have q1 := h.st.cell 1
  have l1 := h.l1.st.cell 1
  have l4 := h.l1.st.cell 4
  have lr := h.l1.row hi
  simp only [List.getElem?_cons_zero, List.getElem?_cons_succ] at q0 q1 l1 l4
  have HR := Lib.hid (h.l1.rr i hi).1
  have hlen : (x1 i).length ≤ 8 := Nat.le_trans (h.l1.rr i hi).2 ok1.y.2
  obtain ⟨s, hs⟩ : ∃ s, s = c1.sets := ⟨_, rfl⟩
  have hsb : 1 ≤ s ∧ s ≤ 256 := by have := ok1.s; omega
  rw [← hs] at l1 l4 hi
  have hin : inB (i : Int) 0 ((s : Int) - 1) = true := inB_true.2 (by omega)
  have HIN := fun w' => Lib.hid (cin_any (i : Int) 0 ((s : Int) - 1) w')
  rw [hin] at HIN
  obtain ⟨xs, hx⟩ : ∃ xs, xs = x1 i := ⟨_, rfl⟩
  rw [← hx] at HR hlen ⊢
  obtain ⟨v, hv⟩ : ∃ v, v = sv1 i := ⟨_, rfl⟩
  rw [← hv] at HR lr
  have HCL := Lib.hid (clone_lines w v xs HR.out (by omega))
  clear h hs hin hx hv
  go_enter Try.func12, Try.ntmps12
  go_wp2_with fail
  refine (HIN _).out.mono ?_
  rintro e w' ⟨rfl, rfl⟩
  go_wp2_with fail
  refine HCL.out.mono ?_
  rintro e w2 ⟨v2, rfl, hl, hb⟩
  have HL := Lib.hid hl
  have HB := Lib.hid hb
  obtain ⟨a2, c2', rfl, _, _⟩ := hl.form
  clear hl hb
  go_wp2_with fail
  go_ret2
  exact ⟨_, rfl, HL.out, HB.out⟩
set_option maxHeartbeats 1000000 in
theorem clines_two (w : World) (q p1 sb1 p2 sb2 : Nat) (c1 c2 : Conf) (sv1 sv2 : Nat → Value) (x1 x2 : Nat → List CLine) (m : Nat) (h : CacheSt w q p1 sb1 p2 sb2 c1 c2 sv1 sv2 x1 x2 m) (ok2 : c2.Ok) (i : Nat) (hi : i < c2.sets) :
    Calls Try.prog 12 #[.pointer (some ⟨q, 0, none⟩), .int .i64 2, .int .i64 (i : Int)] w (LinesCPost (x2 i) w) := by
  have q0 := h.st.cell 0
  have q1 := h.st.cell 1
  have l1 := h.l2.st.cell 1
  have l4 := h.l2.st.cell 4
  have lr := h.l2.row hi
  simp only [List.getElem?_cons_zero, List.getElem?_cons_succ] at q0 q1 l1 l4
  have HR := Lib.hid (h.l2.rr i hi).1
  have hlen : (x2 i).length ≤ 8 := Nat.le_trans (h.l2.rr i hi).2 ok2.y.2
  obtain ⟨s, hs⟩ : ∃ s, s = c2.sets := ⟨_, rfl⟩
  have hsb : 1 ≤ s ∧ s ≤ 256 := by have := ok2.s; omega
  rw [← hs] at l1 l4 hi
  have hin : inB (i : Int) 0 ((s : Int) - 1) = true := inB_true.2 (by omega)
  have HIN := fun w' => Lib.hid (cin_any (i : Int) 0 ((s : Int) - 1) w')
  rw [hin] at HIN
  obtain ⟨xs, hx⟩ : ∃ xs, xs = x2 i := ⟨_, rfl⟩
  rw [← hx] at HR hlen ⊢
  obtain ⟨v, hv⟩ : ∃ v, v = sv2 i := ⟨_, rfl⟩
  rw [← hv] at HR lr
  have HCL := Lib.hid (clone_lines w v xs HR.out (by omega))
  clear h hs hin hx hv
  go_enter Try.func12, Try.ntmps12
  go_wp2_with fail
  refine (HIN _).out.mono ?_
  rintro e w' ⟨rfl, rfl⟩
  go_wp2_with fail
  refine HCL.out.mono ?_
  rintro e w2 ⟨v2, rfl, hl, hb⟩
  have HL := Lib.hid hl
  have HB := Lib.hid hb
  obtain ⟨a2, c2', rfl, _, _⟩ := hl.form
  clear hl hb
  go_wp2_with fail
  go_ret2
  exact ⟨_, rfl, HL.out, HB.out⟩
end Go.Proofs.Ytkpeeemnholmnab
