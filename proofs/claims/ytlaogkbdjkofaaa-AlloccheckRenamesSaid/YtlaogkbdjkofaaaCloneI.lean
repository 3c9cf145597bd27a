/- slices.Clone at []int: the new row and what it holds. A row of ints that may be cut short. -/
import Derived.Test.YtlaogkbdjkofaaaLinRow
import Derived.Lib.SliceRun
namespace Go.Proofs.Ytlaogkbdjkofaaa
open Go.RowKit
set_option linter.unusedVariables false
set_option linter.unusedSimpArgs false

def CloneO (vl : Nat) (zs : List Int) (w : World) (e : Ending) (w' : World) : Prop :=
  ∃ g c, e = .returned (.slice (some ⟨g, 0, none⟩) vl c) ∧ w.heap.size ≤ g ∧ w'.ownsRow w.heap.size 3 1 (.slice (some ⟨g, 0, none⟩) vl c) vl (zs.map (Value.int .i64)) ∧ Below w.heap.size w w'
set_option maxRecDepth 100000 in
set_option maxHeartbeats 1000000 in
theorem clone_own (va : Option Addr) (vl vc : Nat) (zs : List Int) (w : World) (h : Came w va vl vc 1 (zs.map intCells)) (h0 : 0 < vl) (hn : vl * 8 ≤ 140737488351232) :
    Calls Try.prog 35 #[.slice va vl vc] w (CloneO vl zs w) := by
  have q22 : ∀ (w : World) (a : Option Addr) (n c n' c' : Nat), (binOp .eql 22 (.slice a n c) (.slice none n' c')).run Try.prog w = .ok (.bool a.isNone) w := fun w a n c n' c' => Lib.run_eql_slice_nil w _ _ a n c n' c' Try.underlying22
  cases va with
  | none => exact absurd (h.nil rfl).1 (by omega)
  | some ad =>
    have hl : (zs.map (Value.int .i64)).length = vl * 1 := by have := h.count; simp at this; simp; omega
    have HN : Hid (∀ j u, (zs.map (Value.int .i64))[j]? = some u → w.cell? (ad.add j) = some u) := fun j u hj => by
      rw [List.getElem?_map] at hj
      obtain ⟨z, hz, rfl⟩ := Option.map_eq_some_iff.1 hj
      have hjl : j < zs.length := (List.getElem?_eq_some_iff.1 hz).1
      have hzl : zs.length = vl := by simpa using h.count
      obtain ⟨b, off, ha, hb, hc⟩ := h.ints (by omega)
      cases ha
      rw [Addr.add_lit, hc j hjl]
      rw [List.getElem?_eq_getElem hjl] at hz
      rw [Option.some.inj hz]
    have H1 : Hid (∀ u ∈ zs.map (Value.int .i64), u.oneCell' = true) := by
      intro u hu
      obtain ⟨z, _, rfl⟩ := List.mem_map.1 hu
      rfl
    obtain ⟨i0, hi0, hz0, hz1, hz2⟩ := info_parts Try.infoT3
    clear h
    go_enter Try.func35, Try.ntmps35
    go_wp2_with (at_builtin; refine wpList_append_own _ rfl _ _ 22 rfl w.heap.size 3 i0 (.int .i64 0) 1 8 Try.underlying22 hi0 hz0 hz1 hz2 rfl (by decide) _ _ _ rfl (World.ownsRow_made w #[] 0 (Nat.le_refl _) (Nat.zero_le _) rfl) ad vl vc (zs.map (Value.int .i64)) rfl ?qc1 ?qc2 ?qc3 ?qc4 ?qc5 ?qc6 ?_)
    case qc1 => exact hl
    case qc2 =>
      intro j u hj
      exact Lib.cell?_alloc_some _ (HN.out j u hj)
    case qc3 => exact H1.out
    case qc4 => unfold maxLen; omega
    case qc5 => omega
    case qc6 => simp
    intro v' w1 hown hgrow hnil
    have hown2 : w1.ownsRow w.heap.size 3 1 v' vl (zs.map (Value.int .i64)) := by simpa using hown
    obtain ⟨g', c', rfl, h1, _⟩ := ownG_has hown2 h0
    have HO := Lib.hid hown2
    have HG := Lib.hid h1
    have HB := Lib.hid (((Below.refl _ w).alloc (Nat.le_refl _) _).grown hgrow (by simp) (by intro k hk; simp [Value.ownBlock] at hk; omega))
    clear hown hown2 hgrow hnil h1
    go_wp2_with fail
    go_ret
    exact ⟨_, _, rfl, HG.out, HO.out, HB.out⟩
/-- an own row of ints -/
def IRw (w : World) (base g c n : Nat) (l : List Int) : Prop := w.ownsRow base 3 1 (.slice (some ⟨g, 0, none⟩) n c) n (l.map (Value.int .i64))
section
variable {w w' : World} {base g c n : Nat} {l : List Int}
theorem IRw.len (h : IRw w base g c n l) : l.length = n := by have := h.1; simpa using this
theorem IRw.cell (h : IRw w base g c n l) {i : Nat} (hi : i < n) : w.cell? ⟨g, i, none⟩ = some (.int .i64 (l.getD i 0)) ∧ w.frozen? ⟨g, i, none⟩ = false := by
  obtain ⟨h1, h2⟩ := ownR_cellAt h (j := i) (by omega)
  have hl := h.len
  refine ⟨?_, h2⟩
  rw [h1, List.getElem?_map, List.getD_eq_getElem?_getD, List.getElem?_eq_getElem (by omega)]
  rfl
theorem IRw.set (h : IRw w base g c n l) {i : Nat} (hi : i < n) (z : Int) : IRw (w.setCell ⟨g, i, none⟩ (.int .i64 z)) base g c n (l.set i z) := by
  have h1 := ownR_set h i (.int .i64 z) (by omega)
  unfold IRw
  rw [List.map_set]
  exact h1
theorem IRw.below (h : IRw w base g c n l) (hb : Below w.heap.size w w') : IRw w' base g c n l := ownG_below h hb
theorem IRw.has (h : IRw w base g c n l) (h0 : 0 < n) : base ≤ g ∧ g < w.heap.size ∧ n ≤ c ∧ c ≤ 9223372036854775807 := by
  obtain ⟨g', c', hv, h1, h2, h3, h4⟩ := ownG_has h h0
  injection hv with e1 _ e3
  injection e1 with e1
  injection e1 with e1 _ _
  subst e1 e3
  unfold maxLen at h4
  exact ⟨h1, h2, h3, by omega⟩
end
end Go.Proofs.Ytlaogkbdjkofaaa
