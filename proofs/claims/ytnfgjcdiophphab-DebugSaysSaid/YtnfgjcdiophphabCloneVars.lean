/- slices.Clone at []api.VarAt: it answers, and all that was there is as it was. -/
import Derived.Test.YtnfgjcdiophphabOpens
import Derived.Test.YtnfgjcdiophphabMade
import Derived.Test.YtnfgjcdiophphabTimingB
import Derived.Lib.SliceRun
namespace Go.Proofs.Ytnfgjcdiophphab
open Go.RowKit
set_option linter.unusedVariables false
set_option linter.unusedSimpArgs false

theorem flat_get {α : Type} {sz : Nat} : ∀ {vs : List (List α)}, (∀ v ∈ vs, v.length = sz) → ∀ {j : Nat} {u : α}, vs.flatten[j]? = some u → ∃ i v j', vs[i]? = some v ∧ j' < sz ∧ v[j']? = some u ∧ j = i * sz + j'
  | [], _, j, u, h => by simp at h
  | a :: vs, hs, j, u, h => by
    have ha := hs a (List.mem_cons_self)
    rw [List.flatten_cons] at h
    by_cases hj : j < a.length
    · rw [List.getElem?_append_left hj] at h
      exact ⟨0, a, j, rfl, by omega, h, by omega⟩
    · rw [List.getElem?_append_right (by omega)] at h
      obtain ⟨i, v, j', h1, h2, h3, h4⟩ := flat_get (fun v hv => hs v (List.mem_cons_of_mem _ hv)) h
      refine ⟨i + 1, v, j', h1, h2, h3, ?_⟩
      rw [ha] at h4 hj
      rw [Nat.add_mul]
      omega
theorem flat_len {α : Type} {sz : Nat} : ∀ {vs : List (List α)}, (∀ v ∈ vs, v.length = sz) → vs.flatten.length = vs.length * sz
  | [], _ => by simp
  | a :: vs, hs => by
    rw [List.flatten_cons, List.length_append, hs a List.mem_cons_self, flat_len (fun v hv => hs v (List.mem_cons_of_mem _ hv)), List.length_cons, Nat.add_mul]
    omega
/-- the news of an append, from a slice that came in -/
theorem Came.flat {w : World} {ad : Addr} {len cap sz : Nat} {vs : List (List Value)} (h : Came w (some ad) len cap sz vs) (hz : 0 < sz) : ∀ j u, vs.flatten[j]? = some u → w.cell? (ad.add j) = some u := by
  intro j u hu
  obtain ⟨i, v, j', h1, h2, h3, rfl⟩ := flat_get h.size hu
  have h0 : 0 < len := by have := (List.getElem?_eq_some_iff.1 h1).1; have := h.count; omega
  obtain ⟨b, off, ha, hb, hc⟩ := h.cells h0 hz
  cases ha
  rw [Addr.add_lit, hc i v h1 j' h2]
  exact h3

theorem Try.infoT122 : (Try.prog.info? 122).map (fun i => (i.zero, i.size, i.bytes)) = some (some (.agg #[.string ⟨#[]⟩, .int .i64 0, .int .i64 0]), 3, 32) := by kernel_rfl

def ClonePost (w : World) (e : Ending) (w' : World) : Prop := (∃ a m c, e = .returned (.slice a m c)) ∧ Below w.heap.size w w'

set_option maxRecDepth 100000 in
set_option maxHeartbeats 1000000 in
theorem clone_vars (va : Option Addr) (vl vc : Nat) (vs : List (List Value)) (w : World) (h : Came w va vl vc 3 vs) (h1 : ∀ v ∈ vs, ∀ u ∈ v, u.oneCell' = true) (hn : vl * 32 ≤ 140737488355328) :
    Calls Try.prog 52 #[.slice va vl vc] w (ClonePost w) := by
  have q22 : ∀ (w : World) (a : Option Addr) (n c n' c' : Nat), (binOp .eql 52 (.slice a n c) (.slice none n' c')).run Try.prog w = .ok (.bool a.isNone) w := fun w a n c n' c' => Lib.run_eql_slice_nil w _ _ a n c n' c' Try.underlying52
  cases va with
  | none =>
    obtain ⟨rfl, rfl⟩ := h.nil rfl
    clear h
    go_enter Try.func52, Try.ntmps52
    go_wp2
    go_ret
    exact ⟨⟨_, _, _, rfl⟩, Below.refl _ _⟩
  | some ad =>
    have hl := flat_len h.size
    rw [h.count] at hl
    have HN := Lib.hid (h.flat (by omega))
    have H1 : Hid (∀ u ∈ vs.flatten, u.oneCell' = true) := by
      intro u hu
      obtain ⟨v, hv, hu⟩ := List.mem_flatten.1 hu
      exact h1 v hv u hu
    obtain ⟨i0, hi0, hz0, hz1, hz2⟩ := info_parts Try.infoT122
    clear h h1
    go_enter Try.func52, Try.ntmps52
    go_wp2_with (at_builtin; refine wpList_append_own _ rfl _ _ 52 rfl w.heap.size 122 i0 (.agg #[.string ⟨#[]⟩, .int .i64 0, .int .i64 0]) 3 32 Try.underlying52 hi0 hz0 hz1 hz2 rfl (by decide) _ _ _ rfl (World.ownsRow_made w #[] 0 (Nat.le_refl _) (Nat.zero_le _) rfl) ad vl vc vs.flatten rfl ?qc1 ?qc2 ?qc3 ?qc4 ?qc5 ?qc6 ?_)
    case qc1 => exact hl
    case qc2 =>
      intro j u hj
      exact Lib.cell?_alloc_some _ (HN.out j u hj)
    case qc3 => exact H1.out
    case qc4 => unfold maxLen; omega
    case qc5 => omega
    case qc6 => simp
    intro v' w1 hown hgrow hnil
    obtain ⟨a', m', c', rfl⟩ := owns_shape hown
    have HB := Lib.hid (((Below.refl _ w).alloc (Nat.le_refl _) _).grown hgrow (by simp) (by intro k hk; simp [Value.ownBlock] at hk; omega))
    clear hown hgrow hnil
    go_wp2
    go_ret
    exact ⟨⟨_, _, _, rfl⟩, HB.out⟩
end Go.Proofs.Ytnfgjcdiophphab
