/- Rows of cache lines; the closure of access, slices.IndexFunc, slices.Delete. -/
import Derived.Test.YtkpeeemnholmnabHeadW
import Derived.Test.YtkpeeemnholmnabRow2
import Derived.Test.YtkpeeemnholmnabEager
import Derived.Deep.LoopGhost
namespace Go.Proofs.Ytkpeeemnholmnab
open Go.RowKit
set_option linter.unusedVariables false
set_option linter.unusedSimpArgs false

abbrev CLine := Int × Bool

/-- a row of the call's own (or none): the lines xs -/
def Lines (w : World) (v : Value) (xs : List CLine) : Prop :=
  (v = .slice none 0 0 ∧ xs = []) ∨ ∃ g cap cur, v = .slice (some ⟨g, 0, none⟩) xs.length cap ∧ w.heap[g]? = some (.cells cur 90 (0, 0)) ∧ xs.length ≤ cap ∧ cap ≤ 9223372036854775807 ∧ cur.size = cap * 2 ∧
    ∀ j (h : j < xs.length), cur[j * 2]? = some (.int .i64 xs[j].1) ∧ cur[j * 2 + 1]? = some (.bool xs[j].2)

section
variable {w w' : World} {v : Value} {xs : List CLine}
theorem Lines.form (h : Lines w v xs) : ∃ a c, v = .slice a xs.length c ∧ xs.length ≤ c ∧ c ≤ 9223372036854775807 := by
  rcases h with ⟨rfl, rfl⟩ | ⟨g, cap, cur, rfl, _, h1, h2, _⟩
  · exact ⟨none, 0, rfl, Nat.zero_le _, by omega⟩
  · exact ⟨_, cap, rfl, h1, h2⟩
theorem Lines.has (h : Lines w v xs) (h0 : 0 < xs.length) : ∃ g cap, v = .slice (some ⟨g, 0, none⟩) xs.length cap ∧ xs.length ≤ cap ∧ cap ≤ 9223372036854775807 ∧ g < w.heap.size ∧ ∀ j (h : j < xs.length), w.cell? ⟨g, j * 2, none⟩ = some (.int .i64 xs[j].1) ∧ w.cell? ⟨g, j * 2 + 1, none⟩ = some (.bool xs[j].2) := by
  rcases h with ⟨rfl, rfl⟩ | ⟨g, cap, cur, rfl, hg, h1, h2, h3, h4⟩
  · simp at h0
  · refine ⟨g, cap, rfl, h1, h2, lt_of_block hg, fun j hj => ?_⟩
    obtain ⟨a, b⟩ := h4 j hj
    exact ⟨by simp [World.cell?, hg, a], by simp [World.cell?, hg, b]⟩
theorem Lines.keep (h : Lines w v xs) (hb : ∀ g, v.ownBlock = some g → w'.heap[g]? = w.heap[g]?) : Lines w' v xs := by
  rcases h with h | ⟨g, cap, cur, rfl, hg, r⟩
  · exact .inl h
  · exact .inr ⟨g, cap, cur, rfl, (hb g rfl).trans hg, r⟩
theorem Lines.lt (h : Lines w v xs) {g : Nat} (hg : v.ownBlock = some g) : g < w.heap.size := by
  rcases h with ⟨rfl, rfl⟩ | ⟨g', cap, cur, rfl, hg', r⟩
  · simp [Value.ownBlock] at hg
  · obtain rfl : g' = g := by simpa [Value.ownBlock] using hg
    exact lt_of_block hg'
theorem Lines.below (h : Lines w v xs) (hb : Below w.heap.size w w') : Lines w' v xs := h.keep fun g hg => hb.block g (h.lt hg)
end

/-- where the line stands -/
def lineAt (line : Int) (xs : List CLine) : Nat := xs.findIdx fun x => x.1 == line
def lineIx (line : Int) (xs : List CLine) : Int := if lineAt line xs < xs.length then (lineAt line xs : Int) else -1

set_option maxHeartbeats 400000 in
theorem hasLine (line : Int) (B : Nat) (x : CLine) (w : World) (hc : w.cell? ⟨B, 0, none⟩ = some (.int .i64 line)) :
    Calls Try.prog 45 #[.agg #[.int .i64 x.1, .bool x.2], .pointer (some ⟨B, 0, none⟩)] w fun e w' => e = .returned (.bool (x.1 == line)) ∧ Below w.heap.size w w' := by
  obtain ⟨l, d⟩ := x
  have hB : B < w.heap.size := World.block_lt_of_cell? w _ hc
  have hne : B ≠ w.heap.size := by omega
  cases hq : (l == line)
  all_goals
    go_enter Try.func45, Try.ntmps45
    go_wp2
    go_ret
    exact ⟨ret_bool (by simp [hq]), (Below.refl _ _).alloc (Nat.le_refl _) _⟩

def IxPost (r : Int) (w : World) (e : Ending) (w' : World) : Prop := e = .returned (.int .i64 r) ∧ Below w.heap.size w w'

set_option maxHeartbeats 1000000 in
theorem indexFunc_lines (line : Int) (B : Nat) (w : World) (v : Value) (xs : List CLine) (h : Lines w v xs) (hc : w.cell? ⟨B, 0, none⟩ = some (.int .i64 line)) :
    Calls Try.prog 44 #[v, .func (.func 45) #[] #[.pointer (some ⟨B, 0, none⟩)]] w (IxPost (lineIx line xs) w) := by
  obtain ⟨a, c, hv, hle, hmx⟩ := h.form
  have HF : Hid (∀ k, k < xs.length → ∃ g, a = some ⟨g, 0, none⟩ ∧ g < w.heap.size ∧ w.cell? ⟨g, k * 2, none⟩ = some (.int .i64 (xs.getD k (0, false)).1) ∧ w.cell? ⟨g, k * 2 + 1, none⟩ = some (.bool (xs.getD k (0, false)).2)) := fun k hk => by
    obtain ⟨g, cap, hv2, _, _, hg, hcl⟩ := h.has (by omega)
    rw [hv] at hv2
    injection hv2 with e1 e2 e3
    refine ⟨g, e1, hg, ?_⟩
    have := hcl k hk
    simpa [List.getD, hk] using this
  have HC := Lib.hid hc
  have hB : B < w.heap.size := World.block_lt_of_cell? w _ hc
  have HIX : Hid (lineIx line xs = if lineAt line xs < xs.length then (lineAt line xs : Int) else -1) := rfl
  obtain ⟨n, hn⟩ : ∃ n, n = xs.length := ⟨_, rfl⟩
  subst hv
  rw [← hn] at HF hle ⊢
  have HN := Lib.hid hn
  clear h hc hn
  go_enter Try.func44, Try.ntmps44
  go_wp2
  go_loopw [5, 8] (fun _ u wr => ∃ k : Nat, k ≤ n ∧ u = .int .i64 (k : Int) ∧ Below w.heap.size w wr ∧ ∀ j, j < k → ((xs.getD j (0, false)).1 == line) = false) (fun _ u _ => n - (intOf u).toNat)
  case atStart => exact ⟨0, Nat.zero_le _, rfl, Below.refl _ _, fun j hj => absurd hj (Nat.not_lt_zero _)⟩
  case round =>
    obtain ⟨k, hk, rfl, hb, hno⟩ := hrel
    have HNO := Lib.hid hno
    have HB := Lib.hid hb
    clear hb hno
    by_cases hlt : k < n
    · obtain ⟨g, ea, hg, hc1, hc2⟩ := HF.out k hlt
      subst ea
      obtain ⟨x, hx⟩ : ∃ x, x = xs.getD k (0, false) := ⟨_, rfl⟩
      rw [← hx] at hc1 hc2
      have HX := Lib.hid hx
      have c1 := (HB.out.cell (p := ⟨g, k * 2, none⟩) hg).trans hc1
      have c2 := (HB.out.cell (p := ⟨g, k * 2 + 1, none⟩) hg).trans hc2
      have hcall := fun wx (hx : wx.cell? ⟨B, 0, none⟩ = some (.int .i64 line)) => hasLine line B x wx hx
      have hcB := Lib.hid ((HB.out.cell (p := ⟨B, 0, none⟩) hB).trans HC.out)
      clear hx hc1 hc2
      cases hq : (x.1 == line)
      · rw [hq] at hcall
        have HQ := Lib.hid hq
        clear hq
        go_wp2_with (go_at_call 45; refine (hcall _ hcB.out).mono ?_; rintro e w' ⟨rfl, hb'⟩)
        have HB2 := Lib.hid (HB.out.trans (hb'.mono HB.out.size))
        clear hb'
        go_roundw
        case rel =>
          refine ⟨k + 1, by omega, by go_num, HB2.out, fun j hj => ?_⟩
          by_cases e : j = k
          · subst e; rw [← HX.out]; exact HQ.out
          · exact HNO.out j (by omega)
        case measure => simp [intOf]; omega
      · rw [hq] at hcall
        have HQ := Lib.hid hq
        clear hq
        have HK : Hid (lineAt line xs = k) := by
          refine (List.findIdx_eq (by have := HN.out; omega)).2 ⟨?_, fun j hj => ?_⟩
          · have := HQ.out
            rw [HX.out] at this
            simpa [List.getD, show k < xs.length by have := HN.out; omega] using this
          · have := HNO.out j hj
            simpa [List.getD, show j < xs.length by have := HN.out; omega] using this
        go_wp2_with (go_at_call 45; refine (hcall _ hcB.out).mono ?_; rintro e w' ⟨rfl, hb'⟩)
        have HB2 := Lib.hid (HB.out.trans (hb'.mono HB.out.size))
        clear hb'
        go_ret
        exact ⟨ret_int (by rw [HIX.out, HK.out, if_pos (by have := HN.out; omega)]), HB2.out⟩
    · have ek : k = n := by omega
      subst ek
      have HK : Hid (lineAt line xs = xs.length) := by
        refine List.findIdx_eq_length.2 fun x hx => ?_
        obtain ⟨j, hj, rfl⟩ := List.getElem_of_mem hx
        have := HNO.out j (by have := HN.out; omega)
        simpa [List.getD, hj] using this
      go_wp2
      go_ret
      exact ⟨ret_int (by rw [HIX.out, HK.out, if_neg (Nat.lt_irrefl _)]), HB.out⟩
end Go.Proofs.Ytkpeeemnholmnab
