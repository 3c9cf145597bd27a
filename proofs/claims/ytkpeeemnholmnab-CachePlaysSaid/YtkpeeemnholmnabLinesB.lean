/- slices.Delete at a row of cache lines. -/
import Derived.Test.YtkpeeemnholmnabLines
namespace Go.Proofs.Ytkpeeemnholmnab
open Go.RowKit
set_option linter.unusedVariables false
set_option linter.unusedSimpArgs false

def flat (xs : List CLine) : List Value := xs.flatMap fun x => [.int .i64 x.1, .bool x.2]
theorem flat_length (xs : List CLine) : (flat xs).length = xs.length * 2 := by
  induction xs with
  | nil => rfl
  | cons x xs ih => simp only [flat, List.flatMap_cons, List.length_append, List.length_cons, List.length_nil] at ih ⊢; rw [ih]; omega
theorem flat_get : ∀ (xs : List CLine) (j : Nat) (h : j < xs.length), (flat xs)[j * 2]? = some (.int .i64 xs[j].1) ∧ (flat xs)[j * 2 + 1]? = some (.bool xs[j].2)
  | x :: xs, 0, _ => ⟨rfl, rfl⟩
  | x :: xs, j + 1, h => by
    have := flat_get xs j (by simpa using h)
    have e : flat (x :: xs) = .int .i64 x.1 :: .bool x.2 :: flat xs := rfl
    rw [e, show (j + 1) * 2 = j * 2 + 1 + 1 by omega]
    simpa using this
theorem flat_cells {α : Type} {xs : List CLine} {f : Nat → Option Value} (h : ∀ j (hj : j < xs.length), f (j * 2) = some (.int .i64 xs[j].1) ∧ f (j * 2 + 1) = some (.bool xs[j].2)) : ∀ j u, (flat xs)[j]? = some u → f j = some u := by
  intro j u hu
  have hl : j < xs.length * 2 := by
    have := (List.getElem?_eq_some_iff.1 hu).1
    rw [flat_length] at this; exact this
  have h1 := h (j / 2) (by omega)
  have h2 := flat_get xs (j / 2) (by omega)
  rcases Nat.mod_two_eq_zero_or_one j with e | e
  · rw [show j = j / 2 * 2 by omega] at hu ⊢
    rw [h2.1] at hu
    rw [h1.1, ← hu]
  · rw [show j = j / 2 * 2 + 1 by omega] at hu ⊢
    rw [h2.2] at hu
    rw [h1.2, ← hu]
theorem flat_one (xs : List CLine) : ∀ u ∈ flat xs, u.oneCell' = true := by
  intro u hu
  obtain ⟨x, _, hx⟩ := List.mem_flatMap.1 hu
  simp at hx
  rcases hx with rfl | rfl <;> rfl

theorem Try.infoL90 : (Try.prog.info? 90).map (fun i => (i.zero, i.size, i.bytes)) = some (some (.agg #[.int .i64 0, .bool false]), 2, 16) := by kernel_rfl

def DelPost (v : Value) (xs : List CLine) (w : World) (e : Ending) (w' : World) : Prop := ∃ v', e = .returned v' ∧ Lines w' v' xs ∧ w.grownBy w' v.ownBlock ∧ v'.ownBlock = v.ownBlock

theorem setRow_heap {w : World} {g : Nat} {cur cs : Array Value} {t : TypeId} (h : w.heap[g]? = some (.cells cur t (0, 0))) : (w.setRow g cs).heap[g]? = some (.cells cs t (0, 0)) := by
  simp [World.setRow, Array.getElem?_modify, h]
theorem setRow_grown (w : World) (g : Nat) (cs : Array Value) : w.grownBy (w.setRow g cs) (some g) :=
  ⟨rfl, rfl, rfl, by simp [World.setRow], fun k _ hk => by simp only [World.setRow, Array.getElem?_modify]; rw [if_neg (fun e => hk (by rw [e]))]⟩
theorem grown_trans {w w' w'' : World} {r : Option Nat} (h : w.grownBy w' r) (k : w'.grownBy w'' r) : w.grownBy w'' r :=
  ⟨k.os.trans h.os, k.tape.trans h.tape, k.output.trans h.output, Nat.le_trans h.size k.size, fun b hb hr => (k.block b (Nat.lt_of_lt_of_le hb h.size) hr).trans (h.block b hb hr)⟩
theorem grown_drew (w : World) (r : Option Nat) : w.grownBy w.drew r := ⟨rfl, rfl, rfl, Nat.le_refl _, fun _ _ _ => rfl⟩

theorem two_zero : (Builtin.zeroCells (Value.agg #[Value.int IntKind.i64 0, Value.bool false]).cells 1).toList = [Value.int IntKind.i64 0, Value.bool false] := by
  apply List.ext_getElem
  · simp [Builtin.zeroCells, Value.cells]
  · intro i h1 h2
    simp at h2
    have : i = 0 ∨ i = 1 := by omega
    rcases this with rfl | rfl <;> simp [Builtin.zeroCells, Value.cells]
/-- what Delete's append leaves in the row -/
theorem erase_cells {xs : List CLine} {cur : Array Value} {q i cap : Nat} (hq : xs.length = q + 1) (hi : i ≤ q) (hcap : q + 1 ≤ cap) (hsz : cur.size = cap * 2) (hcl : ∀ j (h : j < xs.length), cur[j * 2]? = some (.int .i64 xs[j].1) ∧ cur[j * 2 + 1]? = some (.bool xs[j].2)) (N : Array Value)
    (hN : N = (cur.toList.take (i * 2) ++ flat (xs.drop (i + 1)) ++ cur.toList.drop (i * 2 + (flat (xs.drop (i + 1))).length)).toArray) :
    N.size = cap * 2 ∧ ∀ j (h : j < (xs.eraseIdx i).length), N[j * 2]? = some (.int .i64 (xs.eraseIdx i)[j].1) ∧ N[j * 2 + 1]? = some (.bool (xs.eraseIdx i)[j].2) := by
  have hfl : (flat (xs.drop (i + 1))).length = (q - i) * 2 := by rw [flat_length, List.length_drop, hq]; omega
  have htl : (cur.toList.take (i * 2)).length = i * 2 := by rw [List.length_take]; simp; omega
  subst hN
  refine ⟨by simp [hfl, hsz]; omega, fun j hj => ?_⟩
  have hel : (xs.eraseIdx i).length = q := by rw [List.length_eraseIdx_of_lt (by omega)]; omega
  simp only [List.getElem?_toArray]
  by_cases hji : j < i
  · have h1 := hcl j (by omega)
    have he : (xs.eraseIdx i)[j] = xs[j] := by rw [List.getElem_eraseIdx, dif_pos hji]
    rw [he, List.append_assoc, List.getElem?_append_left (by omega), List.getElem?_append_left (by omega), List.getElem?_take, if_pos (by omega), List.getElem?_take, if_pos (by omega)]
    simpa using h1
  · have he : (xs.eraseIdx i)[j] = xs[j + 1]'(by omega) := by rw [List.getElem_eraseIdx, dif_neg hji]
    have h2 := flat_get (xs.drop (i + 1)) (j - i) (by rw [List.length_drop]; omega)
    have e5 : (xs.drop (i + 1))[j - i]'(by rw [List.length_drop]; omega) = xs[j + 1]'(by omega) := by
      rw [List.getElem_drop]; congr 1; omega
    rw [e5] at h2
    have hl2 : (cur.toList.take (i * 2) ++ flat (xs.drop (i + 1))).length = q * 2 := by rw [List.length_append, htl, hfl]; omega
    rw [he]
    refine ⟨?_, ?_⟩
    · rw [List.getElem?_append_left (by rw [hl2]; omega), List.getElem?_append_right (by omega), htl, show j * 2 - i * 2 = (j - i) * 2 by omega]
      exact h2.1
    · rw [List.getElem?_append_left (by rw [hl2]; omega), List.getElem?_append_right (by omega), htl, show j * 2 + 1 - i * 2 = (j - i) * 2 + 1 by omega]
      exact h2.2

set_option maxRecDepth 100000 in
set_option maxHeartbeats 2000000 in
theorem delete_line (w : World) (g cap q i : Nat) (xs : List CLine) (cur : Array Value) (hq : xs.length = q + 1) (hi : i ≤ q) (hcap : q + 1 ≤ cap) (hmx : cap ≤ 9223372036854775807)
    (hg : w.heap[g]? = some (.cells cur 90 (0, 0))) (hsz : cur.size = cap * 2) (hcl : ∀ j (h : j < xs.length), cur[j * 2]? = some (.int .i64 xs[j].1) ∧ cur[j * 2 + 1]? = some (.bool xs[j].2)) :
    Calls Try.prog 46 #[.slice (some ⟨g, 0, none⟩) (q + 1) cap, .int .i64 (i : Int), .int .i64 ((i : Int) + 1)] w (DelPost (.slice (some ⟨g, 0, none⟩) (q + 1) cap) (xs.eraseIdx i) w) := by
  obtain ⟨i0, hi0, hz0, hz1, hz2⟩ := info_parts Try.infoL90
  have z1 : ((i : Int) == (i : Int) + 1) = false := beq_eq_false_iff_ne.2 (by omega)
  have hdl : (flat (xs.drop (i + 1))).length = (q - i) * 2 := by rw [flat_length, List.length_drop, hq]; omega
  obtain ⟨a, ha, hac⟩ : ∃ a : Addr, (if cap = i + 1 then some (⟨g, 0, none⟩ : Addr) else some ⟨g, (i + 1) * 2, none⟩) = some a ∧ ∀ j u, (flat (xs.drop (i + 1)))[j]? = some u → w.drew.cell? (a.add j) = some u := by
    by_cases hc : cap = i + 1
    · refine ⟨⟨g, 0, none⟩, by rw [if_pos hc], fun j u hu => ?_⟩
      have := (List.getElem?_eq_some_iff.1 hu).1
      rw [hdl] at this
      omega
    · refine ⟨⟨g, (i + 1) * 2, none⟩, by rw [if_neg hc], fun j u hu => ?_⟩
      rw [Addr.add_lit]
      have := flat_cells (α := Nat) (xs := xs.drop (i + 1)) (f := fun j => cur[(i + 1) * 2 + j]?) (fun j hj => by
        rw [List.length_drop] at hj
        have h1 := hcl (i + 1 + j) (by omega)
        rw [List.getElem_drop]
        exact ⟨by rw [show (i + 1) * 2 + j * 2 = (i + 1 + j) * 2 by omega]; exact h1.1, by rw [show (i + 1) * 2 + (j * 2 + 1) = (i + 1 + j) * 2 + 1 by omega]; exact h1.2⟩) j u hu
      simp only [World.cell?, World.drew]
      rw [hg]
      exact this
  have hg' : w.drew.heap[g]? = some (.cells cur 90 (0, 0)) := hg
  have hrun := fun ty => run_append_room (P := Try.prog) w.drew 40 ty 90 i0 Try.underlying40 hi0 g i cap cur hg' a (q - i) (cap - (i + 1)) (flat (xs.drop (i + 1))) (by rw [hz1]; exact hdl) hac (flat_one _) (by omega) (by rw [hz1, hdl]; omega)
  rw [hz1] at hrun
  obtain ⟨N, hN⟩ : ∃ N, N = (cur.toList.take (i * 2) ++ flat (xs.drop (i + 1)) ++ cur.toList.drop (i * 2 + (flat (xs.drop (i + 1))).length)).toArray := ⟨_, rfl⟩
  obtain ⟨hNs, hNc⟩ := erase_cells hq hi hcap hsz hcl N hN
  have hel : (xs.eraseIdx i).length = q := by rw [List.length_eraseIdx_of_lt (by omega)]; omega
  rw [← hN, show i + (q - i) = q by omega] at hrun
  have hh : (w.drew.setRow g N).heap[g]? = some (.cells N 90 (0, 0)) := setRow_heap hg'
  have hgr := grown_trans (grown_drew w (some g)) (setRow_grown w.drew g N)
  obtain ⟨w2, hw2⟩ : ∃ w2, w2 = w.drew.setRow g N := ⟨_, rfl⟩
  rw [← hw2] at hh hgr
  rw [← hw2] at hrun
  have hb0 : Below 0 w.drew w2 := by rw [hw2]; exact ⟨rfl, rfl, rfl, by simp [World.setRow], fun k hk => absurd hk (Nat.not_lt_zero _)⟩
  have hzc : (Builtin.zeroCells (Value.agg #[Value.int .i64 0, Value.bool false]).cells 1).toList = [Value.int .i64 0, Value.bool false] := two_zero
  have hclr := fun ty => run_clear_one (P := Try.prog) w2 40 90 ty (.agg #[.int .i64 0, .bool false]) Try.underlying40 Try.zeroValue90 (by rw [hzc]; intro v hv; simp at hv; rcases hv with rfl | rfl <;> rfl) g (q * 2) (cap - q)
    (fun j hj => by
      have hj2 : j < 2 := by rw [hzc] at hj; exact hj
      simp only [World.cell?, hh]
      rw [Array.getElem?_eq_getElem (by rw [hNs]; omega)]; rfl)
    (fun j hj => by simp [World.frozen?, hh])
  obtain ⟨N2, hN2, hN2s, hN2c⟩ := setCells_heap g 90 (Builtin.zeroCells (Value.agg #[.int .i64 0, .bool false]).cells 1).toList (q * 2) w2 N hh
  have hgr2 := grown_trans hgr (setCells_grown g (Builtin.zeroCells (Value.agg #[.int .i64 0, .bool false]).cells 1).toList (q * 2) w2)
  obtain ⟨w3, hw3⟩ : ∃ w3, w3 = w2.setCells g (q * 2) (Builtin.zeroCells (Value.agg #[.int .i64 0, .bool false]).cells 1).toList := ⟨_, rfl⟩
  rw [← hw3] at hN2 hgr2
  rw [← hw3] at hclr
  have HEND : Hid (Lines w3 (.slice (some ⟨g, 0, none⟩) q cap) (xs.eraseIdx i)) := .inr ⟨g, cap, N2, by rw [hel], hN2, by omega, hmx, by omega, fun j hj => by
    have h9 := hNc j hj
    have hjq : j < q := by omega
    rw [hN2c _ (by omega), if_neg (by omega), hN2c _ (by omega), if_neg (by omega)]
    exact h9⟩
  have HGR := Lib.hid hgr2
  have HRUN := Lib.hid hrun
  have HCLR := Lib.hid hclr
  have HA := Lib.hid ha
  have HB0 := Lib.hid hb0
  clear hrun hclr ha hb0 hgr2 hgr hN2 hN2c hN2s hh hNc hNs hw2 hw3 hN hg hg' hcl hac hdl hsz hq
  by_cases hce : cap = i + 1
  case' pos =>
    have ha := HA.out
    rw [if_pos hce] at ha
    have HA2 := Lib.hid ha
    clear HA ha
    subst hce
    have hrun := HRUN.out
    rw [show q - i = 0 by omega, show i + 1 - (i + 1) = 0 by omega] at hrun
    have HRUN2 := Lib.hid hrun
    clear HRUN hrun
  case' neg =>
    have ha := HA.out
    rw [if_neg hce] at ha
    have HA2 := Lib.hid ha
    have HRUN2 := HRUN
    clear HA ha HRUN
  all_goals
    go_enter Try.func46, Try.ntmps46
    go_wp2_with fail
    refine wp_region_eager 0 [(0, true), (1, true), (2, true), (3, true), (4, true), (5, true), (6, false), (7, true)] (by kernel_rfl) (by kernel_rfl) ?_
    repeat (refine eag_read rfl ?_; go_big_quiet_step (fail); refine wpQuiet_nil ?_)
    refine eag_does rfl rfl ?_
    intro K hK
    refine wp_append_eq _ _ _ 40 40 rfl _ _ rfl (congrArg (fun z => Value.slice z _ _) HA2.out) (HRUN2.out _) ?_
    refine hK _ _ HB0.out ?_
    clear hK K
    go_simp
    repeat (refine eag_read rfl ?_; go_big_quiet_step (fail); refine wpQuiet_nil ?_)
    refine eag_end ?_
    go_wp2_with (refine wpList_of_wp _ rfl (fun K Q' hk => wp_clear_eq _ _ 40 rfl _ rfl (HCLR.out _) hk) ?_)
    go_ret
    exact ⟨_, rfl, HEND.out, HGR.out, rfl⟩
end Go.Proofs.Ytkpeeemnholmnab
