/- slices.Insert at the head of a row of cache lines. -/
import Derived.Test.YtkpeeemnholmnabLinesB
import Derived.Deep.AppendLies
namespace Go.Proofs.Ytkpeeemnholmnab
open Go.RowKit
set_option linter.unusedVariables false
set_option linter.unusedSimpArgs false

def InsPost (v : Value) (xs : List CLine) (w : World) (e : Ending) (w' : World) : Prop :=
  ∃ v', e = .returned v' ∧ Lines w' v' xs ∧ w.grownBy w' v.ownBlock ∧ (v'.ownBlock = v.ownBlock ∨ ∃ g, v'.ownBlock = some g ∧ w.heap.size ≤ g) ∧ v'.ownBlock ≠ none

def oneLine (x : CLine) : List Value := [.int .i64 x.1, .bool x.2]
theorem oneLine_flat (x : CLine) : oneLine x = flat [x] := rfl

theorem lines_one {w : World} {g cap : Nat} {x : CLine} (h : w.ownsRow 0 90 2 (.slice (some ⟨g, 0, none⟩) 1 cap) 1 (oneLine x)) : Lines w (.slice (some ⟨g, 0, none⟩) 1 cap) [x] := by
  rcases h.2 with ⟨h1, _⟩ | ⟨g', cap', cur, h1, _, hg, h2, h3, h4, h5⟩
  · simp at h1
  · simp only [Value.slice.injEq, Option.some.injEq, Addr.mk.injEq, and_true, true_and] at h1
    obtain ⟨rfl, rfl⟩ := h1
    refine .inr ⟨g, cap, cur, rfl, hg, h2, by unfold maxLen at h3; omega, h4, fun j hj => ?_⟩
    obtain rfl : j = 0 := by simpa using hj
    have e0 : (cur.toList.take (1 * 2))[0]? = some (.int .i64 x.1) := by rw [h5]; rfl
    have e1 : (cur.toList.take (1 * 2))[1]? = some (.bool x.2) := by rw [h5]; rfl
    rw [List.getElem?_take] at e0 e1
    simp at e0 e1
    exact ⟨by simpa using e0, by simpa using e1⟩
theorem lines_own0 {w : World} {v : Value} (h : Lines w v []) : w.ownsRow 0 90 2 v 0 [] := by
  rcases h with ⟨rfl, _⟩ | ⟨g, cap, cur, rfl, hg, h1, h2, h3, _⟩
  · exact World.ownsRow_nil _ _ _ _
  · exact ⟨rfl, .inr ⟨g, cap, cur, rfl, Nat.zero_le _, hg, Nat.zero_le _, by unfold maxLen; omega, h3, by simp⟩⟩

set_option maxRecDepth 100000 in
set_option maxHeartbeats 2000000 in
theorem insert_none (w : World) (v : Value) (x : CLine) (vb : Nat) (h : Lines w v []) (hv : w.heap[vb]? = some (.cells #[.int .i64 x.1, .bool x.2] 90 (0, 0))) :
    Calls Try.prog 47 #[v, .int .i64 0, .slice (some ⟨vb, 0, none⟩) 1 1] w (InsPost v [x] w) := by
  obtain ⟨i0, hi0, hz0, hz1, hz2⟩ := info_parts Try.infoL90
  have hown := Lib.hid (lines_own0 h)
  obtain ⟨a, c, rfl, _, hc⟩ := h.form
  have HV := Lib.hid hv
  clear h hv
  go_enter Try.func47, Try.ntmps47
  go_wp2_with (at_builtin; refine wpList_append_lies _ rfl _ _ 40 rfl 0 90 i0 (.agg #[.int .i64 0, .bool false]) 2 16 Try.underlying40 hi0 hz0 hz1 hz2 rfl (by decide) _ 0 [] rfl hown.out ⟨vb, 0, none⟩ 1 1 (oneLine x) rfl rfl ?a2 ?a3 (by decide) (by unfold maxLen; omega) (by omega) (Nat.zero_le _) w.heap.size rfl ?_)
  case a2 =>
    intro j u hu
    rw [Addr.add_lit]
    have hl : j < 2 := (List.getElem?_eq_some_iff.1 hu).1
    have : j = 0 ∨ j = 1 := by omega
    simp only [World.cell?, HV.out]
    rcases this with rfl | rfl <;> simpa [oneLine] using hu
  case a3 => intro u hu; simp [oneLine] at hu; rcases hu with rfl | rfl <;> rfl
  intro g cap w' hown' hgrow hat _
  have HL := Lib.hid (lines_one hown')
  have HG := Lib.hid hgrow
  have HAT := Lib.hid hat
  clear hown' hgrow hat
  go_wp2
  go_ret
  exact ⟨_, rfl, HL.out, HG.out, (HAT.out.imp (fun e => e.symm) (fun e => ⟨g, rfl, by omega⟩)), by simp [Value.ownBlock]⟩

theorem ins_cells {xs : List CLine} {x : CLine} {N : Array Value} (h0 : N[0]? = some (.int .i64 x.1) ∧ N[1]? = some (.bool x.2)) (h1 : ∀ j (h : j < xs.length), N[(j + 1) * 2]? = some (.int .i64 xs[j].1) ∧ N[(j + 1) * 2 + 1]? = some (.bool xs[j].2)) :
    ∀ j (h : j < (x :: xs).length), N[j * 2]? = some (.int .i64 (x :: xs)[j].1) ∧ N[j * 2 + 1]? = some (.bool (x :: xs)[j].2)
  | 0, _ => h0
  | j + 1, h => h1 j (by simpa using h)

set_option maxRecDepth 100000 in
set_option maxHeartbeats 2000000 in
theorem insert_room (w : World) (g cap n : Nat) (xs : List CLine) (cur : Array Value) (x : CLine) (vb : Nat) (hn : xs.length = n) (hn0 : 0 < n) (hcap : n + 1 ≤ cap) (hmx : cap ≤ 9223372036854775807)
    (hg : w.heap[g]? = some (.cells cur 90 (0, 0))) (hsz : cur.size = cap * 2) (hcl : ∀ j (h : j < xs.length), cur[j * 2]? = some (.int .i64 xs[j].1) ∧ cur[j * 2 + 1]? = some (.bool xs[j].2))
    (hv : w.heap[vb]? = some (.cells #[.int .i64 x.1, .bool x.2] 90 (0, 0))) (hne : vb ≠ g) :
    Calls Try.prog 47 #[.slice (some ⟨g, 0, none⟩) n cap, .int .i64 0, .slice (some ⟨vb, 0, none⟩) 1 1] w (InsPost (.slice (some ⟨g, 0, none⟩) n cap) (x :: xs) w) := by
  obtain ⟨i0, hi0, hz0, hz1, hz2⟩ := info_parts Try.infoL90
  have hinf : (Try.prog.info? 90).map (·.size) = some 2 := by rw [hi0]; simp [hz1]
  have hov : ∀ lb cb, (callFunc 57 #[.slice (some ⟨vb, 0, none⟩) 1 1, .slice (some ⟨g, 2, none⟩) lb cb]).run Try.prog w = .ok (.value (.bool false)) w := fun lb cb => by
    rw [run_callFunc_extern Try.func57 (by kernel_rfl) (by kernel_rfl) (by kernel_rfl) (e := Extern.SlicesOverlaps.overlaps #[40, 40] #[4]) (by kernel_rfl),
      Lib.run_overlaps_apart w 40 4 90 Try.underlying40 2 Try.sizeOf90 ⟨vb, 0, none⟩ ⟨g, 2, none⟩ 1 1 lb cb hne 90 90 2 (cap * 2) (by simp [World.shape?, hv]) (by simp [World.shape?, hg, hsz]) (by omega) (by simp [World.frozen?, hv]) (by simp [World.frozen?, hv])]
    rfl
  have hfl : (flat xs).length = n * 2 := by rw [flat_length, hn]
  -- the first copy
  have hg' : w.drew.heap[g]? = some (.cells cur 90 (0, 0)) := hg
  obtain ⟨N, hN, hNs, hNc⟩ := setCells_heap g 90 (flat xs) 2 w.drew cur hg'
  have hcp1 : ∀ ty, (Builtin.copy_ #[40, 40] ty #[.slice (some ⟨g, 2, none⟩) n (cap - 1), .slice (some ⟨g, 0, none⟩) (n + 1) cap]).run Try.prog w.drew = .ok (goInt n) (w.drew.setCells g 2 (flat xs)) := fun ty => by
    have hmin : Nat.min (n + 1) n = n := by simp only [Nat.min_def]; split <;> omega
    have := run_copy_k (P := Try.prog) w.drew 2 40 40 ty 90 g 2 n (cap - 1) ⟨g, 0, none⟩ (n + 1) cap (flat xs) Try.underlying40 hinf (by rw [hmin]; exact hfl)
      (fun j u hu => by
        rw [Addr.add_lit]
        simp only [World.cell?, hg', Nat.zero_add]
        exact flat_cells (α := Nat) (f := fun j => cur[j]?) hcl j u hu)
      (fun j hj => by
        simp only [World.cell?, hg']
        rw [Array.getElem?_eq_getElem (by omega)]; rfl)
      (fun j hj => by simp [World.frozen?, hg']) (flat_one _)
    rw [hmin] at this
    exact this
  have hgr1 := grown_trans (grown_drew w (some g)) (setCells_grown g (flat xs) 2 w.drew)
  have hs1 := setCells_size g (flat xs) 2 w.drew
  obtain ⟨w1, hw1⟩ : ∃ w1, w1 = w.drew.setCells g 2 (flat xs) := ⟨_, rfl⟩
  rw [← hw1] at hN hgr1 hs1
  rw [← hw1] at hcp1
  have hv1 : w1.heap[vb]? = some (.cells #[.int .i64 x.1, .bool x.2] 90 (0, 0)) := (hgr1.block vb (lt_of_block hv) (by simpa using hne)).trans hv
  have hb1 : Below 0 w.drew w1 := ⟨hgr1.os, hgr1.tape, hgr1.output, hgr1.size, fun k hk => absurd hk (Nat.not_lt_zero _)⟩
  -- the second
  obtain ⟨M, hM, hMs, hMc⟩ := setCells_heap g 90 (oneLine x) 0 w1 N hN
  have hcp2 : ∀ ty, (Builtin.copy_ #[40, 40] ty #[.slice (some ⟨g, 0, none⟩) (n + 1) cap, .slice (some ⟨vb, 0, none⟩) 1 1]).run Try.prog w1 = .ok (goInt 1) (w1.setCells g 0 (oneLine x)) := fun ty => by
    have hmin : Nat.min 1 (n + 1) = 1 := by simp only [Nat.min_def]; split <;> omega
    have := run_copy_k (P := Try.prog) w1 2 40 40 ty 90 g 0 (n + 1) cap ⟨vb, 0, none⟩ 1 1 (oneLine x) Try.underlying40 hinf (by rw [hmin]; rfl)
      (fun j u hu => by
        rw [Addr.add_lit]
        have hl : j < 2 := (List.getElem?_eq_some_iff.1 hu).1
        have : j = 0 ∨ j = 1 := by omega
        simp only [World.cell?, hv1]
        rcases this with rfl | rfl <;> simpa [oneLine] using hu)
      (fun j hj => by
        have hl : j < 2 := hj
        simp only [World.cell?, hN]
        rw [Array.getElem?_eq_getElem (by omega)]; rfl)
      (fun j hj => by simp [World.frozen?, hN]) (by rw [oneLine_flat]; exact flat_one _)
    rw [hmin] at this
    exact this
  have hgr2 := grown_trans hgr1 (setCells_grown g (oneLine x) 0 w1)
  obtain ⟨w2, hw2⟩ : ∃ w2, w2 = w1.setCells g 0 (oneLine x) := ⟨_, rfl⟩
  rw [← hw2] at hM hgr2
  rw [← hw2] at hcp2
  have HEND : Hid (Lines w2 (.slice (some ⟨g, 0, none⟩) (n + 1) cap) (x :: xs)) := .inr ⟨g, cap, M, by rw [List.length_cons, hn], hM, by rw [List.length_cons]; omega, hmx, by omega, ins_cells
    (by
      rw [hMc 0 (by omega), if_pos (by simp [oneLine]), hMc 1 (by omega), if_pos (by simp [oneLine])]
      exact ⟨rfl, rfl⟩)
    (fun j hj => by
      have h9 := flat_get xs j hj
      rw [hMc _ (by omega), if_neg (by simp [oneLine]; omega), hMc _ (by omega), if_neg (by simp [oneLine]; omega), hNc _ (by omega), if_pos (by omega), hNc _ (by omega), if_pos (by omega), show (j + 1) * 2 - 2 = j * 2 by omega, show (j + 1) * 2 + 1 - 2 = j * 2 + 1 by omega]
      exact h9)⟩
  have HG := Lib.hid hgr2
  have H1 := Lib.hid hcp1
  have H2 := Lib.hid hcp2
  have HOV := Lib.hid hov
  have HB1 := Lib.hid hb1
  have z1 : ((0 : Int) == (n : Int)) = false := beq_eq_false_iff_ne.2 (by omega)
  clear hcp1 hcp2 hov hb1 hgr1 hgr2 hs1 hN hNs hNc hM hMs hMc hv hv1 hg hg' hcl hsz hw1 hw2 hfl hn
  go_enter Try.func47, Try.ntmps47
  go_wp2_with (simp only [HOV.out])
  refine wp_region_eager 0 [(0, true), (1, true), (2, true), (3, true), (4, true), (5, true), (6, true), (7, true), (8, false)] (by kernel_rfl) (by kernel_rfl) ?_
  repeat (refine eag_read rfl ?_; go_big_quiet_step (fail); refine wpQuiet_nil ?_)
  refine eag_does rfl rfl ?_
  intro K hK
  refine wp_copy_eq _ _ _ 40 40 rfl _ _ rfl rfl (H1.out _) ?_
  refine hK _ _ HB1.out ?_
  clear hK K
  go_simp
  refine eag_end ?_
  go_wp2_with (refine wpList_of_wp _ rfl (fun K Q' hk => wp_copy_eq _ _ _ 40 40 rfl _ _ rfl rfl (H2.out _) hk) ?_)
  go_ret
  exact ⟨_, rfl, HEND.out, HG.out, .inl rfl, by simp [Value.ownBlock]⟩

set_option maxRecDepth 100000 in
set_option maxHeartbeats 2000000 in
theorem insert_grow (w : World) (g n : Nat) (xs : List CLine) (cur : Array Value) (x : CLine) (vb : Nat) (hn : xs.length = n) (hn0 : 0 < n) (hmx : n ≤ 1000000)
    (hg : w.heap[g]? = some (.cells cur 90 (0, 0))) (hsz : cur.size = n * 2) (hcl : ∀ j (h : j < xs.length), cur[j * 2]? = some (.int .i64 xs[j].1) ∧ cur[j * 2 + 1]? = some (.bool xs[j].2))
    (hv : w.heap[vb]? = some (.cells #[.int .i64 x.1, .bool x.2] 90 (0, 0))) :
    Calls Try.prog 47 #[.slice (some ⟨g, 0, none⟩) n n, .int .i64 0, .slice (some ⟨vb, 0, none⟩) 1 1] w (InsPost (.slice (some ⟨g, 0, none⟩) n n) (x :: xs) w) := by
  obtain ⟨i0, hi0, hz0, hz1, hz2⟩ := info_parts Try.infoL90
  have hinf : (Try.prog.info? 90).map (·.size) = some 2 := by rw [hi0]; simp [hz1]
  have hfl : (flat xs).length = n * 2 := by rw [flat_length, hn]
  have hgl := lt_of_block hg
  have hvl := lt_of_block hv
  have hold : (Builtin.firstCells i0.size 0 (.slice (some ⟨g, 0, none⟩) 0 n)).run Try.prog w.drew = .ok #[] w.drew := by
    have := run_firstCells_some (P := Try.prog) w.drew i0.size 0 ⟨g, 0, none⟩ 0 n [] (by simp) (by simp)
    exact this
  have hrz : ∀ ty, (Builtin.append_ #[40, 3] ty #[.slice (some ⟨g, 0, none⟩) 0 n, .int .i64 ((n : Int) + 1)]).run Try.prog w = .ok (.slice (some ⟨w.heap.size, 0, none⟩) (n + 1) (grownCap w (n + 1) n 90)) (w.drew.alloc (.cells (#[] ++ Builtin.zeroCells (Value.agg #[.int .i64 0, .bool false]).cells (n + 1) ++ Builtin.zeroCells (Value.agg #[.int .i64 0, .bool false]).cells (grownCap w (n + 1) n 90 - (n + 1))) 90)) := fun ty => by
    have h := Lib.run_append_grow_zeros (P := Try.prog) w 40 3 ty 90 i0 (.agg #[.int .i64 0, .bool false]) .i64 .i64 Try.underlying40 Try.underlying3 hi0 hz0 (some ⟨g, 0, none⟩) 0 n [] hold (n + 1) (by omega) (by omega) (by omega) (by omega) (by rw [hz2]; omega) (by rw [hz2]; exact growslice_fits (by omega) (by omega))
    rw [Nat.zero_add] at h
    exact h
  have hGe := grownCap_ge w (n + 1) n 90
  have hGm := grownCap_le_maxLen w (n + 1) n 90 (by unfold maxLen; omega)
  obtain ⟨G, hG⟩ : ∃ G, G = grownCap w (n + 1) n 90 := ⟨_, rfl⟩
  obtain ⟨R, hR⟩ : ∃ R : Array Value, R = #[] ++ Builtin.zeroCells (Value.agg #[.int .i64 0, .bool false]).cells (n + 1) ++ Builtin.zeroCells (Value.agg #[.int .i64 0, .bool false]).cells (G - (n + 1)) := ⟨_, rfl⟩
  simp only [← hG] at hrz
  simp only [← hR] at hrz
  rw [← hG] at hGe hGm
  unfold maxLen at hGm
  have hRs : R.size = G * 2 := by rw [hR]; simp [Builtin.zeroCells, Value.cells]; omega
  have hN0 : (w.drew.alloc (.cells R 90)).heap[w.heap.size]? = some (.cells R 90 (0, 0)) := heap_alloc_new w.drew _
  have hgr0 : w.grownBy (w.drew.alloc (.cells R 90)) (some g) := grown_trans (grown_drew w (some g)) (World.grownBy_alloc w.drew _ _)
  have hk0 : ∀ b, b < w.heap.size → (w.drew.alloc (.cells R 90)).heap[b]? = w.heap[b]? := fun b hb => Below.heap_alloc w.drew _ b hb
  obtain ⟨w1, hw1⟩ : ∃ w1, w1 = w.drew.alloc (.cells R 90) := ⟨_, rfl⟩
  rw [← hw1] at hN0 hgr0
  simp only [← hw1] at hrz hk0
  have hv1 := (hk0 vb hvl).trans hv
  have hg1 := (hk0 g hgl).trans hg
  -- the new line
  obtain ⟨M, hM, hMs, hMc⟩ := setCells_heap w.heap.size 90 (oneLine x) 0 w1 R hN0
  have hcp1 : ∀ ty, (Builtin.copy_ #[40, 40] ty #[.slice (some ⟨w.heap.size, 0, none⟩) (n + 1) G, .slice (some ⟨vb, 0, none⟩) 1 1]).run Try.prog w1 = .ok (goInt 1) (w1.setCells w.heap.size 0 (oneLine x)) := fun ty => by
    have hmin : Nat.min 1 (n + 1) = 1 := by simp only [Nat.min_def]; split <;> omega
    have := run_copy_k (P := Try.prog) w1 2 40 40 ty 90 w.heap.size 0 (n + 1) G ⟨vb, 0, none⟩ 1 1 (oneLine x) Try.underlying40 hinf (by rw [hmin]; rfl)
      (fun j u hu => by
        rw [Addr.add_lit]
        have hl : j < 2 := (List.getElem?_eq_some_iff.1 hu).1
        have : j = 0 ∨ j = 1 := by omega
        simp only [World.cell?, hv1]
        rcases this with rfl | rfl <;> simpa [oneLine] using hu)
      (fun j hj => by
        have hl : j < 2 := hj
        simp only [World.cell?, hN0]
        rw [Array.getElem?_eq_getElem (by omega)]; rfl)
      (fun j hj => by simp [World.frozen?, hN0]) (by rw [oneLine_flat]; exact flat_one _)
    rw [hmin] at this
    exact this
  have hgr2 := setCells_grown w.heap.size (oneLine x) 0 w1
  have hs2 := setCells_size w.heap.size (oneLine x) 0 w1
  obtain ⟨w2, hw2⟩ : ∃ w2, w2 = w1.setCells w.heap.size 0 (oneLine x) := ⟨_, rfl⟩
  rw [← hw2] at hM hgr2 hs2
  rw [← hw2] at hcp1
  have hw1s : w.heap.size < w1.heap.size := lt_of_block hN0
  have hg2 : w2.heap[g]? = some (.cells cur 90 (0, 0)) := (hgr2.block g (by omega) (by simp; omega)).trans hg1
  have hg2' : w2.drew.heap[g]? = some (.cells cur 90 (0, 0)) := hg2
  have hM' : w2.drew.heap[w.heap.size]? = some (.cells M 90 (0, 0)) := hM
  -- the old lines
  obtain ⟨L, hL, hLs, hLc⟩ := setCells_heap w.heap.size 90 (flat xs) 2 w2.drew M hM'
  have hcp2 : ∀ ty, (Builtin.copy_ #[40, 40] ty #[.slice (some ⟨w.heap.size, 2, none⟩) n (G - 1), .slice (some ⟨g, 0, none⟩) n n]).run Try.prog w2.drew = .ok (goInt n) (w2.drew.setCells w.heap.size 2 (flat xs)) := fun ty => by
    have hmin : Nat.min n n = n := by simp only [Nat.min_def]; split <;> omega
    have := run_copy_k (P := Try.prog) w2.drew 2 40 40 ty 90 w.heap.size 2 n (G - 1) ⟨g, 0, none⟩ n n (flat xs) Try.underlying40 hinf (by rw [hmin]; exact hfl)
      (fun j u hu => by
        rw [Addr.add_lit]
        simp only [World.cell?, hg2', Nat.zero_add]
        exact flat_cells (α := Nat) (f := fun j => cur[j]?) hcl j u hu)
      (fun j hj => by
        simp only [World.cell?, hM']
        rw [Array.getElem?_eq_getElem (by omega)]; rfl)
      (fun j hj => by simp [World.frozen?, hM']) (flat_one _)
    rw [hmin] at this
    exact this
  have hgr3 := setCells_grown w.heap.size (flat xs) 2 w2.drew
  have hs3 := setCells_size w.heap.size (flat xs) 2 w2.drew
  obtain ⟨w3, hw3⟩ : ∃ w3, w3 = w2.drew.setCells w.heap.size 2 (flat xs) := ⟨_, rfl⟩
  rw [← hw3] at hL hgr3 hs3
  rw [← hw3] at hcp2
  have hb3 : Below 0 w2.drew w3 := ⟨hgr3.os, hgr3.tape, hgr3.output, hgr3.size, fun k hk => absurd hk (Nat.not_lt_zero _)⟩
  have HG : Hid (w.grownBy w3 (some g)) := ⟨hgr3.os.trans (hgr2.os.trans hgr0.os), hgr3.tape.trans (hgr2.tape.trans hgr0.tape), hgr3.output.trans (hgr2.output.trans hgr0.output), by rw [hs3]; show _ ≤ w2.heap.size; rw [hs2]; omega, fun k hk hne => by
    rw [hgr3.block k (by show k < w2.heap.size; omega) (by simp; omega)]
    show w2.heap[k]? = _
    rw [hgr2.block k (by omega) (by simp; omega), hk0 k hk]⟩
  have HEND : Hid (Lines w3 (.slice (some ⟨w.heap.size, 0, none⟩) (n + 1) G) (x :: xs)) := .inr ⟨w.heap.size, G, L, by rw [List.length_cons, hn], hL, by rw [List.length_cons]; omega, hGm, by omega, ins_cells
    (by
      rw [hLc 0 (by omega), if_neg (by omega), hLc 1 (by omega), if_neg (by omega), hMc 0 (by omega), if_pos (by simp [oneLine]), hMc 1 (by omega), if_pos (by simp [oneLine])]
      exact ⟨rfl, rfl⟩)
    (fun j hj => by
      have h9 := flat_get xs j hj
      rw [hLc _ (by omega), if_pos (by omega), hLc _ (by omega), if_pos (by omega), show (j + 1) * 2 - 2 = j * 2 by omega, show (j + 1) * 2 + 1 - 2 = j * 2 + 1 by omega]
      exact h9)⟩
  have H0 := Lib.hid hrz
  have H1 := Lib.hid hcp1
  have H2 := Lib.hid hcp2
  have HB3 := Lib.hid hb3
  have z1 : ((0 : Int) == (n : Int)) = false := beq_eq_false_iff_ne.2 (by omega)
  obtain ⟨ns, hns⟩ : ∃ ns, ns = w.heap.size := ⟨_, rfl⟩
  rw [← hns] at H0 H1 H2 HEND
  have HNS := Lib.hid hns
  have hG1 : ¬ G = 0 := by omega
  have hG2 : ¬ G = 1 := by omega
  clear hrz hcp1 hcp2 hb3 hgr0 hgr2 hgr3 hs2 hs3 hN0 hM hM' hL hMs hLs hMc hLc hv hv1 hg hg1 hg2 hg2' hcl hsz hw1 hw2 hw3 hw1s hfl hn hG hR hRs hk0 hold hns hgl hvl
  go_enter Try.func47, Try.ntmps47
  go_wp2_with (first
    | (refine wpList_of_wp _ rfl (fun K Q' hk => wp_append_eq _ _ _ 40 3 rfl _ _ rfl rfl (H0.out _) hk) ?_)
    | (refine wpList_of_wp _ rfl (fun K Q' hk => wp_copy_eq _ _ _ 40 40 rfl _ _ rfl rfl (H1.out _) hk) ?_))
  refine wp_region_eager 0 [(0, true), (1, true), (2, true), (3, true), (4, true), (5, true), (6, true), (7, true), (8, false)] (by kernel_rfl) (by kernel_rfl) ?_
  go_simp
  repeat (refine eag_read rfl ?_; go_big_quiet_step (fail); refine wpQuiet_nil ?_)
  refine eag_does rfl rfl ?_
  intro K hK
  refine wp_copy_eq _ _ _ 40 40 rfl _ _ rfl rfl (H2.out _) ?_
  refine hK _ _ HB3.out ?_
  clear hK K
  go_simp
  refine eag_end ?_
  go_wp2
  go_ret
  exact ⟨_, rfl, HEND.out, HG.out, .inr ⟨ns, rfl, by rw [HNS.out]; exact Nat.le_refl _⟩, by simp [Value.ownBlock]⟩
end Go.Proofs.Ytkpeeemnholmnab
