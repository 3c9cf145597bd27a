/- The contracts of the cache's New and Misses; its state. -/
import Derived.Test.YtkpeeemnholmnabCacheA
namespace Go.Proofs.Ytkpeeemnholmnab
open Go.RowKit
set_option linter.unusedVariables false
set_option linter.unusedSimpArgs false

structure CacheSt (w : World) (q p1 sb1 p2 sb2 : Nat) (c1 c2 : Conf) (sv1 sv2 : Nat → Value) (x1 x2 : Nat → List CLine) (m : Nat) : Prop where
  st : Blk w q 78 [.pointer (some ⟨p1, 0, none⟩), .pointer (some ⟨p2, 0, none⟩), .int .i64 (m : Int)]
  l1 : LevelSt w p1 sb1 c1 sv1 x1
  l2 : LevelSt w p2 sb2 c2 sv2 x2
  dj : ∀ k, Own p1 sb1 c1.sets sv1 k → ¬ Own p2 sb2 c2.sets sv2 k
  q1 : ¬ Own p1 sb1 c1.sets sv1 q
  q2 : ¬ Own p2 sb2 c2.sets sv2 q

def OwnC (q p1 sb1 p2 sb2 s1 s2 : Nat) (sv1 sv2 : Nat → Value) (k : Nat) : Prop := k = q ∨ Own p1 sb1 s1 sv1 k ∨ Own p2 sb2 s2 sv2 k
theorem CacheSt.lt {w : World} {q p1 sb1 p2 sb2 : Nat} {c1 c2 : Conf} {sv1 sv2 : Nat → Value} {x1 x2 : Nat → List CLine} {m : Nat} (h : CacheSt w q p1 sb1 p2 sb2 c1 c2 sv1 sv2 x1 x2 m) {k : Nat} (hk : OwnC q p1 sb1 p2 sb2 c1.sets c2.sets sv1 sv2 k) : k < w.heap.size := by
  rcases hk with rfl | hk | hk
  · exact h.st.lt
  · exact h.l1.lt hk
  · exact h.l2.lt hk
theorem CacheSt.later {w w' : World} {q p1 sb1 p2 sb2 : Nat} {c1 c2 : Conf} {sv1 sv2 : Nat → Value} {x1 x2 : Nat → List CLine} {m : Nat} (h : CacheSt w q p1 sb1 p2 sb2 c1 c2 sv1 sv2 x1 x2 m) (hb : Below w.heap.size w w') : CacheSt w' q p1 sb1 p2 sb2 c1 c2 sv1 sv2 x1 x2 m :=
  ⟨h.st.below hb h.st.lt, h.l1.later hb, h.l2.later hb, h.dj, h.q1, h.q2⟩

theorem ccheck_ok (c : Conf) (ok : c.Ok) (w : World) : Calls Try.prog 27 #[c.val] w fun e w' => e = .returned (.int .i64 0) ∧ Below w.heap.size w w' := by
  have h := ccheck_any ⟨c.words, c.sets, c.ways, c.miss⟩ w
  rw [confE_ok (by simp only [confB, Bool.and_eq_true, inB_true]; have := ok.w; have := ok.s; have := ok.y; have := ok.m; omega)] at h
  exact h

def NewCPost (c1 c2 : Conf) (w : World) (e : Ending) (w' : World) : Prop :=
  ∃ q p1 sb1 p2 sb2, e = .returned (.tuple #[.pointer (some ⟨q, 0, none⟩), .int .i64 0]) ∧ CacheSt w' q p1 sb1 p2 sb2 c1 c2 (fun _ => .slice none 0 0) (fun _ => .slice none 0 0) (fun _ => []) (fun _ => []) 0 ∧
    (∀ k, OwnC q p1 sb1 p2 sb2 c1.sets c2.sets (fun _ => .slice none 0 0) (fun _ => .slice none 0 0) k → w.heap.size ≤ k) ∧ Below w.heap.size w w'
theorem own_nil {p sb sets k : Nat} (h : Own p sb sets (fun _ => .slice none 0 0) k) : k = p ∨ k = sb := by
  rcases h with h | h | ⟨i, _, h⟩
  · exact .inl h
  · exact .inr h
  · simp [Value.ownBlock] at h

set_option maxRecDepth 100000 in
set_option maxHeartbeats 2000000 in
theorem cnew_ok (c1 c2 : Conf) (ok1 : c1.Ok) (ok2 : c2.Ok) (w : World) : Calls Try.prog 8 #[c1.val, c2.val] w (NewCPost c1 c2 w) := by
  have HC1 := fun wx => ccheck_ok c1 ok1 wx
  have HC2 := fun wx => ccheck_ok c2 ok2 wx
  have HN1 := fun wx => newLevel_ok c1 ok1 wx
  have HN2 := fun wx => newLevel_ok c2 ok2 wx
  obtain ⟨a0, a1, a2, a3⟩ := c1
  obtain ⟨b0, b1, b2, b3⟩ := c2
  simp only [Conf.val] at *
  clear ok1 ok2
  go_enter Try.func8, Try.ntmps8
  go_wp2_with fail
  have hb1 : Below w.heap.size w ((w.alloc (.cells #[.int .i64 (a0 : Int), .int .i64 (a1 : Int), .int .i64 (a2 : Int), .int .i64 (a3 : Int)] 23)).alloc (.cells #[.int .i64 (b0 : Int), .int .i64 (b1 : Int), .int .i64 (b2 : Int), .int .i64 (b3 : Int)] 23)) :=
    ((Below.refl _ _).alloc (Nat.le_refl _) _).alloc (by simp) _
  have hA := (Blk.new w [.int .i64 (a0 : Int), .int .i64 (a1 : Int), .int .i64 (a2 : Int), .int .i64 (a3 : Int)] 23).alloc (.cells #[.int .i64 (b0 : Int), .int .i64 (b1 : Int), .int .i64 (b2 : Int), .int .i64 (b3 : Int)] 23)
  have hB := Blk.new (w.alloc (.cells #[.int .i64 (a0 : Int), .int .i64 (a1 : Int), .int .i64 (a2 : Int), .int .i64 (a3 : Int)] 23)) [.int .i64 (b0 : Int), .int .i64 (b1 : Int), .int .i64 (b2 : Int), .int .i64 (b3 : Int)] 23
  rw [World.size_alloc] at hB
  generalize (w.alloc (.cells #[.int .i64 (a0 : Int), .int .i64 (a1 : Int), .int .i64 (a2 : Int), .int .i64 (a3 : Int)] 23)).alloc (.cells #[.int .i64 (b0 : Int), .int .i64 (b1 : Int), .int .i64 (b2 : Int), .int .i64 (b3 : Int)] 23) = w1 at hb1 hA hB ⊢
  refine (HC1 _).mono ?_
  rintro e w2 ⟨rfl, hb2⟩
  have hA2 := hA.below hb2 hA.lt
  have hB2 := hB.below hb2 hB.lt
  have k0 := hB2.cell 0
  have k1 := hB2.cell 1
  have k2 := hB2.cell 2
  have k3 := hB2.cell 3
  simp only [List.getElem?_cons_succ, List.getElem?_cons_zero] at k0 k1 k2 k3
  have HB2 := Lib.hid (hb1.trans (hb2.mono hb1.size))
  have HA2 := Lib.hid hA2
  have HBB2 := Lib.hid hB2
  clear hb1 hb2 hA hB hA2 hB2
  go_wp2_with fail
  refine (HC2 _).mono ?_
  rintro e w3 ⟨rfl, hb3⟩
  have hA3 := HA2.out.below hb3 HA2.out.lt
  have hB3 := HBB2.out.below hb3 HBB2.out.lt
  have HB3 := Lib.hid (HB2.out.trans (hb3.mono HB2.out.size))
  clear hb3 HB2 HA2 HBB2 k0 k1 k2 k3
  go_wp2_with fail
  have hlA := hA3.lt
  have hlB := hB3.lt
  have j0 := hA3.cell 0
  have j1 := hA3.cell 1
  have j2 := hA3.cell 2
  have j3 := hA3.cell 3
  have k0 := hB3.cell 0
  have k1 := hB3.cell 1
  have k2 := hB3.cell 2
  have k3 := hB3.cell 3
  simp only [List.getElem?_cons_succ, List.getElem?_cons_zero] at j0 j1 j2 j3 k0 k1 k2 k3
  have r0 := fun x : After w3.heap.size w3.drew => (x.below.cell (p := ⟨w.heap.size, 0, none⟩) hlA).trans j0
  have r1 := fun x : After w3.heap.size w3.drew => (x.below.cell (p := ⟨w.heap.size, 1, none⟩) hlA).trans j1
  have r2 := fun x : After w3.heap.size w3.drew => (x.below.cell (p := ⟨w.heap.size, 2, none⟩) hlA).trans j2
  have r3 := fun x : After w3.heap.size w3.drew => (x.below.cell (p := ⟨w.heap.size, 3, none⟩) hlA).trans j3
  have s0 := fun x : After w3.heap.size w3.drew => (x.below.cell (p := ⟨w.heap.size + 1, 0, none⟩) hlB).trans k0
  have s1 := fun x : After w3.heap.size w3.drew => (x.below.cell (p := ⟨w.heap.size + 1, 1, none⟩) hlB).trans k1
  have s2 := fun x : After w3.heap.size w3.drew => (x.below.cell (p := ⟨w.heap.size + 1, 2, none⟩) hlB).trans k2
  have s3 := fun x : After w3.heap.size w3.drew => (x.below.cell (p := ⟨w.heap.size + 1, 3, none⟩) hlB).trans k3
  clear j0 j1 j2 j3 k0 k1 k2 k3 hA3 hB3
  refine wp_region_eager w3.heap.size [(0, true), (2, true), (1, false), (3, false), (4, true), (5, false), (6, true), (7, true)] (by kernel_rfl) (by kernel_rfl) ?_
  repeat (refine eag_read rfl ?_; go_big_quiet_step (fail); refine wpQuiet_nil ?_)
  clear r0 r1 r2 r3 s0 s1 s2 s3
  refine eag_does rfl rfl ?_
  intro K hK
  go_simp
  refine (HN1 _).mono ?_
  rintro e w4 ⟨p1, sb1, rfl, hl1, hp1, hs1, hb4⟩
  refine hK _ _ hb4 ?_
  clear hK K
  go_simp
  refine eag_does rfl rfl ?_
  intro K hK
  go_simp
  refine (HN2 _).mono ?_
  rintro e w5 ⟨p2, sb2, rfl, hl2, hp2, hs2, hb5⟩
  refine hK _ _ (hb5.mono hb4.size) ?_
  clear hK K
  have HL1 := Lib.hid (hl1.later hb5)
  have HL2 := Lib.hid hl2
  have hz4 : w3.heap.size ≤ w4.heap.size := hb4.size
  have hz5 : w4.heap.size ≤ w5.heap.size := hb5.size
  have hz3 := HB3.out.size
  have hp1' : w3.heap.size ≤ p1 := hp1
  have hs1' : w3.heap.size ≤ sb1 := hs1
  have hp1l := hl1.st.lt
  have hs1l := hl1.ss.lt
  have HB5 := Lib.hid (HB3.out.drew.trans ((hb4.mono hz3).trans (hb5.mono (Nat.le_trans hz3 hz4))))
  clear hb4 hb5 hl1 hl2
  go_simp
  refine eag_read rfl ?_; go_big_quiet_step (fail); refine wpQuiet_nil ?_
  refine eag_does rfl rfl ?_
  intro K hK
  go_simp
  refine hK _ _ ((Below.refl _ _).alloc (by omega) _) ?_
  clear hK K
  go_simp
  repeat (refine eag_read rfl ?_; go_big_quiet_step (fail); refine wpQuiet_nil ?_)
  refine eag_end ?_
  go_wp2_with fail
  go_ret2
  have hb6 : Below w5.heap.size w5 (w5.alloc (.cells #[.pointer (some ⟨p1, 0, none⟩), .pointer (some ⟨p2, 0, none⟩), .int .i64 0] 78)) := (Below.refl _ _).alloc (Nat.le_refl _) _
  have hp1w := HL1.out.st.lt
  have hs1w := HL1.out.ss.lt
  have hp2w := HL2.out.st.lt
  have hs2w := HL2.out.ss.lt
  refine ⟨w5.heap.size, p1, sb1, p2, sb2, rfl, ⟨Blk.new w5 _ _, HL1.out.later hb6, HL2.out.later hb6, fun k h1 h2 => ?_, fun h => ?_, fun h => ?_⟩, fun k hk => ?_, HB5.out.trans (hb6.mono (by omega))⟩
  · rcases own_nil h1 with rfl | rfl <;> rcases own_nil h2 with rfl | rfl <;> omega
  · rcases own_nil h with h | h <;> omega
  · rcases own_nil h with h | h <;> omega
  · rcases hk with rfl | hk | hk
    · omega
    · rcases own_nil hk with rfl | rfl <;> omega
    · rcases own_nil hk with rfl | rfl <;> omega
end Go.Proofs.Ytkpeeemnholmnab
