/- The contract of sched's Depends. -/
import Derived.Test.YtnfgjcdiophphabTimingC
import Derived.Test.YtnfgjcdiophphabRegion
import Derived.Test.YtnfgjcdiophphabOpAt
import Derived.Deep.RegionHeld3
import Derived.Deep.RegionWith
import Derived.Deep.Cut
namespace Go.Proofs.Ytnfgjcdiophphab
open Go.RowKit
set_option linter.unusedVariables false

theorem came_of_owns_ints {w : World} {base : Nat} {e : TypeId} {v : Value} {n : Nat} {l : List Int} (h : w.ownsRow base e 1 v n (l.map (Value.int .i64))) : ∃ a cap, v = .slice a n cap ∧ Came w a n cap 1 (l.map intCells) := by
  obtain ⟨a, m, cap, rfl⟩ := owns_shape h
  obtain ⟨rfl, h2⟩ := came_of_owns (E := intCells) (zs := l) (fun z => ⟨_, rfl⟩) (by simpa [intCells] using h)
  exact ⟨a, cap, rfl, h2⟩

/-- what Depends answers -/
def depOf (op d a b op' d' a' b' : Int) : Bool :=
  barrierB op || barrierB op' || (wrOf op d != 0 && wrOf op d == wrOf op' d') || (readsOf op' a' b').contains (wrOf op d) || (readsOf op a b).contains (wrOf op' d') || (memoryB op && memoryB op')

def TwoOps (B : Nat) (op d a b n op' d' a' b' n' : Int) (w : World) : Prop := OpAt w B op d a b n ∧ OpAt w (B + 1) op' d' a' b' n'
theorem two_ops {w wx : World} {t : TypeId} {op d a b n op' d' a' b' n' : Int} (hx : Below (w.heap.size + 1 + 1) ((w.alloc (.cells (opCells op d a b n).toArray t)).alloc (.cells (opCells op' d' a' b' n').toArray t)) wx) : TwoOps w.heap.size op d a b n op' d' a' b' n' wx := by
  have h1 := ((Blk.new w (opCells op d a b n) t).alloc (.cells (opCells op' d' a' b' n').toArray t)).below hx (by omega)
  have h2 := Blk.new (w.alloc (.cells (opCells op d a b n).toArray t)) (opCells op' d' a' b' n') t
  rw [World.size_alloc] at h2
  exact ⟨opAt_blk h1, opAt_blk (h2.below hx (by omega))⟩

theorem reads_len (op a b : Int) : (readsOf op a b).length ≤ 2 := by
  have h1 : (rawReads op a b).length ≤ 2 := by unfold rawReads; (repeat' split) <;> simp
  have h2 := List.length_filter_le (fun x : Int => x != 0) (rawReads op a b)
  unfold readsOf nz; omega

def DepPost (c : Bool) (w : World) (e : Ending) (w' : World) : Prop := e = .returned (.bool c) ∧ Below w.heap.size w w'

theorem writes_bel (op d a b n : Int) (w : World) :
    Calls Try.prog 99 #[.agg #[.int .i64 op, .int .i64 d, .int .i64 a, .int .i64 b, .int .i64 n]] w fun e w' => e = .returned (.int .i64 (wrOf op d)) ∧ Below w.heap.size w w' := by
  refine (writes_any op d a b n w).mono ?_
  rintro e w' ⟨rfl, rfl⟩
  exact ⟨rfl, (Below.refl _ _).alloc (Nat.le_refl _) _⟩

set_option maxRecDepth 100000 in
set_option maxHeartbeats 4000000 in
theorem depends_any (op d a b n op' d' a' b' n' : Int) (w : World) (h : 0 ≤ op ∧ op ≤ 24) (h' : 0 ≤ op' ∧ op' ≤ 24) :
    Calls Try.prog 71 #[.agg #[.int .i64 op, .int .i64 d, .int .i64 a, .int .i64 b, .int .i64 n], .agg #[.int .i64 op', .int .i64 d', .int .i64 a', .int .i64 b', .int .i64 n']] w (DepPost (depOf op d a b op' d' a' b') w) := by
  have HBAR := fun w => Lib.hid (barrier_any op w h)
  have HBAR' := fun w => Lib.hid (barrier_any op' w h')
  have HMEM := fun w => Lib.hid (memory_any op w)
  have HMEM' := fun w => Lib.hid (memory_any op' w)
  have HWR := fun w => Lib.hid (writes_bel op d a b n w)
  have HWR' := fun w => Lib.hid (writes_bel op' d' a' b' n' w)
  have HRD := fun w => Lib.hid (reads_any op d a b n w)
  have HRD' := fun w => Lib.hid (reads_any op' d' a' b' n' w)
  have HDEP : Hid (depOf op d a b op' d' a' b' = (barrierB op || barrierB op' || (wrOf op d != 0 && wrOf op d == wrOf op' d') || (readsOf op' a' b').contains (wrOf op d) || (readsOf op a b).contains (wrOf op' d') || (memoryB op && memoryB op'))) := rfl
  have HAT := fun wx => Lib.hid (@two_ops w wx 92 op d a b n op' d' a' b' n')
  clear h h'
  cases hb1 : barrierB op
  · cases hb2 : barrierB op'
    · go_enter Try.func71, Try.ntmps71
      go_upto_region 3 with (first
        | (go_at_call_of 98 (op); refine (HBAR _).out.mono ?_; rintro e w' ⟨rfl, rfl⟩)
        | (go_at_call_of 98 (op'); refine (HBAR' _).out.mono ?_; rintro e w' ⟨rfl, rfl⟩))
      have hb0 : Below w.heap.size w ((w.alloc (.cells #[.int .i64 op, .int .i64 d, .int .i64 a, .int .i64 b, .int .i64 n] 92)).alloc (.cells #[.int .i64 op', .int .i64 d', .int .i64 a', .int .i64 b', .int .i64 n'] 92)) := ((Below.refl _ _).alloc (Nat.le_refl _) _).alloc (by simp) _
      have hsz : ((w.alloc (.cells #[.int .i64 op, .int .i64 d, .int .i64 a, .int .i64 b, .int .i64 n] 92)).alloc (.cells #[.int .i64 op', .int .i64 d', .int .i64 a', .int .i64 b', .int .i64 n'] 92)).heap.size = w.heap.size + 1 + 1 := by simp
      have hat : ∀ wx, Below (w.heap.size + 1 + 1) ((w.alloc (.cells #[.int .i64 op, .int .i64 d, .int .i64 a, .int .i64 b, .int .i64 n] 92)).alloc (.cells #[.int .i64 op', .int .i64 d', .int .i64 a', .int .i64 b', .int .i64 n'] 92)) wx → TwoOps w.heap.size op d a b n op' d' a' b' n' wx := fun wx hx => (HAT wx).out hx
      clear HAT
      generalize hw1 : ((w.alloc (.cells #[.int .i64 op, .int .i64 d, .int .i64 a, .int .i64 b, .int .i64 n] 92)).alloc (.cells #[.int .i64 op', .int .i64 d', .int .i64 a', .int .i64 b', .int .i64 n'] 92)) = w1 at hb0 hsz hat ⊢
      clear hw1
      have HB0 := Lib.hid hb0
      have HSZ := Lib.hid hsz
      have HAT := Lib.hid hat
      clear hb0 hsz hat
      have p0 := fun x : After (w.heap.size + 1 + 1) w1 => (HAT.out _ x.below).1.1
      have p1 := fun x : After (w.heap.size + 1 + 1) w1 => (HAT.out _ x.below).1.2.1
      have p2 := fun x : After (w.heap.size + 1 + 1) w1 => (HAT.out _ x.below).1.2.2.1
      have p3 := fun x : After (w.heap.size + 1 + 1) w1 => (HAT.out _ x.below).1.2.2.2.1
      have p4 := fun x : After (w.heap.size + 1 + 1) w1 => (HAT.out _ x.below).1.2.2.2.2
      have q0 := fun x : After (w.heap.size + 1 + 1) w1 => (HAT.out _ x.below).2.1
      have q1 := fun x : After (w.heap.size + 1 + 1) w1 => (HAT.out _ x.below).2.2.1
      have q2 := fun x : After (w.heap.size + 1 + 1) w1 => (HAT.out _ x.below).2.2.2.1
      have q3 := fun x : After (w.heap.size + 1 + 1) w1 => (HAT.out _ x.below).2.2.2.2.1
      have q4 := fun x : After (w.heap.size + 1 + 1) w1 => (HAT.out _ x.below).2.2.2.2.2
      refine wp_region_after (w.heap.size + 1 + 1) (by kernel_rfl) (by kernel_rfl) ?_
      repeat (go_big_quiet_step ((first
        | (go_at_call_of 99 (op); rename_i x; exact x.call (by have := HSZ.out; omega) (HWR _).out)
        | (go_at_call_of 99 (op'); rename_i x; exact x.call (by have := HSZ.out; omega) (HWR' _).out))))
      refine wpQuiet_nil ?_
      rintro _ ⟨x, rfl⟩
      obtain ⟨X, hX⟩ : ∃ X, X = wrOf op d := ⟨_, rfl⟩
      obtain ⟨Y, hY⟩ : ∃ Y, Y = wrOf op' d' := ⟨_, rfl⟩
      rw [← hX, ← hY] at HDEP ⊢
      rw [hb1, hb2] at HDEP
      have HBX := Lib.hid (HB0.out.trans (x.below.mono (B' := w.heap.size) (by omega)))
      have hsx : w.heap.size + 1 + 1 ≤ x.world.heap.size := by have := x.below.size; have := HSZ.out; omega
      have r0 := p0 x
      have r1 := p1 x
      have r2 := p2 x
      have r3 := p3 x
      have r4 := p4 x
      have s0 := q0 x
      have s1 := q1 x
      have s2 := q2 x
      have s3 := q3 x
      have s4 := q4 x
      clear p0 p1 p2 p3 p4 q0 q1 q2 q3 q4 hX hY HBAR HBAR' HWR HWR' hb1 hb2
      by_cases hxy : X ≠ 0 ∧ X = Y
      · have t1 : (X != 0) = true := by rw [bne_iff_ne]; exact hxy.1
        have t2 : (X == Y) = true := by rw [beq_iff_eq]; exact hxy.2
        clear hxy
        go_wp2
        go_ret
        exact ⟨by rw [HDEP.out, t1, t2]; rfl, HBX.out⟩
      · have HD2 : Hid (depOf op d a b op' d' a' b' = ((readsOf op' a' b').contains X || (readsOf op a b).contains Y || (memoryB op && memoryB op'))) := by
          have : (X != 0 && X == Y) = false := by
            cases h1 : (X != 0 && X == Y)
            · rfl
            · exact absurd (by simpa using h1) hxy
          have h2 := HDEP.out
          rw [this] at h2
          unfold Hid
          simpa using h2
        clear HDEP
        have hz : (X != 0) = false ∨ ((X != 0) = true ∧ (X == Y) = false) := by
          cases h1 : (X != 0)
          · exact .inl rfl
          · refine .inr ⟨rfl, ?_⟩
            cases h2 : (X == Y)
            · rfl
            · exact absurd ⟨by simpa using h1, by simpa using h2⟩ hxy
        have HZ := Lib.hid hz
        clear hz hxy
        go_upto_region 4 with fail
        go_cut [29] from 23 (fun s wx => s = .bool false ∧ wx = x.world)
        case first =>
          rcases HZ.out with t1 | ⟨t1, t2⟩
          all_goals
            go_wp2
            go_meet
            exact ⟨rfl, rfl⟩
        case rest =>
          obtain ⟨rfl, rfl⟩ := hcut
          clear HZ
          go_wp2_with fail
          refine (HRD' _).out.mono ?_
          rintro e w2 ⟨v, rfl, ho, hb⟩
          obtain ⟨ra, rc, rfl, hcm⟩ := came_of_owns_ints ho
          have hx2 : Below (w.heap.size + 1 + 1) w1 w2 := x.below.trans (hb.mono hsx)
          obtain ⟨⟨r0, r1, r2, r3, r4⟩, ⟨s0, s1, s2, s3, s4⟩⟩ := HAT.out _ hx2
          have HX2 := Lib.hid hx2
          have HCM := Lib.hid hcm
          have hln := reads_len op' a' b'
          obtain ⟨rs, hrs⟩ : ∃ rs, rs = readsOf op' a' b' := ⟨_, rfl⟩
          rw [← hrs] at HCM HD2 hln ⊢
          have hle := hcm.le
          have hmx := hcm.max
          rw [← hrs] at hle
          obtain ⟨n1, hn1⟩ : ∃ n1, n1 = rs.length := ⟨_, rfl⟩
          rw [← hn1] at HCM hln hle ⊢
          have HN1 := Lib.hid hn1
          clear ho hb hx2 hcm hrs hn1
          go_wp2
          go_loop [33] (fun u => ∃ k : Nat, k ≤ n1 ∧ u = .int .i64 k ∧ (rs.take k).contains X = false) (fun u => n1 - (intOf u).toNat)
          case atStart => exact ⟨0, Nat.zero_le _, rfl, rfl⟩
          case round =>
            obtain ⟨k, hk, rfl, hc⟩ := hrel
            have HC := Lib.hid hc
            clear hc
            by_cases hlt : k < n1
            · obtain ⟨b1, o1, e1, _, hcell⟩ := HCM.out.ints (by omega)
              subst e1
              have hkr : k < rs.length := by have := HN1.out; omega
              have c0 := hcell k hkr
              have HT := Lib.hid (List.take_succ_eq_append_getElem hkr)
              obtain ⟨y, hy⟩ : ∃ y, y = rs[k] := ⟨_, rfl⟩
              rw [← hy] at c0 HT
              have HY := Lib.hid hy
              clear hy hcell
              cases hyx : (y == X)
              · go_wp2
                go_round
                case rel => exact ⟨k + 1, by omega, by go_num, by rw [HT.out]; have := HC.out; simp at this hyx ⊢; exact ⟨this, fun h => hyx h.symm⟩⟩
                case measure => simp [intOf]; omega
              · have HHIT : Hid (depOf op d a b op' d' a' b' = true) := by
                  have h1 : X ∈ rs := by rw [beq_iff_eq] at hyx; rw [← hyx, HY.out]; exact List.getElem_mem _
                  have h2 := HD2.out
                  unfold Hid
                  rw [h2]; simp [h1]
                go_wp2
                go_ret
                exact ⟨by rw [HHIT.out]; rfl, HB0.out.trans (HX2.out.mono (by omega))⟩
            · have HM1 : Hid (rs.contains X = false) := by have := HC.out; rwa [List.take_of_length_le (by have := HN1.out; omega)] at this
              go_wp2_with fail
              refine (HRD _).out.mono ?_
              rintro e w3 ⟨v, rfl, ho, hb⟩
              obtain ⟨ra2, rc2, rfl, hcm2⟩ := came_of_owns_ints ho
              have hx3 : Below (w.heap.size + 1 + 1) w1 w3 := HX2.out.trans (hb.mono (by have := HX2.out.size; have := HSZ.out; omega))
              obtain ⟨⟨r0, r1, r2, r3, r4⟩, ⟨s0, s1, s2, s3, s4⟩⟩ := HAT.out _ hx3
              have HX3 := Lib.hid hx3
              have HCM2 := Lib.hid hcm2
              have hln2 := reads_len op a b
              obtain ⟨rs2, hrs⟩ : ∃ rs2, rs2 = readsOf op a b := ⟨_, rfl⟩
              rw [← hrs] at HCM2 HD2 hln2 ⊢
              have hle2 := hcm2.le
              have hmx2 := hcm2.max
              rw [← hrs] at hle2
              obtain ⟨n2, hn2⟩ : ∃ n2, n2 = rs2.length := ⟨_, rfl⟩
              rw [← hn2] at HCM2 hln2 hle2 ⊢
              have HN2 := Lib.hid hn2
              clear ho hb hx3 hcm2 hrs hn2
              go_wp2
              go_loop [44] (fun u => ∃ k : Nat, k ≤ n2 ∧ u = .int .i64 k ∧ (rs2.take k).contains Y = false) (fun u => n2 - (intOf u).toNat)
              case atStart => exact ⟨0, Nat.zero_le _, rfl, rfl⟩
              case round =>
                obtain ⟨k2, hk2, rfl, hc⟩ := hrel
                have HC2 := Lib.hid hc
                clear hc
                by_cases hlt2 : k2 < n2
                · obtain ⟨b1, o1, e1, _, hcell⟩ := HCM2.out.ints (by omega)
                  subst e1
                  have hkr : k2 < rs2.length := by have := HN2.out; omega
                  have c0 := hcell k2 hkr
                  have HT := Lib.hid (List.take_succ_eq_append_getElem hkr)
                  obtain ⟨y, hy⟩ : ∃ y, y = rs2[k2] := ⟨_, rfl⟩
                  rw [← hy] at c0 HT
                  have HY := Lib.hid hy
                  clear hy hcell
                  cases hyx : (y == Y)
                  · go_wp2
                    go_round
                    case rel => exact ⟨k2 + 1, by omega, by go_num, by rw [HT.out]; have := HC2.out; simp at this hyx ⊢; exact ⟨this, fun h => hyx h.symm⟩⟩
                    case measure => simp [intOf]; omega
                  · have HHIT : Hid (depOf op d a b op' d' a' b' = true) := by
                      have h1 : Y ∈ rs2 := by rw [beq_iff_eq] at hyx; rw [← hyx, HY.out]; exact List.getElem_mem _
                      have h2 := HD2.out
                      unfold Hid
                      rw [h2]; simp [h1]
                    go_wp2
                    go_ret
                    exact ⟨by rw [HHIT.out]; rfl, HB0.out.trans (HX3.out.mono (by omega))⟩
                · have HM2 : Hid (rs2.contains Y = false) := by have := HC2.out; rwa [List.take_of_length_le (by have := HN2.out; omega)] at this
                  have HFIN : Hid (depOf op d a b op' d' a' b' = (memoryB op && memoryB op')) := by
                    have h2 := HD2.out
                    rw [HM1.out, HM2.out] at h2
                    unfold Hid
                    simpa using h2
                  cases hm1 : memoryB op
                  · go_wp2_with (first
                      | (go_at_call_of 101 (op); refine (HMEM _).out.mono ?_; rintro e w' ⟨rfl, rfl⟩)
                      | (go_at_call_of 101 (op'); refine (HMEM' _).out.mono ?_; rintro e w' ⟨rfl, rfl⟩))
                    go_ret
                    exact ⟨by rw [HFIN.out, hm1]; rfl, HB0.out.trans (HX3.out.mono (by omega))⟩
                  · go_wp2_with (first
                      | (go_at_call_of 101 (op); refine (HMEM _).out.mono ?_; rintro e w' ⟨rfl, rfl⟩)
                      | (go_at_call_of 101 (op'); refine (HMEM' _).out.mono ?_; rintro e w' ⟨rfl, rfl⟩))
                    go_ret
                    exact ⟨by rw [HFIN.out, hm1]; rfl, HB0.out.trans (HX3.out.mono (by omega))⟩
    · go_enter Try.func71, Try.ntmps71
      go_wp2_with (first
        | (go_at_call_of 98 (op); refine (HBAR _).out.mono ?_; rintro e w' ⟨rfl, rfl⟩)
        | (go_at_call_of 98 (op'); refine (HBAR' _).out.mono ?_; rintro e w' ⟨rfl, rfl⟩))
      go_ret
      exact ⟨by rw [HDEP.out, hb1, hb2]; rfl, ((Below.refl _ _).alloc (Nat.le_refl _) _).alloc (by simp) _⟩
  · go_enter Try.func71, Try.ntmps71
    go_wp2_with (first
      | (go_at_call_of 98 (op); refine (HBAR _).out.mono ?_; rintro e w' ⟨rfl, rfl⟩)
      | (go_at_call_of 98 (op'); refine (HBAR' _).out.mono ?_; rintro e w' ⟨rfl, rfl⟩))
    go_ret
    exact ⟨by rw [HDEP.out, hb1]; rfl, ((Below.refl _ _).alloc (Nat.le_refl _) _).alloc (by simp) _⟩
end Go.Proofs.Ytnfgjcdiophphab
