/- The contract of the reference's Follows. -/
import Derived.Test.YtekckijcljgaoaaRefC
import Derived.Test.YtekckijcljgaoaaEager
import Derived.Test.YtekckijcljgaoaaDepends
import Derived.Deep.Cut
import Derived.Deep.CutRange
import Derived.Deep.DeepCutAuto
namespace Go.Proofs.Ytekckijcljgaoaa
open Go.RowKit
set_option linter.unusedVariables false

theorem owns_later {w w' : World} {base : Nat} {e : TypeId} {size : Nat} {v : Value} {n : Nat} {l : List Value} (h : w.ownsRow base e size v n l) (hb : Below w.heap.size w w') : w'.ownsRow base e size v n l := by
  obtain ⟨h1, h2⟩ := h
  refine ⟨h1, ?_⟩
  rcases h2 with h2 | ⟨g, cap, cur, hv, hg, hh, r⟩
  · exact .inl h2
  · exact .inr ⟨g, cap, cur, hv, hg, by rw [hb.block g (lt_of_block hh)]; exact hh, r⟩

def touchB (op d op' d' a' b' : Int) : Bool := wrOf op d != 0 && (readsOf op' a' b' ++ [wrOf op' d']).contains (wrOf op d)

set_option maxRecDepth 100000 in
set_option maxHeartbeats 2000000 in
theorem touches_any (op d a b n op' d' a' b' n' : Int) (w : World) :
    Calls Try.prog 73 #[.agg #[.int .i64 op, .int .i64 d, .int .i64 a, .int .i64 b, .int .i64 n], .agg #[.int .i64 op', .int .i64 d', .int .i64 a', .int .i64 b', .int .i64 n']] w (DepPost (touchB op d op' d' a' b') w) := by
  have HW1 := fun w => Lib.hid (opw_any op d a b n w)
  have HW2 := fun w => Lib.hid (opw_any op' d' a' b' n' w)
  have HR2 := fun w => Lib.hid (opr_any op' d' a' b' n' w)
  have HAT := fun wx => Lib.hid (@two_ops w wx 27 op d a b n op' d' a' b' n')
  go_enter Try.func73, Try.ntmps73
  go_upto_region 1 with fail
  have hb0 : Below w.heap.size w ((w.alloc (.cells #[.int .i64 op, .int .i64 d, .int .i64 a, .int .i64 b, .int .i64 n] 27)).alloc (.cells #[.int .i64 op', .int .i64 d', .int .i64 a', .int .i64 b', .int .i64 n'] 27)) := ((Below.refl _ _).alloc (Nat.le_refl _) _).alloc (by simp) _
  have hsz : ((w.alloc (.cells #[.int .i64 op, .int .i64 d, .int .i64 a, .int .i64 b, .int .i64 n] 27)).alloc (.cells #[.int .i64 op', .int .i64 d', .int .i64 a', .int .i64 b', .int .i64 n'] 27)).heap.size = w.heap.size + 1 + 1 := by simp
  have hat : ∀ wx, Below (w.heap.size + 1 + 1) ((w.alloc (.cells #[.int .i64 op, .int .i64 d, .int .i64 a, .int .i64 b, .int .i64 n] 27)).alloc (.cells #[.int .i64 op', .int .i64 d', .int .i64 a', .int .i64 b', .int .i64 n'] 27)) wx → TwoOps w.heap.size op d a b n op' d' a' b' n' wx := fun wx hx => (HAT wx).out hx
  clear HAT
  generalize hw1 : ((w.alloc (.cells #[.int .i64 op, .int .i64 d, .int .i64 a, .int .i64 b, .int .i64 n] 27)).alloc (.cells #[.int .i64 op', .int .i64 d', .int .i64 a', .int .i64 b', .int .i64 n'] 27)) = w1 at hb0 hsz hat ⊢
  clear hw1
  have HB0 := Lib.hid hb0
  have HSZ := Lib.hid hsz
  have HAT := Lib.hid hat
  obtain ⟨⟨q0, q1, q2, q3, q4⟩, _⟩ := hat w1 (Below.refl _ _)
  clear hb0 hsz hat
  go_wp2_with (go_at_call 74; refine (HW1 _).out.mono ?_; rintro e w2 ⟨rfl, hb⟩; have HB1 := Lib.hid (hb.mono (B' := w.heap.size + 1 + 1) (by rw [HSZ.out]; omega)); clear hb)
  clear q0 q1 q2 q3 q4
  have r0 := fun x : After (w.heap.size + 1 + 1) w2.drew => (HAT.out _ (HB1.out.drew.trans x.below)).2.1
  have r1 := fun x : After (w.heap.size + 1 + 1) w2.drew => (HAT.out _ (HB1.out.drew.trans x.below)).2.2.1
  have r2 := fun x : After (w.heap.size + 1 + 1) w2.drew => (HAT.out _ (HB1.out.drew.trans x.below)).2.2.2.1
  have r3 := fun x : After (w.heap.size + 1 + 1) w2.drew => (HAT.out _ (HB1.out.drew.trans x.below)).2.2.2.2.1
  have r4 := fun x : After (w.heap.size + 1 + 1) w2.drew => (HAT.out _ (HB1.out.drew.trans x.below)).2.2.2.2.2
  refine wp_region_eager (w.heap.size + 1 + 1) [(0, true), (2, true), (7, true), (1, false), (3, false), (4, false), (5, false), (6, true)] (by kernel_rfl) (by kernel_rfl) ?_
  repeat (refine eag_read rfl ?_; go_big_quiet_step (fail); refine wpQuiet_nil ?_)
  obtain ⟨i0, hi0, hz0, hz1, hz2⟩ := info_parts Try.infoT3
  clear r0 r1 r2 r3 r4
  -- OpReads
  refine eag_does rfl rfl ?_
  intro K hK
  go_simp
  refine (HR2 _).out.mono ?_
  rintro e w3 ⟨v, rfl, ho, hb⟩
  have hxs : w.heap.size + 1 + 1 ≤ w2.drew.heap.size := by have h2 := HB1.out.size; have h3 := HSZ.out; show _ ≤ w2.heap.size; omega
  refine hK _ _ (hb.mono hxs) ?_
  have HB3 := Lib.hid (HB1.out.drew.trans (hb.mono hxs))
  have ho3 := owns_base ho hxs
  obtain ⟨rs, hrs⟩ : ∃ rs, rs = readsOf op' a' b' := ⟨_, rfl⟩
  have hln := reads_len op' a' b'
  rw [← hrs] at ho3 hln
  have HRS := Lib.hid hrs
  clear hK K hb ho hxs hrs
  -- OpWrites
  refine eag_does rfl rfl ?_
  intro K hK
  go_simp
  refine (HW2 _).out.mono ?_
  rintro e w4 ⟨rfl, hb⟩
  have hxs : w.heap.size + 1 + 1 ≤ w3.heap.size := by have h2 := HB3.out.size; have h3 := HSZ.out; omega
  refine hK _ _ (hb.mono hxs) ?_
  have HB4 := Lib.hid (HB3.out.trans (hb.mono hxs))
  have ho4 := owns_later ho3 hb
  clear hK K hb ho3 hxs
  obtain ⟨y, hy⟩ : ∃ y, y = wrOf op' d' := ⟨_, rfl⟩
  have HY := Lib.hid hy
  rw [← hy]
  clear hy
  -- the literal
  refine eag_does rfl rfl ?_
  intro K hK
  go_simp
  have hxs : w.heap.size + 1 + 1 ≤ w4.heap.size := by have h2 := HB4.out.size; have h3 := HSZ.out; omega
  refine hK _ _ ((Below.refl _ _).alloc hxs _) ?_
  clear hK K
  -- append
  refine eag_does rfl rfl ?_
  intro K hK
  refine wp_append_own _ _ _ 25 rfl (w.heap.size + 1 + 1) 3 i0 (.int .i64 0) 1 8 Try.underlying25 hi0 hz0 hz1 hz2 rfl (by decide) _ _ _ rfl (ho4.alloc _) ⟨w4.heap.size, 0, none⟩ 1 1 [.int .i64 y] rfl rfl (cell_one_new _ _ _) ?_ ?_ ?_ ?_ ?_
  · intro u hu; simp at hu; subst hu; rfl
  · unfold maxLen; omega
  · omega
  · simp; omega
  intro v' w5 hown hgrow _
  have hb5 := ((Below.refl (w.heap.size + 1 + 1) w4).alloc hxs (.cells #[.int .i64 y] 3)).grown hgrow (by simp; omega) (fun q hq => (ho4.lt q hq).1)
  have hb6 : Below (w.heap.size + 1 + 1) (w4.alloc (.cells #[.int .i64 y] 3)) w5 := (Below.refl _ _).grown hgrow (by simp; omega) (fun q hq => (ho4.lt q hq).1)
  have hown2 : w5.ownsRow (w.heap.size + 1 + 1) 3 1 v' (rs.length + 1) ((rs ++ [y]).map (Value.int .i64)) := by rw [List.map_append]; exact hown
  obtain ⟨va, vc, rfl, hcm⟩ := came_of_owns_ints hown2
  go_simp
  refine hK _ _ hb6 ?_
  have HB5 := Lib.hid (HB4.out.trans hb5)
  have hle := hcm.le
  have hmx := hcm.max
  have HCM := Lib.hid hcm
  clear hK K hb5 hb6 hown hown2 hgrow ho4 hcm hxs
  repeat (refine eag_read rfl ?_; go_big_quiet_step (fail); refine wpQuiet_nil ?_)
  refine eag_end ?_
  obtain ⟨X, hX⟩ : ∃ X, X = wrOf op d := ⟨_, rfl⟩
  have HT : Hid (touchB op d op' d' a' b' = (X != 0 && (rs ++ [y]).contains X)) := by unfold Hid touchB; rw [← HRS.out, ← HY.out, ← hX]
  rw [← hX]
  clear hX
  obtain ⟨zs, hzs⟩ : ∃ zs, zs = rs ++ [y] := ⟨_, rfl⟩
  have hzl : zs.length = rs.length + 1 := by rw [hzs]; simp
  rw [← hzs] at HT HCM
  have HZL := Lib.hid hzl
  clear hzs hzl
  go_wp2
  go_loop [17] (fun u => ∃ k : Nat, k ≤ rs.length + 1 ∧ u = .int .i64 k ∧ (X ≠ 0 → (zs.take k).contains X = false)) (fun u => rs.length + 1 - (intOf u).toNat)
  case atStart => exact ⟨0, Nat.zero_le _, rfl, fun _ => rfl⟩
  case round =>
    obtain ⟨k, hk, rfl, hc⟩ := hrel
    have HC := Lib.hid hc
    clear hc
    by_cases hlt : k < rs.length + 1
    · obtain ⟨b1, o1, e1, _, hcell⟩ := HCM.out.ints (by omega)
      subst e1
      have hkr : k < zs.length := by have := HZL.out; omega
      have c0 := hcell k hkr
      have HTS := Lib.hid (List.take_succ_eq_append_getElem hkr)
      obtain ⟨z, hz⟩ : ∃ z, z = zs[k] := ⟨_, rfl⟩
      rw [← hz] at c0 HTS
      have HZ := Lib.hid hz
      clear hz hcell
      by_cases hX0 : X = 0
      · have t1 : (X != 0) = false := by rw [bne_eq_false_iff_eq]; exact hX0
        have HX0 := Lib.hid hX0
        clear hX0
        go_wp2
        go_round
        case rel => exact ⟨k + 1, by omega, by go_num, fun h => absurd HX0.out h⟩
        case measure => simp [intOf]; omega
      · have t1 : (X != 0) = true := by rw [bne_iff_ne]; exact hX0
        have HX0 := Lib.hid hX0
        clear hX0
        cases hzx : (z == X)
        · go_wp2
          go_round
          case rel => exact ⟨k + 1, by omega, by go_num, fun h => by rw [HTS.out]; have := HC.out h; simp at this hzx ⊢; exact ⟨this, fun h => hzx h.symm⟩⟩
          case measure => simp [intOf]; omega
        · have HHIT : Hid (touchB op d op' d' a' b' = true) := by
            have h1 : X ∈ zs := by rw [beq_iff_eq] at hzx; rw [← hzx, HZ.out]; exact List.getElem_mem _
            unfold Hid
            rw [HT.out, t1]; simp [h1]
          go_wp2
          go_ret
          exact ⟨by rw [HHIT.out]; rfl, HB0.out.trans (HB5.out.mono (by omega))⟩
    · have HM : Hid (touchB op d op' d' a' b' = false) := by
        unfold Hid
        rw [HT.out]
        by_cases hX0 : X = 0
        · simp [hX0]
        · have := HC.out hX0
          rw [List.take_of_length_le (by have := HZL.out; omega)] at this
          rw [this]; simp
      go_wp2
      go_ret
      exact ⟨by rw [HM.out]; rfl, HB0.out.trans (HB5.out.mono (by omega))⟩

def opV5 (op d a b n : Int) : Value := .agg #[.int .i64 op, .int .i64 d, .int .i64 a, .int .i64 b, .int .i64 n]
/-- what Follows answers -/
def followB (op d a b op' d' a' b' : Int) : Bool :=
  barrierB op || barrierB op' || (memoryB op && memoryB op') || touchB op d op' d' a' b' || touchB op' d' op d a b
end Go.Proofs.Ytekckijcljgaoaa
