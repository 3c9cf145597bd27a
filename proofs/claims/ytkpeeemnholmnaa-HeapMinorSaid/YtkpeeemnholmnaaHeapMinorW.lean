/- The walk of HeapMinor. -/
import Derived.Test.YtkpeeemnholmnaaHeapMiM
namespace Go.Proofs.Ytkpeeemnholmnaa
open Go.RowKit
set_option linter.unusedVariables false

theorem below_lit9 (w : World) (v : Int) : Below w.heap.size w (w.alloc (.cells #[.int .i64 v] 3)) := (Below.refl _ w).alloc (Nat.le_refl _) _

set_option maxRecDepth 100000 in
set_option maxHeartbeats 4000000 in
theorem heapMinor_walk (s0 d0 : Int) (w : World) (_h0 : -9223372036854775808 ≤ s0 ∧ s0 ≤ 9223372036854775807) (_h1 : -9223372036854775808 ≤ d0 ∧ d0 ≤ 9223372036854775807) :
    Calls Try.prog 4 #[.int .i64 s0, .int .i64 d0] w fun e w' => e = .returned (.bool true) ∧ Below w.heap.size w w' := by
  obtain ⟨ss, hss⟩ : ∃ mm : Nat, (mm : Int) = s0 % 4 := ⟨(s0 % 4).toNat, by omega⟩
  obtain ⟨wd, hwd⟩ : ∃ mm : Nat, (mm : Int) = d0 % 1000 := ⟨(d0 % 1000).toNat, by omega⟩
  have hsb : ss < 4 := by omega
  have hdb : wd < 1000 := by omega
  have HR1 : ∀ w, Calls Try.prog 8 #[.int .i64 s0, .int .i64 4] w fun e w' => e = .returned (.int .i64 (ss : Int)) ∧ w = w' := fun w => by rw [hss]; exact rest_any s0 4 w (by omega) (by omega)
  have HR2 : ∀ w, Calls Try.prog 8 #[.int .i64 d0, .int .i64 1000] w fun e w' => e = .returned (.int .i64 (wd : Int)) ∧ w = w' := fun w => by rw [hwd]; exact rest_any d0 1000 w (by omega) (by omega)
  have HN : ∀ w, Calls Try.prog 7 #[.int .i64 200, .int .i64 8, .int .i64 20] w (HNewPost (HS.new 200 8 20) w) := fun w => hnew_ok 200 8 20 w (by omega) (by omega) (by omega)
  have e1 : ((1 + ss : Nat) : Int) = 1 + (ss : Int) := by push_cast; rfl
  have HE1 := Lib.hid e1
  clear hss hwd e1
  go_enter Try.func4, Try.ntmps4
  go_wp2_with fail
  refine (HN _).mono ?_
  rintro e w1 ⟨p, mb, rfl, hst, hp, hm, hb⟩
  have HST := Lib.hid hst
  have HB := Lib.hid hb
  clear hst hb
  go_wp2_with fail
  refine (heapFactK_ok _).mono ?_
  rintro e w2 ⟨rfl, hb2⟩
  have HST2 := Lib.hid (HST.out.later hb2)
  have HB2 := Lib.hid (HB.out.trans (hb2.mono HB.out.size))
  clear hb2 HST HB HN
  go_wp2_with (first
      | (go_at_call 8; refine (HR1 _).mono ?_; rintro e w' ⟨rfl, rfl⟩)
      | (go_at_call 8; refine (HR2 _).mono ?_; rintro e w' ⟨rfl, rfl⟩))
  refine (alloc_young _ p mb NV _ HST2.out (HS.new_ok 200 8 20 (by omega) (by omega) (by omega)) 2 1 1 (by omega) (by omega) (by omega) (by decide) (by decide)).mono ?_
  rintro e w3 ⟨he, a1, a2⟩
  have ea : (2 * (((HS.new 200 8 20).at_ 1 : Nat) : Int)) = 2 := by decide
  rw [ea] at he
  subst he
  have HM := Lib.hid (first_minor (a1.later (below_lit9 w3 2)) (came_lit w3 2) (by have := a1.st.lt; omega) (by have := a1.mm.lt; omega))
  have hpl := a1.st.lt
  have hml := a1.mm.lt
  have HB3 := Lib.hid (a2.trans (HStep.of_below (below_lit9 w3 2)))
  clear a1 a2 ea HST2
  go_wp2_with fail
  refine HM.out.mono ?_
  rintro e w4 ⟨g, cap, z, S2, l, rfl, b1, b2, b3, b4, b5, b6, b7, b8⟩
  have HB4 := Lib.hid (HB3.out.trans b8)
  have hcfg := b7.cfg
  have hz : 0 ≤ z ∧ z ≤ 1000 := by omega
  have HZ := Lib.hid b2
  have HM4 := Lib.hid (m4_of (sz := 1 + ss) (f := 2 * (wd : Int) + 1) b7 (by omega) (by omega))
  have hbb : ¬ (S2.nursery - 1 < 1 + ss + 1) := by omega
  have hrr : RoomB S2 (1 + ss) = true := by unfold RoomB; rw [if_neg hbb]; simp; omega
  have HAL : Calls Try.prog 10 #[.pointer (some ⟨p, 0, none⟩), .int .i64 3, .int .i64 (1 + (ss : Int)), .int .i64 (2 * (wd : Int) + 1)] w4 (AllocPost p mb NV S2 3 (1 + ss) (2 * (wd : Int) + 1) w4) := by
    rw [← HE1.out]
    exact alloc_young w4 p mb NV S2 b6 b7.inv.ok 3 (1 + ss) (2 * (wd : Int) + 1) (by omega) (by omega) (by omega) hbb hrr
  have HOK := Lib.hid (b7.inv.ok.alloc (t := 3) (f := 2 * (wd : Int) + 1) hrr)
  have ea : (2 * ((S2.at_ (1 + ss) : Nat) : Int)) = 2 := by rw [at_young hbb]; omega
  have hgp : g ≠ p ∧ g ≠ mb := by
    have : (w3.alloc (.cells #[.int .i64 2] 3)).heap.size = w3.heap.size + 1 := by simp
    omega
  have hrm : (S2.alloc 3 (1 + ss) (2 * (wd : Int) + 1)).rem = [] := hcfg.2.2.2.2.1
  clear b2 b3 b5 b6 b7 b8 hbb hrr HB3 HM hpl hml
  go_wp2_with fail
  refine HAL.mono ?_
  rintro e w5 ⟨he, c1, c2⟩
  rw [ea] at he
  subst he
  have hg5 : w5.cell? ⟨g, 0, none⟩ = some (.int .i64 z) := (World.cell?_of_block (a := ⟨g, 0, none⟩) (c2.block g b4 hgp.1 hgp.2 (by simp [Value.ownBlock]))).trans b1
  have hg5l : g < w5.heap.size := Nat.lt_of_lt_of_le b4 c2.size
  have hin : inB ((22 : Nat) : Int) (S2.from_ : Int) ((S2.from_ : Int) + (S2.half : Int) - 1) = true := inB_true.2 (by omega)
  have hyg : youngB S2.nursery 2 = true := youngB_true.2 (by omega)
  have hz2 : z + 2 = 2 * ((22 : Nat) : Int) := by have := HZ.out; omega
  have h22 : 22 < S2.n := by omega
  have HSTO : Calls Try.prog 13 #[.pointer (some ⟨p, 0, none⟩), .int .i64 (z + 2), .int .i64 2] w5 (StorePost p mb (S2.alloc 3 (1 + ss) (2 * (wd : Int) + 1)) 22 2 w5) := by
    rw [hz2]
    exact store_first w5 p mb _ c1 HOK.out hrm 22 2 (by omega) ⟨by omega, h22⟩ hin hyg
  have HB5 := Lib.hid (HB4.out.trans c2)
  clear c1 c2 hin hyg hz2 h22 hcfg ea HAL hrm HB4 HOK
  have b1x := Lib.hid b1
  clear b1
  go_wp2_with fail
  refine HSTO.mono ?_
  rintro e w6 ⟨rv', rfl, d1, d2⟩
  have hg6 : w6.cell? ⟨g, 0, none⟩ = some (.int .i64 z) := (World.cell?_of_block (a := ⟨g, 0, none⟩) (d2.block g hg5l hgp.1 hgp.2 (by simp [Value.ownBlock]))).trans hg5
  have hg6l : g < w6.heap.size := Nat.lt_of_lt_of_le hg5l d2.size
  have hrg : rv'.ownBlock ≠ some g := fun e => by
    rcases d2.row g e with e | e
    · simp [Value.ownBlock] at e
    · omega
  have HM6 := Lib.hid (second_minor d1 HM4.out (by omega) (by omega))
  have HB6 := Lib.hid (HB5.out.trans d2)
  clear d1 d2 hg5 hg5l HSTO HB5
  go_wp2_with fail
  refine HM6.out.mono ?_
  rintro e w7 ⟨v7, S5, rfl, f1, f2, f3⟩
  have hg7 : w7.cell? ⟨g, 0, none⟩ = some (.int .i64 z) := (World.cell?_of_block (a := ⟨g, 0, none⟩) (f3.block g hg6l hgp.1 hgp.2 hrg)).trans hg6
  have HG7 : Hid (∀ q, (w7.drewN q).cell? ⟨g, 0, none⟩ = some (.int .i64 z)) := fun q => hg7
  obtain ⟨g1, g2, g3, g4⟩ := f2.cfg
  obtain ⟨g5, g6, g7⟩ := f2.o
  have hd := hdr_is 3 (1 + ss) (by omega) (by omega)
  have HUS := fun wx hx => used_any wx p mb NV S5 hx f2.ok
  have HTG := fun wx hx => tag_ok wx p mb NV S5 hx f2.ok 23 f2.ob
  have HL1 := fun wx hx => hload_ok wx p mb NV S5 hx f2.ok 22 (z + 2) (by have := HZ.out; omega) (by omega)
  obtain ⟨r, hr⟩ : ∃ r : Int, r = 2 * ((23 : Nat) : Int) := ⟨_, rfl⟩
  have hr46 : r = 46 := by rw [hr]; decide
  have hrb : 0 ≤ r ∧ r ≤ 100 := by omega
  have HL2 := fun wx hx => hload_ok wx p mb NV S5 hx f2.ok (23 + (1 + ss)) (r + 2 * (1 + (ss : Int))) (by rw [hr]; push_cast; omega) (by omega)
  rw [g5, ← hr46] at HL1
  rw [g7] at HL2
  have e8 : S5.m 23 / 8192 = 3 := by rw [g6, hd.2.2.1]; rfl
  have e9 : ((hsize (S5.m 23) : Nat) : Int) = 1 + (ss : Int) := by rw [g6, hd.2.1]; exact HE1.out
  rw [e8, e9, ← hr] at HTG
  obtain ⟨O, hO⟩ : ∃ O, O = (S5.old : Int) - S5.from_ := ⟨_, rfl⟩
  have e3 : (S5.young : Int) - 1 = 0 := by omega
  rw [e3, ← hO] at HUS
  have zO : (O == 2 + (1 + (ss : Int)) + 1) = true := by
    have : O = 2 + (1 + (ss : Int)) + 1 := by rw [hO, g4, g3]; push_cast; omega
    simp [this]
  have zk : ((1 + (ss : Int)) == 1 + (ss : Int)) = true := by simp
  have zf : ((2 * (wd : Int) + 1) == 2 * (wd : Int) + 1) = true := by simp
  have H7 := Lib.hid f1
  have HB7 := Lib.hid (HB2.out.trans ((HB6.out.trans f3).below hp hm (fun g hg => by simp [Value.ownBlock] at hg) HB2.out.size))
  clear f1 f2 f3 g1 g2 g3 g4 g5 g6 g7 hd hr hr46 e8 e9 hO e3 hg7 hg6 hg6l hrg HM6 HB6 HM4 HB2
  go_wp2_with (first
    | (go_at_call 19; refine (HUS _ H7.out).mono ?_; rintro e w' ⟨q1, rfl, rfl⟩; have y1 := HG7.out q1))
  refine (HL1 _ (H7.out.drewN _)).mono ?_
  rintro e w' ⟨rfl, q2, rfl⟩
  clear HL1 HUS
  go_wp2_with (first
    | (go_at_call 21; refine (HTG _ (H7.out.drewN _)).mono ?_; rintro e w' ⟨q3, rfl, rfl⟩))
  refine (HL2 _ (H7.out.drewN _)).mono ?_
  rintro e w' ⟨rfl, q4, rfl⟩
  clear HL2 HTG
  go_wp2_with fail
  go_ret
  exact ⟨rfl, HB7.out.trans (below_drewN_self _ _ _)⟩
end Go.Proofs.Ytkpeeemnholmnaa
