/- The walk of HeapChains. Printed by wip/chainsw.py. -/
import Derived.Test.YtkpeeemnholmnaaHeapLiveW
import Derived.Test.YtkpeeemnholmnaaHeapLd
namespace Go.Proofs.Ytkpeeemnholmnaa
open Go.RowKit
set_option linter.unusedVariables false

set_option maxRecDepth 100000 in
set_option maxHeartbeats 4000000 in
theorem heapChains_walk (m0 u0 n0 s0 g0 : Int) (w : World) (_h0 : -9223372036854775808 ≤ m0 ∧ m0 ≤ 9223372036854775807) (_h1 : -9223372036854775808 ≤ u0 ∧ u0 ≤ 9223372036854775807) (_h2 : -9223372036854775808 ≤ n0 ∧ n0 ≤ 9223372036854775807) (_h3 : -9223372036854775808 ≤ s0 ∧ s0 ≤ 9223372036854775807) (_h4 : -9223372036854775808 ≤ g0 ∧ g0 ≤ 9223372036854775807) :
    Calls Try.prog 6 #[.int .i64 m0, .int .i64 u0, .int .i64 n0, .int .i64 s0, .int .i64 g0] w fun e w' => e = .returned (.bool true) ∧ Below w.heap.size w w' := by
  have hmf : ∀ (fn : Fn) (first cap : Array Value) (w : World), (Instr.makeFunc fn first cap).run Try.prog w = .ok (.func fn first cap) w := fun _ _ _ _ => rfl
  obtain ⟨mm, hmm⟩ : ∃ mm : Nat, (mm : Int) = m0 % 300 := ⟨(m0 % 300).toNat, by omega⟩
  obtain ⟨uu, huu⟩ : ∃ mm : Nat, (mm : Int) = u0 % 40 := ⟨(u0 % 40).toNat, by omega⟩
  obtain ⟨many, hmany⟩ : ∃ mm : Nat, (mm : Int) = n0 % 15 := ⟨(n0 % 15).toNat, by omega⟩
  obtain ⟨ss, hss⟩ : ∃ mm : Nat, (mm : Int) = s0 % 3 := ⟨(s0 % 3).toNat, by omega⟩
  obtain ⟨gg, hgg⟩ : ∃ mm : Nat, (mm : Int) = g0 % 6 := ⟨(g0 % 6).toNat, by omega⟩
  have hmb : mm < 300 := by omega
  have hub : uu < 40 := by omega
  have hyb : many < 15 := by omega
  have hsb : ss < 3 := by omega
  have hgb : gg < 6 := by omega
  have HR1 : ∀ w, Calls Try.prog 8 #[.int .i64 m0, .int .i64 300] w fun e w' => e = .returned (.int .i64 (mm : Int)) ∧ w = w' := fun w => by rw [hmm]; exact rest_any m0 300 w (by omega) (by omega)
  have HR5 : ∀ w, Calls Try.prog 8 #[.int .i64 u0, .int .i64 40] w fun e w' => e = .returned (.int .i64 (uu : Int)) ∧ w = w' := fun w => by rw [huu]; exact rest_any u0 40 w (by omega) (by omega)
  have HR2 : ∀ w, Calls Try.prog 8 #[.int .i64 n0, .int .i64 15] w fun e w' => e = .returned (.int .i64 (many : Int)) ∧ w = w' := fun w => by rw [hmany]; exact rest_any n0 15 w (by omega) (by omega)
  have HR3 : ∀ w, Calls Try.prog 8 #[.int .i64 s0, .int .i64 3] w fun e w' => e = .returned (.int .i64 (ss : Int)) ∧ w = w' := fun w => by rw [hss]; exact rest_any s0 3 w (by omega) (by omega)
  have HR4 : ∀ w, Calls Try.prog 8 #[.int .i64 g0, .int .i64 6] w fun e w' => e = .returned (.int .i64 (gg : Int)) ∧ w = w' := fun w => by rw [hgg]; exact rest_any g0 6 w (by omega) (by omega)
  have HN : ∀ w, Calls Try.prog 7 #[.int .i64 (200 + (mm : Int)), .int .i64 8, .int .i64 (4 + (uu : Int))] w (HNewPost (HS.new (200 + mm) 8 (4 + uu)) w) := fun w => hnew_ok (200 + mm) 8 (4 + uu) w (by omega) (by omega) (by omega)
  have HCI : Hid (CI (HS.new (200 + mm) 8 (4 + uu)) [] [] [] (1 + ss) 1) := CI.new (HInv.new _ _ _ (by omega) (by omega) (by omega)) (by omega) (by simp [HS.new]; omega)
  have e1 : ((1 + ss : Nat) : Int) = 1 + (ss : Int) := by push_cast; rfl
  have HCH : ∀ w p mb, HeapSt w p mb NV (HS.new (200 + mm) 8 (4 + uu)) → Calls Try.prog 22 #[.pointer (some ⟨p, 0, none⟩), .int .i64 (many : Int), .int .i64 (1 + (ss : Int))] w (ChainPost p mb (HS.new (200 + mm) 8 (4 + uu)) (1 + ss) many w) := fun w p mb hx => by rw [← e1]; exact chain_ok w p mb _ [] [] (1 + ss) many hx HCI.out (by omega)
  have HE1 := Lib.hid e1
  clear hmm huu hmany hss hgg e1
  go_enter Try.func6, Try.ntmps6
  go_wp2_with (first
      | (go_at_call 8; refine (HR1 _).mono ?_; rintro e w' ⟨rfl, rfl⟩)
      | (go_at_call 8; refine (HR5 _).mono ?_; rintro e w' ⟨rfl, rfl⟩))
  refine (HN _).mono ?_
  rintro e w1 ⟨p, mb, rfl, hst, hp, hm, hb⟩
  have HST := Lib.hid hst
  have HB := Lib.hid hb
  clear hst hb
  go_wp2_with fail
  refine (heapFactK_ok _).mono ?_
  rintro e w2 ⟨rfl, hb2⟩
  have HST2 := Lib.hid (HST.out.later hb2)
  have HB2 := Lib.hid (HB.out.trans (hb2.mono HB.out.size))
  clear hb2 HST HB HN
  go_wp2_with (first
      | (go_at_call 8; refine (HR2 _).mono ?_; rintro e w' ⟨rfl, rfl⟩)
      | (go_at_call 8; refine (HR3 _).mono ?_; rintro e w' ⟨rfl, rfl⟩))
  refine (HCH _ _ _ HST2.out).mono ?_
  rintro e w3 ⟨v, b, S1, l1, l2, cs, rfl, a1, a2, a3, a4, a5, a6⟩
  have HI : Hid (ChInv p mb S1 (1 + ss) cs.length w2 v w3) := ⟨S1, l1, l2, cs, a1, a2, rfl, Cfg.refl _, a6⟩
  obtain ⟨n, hn⟩ : ∃ n, n = cs.length := ⟨_, rfl⟩
  rw [← hn] at HI a3 a4
  have H4 := Lib.hid a4
  have hnm := a3
  clear a1 a2 a3 a4 a5 a6 hn HCH HST2
  go_wp2_with (first
      | (go_at_call 8; refine (HR4 _).mono ?_; rintro e w' ⟨rfl, rfl⟩))
  go_loopw [13, 59] (fun lv u wr => ∃ (k : Nat) (v : Int), k ≤ gg ∧ u = .int .i64 (k : Int) ∧ lv = .int .i64 v ∧ ChInv p mb S1 (1 + ss) n w2 v wr) (fun _ u _ => gg - (intOf u).toNat)
  case atStart => exact ⟨0, v, Nat.zero_le _, rfl, rfl, HI.out⟩
  case round =>
    clear HI
    obtain ⟨k, v, hk, rfl, rfl, hinv⟩ := hrel
    by_cases hlt : k < gg
    · rcases Nat.mod_two_eq_zero_or_one k with hk2 | hk2
      · have qk : ((k : Int) % 2 == 1) = false := by simp; omega
        obtain ⟨S2, l3, l4, cs2, b1, b2, b3, b4, b5⟩ := hinv
        have HCC := Lib.hid (minor_ci (b1.later ((Below.refl _ wr).alloc (Nat.le_refl _) (.cells #[.int .i64 v] 3))) b2 (came_lit wr v) (by have := b1.st.lt; omega) (by have := b1.mm.lt; omega))
        have HI2 : Hid (ChInv p mb S1 (1 + ss) n w2 v wr) := ⟨S2, l3, l4, cs2, b1, b2, b3, b4, b5⟩
        have H3 := Lib.hid b3
        have H4 := Lib.hid b4
        have H5 := Lib.hid b5
        clear b1 b2 b3 b4 b5
        go_wp2_with fail
        refine HCC.out.mono ?_
        rintro e w5 (⟨hmj, rfl, q3, rfl⟩ | ⟨g, cap, z, S3, l5, cs3, rfl, c1, c2, c3, c4, c5, c6, c7, c8, c9, c10, c11, c12⟩)
        · have HN : Hid (ChInv p mb S1 (1 + ss) n w2 v ((wr.alloc (.cells #[.int .i64 v] 3)).drewN q3)) := HI2.out.later ((below_lit wr v).trans (below_drewN_self _ _ q3))
          clear HCC HI2 H3 H4 H5
          go_wp2_with fail
          go_loopw [19] (fun u wr => ∃ i : Nat, i ≤ 30 ∧ u = .int .i64 (i : Int) ∧ ChInv p mb S1 (1 + ss) n w2 v wr) (fun u _ => 30 - (intOf u).toNat)
          case atStart => exact ⟨0, Nat.zero_le _, rfl, HN.out⟩
          case round =>
            clear HN
            obtain ⟨i, hi, rfl, S3, l5, l6, cs3, d1, d2, d3, d4, d5⟩ := hrel
            obtain ⟨s, hs⟩ : ∃ s : Nat, (s : Int) = (i : Int) % 3 := ⟨i % 3, by omega⟩
            have hs2 : s ≤ 2 := by omega
            have HRM : ∀ wx, HeapSt wx p mb NV S3 → Calls Try.prog 12 #[.pointer (some ⟨p, 0, none⟩), .int .i64 ((i : Int) % 3)] wx (BoolN (RoomB S3 s) wx) := fun wx hx => by rw [← hs]; exact room_any wx p mb NV S3 hx d2.inv.ok s (by omega)
            have HST := Lib.hid d1
            have HQ : Hid (∀ q, ChInv p mb S1 (1 + ss) n w2 v (wr.drewN q)) := fun q => ⟨S3, l5, l6, cs3, d1.drewN q, d2, d3, d4, d5.trans (HStep.drewN q)⟩
            rcases Bool.eq_false_or_eq_true (RoomB S3 s) with hr | hr <;> rw [hr] at HRM
            · have HGA : ∀ q, i < 30 → Calls Try.prog 10 #[.pointer (some ⟨p, 0, none⟩), .int .i64 (i : Int), .int .i64 ((i : Int) % 3), .int .i64 1] (wr.drewN q) (GarbPost p mb S1 (1 + ss) n w2 v) := fun q hq => by
                rw [← hs]
                exact garb_ci (d1.drewN q) d2 d3 d4 (d5.trans (HStep.drewN q)) i s (by omega) (by omega) hr (.inl rfl)
              clear d1 d2 d3 d4 d5 hr hs
              by_cases hlt : i < 30
              · have hz : (i : Int) < 30 := by omega
                go_wp2_with (first
                  | (go_at_call 12; refine (HRM _ HST.out).mono ?_; rintro e w' ⟨q1, rfl, rfl⟩))
                refine (HGA q1 hlt).mono ?_
                rintro e w7 ⟨x, rfl, h6⟩
                have H6 := Lib.hid h6
                clear h6
                go_wp2_with fail
                go_roundw
                case rel => exact ⟨i + 1, by omega, by go_num, H6.out⟩
                case measure => simp [intOf]; omega
              · have hz : ¬ (i : Int) < 30 := by omega
                go_wp2_with (first
                  | (go_at_call 12; refine (HRM _ HST.out).mono ?_; rintro e w' ⟨q1, rfl, rfl⟩))
                go_roundw
                case rel => exact ⟨k + 1, v, by omega, by go_num, rfl, HQ.out _⟩
                case measure => simp [intOf]; omega
            · clear d1 d2 d3 d4 d5 hr hs
              go_wp2_with (first
                  | (go_at_call 12; refine (HRM _ HST.out).mono ?_; rintro e w' ⟨q1, rfl, rfl⟩))
              go_roundw
              case rel => exact ⟨k + 1, v, by omega, by go_num, rfl, HQ.out _⟩
              case measure => simp [intOf]; omega
        · have HN : Hid (ChInv p mb S1 (1 + ss) n w2 z w5) := ⟨S3, [], l5, cs3, c6, c7, by rw [c8, H3.out], H4.out.trans c9, (H5.out.trans (HStep.of_below (below_lit wr v))).trans c12⟩
          clear HCC HI2 c2 c5 c6 c7 c8 c9 c10 c11 c12 H3 H4 H5
          go_wp2_with fail
          go_loopw [19] (fun u wr => ∃ i : Nat, i ≤ 30 ∧ u = .int .i64 (i : Int) ∧ ChInv p mb S1 (1 + ss) n w2 z wr) (fun u _ => 30 - (intOf u).toNat)
          case atStart => exact ⟨0, Nat.zero_le _, rfl, HN.out⟩
          case round =>
            clear HN
            obtain ⟨i, hi, rfl, S3, l5, l6, cs3, d1, d2, d3, d4, d5⟩ := hrel
            obtain ⟨s, hs⟩ : ∃ s : Nat, (s : Int) = (i : Int) % 3 := ⟨i % 3, by omega⟩
            have hs2 : s ≤ 2 := by omega
            have HRM : ∀ wx, HeapSt wx p mb NV S3 → Calls Try.prog 12 #[.pointer (some ⟨p, 0, none⟩), .int .i64 ((i : Int) % 3)] wx (BoolN (RoomB S3 s) wx) := fun wx hx => by rw [← hs]; exact room_any wx p mb NV S3 hx d2.inv.ok s (by omega)
            have HST := Lib.hid d1
            have HQ : Hid (∀ q, ChInv p mb S1 (1 + ss) n w2 z (wr.drewN q)) := fun q => ⟨S3, l5, l6, cs3, d1.drewN q, d2, d3, d4, d5.trans (HStep.drewN q)⟩
            rcases Bool.eq_false_or_eq_true (RoomB S3 s) with hr | hr <;> rw [hr] at HRM
            · have HGA : ∀ q, i < 30 → Calls Try.prog 10 #[.pointer (some ⟨p, 0, none⟩), .int .i64 (i : Int), .int .i64 ((i : Int) % 3), .int .i64 1] (wr.drewN q) (GarbPost p mb S1 (1 + ss) n w2 z) := fun q hq => by
                rw [← hs]
                exact garb_ci (d1.drewN q) d2 d3 d4 (d5.trans (HStep.drewN q)) i s (by omega) (by omega) hr (.inl rfl)
              clear d1 d2 d3 d4 d5 hr hs
              by_cases hlt : i < 30
              · have hz : (i : Int) < 30 := by omega
                go_wp2_with (first
                  | (go_at_call 12; refine (HRM _ HST.out).mono ?_; rintro e w' ⟨q1, rfl, rfl⟩))
                refine (HGA q1 hlt).mono ?_
                rintro e w7 ⟨x, rfl, h6⟩
                have H6 := Lib.hid h6
                clear h6
                go_wp2_with fail
                go_roundw
                case rel => exact ⟨i + 1, by omega, by go_num, H6.out⟩
                case measure => simp [intOf]; omega
              · have hz : ¬ (i : Int) < 30 := by omega
                go_wp2_with (first
                  | (go_at_call 12; refine (HRM _ HST.out).mono ?_; rintro e w' ⟨q1, rfl, rfl⟩))
                go_roundw
                case rel => exact ⟨k + 1, z, by omega, by go_num, rfl, HQ.out _⟩
                case measure => simp [intOf]; omega
            · clear d1 d2 d3 d4 d5 hr hs
              go_wp2_with (first
                  | (go_at_call 12; refine (HRM _ HST.out).mono ?_; rintro e w' ⟨q1, rfl, rfl⟩))
              go_roundw
              case rel => exact ⟨k + 1, z, by omega, by go_num, rfl, HQ.out _⟩
              case measure => simp [intOf]; omega
      · have qk : ((k : Int) % 2 == 1) = true := by simp; omega
        obtain ⟨S2, l3, l4, cs2, b1, b2, b3, b4, b5⟩ := hinv
        have HCC := Lib.hid (major_ci (b1.later ((Below.refl _ wr).alloc (Nat.le_refl _) (.cells #[.int .i64 v] 3))) b2 (came_lit wr v) (by have := b1.st.lt; omega) (by have := b1.mm.lt; omega))
        have HI2 : Hid (ChInv p mb S1 (1 + ss) n w2 v wr) := ⟨S2, l3, l4, cs2, b1, b2, b3, b4, b5⟩
        have H3 := Lib.hid b3
        have H4 := Lib.hid b4
        have H5 := Lib.hid b5
        clear b1 b2 b3 b4 b5
        go_wp2_with fail
        refine HCC.out.mono ?_
        rintro e w5 (⟨hmj, rfl, q3, rfl⟩ | ⟨g, cap, z, S3, l5, cs3, rfl, c1, c2, c3, c4, c5, c6, c7, c8, c9, c10, c11, c12⟩)
        · cases hmj
        · have HN : Hid (ChInv p mb S1 (1 + ss) n w2 z w5) := ⟨S3, [], l5, cs3, c6, c7, by rw [c8, H3.out], H4.out.trans c9, (H5.out.trans (HStep.of_below (below_lit wr v))).trans c12⟩
          clear HCC HI2 c2 c5 c6 c7 c8 c9 c10 c11 c12 H3 H4 H5
          go_wp2_with fail
          go_loopw [19] (fun u wr => ∃ i : Nat, i ≤ 30 ∧ u = .int .i64 (i : Int) ∧ ChInv p mb S1 (1 + ss) n w2 z wr) (fun u _ => 30 - (intOf u).toNat)
          case atStart => exact ⟨0, Nat.zero_le _, rfl, HN.out⟩
          case round =>
            clear HN
            obtain ⟨i, hi, rfl, S3, l5, l6, cs3, d1, d2, d3, d4, d5⟩ := hrel
            obtain ⟨s, hs⟩ : ∃ s : Nat, (s : Int) = (i : Int) % 3 := ⟨i % 3, by omega⟩
            have hs2 : s ≤ 2 := by omega
            have HRM : ∀ wx, HeapSt wx p mb NV S3 → Calls Try.prog 12 #[.pointer (some ⟨p, 0, none⟩), .int .i64 ((i : Int) % 3)] wx (BoolN (RoomB S3 s) wx) := fun wx hx => by rw [← hs]; exact room_any wx p mb NV S3 hx d2.inv.ok s (by omega)
            have HST := Lib.hid d1
            have HQ : Hid (∀ q, ChInv p mb S1 (1 + ss) n w2 z (wr.drewN q)) := fun q => ⟨S3, l5, l6, cs3, d1.drewN q, d2, d3, d4, d5.trans (HStep.drewN q)⟩
            rcases Bool.eq_false_or_eq_true (RoomB S3 s) with hr | hr <;> rw [hr] at HRM
            · have HGA : ∀ q, i < 30 → Calls Try.prog 10 #[.pointer (some ⟨p, 0, none⟩), .int .i64 (i : Int), .int .i64 ((i : Int) % 3), .int .i64 1] (wr.drewN q) (GarbPost p mb S1 (1 + ss) n w2 z) := fun q hq => by
                rw [← hs]
                exact garb_ci (d1.drewN q) d2 d3 d4 (d5.trans (HStep.drewN q)) i s (by omega) (by omega) hr (.inl rfl)
              clear d1 d2 d3 d4 d5 hr hs
              by_cases hlt : i < 30
              · have hz : (i : Int) < 30 := by omega
                go_wp2_with (first
                  | (go_at_call 12; refine (HRM _ HST.out).mono ?_; rintro e w' ⟨q1, rfl, rfl⟩))
                refine (HGA q1 hlt).mono ?_
                rintro e w7 ⟨x, rfl, h6⟩
                have H6 := Lib.hid h6
                clear h6
                go_wp2_with fail
                go_roundw
                case rel => exact ⟨i + 1, by omega, by go_num, H6.out⟩
                case measure => simp [intOf]; omega
              · have hz : ¬ (i : Int) < 30 := by omega
                go_wp2_with (first
                  | (go_at_call 12; refine (HRM _ HST.out).mono ?_; rintro e w' ⟨q1, rfl, rfl⟩))
                go_roundw
                case rel => exact ⟨k + 1, z, by omega, by go_num, rfl, HQ.out _⟩
                case measure => simp [intOf]; omega
            · clear d1 d2 d3 d4 d5 hr hs
              go_wp2_with (first
                  | (go_at_call 12; refine (HRM _ HST.out).mono ?_; rintro e w' ⟨q1, rfl, rfl⟩))
              go_roundw
              case rel => exact ⟨k + 1, z, by omega, by go_num, rfl, HQ.out _⟩
              case measure => simp [intOf]; omega
    · obtain ⟨S2, l3, l4, cs2, b1, b2, b3, b4, b5⟩ := hinv
      have HCK := fun wx hx => check_ok wx p mb NV S2 hx b2.inv.ok l3 l4 b2.inv.wf
      have HTG := fun j (hj : j ∈ l3 ++ l4) wx hx => tag_ok wx p mb NV S2 hx b2.inv.ok j (b2.inv.objAt hj)
      have HLD := fun i ii e hi wx hx => hload_ok wx p mb NV S2 hx b2.inv.ok i ii e hi
      have HCI2 := Lib.hid b2
      have HX : Hid (∃ r, ChainV S2.m (1 + ss) r v ∧ (∀ j ∈ r, j ∈ l3 ++ l4) ∧ 0 + r.length = n) := ⟨cs2, b2.ch, b2.sub, by omega⟩
      have HST := Lib.hid b1
      have HB5 := Lib.hid b5
      clear b1 b2 b3 b4 b5
      go_wp2_with fail
      go_loopw [20, 21] (fun nv u wr => ∃ (i : Nat) (v : Int), nv = .int .i64 (i : Int) ∧ u = .int .i64 v ∧ (∃ r, ChainV S2.m (1 + ss) r v ∧ (∀ j ∈ r, j ∈ l3 ++ l4) ∧ i + r.length = n) ∧ HeapSt wr p mb NV S2 ∧ HStep p mb NV NV w2 wr) (fun nv _ _ => n - (intOf nv).toNat)
      case atStart => exact ⟨0, v, rfl, rfl, HX.out, HST.out, HB5.out⟩
      case round =>
        clear HX HST HB5
        obtain ⟨i, v, rfl, rfl, ⟨r, hr1, hr2, hr3⟩, hst, hsp⟩ := hrel
        have HST := Lib.hid hst
        have HSP := Lib.hid hsp
        clear hst hsp
        cases r with
        | cons j r =>
          obtain ⟨g1, g2, g3, v2, g4, g5⟩ := hr1
          have hjm := hr2 j List.mem_cons_self
          have hjp := HCI2.out.inv.pos hjm
          have hjw := HCI2.out.inv.wf.mem HCI2.out.inv.ok j hjm
          have hjn := HCI2.out.inv.ok.st
          have HT := HTG j hjm
          have hd := hdr_is 1 (1 + ss) (by omega) (by omega)
          have hsz : hsize (S2.m j) = 1 + ss := by rw [g3]; exact hd.2.1
          have hld := HLD (j + 1) (v + 2) (by omega) (by omega)
          rw [g4 1 (by omega) (by omega)] at hld
          have e8 : S2.m j / 8192 = 1 := by rw [g3, hd.2.2.1]; rfl
          rw [e8, hsz, HE1.out] at HT
          have HNX : Hid (∃ r, ChainV S2.m (1 + ss) r v2 ∧ (∀ j ∈ r, j ∈ l3 ++ l4) ∧ (i + 1) + r.length = n) := ⟨r, g5, fun j hj => hr2 j (List.mem_cons_of_mem _ hj), by simp only [List.length_cons] at hr3; omega⟩
          have hin : i < n := by simp only [List.length_cons] at hr3; omega
          have qv : (v % 2 == 0) = true := by rw [g1]; simp
          have qi : (i : Int) ≤ (many : Int) := by omega
          have hvb : 2 ≤ v ∧ v ≤ 200000 := by omega
          rw [← g1] at HT
          have zs : ((1 + (ss : Int)) != 1 + (ss : Int)) = false := by simp
          clear hr2 hr3 g1 g2 g3 g4 g5 e8 hsz hd hjm hjp hjw hjn
          go_wp2_with (first
            | (go_at_call 21; refine (HT _ HST.out).mono ?_; rintro e w' ⟨q2, rfl, rfl⟩)
            | (go_at_call 20; refine (hld _ (HST.out.drewN _)).mono ?_; rintro e w' ⟨rfl, q3, rfl⟩))
          go_roundw
          case rel => exact ⟨i + 1, v2, by go_num, rfl, HNX.out, HST.out.drewN (q2 + q3), HSP.out.trans (HStep.drewN (q2 + q3))⟩
          case measure => simp [intOf]; omega
        | nil =>
          have hv : v = 1 := hr1
          have qv : (v % 2 == 0) = false := by rw [hv]; decide
          have hvb : 0 ≤ v ∧ v ≤ 2 := by omega
          simp only [List.length_nil] at hr3
          have hend : b = false ∨ (b = true ∧ ((i : Int) == (many : Int)) = true) := by
            cases b with
            | false => exact .inl rfl
            | true =>
              have := H4.out rfl
              exact .inr ⟨rfl, by simp; omega⟩
          clear hr1 hr2 HTG HLD hv
          rcases hend with rfl | ⟨rfl, z5⟩ <;> clear H4
          all_goals
            go_wp2_with (first
              | (go_at_call 17; refine (HCK _ HST.out).mono ?_; rintro e w' ⟨rfl, hb9⟩))
            go_ret
            exact ⟨rfl, HB2.out.trans ((HSP.out.trans (HStep.of_below hb9)).below hp hm (fun g hg => by simp [Value.ownBlock] at hg) HB2.out.size)⟩
end Go.Proofs.Ytkpeeemnholmnaa
