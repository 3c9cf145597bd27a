/- The walk of HeapLive. -/
import Derived.Test.YtkpeeemnholmnaaChainW
namespace Go.Proofs.Ytkpeeemnholmnaa
open Go.RowKit
set_option linter.unusedVariables false

def GarbPost (p mb : Nat) (S : HS) (sz k : Nat) (w0 : World) (v : Int) (e : Ending) (w' : World) : Prop :=
  ∃ x : Int, e = .returned (.tuple #[.int .i64 x, .int .i64 0]) ∧ ChInv p mb S sz k w0 v w'
/-- an object beside the chain -/
theorem garb_ci {w w0 : World} {p mb : Nat} {S S1 : HS} {sz k : Nat} {v f : Int} {l1 l2 cs : List Nat} (h1 : HeapSt w p mb NV S1) (h2 : CI S1 l1 l2 cs sz v) (h3 : cs.length = k) (h4 : Cfg S S1) (h5 : HStep p mb NV NV w0 w) (t s : Nat) (ht : t ≤ 258) (hs : s ≤ 3) (hr : RoomB S1 s = true) (hf : f = 1 ∨ f = v) :
    Calls Try.prog 10 #[.pointer (some ⟨p, 0, none⟩), .int .i64 (t : Int), .int .i64 (s : Int), .int .i64 f] w (GarbPost p mb S sz k w0 v) := by
  have hn := h2.inv.ok.nu
  have hb : ¬ (S1.nursery - 1 < s + 1) := by omega
  obtain ⟨w1, w2, w3⟩ := h2.word
  have hfw : WordV (l1 ++ l2) f ∧ -2147483648 ≤ f ∧ f ≤ 2147483647 := by
    rcases hf with rfl | rfl
    · exact ⟨.inl ⟨by omega, by omega, by omega⟩, by omega, by omega⟩
    · exact ⟨w1, w3⟩
  refine (alloc_young w p mb NV S1 h1 h2.inv.ok t s f ht (by omega) hfw.2 hb hr).mono ?_
  rintro e w' ⟨rfl, h6, h7⟩
  exact ⟨_, rfl, _, _, _, cs, h6, h2.alloc ht (by omega) hb hr hfw.1 hfw.2, h3, h4.trans ⟨rfl, rfl, rfl, rfl⟩, h5.trans h7⟩

set_option maxRecDepth 100000 in
set_option maxHeartbeats 4000000 in
theorem heapLive_walk (m0 n0 s0 g0 : Int) (w : World) (_h0 : -9223372036854775808 ≤ m0 ∧ m0 ≤ 9223372036854775807) (_h1 : -9223372036854775808 ≤ n0 ∧ n0 ≤ 9223372036854775807) (_h2 : -9223372036854775808 ≤ s0 ∧ s0 ≤ 9223372036854775807) (_h3 : -9223372036854775808 ≤ g0 ∧ g0 ≤ 9223372036854775807) :
    Calls Try.prog 5 #[.int .i64 m0, .int .i64 n0, .int .i64 s0, .int .i64 g0] w fun e w' => e = .returned (.bool true) ∧ Below w.heap.size w w' := by
  obtain ⟨mm, hmm⟩ : ∃ mm : Nat, (mm : Int) = m0 % 200 := ⟨(m0 % 200).toNat, by omega⟩
  obtain ⟨many, hmany⟩ : ∃ mm : Nat, (mm : Int) = n0 % 15 := ⟨(n0 % 15).toNat, by omega⟩
  obtain ⟨ss, hss⟩ : ∃ mm : Nat, (mm : Int) = s0 % 3 := ⟨(s0 % 3).toNat, by omega⟩
  obtain ⟨gg, hgg⟩ : ∃ mm : Nat, (mm : Int) = g0 % 10 := ⟨(g0 % 10).toNat, by omega⟩
  have hmb : mm < 200 := by omega
  have hyb : many < 15 := by omega
  have hsb : ss < 3 := by omega
  have hgb : gg < 10 := by omega
  have HR1 : ∀ w, Calls Try.prog 8 #[.int .i64 m0, .int .i64 200] w fun e w' => e = .returned (.int .i64 (mm : Int)) ∧ w = w' := fun w => by rw [hmm]; exact rest_any m0 200 w (by omega) (by omega)
  have HR2 : ∀ w, Calls Try.prog 8 #[.int .i64 n0, .int .i64 15] w fun e w' => e = .returned (.int .i64 (many : Int)) ∧ w = w' := fun w => by rw [hmany]; exact rest_any n0 15 w (by omega) (by omega)
  have HR3 : ∀ w, Calls Try.prog 8 #[.int .i64 s0, .int .i64 3] w fun e w' => e = .returned (.int .i64 (ss : Int)) ∧ w = w' := fun w => by rw [hss]; exact rest_any s0 3 w (by omega) (by omega)
  have HR4 : ∀ w, Calls Try.prog 8 #[.int .i64 g0, .int .i64 10] w fun e w' => e = .returned (.int .i64 (gg : Int)) ∧ w = w' := fun w => by rw [hgg]; exact rest_any g0 10 w (by omega) (by omega)
  have HN : ∀ w, Calls Try.prog 7 #[.int .i64 (300 + (mm : Int)), .int .i64 8, .int .i64 20] w (HNewPost (HS.new (300 + mm) 8 20) w) := fun w => hnew_ok (300 + mm) 8 20 w (by omega) (by omega) (by omega)
  have HCI : Hid (CI (HS.new (300 + mm) 8 20) [] [] [] (1 + ss) 1) := CI.new (HInv.new _ _ _ (by omega) (by omega) (by omega)) (by omega) (by simp [HS.new]; omega)
  have e1 : ((1 + ss : Nat) : Int) = 1 + (ss : Int) := by push_cast; rfl
  have HCH : ∀ w p mb, HeapSt w p mb NV (HS.new (300 + mm) 8 20) → Calls Try.prog 22 #[.pointer (some ⟨p, 0, none⟩), .int .i64 (many : Int), .int .i64 (1 + (ss : Int))] w (ChainPost p mb (HS.new (300 + mm) 8 20) (1 + ss) many w) := fun w p mb hx => by rw [← e1]; exact chain_ok w p mb _ [] [] (1 + ss) many hx HCI.out (by omega)
  clear hmm hmany hss hgg e1
  go_enter Try.func5, Try.ntmps5
  go_wp2_with (first
      | (go_at_call 8; refine (HR1 _).mono ?_; rintro e w' ⟨rfl, rfl⟩))
  refine (HN _).mono ?_
  rintro e w1 ⟨p, mb, rfl, hst, hp, hm, hb⟩
  have HST := Lib.hid hst
  have HB := Lib.hid hb
  clear hst hb
  go_wp2_with fail
  refine (heapFactK_ok _).mono ?_
  rintro e w2 ⟨rfl, hb2⟩
  have HST2 := Lib.hid (HST.out.later hb2)
  have HB2 := Lib.hid (HB.out.trans (hb2.mono HB.out.size))
  clear hb2 HST HB HN
  go_wp2_with (first
      | (go_at_call 8; refine (HR2 _).mono ?_; rintro e w' ⟨rfl, rfl⟩)
      | (go_at_call 8; refine (HR3 _).mono ?_; rintro e w' ⟨rfl, rfl⟩))
  refine (HCH _ _ _ HST2.out).mono ?_
  rintro e w3 ⟨v, b, S1, l1, l2, cs, rfl, a1, a2, a3, a4, a5, a6⟩
  have HI : Hid (ChInv p mb S1 (1 + ss) cs.length w2 v w3) := ⟨S1, l1, l2, cs, a1, a2, rfl, Cfg.refl _, a6⟩
  obtain ⟨n, hn⟩ : ∃ n, n = cs.length := ⟨_, rfl⟩
  rw [← hn] at HI a3 a4
  have H4 := Lib.hid a4
  have H3 := Lib.hid a3
  clear a1 a2 a3 a4 a5 a6 hn HCH HST2
  go_wp2_with (first
      | (go_at_call 8; refine (HR4 _).mono ?_; rintro e w' ⟨rfl, rfl⟩))
  go_loopw [49] (fun u wr => ∃ i : Nat, i ≤ gg ∧ u = .int .i64 (i : Int) ∧ ChInv p mb S1 (1 + ss) n w2 v wr) (fun u _ => gg - (intOf u).toNat)
  case atStart => exact ⟨0, Nat.zero_le _, rfl, HI.out⟩
  case round =>
    clear HI
    obtain ⟨i, hi, rfl, S2, l3, l4, cs2, b1, b2, b3, b4, b5⟩ := hrel
    by_cases hlt : i < gg
    · have HRM := fun wx hx => room_any wx p mb NV S2 hx b2.inv.ok 2 (by omega)
      have HST := Lib.hid b1
      cases hr : RoomB S2 2
      · rw [hr] at HRM
        have HN : Hid (∀ q, ChInv p mb S1 (1 + ss) n w2 v (wr.drewN q)) := fun q => ⟨S2, l3, l4, cs2, b1.drewN q, b2, b3, b4, b5.trans (HStep.drewN q)⟩
        clear b1 b2 b3 b4 b5 hr
        go_wp2_with (first
          | (go_at_call 12; refine (HRM _ HST.out).mono ?_; rintro e w' ⟨q1, rfl, rfl⟩))
        go_roundw
        case rel => exact ⟨i + 1, by omega, by go_num, HN.out _⟩
        case measure => simp [intOf]; omega
      · rw [hr] at HRM
        have HGA : ∀ q, Calls Try.prog 10 #[.pointer (some ⟨p, 0, none⟩), .int .i64 5, .int .i64 2, .int .i64 v] (wr.drewN q) (GarbPost p mb S1 (1 + ss) n w2 v) := fun q =>
          garb_ci (b1.drewN q) b2 b3 b4 (b5.trans (HStep.drewN q)) 5 2 (by omega) (by omega) hr (.inr rfl)
        clear b1 b2 b3 b4 b5 hr
        go_wp2_with (first
          | (go_at_call 12; refine (HRM _ HST.out).mono ?_; rintro e w' ⟨q1, rfl, rfl⟩))
        refine (HGA _).mono ?_
        rintro e w4 ⟨x, rfl, h6⟩
        have H6 := Lib.hid h6
        clear h6
        go_wp2_with fail
        go_roundw
        case rel => exact ⟨i + 1, by omega, by go_num, H6.out⟩
        case measure => simp [intOf]; omega
    · have HCC := Lib.hid (major_ci (b1.later ((Below.refl _ wr).alloc (Nat.le_refl _) (.cells #[.int .i64 v] 3))) b2 (came_lit wr v) (by have := b1.st.lt; omega) (by have := b1.mm.lt; omega))
      have HB3 := Lib.hid b3
      have HB5 := Lib.hid (b5.trans (HStep.of_below (below_lit wr v)))
      have hpl := b1.st.lt
      have hml := b1.mm.lt
      clear b1 b2 b4 b5
      go_wp2_with fail
      refine HCC.out.mono ?_
      rintro e w5 (⟨hmj, _⟩ | ⟨g, cap, z, S3, l5, cs3, rfl, c1, c2, c3, c4, c5, c6, c7, c8, c9, c10, c11, c12⟩)
      · cases hmj
      have hg : p < g ∧ mb < g := by
        have : (wr.alloc (.cells #[.int .i64 v] 3)).heap.size = wr.heap.size + 1 := by simp
        omega
      have HCD := Lib.hid (fun q => major_ci (c6.drewN q) c7 (c5.below (below_drewN_self _ _ q)) (by omega) (by omega))
      have hus := fun wx hx => used_any wx p mb NV S3 hx c7.inv.ok
      obtain ⟨O, hO⟩ : ∃ O, O = (S3.old : Int) - S3.from_ := ⟨_, rfl⟩
      have e3 : (S3.young : Int) - 1 = 0 := by omega
      have e4 : O = ((n * (1 + ss + 1) : Nat) : Int) := by
        have := c11 rfl
        rw [b3] at this
        omega
      rw [e3, ← hO] at hus
      have HS3 := Lib.hid c6
      have HB6 := Lib.hid (HB5.out.trans c12)
      have HE4 := Lib.hid e4
      have H8 : Hid (cs3.length = n) := c8.trans b3
      clear c2 c3 c5 c6 c7 c8 c9 c10 c11 c12 hO e3 e4 HCC b3 HB3 HB5 hpl hml hg
      go_wp2_with (first
        | (go_at_call 19; refine (hus _ HS3.out).mono ?_; rintro e w' ⟨q2, rfl, rfl⟩))
      refine (HCD.out q2).mono ?_
      rintro e w6 (⟨hmj, _⟩ | ⟨g2, cap2, z2, S4, l6, cs4, rfl, d1, d2, d3, d4, d5, d6, d7, d8, d9, d10, d11, d12⟩)
      · cases hmj
      have hus2 := fun wx hx => used_any wx p mb NV S4 hx d7.inv.ok
      have e3 : (S4.young : Int) - 1 = 0 := by omega
      have e4 : (S4.old : Int) - S4.from_ = O := by
        have := d11 rfl
        rw [H8.out] at this
        have := HE4.out
        omega
      rw [e3, e4] at hus2
      have HS4 := Lib.hid d6
      have HB7 := Lib.hid (HB2.out.trans (((HB6.out.trans (HStep.drewN q2)).trans d12).below hp hm (fun g hg => by simp [Value.ownBlock] at hg) HB2.out.size))
      clear d1 d2 d3 d4 d5 d6 d7 d8 d9 d10 d11 d12 e3 e4 hus HCD HB6 HS3 HB2
      have hend : b = false ∨ (b = true ∧ (O == (many : Int) * (1 + (ss : Int) + 1)) = true ∧ (0 ≤ (many : Int) * (1 + (ss : Int) + 1) ∧ (many : Int) * (1 + (ss : Int) + 1) ≤ 1000)) := by
        cases b with
        | false => exact .inl rfl
        | true =>
          have e5 : O = (many : Int) * (1 + (ss : Int) + 1) := by
            rw [HE4.out, H4.out rfl]; push_cast; rfl
          refine .inr ⟨rfl, by simp [e5], ?_⟩
          rcases (by omega : ss = 0 ∨ ss = 1 ∨ ss = 2) with rfl | rfl | rfl <;> omega
      rcases hend with rfl | ⟨rfl, z5, z6⟩ <;> clear HE4 H4 H3 H8
      all_goals
        go_wp2_with (first
          | (go_at_call 19; refine (hus2 _ HS4.out).mono ?_; rintro e w' ⟨q3, rfl, rfl⟩))
        go_ret
        exact ⟨rfl, HB7.out.trans (below_drewN_self _ _ q3)⟩
end Go.Proofs.Ytkpeeemnholmnaa
