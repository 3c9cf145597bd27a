/- The contract of the law's chain. -/
import Derived.Test.YtkpeeemnholmnaaChainC
namespace Go.Proofs.Ytkpeeemnholmnaa
open Go.RowKit
set_option linter.unusedVariables false

def ChainPost (p mb : Nat) (S : HS) (sz many : Nat) (w : World) (e : Ending) (w' : World) : Prop :=
  ∃ v b S' l1 l2 cs, e = .returned (.tuple #[.int .i64 v, .bool b]) ∧ HeapSt w' p mb NV S' ∧ CI S' l1 l2 cs sz v ∧ cs.length ≤ many ∧ (b = true → cs.length = many) ∧ Cfg S S' ∧ HStep p mb NV NV w w'
/-- where the chain's loop stands -/
def ChInv (p mb : Nat) (S : HS) (sz k : Nat) (w : World) (v : Int) (wr : World) : Prop :=
  ∃ S' l1 l2 cs, HeapSt wr p mb NV S' ∧ CI S' l1 l2 cs sz v ∧ cs.length = k ∧ Cfg S S' ∧ HStep p mb NV NV w wr

theorem ChInv.later {p mb : Nat} {S : HS} {sz k : Nat} {w wr wr' : World} {v : Int} (h : ChInv p mb S sz k w v wr) (hb : Below wr.heap.size wr wr') : ChInv p mb S sz k w v wr' := by
  obtain ⟨S1, l1, l2, cs, h1, h2, h3, h4, h5⟩ := h
  exact ⟨S1, l1, l2, cs, h1.later hb, h2, h3, h4, h5.trans (HStep.of_below hb)⟩

/-- the row of the two collectors -/
def Clos (p fb mb : Nat) (w : World) : Prop :=
  w.cell? ⟨fb, 0, none⟩ = some (.func (.func 14) #[.pointer (some ⟨p, 0, none⟩)] #[]) ∧ w.cell? ⟨fb, 1, none⟩ = some (.func (.func 15) #[.pointer (some ⟨p, 0, none⟩)] #[]) ∧ p ≠ fb ∧ mb ≠ fb ∧ fb < w.heap.size
theorem Clos.step {p fb mb : Nat} {w w' : World} (h : Clos p fb mb w) (k : HStep p mb NV NV w w') : Clos p fb mb w' := by
  obtain ⟨h1, h2, h3, h4, h5⟩ := h
  have e := k.block fb h5 (Ne.symm h3) (Ne.symm h4) (by simp [Value.ownBlock])
  exact ⟨(World.cell?_of_block (a := ⟨fb, 0, none⟩) e).trans h1, (World.cell?_of_block (a := ⟨fb, 1, none⟩) e).trans h2, h3, h4, Nat.lt_of_lt_of_le h5 k.size⟩
theorem below_lit (w : World) (v : Int) : Below w.heap.size w (w.alloc (.cells #[.int .i64 v] 3)) := (Below.refl _ w).alloc (Nat.le_refl _) _

set_option maxRecDepth 100000 in
set_option maxHeartbeats 4000000 in
theorem chain_ok (w : World) (p mb : Nat) (S : HS) (l1 l2 : List Nat) (sz many : Nat) (h : HeapSt w p mb NV S) (hc : CI S l1 l2 [] sz 1) (hm : many ≤ 14) :
    Calls Try.prog 22 #[.pointer (some ⟨p, 0, none⟩), .int .i64 (many : Int), .int .i64 (sz : Int)] w (ChainPost p mb S sz many w) := by
  have hmf : ∀ (fn : Fn) (first cap : Array Value) (w : World), (Instr.makeFunc fn first cap).run Try.prog w = .ok (.func fn first cap) w := fun _ _ _ _ => rfl
  have hs := hc.s
  have HI : Hid (ChInv p mb S sz 0 w 1 w) := ⟨S, l1, l2, [], h, hc, rfl, Cfg.refl S, HStep.refl _ _ _ _⟩
  clear h hc
  go_enter Try.func22, Try.ntmps22
  go_wp2_with fail
  go_loopw [8, 16] (fun lv u wr => ∃ (k : Nat) (v : Int), k ≤ many ∧ u = .int .i64 (k : Int) ∧ lv = .int .i64 v ∧ ChInv p mb S sz k w v wr) (fun _ u _ => many - (intOf u).toNat)
  case atStart => exact ⟨0, 1, Nat.zero_le _, rfl, rfl, HI.out⟩
  case round =>
    clear HI
    obtain ⟨k, v, hk, rfl, rfl, hinv⟩ := hrel
    have HI := Lib.hid hinv
    by_cases hlt : k < many
    · obtain ⟨S1, l1, l2, cs, h1, h2, h3, h4, h5⟩ := hinv
      have HRM := fun wx hx => room_any wx p mb NV S1 hx h2.inv.ok sz (by omega)
      have HST := Lib.hid h1
      cases hr : RoomB S1 sz
      · rw [hr] at HRM
        clear h1 h2 h3 h4 h5 hr
        go_wp2_with (first
          | (go_at_call 12; refine (HRM _ HST.out).mono ?_; rintro e w' ⟨q1, rfl, rfl⟩))
        have hx0 : Below wr.heap.size wr ((wr.drewN q1).alloc (.cells #[.func (.func 14) #[.pointer (some ⟨p, 0, none⟩)] #[], .func (.func 15) #[.pointer (some ⟨p, 0, none⟩)] #[]] 44)) := (below_drewN_self _ _ q1).trans ((Below.refl _ (wr.drewN q1)).alloc (Nat.le_refl _) _)
        have HI0 := Lib.hid (HI.out.later hx0)
        have HF0 : Hid (Clos p wr.heap.size mb ((wr.drewN q1).alloc (.cells #[.func (.func 14) #[.pointer (some ⟨p, 0, none⟩)] #[], .func (.func 15) #[.pointer (some ⟨p, 0, none⟩)] #[]] 44))) := by
          have hb := Blk.new (wr.drewN q1) [.func (.func 14) #[.pointer (some ⟨p, 0, none⟩)] #[], .func (.func 15) #[.pointer (some ⟨p, 0, none⟩)] #[]] 44
          have h1 := HST.out.st.lt
          have h2 := HST.out.mm.lt
          exact ⟨hb.cell 0, hb.cell 1, by omega, by omega, hb.lt⟩
        obtain ⟨fb, hfb⟩ : ∃ fb, fb = wr.heap.size := ⟨_, rfl⟩
        rw [← hfb] at HF0 ⊢
        generalize (wr.drewN q1).alloc _ = w2 at HI0 HF0 ⊢
        clear hx0 hfb HI HST HRM
        go_loopw [8, 28] (fun lv u wr => ∃ (i : Nat) (v2 : Int), i ≤ 2 ∧ u = .int .i64 (i : Int) ∧ lv = .int .i64 v2 ∧ ChInv p mb S sz k w v2 wr ∧ Clos p fb mb wr) (fun _ u _ => 2 - (intOf u).toNat)
        case atStart => exact ⟨0, v, by omega, rfl, rfl, HI0.out, HF0.out⟩
        case round =>
          clear HI0 HF0
          obtain ⟨i, v2, hi, rfl, rfl, hc, hb⟩ := hrel
          obtain ⟨hb3, hb4, hb5⟩ : p ≠ fb ∧ mb ≠ fb ∧ fb < wr.heap.size := hb.2.2
          rcases (by omega : i = 0 ∨ i = 1 ∨ i = 2) with rfl | rfl | rfl
          · have hcell : wr.cell? ⟨fb, 0, none⟩ = some (.func (.func 14) #[.pointer (some ⟨p, 0, none⟩)] #[]) := hb.1
            have HB := Lib.hid hb
            obtain ⟨S2, l3, l4, cs2, b1, b2, b3, b4, b5⟩ := hc
            have HCC := Lib.hid (minor_ci (b1.later ((Below.refl _ wr).alloc (Nat.le_refl _) (.cells #[.int .i64 v2] 3))) b2 (came_lit wr v2) (by have := b1.st.lt; omega) (by have := b1.mm.lt; omega))
            have HST2 := Lib.hid b1
            have H2 := Lib.hid b2
            have H3 := Lib.hid b3
            have H4 := Lib.hid b4
            have H5 := Lib.hid b5
            have HWL := Lib.hid (below_lit wr v2)
            clear b1 b2 b3 b4 b5 hb hi
            go_wp2_with fail
            refine HCC.out.mono ?_
            rintro e w3 (⟨hmj, rfl, q3, rfl⟩ | ⟨g, cap, z, S3, l5, cs3, rfl, c1, c2, c3, c4, c5, c6, c7, c8, c9, c10, c11, c12⟩)
            · clear HCC
              have hx : Below wr.heap.size wr ((wr.alloc (.cells #[.int .i64 v2] 3)).drewN q3) := HWL.out.trans ((below_drewN_self _ _ _))
              have HN : Hid (ChInv p mb S sz k w v2 ((wr.alloc (.cells #[.int .i64 v2] 3)).drewN q3)) := ChInv.later ⟨S2, l3, l4, cs2, HST2.out, H2.out, H3.out, H4.out, H5.out⟩ hx
              have HF : Hid (Clos p fb mb ((wr.alloc (.cells #[.int .i64 v2] 3)).drewN q3)) := HB.out.step (HStep.of_below hx)
              clear hx hcell
              go_wp2_with fail
              go_roundw
              case rel => exact ⟨1, v2, by omega, rfl, rfl, HN.out, HF.out⟩
              case measure => simp [intOf]
            · have hx : HStep p mb NV NV wr w3 := (HStep.of_below HWL.out).trans c12
              have HN : Hid (ChInv p mb S sz k w z w3) := ⟨S3, [], l5, cs3, c6, c7, by rw [c8, H3.out], H4.out.trans c9, H5.out.trans hx⟩
              have HF : Hid (Clos p fb mb w3) := HB.out.step hx
              clear hx HCC hcell c2 c5 c6 c7 c8 c9 c10 c11 c12
              go_wp2_with fail
              go_roundw
              case rel => exact ⟨1, z, by omega, rfl, rfl, HN.out, HF.out⟩
              case measure => simp [intOf]
          · have hcell : wr.cell? ⟨fb, 1, none⟩ = some (.func (.func 15) #[.pointer (some ⟨p, 0, none⟩)] #[]) := hb.2.1
            have HB := Lib.hid hb
            obtain ⟨S2, l3, l4, cs2, b1, b2, b3, b4, b5⟩ := hc
            have HCC := Lib.hid (major_ci (b1.later ((Below.refl _ wr).alloc (Nat.le_refl _) (.cells #[.int .i64 v2] 3))) b2 (came_lit wr v2) (by have := b1.st.lt; omega) (by have := b1.mm.lt; omega))
            have HST2 := Lib.hid b1
            have H2 := Lib.hid b2
            have H3 := Lib.hid b3
            have H4 := Lib.hid b4
            have H5 := Lib.hid b5
            have HWL := Lib.hid (below_lit wr v2)
            clear b1 b2 b3 b4 b5 hb hi
            go_wp2_with fail
            refine HCC.out.mono ?_
            rintro e w3 (⟨hmj, rfl, q3, rfl⟩ | ⟨g, cap, z, S3, l5, cs3, rfl, c1, c2, c3, c4, c5, c6, c7, c8, c9, c10, c11, c12⟩)
            · cases hmj
            · have hx : HStep p mb NV NV wr w3 := (HStep.of_below HWL.out).trans c12
              have HN : Hid (ChInv p mb S sz k w z w3) := ⟨S3, [], l5, cs3, c6, c7, by rw [c8, H3.out], H4.out.trans c9, H5.out.trans hx⟩
              have HF : Hid (Clos p fb mb w3) := HB.out.step hx
              clear hx HCC hcell c2 c5 c6 c7 c8 c9 c10 c11 c12
              go_wp2_with fail
              go_roundw
              case rel => exact ⟨2, z, by omega, rfl, rfl, HN.out, HF.out⟩
              case measure => simp [intOf]
          · obtain ⟨S2, l3, l4, cs2, b1, b2, b3, b4, b5⟩ := hc
            have HST3 := Lib.hid b1
            have H2 := Lib.hid b2
            have H3 := Lib.hid b3
            have H4 := Lib.hid b4
            have H5 := Lib.hid b5
            clear b1 b2 b3 b4 b5 hb hi
            go_wp2_with fail
            refine (alloc_ci HST3.out H2.out (by have := H3.out; omega)).mono ?_
            rintro e w4 (⟨rfl, q2, rfl⟩ | ⟨S3, l5, j, rfl, a1, a2, a3, a4⟩)
            · go_wp2_with fail
              go_ret2
              exact ⟨v2, false, S2, l3, l4, cs2, rfl, HST3.out.drewN q2, H2.out, by have := H3.out; omega, by simp, H4.out, H5.out.trans (HStep.drewN q2)⟩
            · have HN : Hid (ChInv p mb S sz (k + 1) w (2 * (j : Int)) w4) := ⟨S3, l5, l4, j :: cs2, a1, a2, by rw [List.length_cons, H3.out], H4.out.trans a3, H5.out.trans a4⟩
              clear a1 a2 a3 a4
              go_wp2_with fail
              go_roundw
              case rel => exact ⟨k + 1, 2 * (j : Int), by omega, by go_num, rfl, HN.out⟩
              case measure => simp [intOf]; omega
      · rw [hr] at HRM
        have H2 := Lib.hid h2
        have H3 := Lib.hid h3
        have H4 := Lib.hid h4
        have H5 := Lib.hid h5
        clear h1 h2 h3 h4 h5 hr HI
        go_wp2_with (first
          | (go_at_call 12; refine (HRM _ HST.out).mono ?_; rintro e w' ⟨q1, rfl, rfl⟩))
        refine (alloc_ci (HST.out.drewN q1) H2.out (by have := H3.out; omega)).mono ?_
        rintro e w2 (⟨rfl, q2, rfl⟩ | ⟨S2, l3, j, rfl, a1, a2, a3, a4⟩)
        · go_wp2_with fail
          go_ret2
          exact ⟨v, false, S1, l1, l2, cs, rfl, HST.out.drewN (q1 + q2), H2.out, by have := H3.out; omega, by simp, H4.out, H5.out.trans (HStep.drewN (q1 + q2))⟩
        · have HN : Hid (ChInv p mb S sz (k + 1) w (2 * (j : Int)) w2) := ⟨S2, l3, l2, j :: cs, a1, a2, by rw [List.length_cons, H3.out], H4.out.trans a3, (H5.out.trans (HStep.drewN q1)).trans a4⟩
          clear a1 a2 a3 a4
          go_wp2_with fail
          go_roundw
          case rel => exact ⟨k + 1, 2 * (j : Int), by omega, by go_num, rfl, HN.out⟩
          case measure => simp [intOf]; omega
    · obtain rfl : k = many := by omega
      clear hinv
      go_wp2_with fail
      go_ret2
      obtain ⟨S1, l1, l2, cs, h1, h2, h3, h4, h5⟩ := HI.out
      exact ⟨v, true, S1, l1, l2, cs, rfl, h1, h2, by omega, fun _ => h3, h4, h5⟩
end Go.Proofs.Ytkpeeemnholmnaa
