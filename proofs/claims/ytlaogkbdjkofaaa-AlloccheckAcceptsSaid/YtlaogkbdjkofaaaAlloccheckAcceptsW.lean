/- The walk of AlloccheckAccepts. -/
import Derived.Test.YtlaogkbdjkofaaaAcceptW
import Derived.Test.YtlaogkbdjkofaaaAccPl
import Derived.Test.YtlaogkbdjkofaaaColPlace
import Derived.Test.YtlaogkbdjkofaaaScanP
import Derived.Test.YtlaogkbdjkofaaaAllocFact
namespace Go.Proofs.Ytlaogkbdjkofaaa
open Go.RowKit
set_option linter.unusedVariables false
set_option linter.unusedSimpArgs false

theorem accept_ok (w : World) (f : VF) (hf : f.Ok w) (a : AL) (ha : a.Ok w) {n nb : Nat} {k : Int} (hok : FnOk f n nb) (hfe : fnE f = 0) (h : PlacedA f n nb k a) : Calls Try.prog 13 #[f.v, a.v] w (IntPost 0 w) :=
  (accept_any w f hf a ha).mono fun e w' ⟨z, he, hb, _, h2⟩ => by
    rcases h2 h.err with ⟨hz, _⟩ | ⟨_, hn⟩
    · subst hz; exact ⟨he, hb⟩
    · exact absurd (placed_good hok hfe (h.plx ha hok)) hn
set_option maxRecDepth 100000 in
set_option maxHeartbeats 8000000 in
theorem alloccheckAccepts_walk (f : VF) (k : Int) (w : World) (hf : f.Ok w) (hk : -9223372036854775808 ≤ k ∧ k ≤ 9223372036854775807) : Calls Try.prog 10 #[f.v, .int .i64 k] w fun e w' => e = .returned (.bool true) ∧ Below w.heap.size w w' := by
  have hb0 : BoxV f w (w.alloc (.cells #[.int .i64 f.name, .slice f.pa f.pn f.pc, .int .i64 f.regs, .slice f.sa f.sn f.sc] 25)) f.pa f.sa := ⟨(Below.refl _ _).alloc (Nat.le_refl _) _, Blk.new w [.int .i64 f.name, .slice f.pa f.pn f.pc, .int .i64 f.regs, .slice f.sa f.sn f.sc] 25⟩
  have HF := Lib.hid hf
  have HSM := Lib.hid fun wx (h : Below w.heap.size w wx) => smallK_ok wx f (hf.below h)
  have HCO := Lib.hid fun wx (h : Below w.heap.size w wx) K (hK : I64 K) => allocate_any wx f (hf.below h) K hK
  have HLI := Lib.hid fun wx (h : Below w.heap.size w wx) K (hK : I64 K) => lallocate_any wx f (hf.below h) K hK
  have HAC := Lib.hid fun wx (h : Below w.heap.size w wx) a (ha : a.Ok wx) n nb k' (h1 : FnOk f n nb) (h2 : fnE f = 0) (h3 : PlacedA f n nb k' a) => accept_ok wx f (hf.below h) a ha h1 h2 h3
  have HCF := Lib.hid fun wx => allocFact_ok wx
  unfold VF.v at HSM HCO HLI HAC ⊢
  obtain ⟨pa, hpa⟩ : ∃ s, s = f.pa := ⟨_, rfl⟩
  obtain ⟨sa, hsa⟩ : ∃ s, s = f.sa := ⟨_, rfl⟩
  rw [← hpa, ← hsa] at hb0 HSM HCO HLI HAC ⊢
  have HB0 := Lib.hid hb0
  have hk1 := hk.1
  have hk2 := hk.2
  clear hf hb0 hpa hsa hk
  go_enter Try.func10, Try.ntmps10
  go_upto_region 1 with fail
  generalize w.alloc (.cells #[.int .i64 f.name, .slice pa f.pn f.pc, .int .i64 f.regs, .slice sa f.sn f.sc] 25) = w1 at HB0 ⊢
  go_wp2_with fail
  refine (HCF.out w1).mono ?_
  rintro e w2 ⟨rfl, hb2⟩
  have HB2 := Lib.hid (HB0.out.below hb2)
  clear hb2 HB0 HCF
  have c0 := HB2.out.box.cell 0
  have c1 := HB2.out.box.cell 1
  have c2 := HB2.out.box.cell 2
  have c3 := HB2.out.box.cell 3
  simp only [List.getElem?_cons_zero, List.getElem?_cons_succ] at c0 c1 c2 c3
  go_wp2_with fail
  refine (HSM.out w2 HB2.out.be).mono ?_
  rintro e w3 ⟨sm, rfl, hsm, hb3⟩
  have HB3 := Lib.hid (HB2.out.below hb3)
  clear hb3 HB2 c0 c1 c2 c3 HSM
  cases sm with
  | false =>
    go_wp2_with fail
    go_ret
    exact ⟨rfl, HB3.out.be⟩
  | true =>
    obtain ⟨h60, _, hz⟩ := hsm rfl
    have HFN := Lib.hid hz
    have H60 := Lib.hid h60
    clear hsm hz h60
    have c0 := HB3.out.box.cell 0
    have c1 := HB3.out.box.cell 1
    have c2 := HB3.out.box.cell 2
    have c3 := HB3.out.box.cell 3
    simp only [List.getElem?_cons_zero, List.getElem?_cons_succ] at c0 c1 c2 c3
    go_wp2_with fail
    refine (rest_any k 10 w3 (by omega) (by omega)).mono ?_
    rintro e wz ⟨rfl, rfl⟩
    obtain ⟨r, hr⟩ : ∃ r, r = k % 10 := ⟨_, rfl⟩
    have hr1 : 0 ≤ r := by rw [hr]; exact Int.emod_nonneg _ (by omega)
    have hr2 : r < 10 := by rw [hr]; exact Int.emod_lt_of_pos _ (by omega)
    rw [← hr]
    clear hr
    have HI := Lib.hid (HCO.out w3 HB3.out.be (1 + r) (by unfold I64; omega))
    go_wp2_with fail
    refine HI.out.mono ?_
    rintro e w4 ⟨hb4, h⟩
    have HB4 := Lib.hid (HB3.out.below hb4)
    clear hb4 HI HCO HB3 c0 c1 c2 c3
    rcases h with ⟨h, _⟩ | ⟨_, h, _⟩ | ⟨_, hK, n, nb, a, hok, rfl, hao, hrn, hsn, hlaw⟩
    · exact absurd HFN.out h
    · exact absurd (by omega) h
    · have hn2 : n ≤ 8000 := by have h1 := hok.regs; have h2 := H60.out; omega
      have hpl := placed_of (HF.out.below HB4.out.be) hok HFN.out hn2 (by omega) hrn hsn hlaw
      have HAC1 := Lib.hid fun wx (hb : Below w4.heap.size w4 wx) => HAC.out wx (HB4.out.be.trans (hb.mono HB4.out.be.size)) a (hao.below hb) n nb _ hok HFN.out hpl
      unfold AL.v at HAC1 ⊢
      have HB5 : Hid (BoxV f w (w4.alloc (.cells #[.slice a.ra a.rn a.rc, .slice a.sa a.sn a.sc, .int .i64 a.k] 27)) pa sa) := HB4.out.below ((Below.refl _ _).alloc (Nat.le_refl _) _)
      have HW5 : Hid (Below w4.heap.size w4 (w4.alloc (.cells #[.slice a.ra a.rn a.rc, .slice a.sa a.sn a.sc, .int .i64 a.k] 27))) := (Below.refl _ _).alloc (Nat.le_refl _) _
      have hbx := Blk.new w4 [.slice a.ra a.rn a.rc, .slice a.sa a.sn a.sc, .int .i64 a.k] 27
      have HBX := Lib.hid hbx
      obtain ⟨ra, hra⟩ : ∃ s, s = a.ra := ⟨_, rfl⟩
      obtain ⟨la, hla⟩ : ∃ s, s = a.sa := ⟨_, rfl⟩
      rw [← hra, ← hla] at HAC1 HB5 HW5 HBX ⊢
      have HOK := Lib.hid hok
      clear hok hao hrn hsn hlaw hn2 hpl hbx hra hla hK
      go_upto_region 7 with fail
      change Code.wp _ _ _ _ (w4.alloc (.cells #[.slice ra a.rn a.rc, .slice la a.sn a.sc, .int .i64 a.k] 27))
      obtain ⟨p4, hp4⟩ : ∃ x, x = w4.heap.size := ⟨_, rfl⟩
      have HBX5 : Hid (Blk (w4.alloc (.cells #[.slice ra a.rn a.rc, .slice la a.sn a.sc, .int .i64 a.k] 27)) p4 27 [.slice ra a.rn a.rc, .slice la a.sn a.sc, .int .i64 a.k]) := by rw [hp4]; exact HBX.out
      rw [← hp4]
      clear hp4 HBX HB4
      generalize w4.alloc (.cells #[.slice ra a.rn a.rc, .slice la a.sn a.sc, .int .i64 a.k] 27) = w5 at HB5 HW5 HBX5 ⊢
      have c0 := HB5.out.box.cell 0
      have c1 := HB5.out.box.cell 1
      have c2 := HB5.out.box.cell 2
      have c3 := HB5.out.box.cell 3
      simp only [List.getElem?_cons_zero, List.getElem?_cons_succ] at c0 c1 c2 c3
      have HI := Lib.hid (HLI.out w5 HB5.out.be (1 + r) (by unfold I64; omega))
      go_wp2_with fail
      refine HI.out.mono ?_
      rintro e w6 ⟨hb6, h⟩
      have HB6 := Lib.hid (HB5.out.below hb6)
      have HW6 := Lib.hid (HW5.out.trans (hb6.mono HW5.out.size))
      have HBX6 := Lib.hid (HBX5.out.below hb6 (Blk.lt HBX5.out))
      clear hb6 HI HLI HB5 HW5 HBX5 c0 c1 c2 c3
      rcases h with ⟨h, _⟩ | ⟨_, h, _⟩ | ⟨_, hK, n2, nb2, b, hok, rfl, hao, hrn, hsn, hlaw⟩
      · exact absurd HFN.out h
      · exact absurd (by omega) h
      · have hpl := lin_placed hok HFN.out (by omega) hrn hsn hlaw
        have HAC2 := Lib.hid fun wx (hb : Below w6.heap.size w6 wx) => HAC.out wx (HB6.out.be.trans (hb.mono HB6.out.be.size)) b (hao.below hb) n2 nb2 _ hok HFN.out hpl
        unfold AL.v at HAC2 ⊢
        have HB7 : Hid (BoxV f w (w6.alloc (.cells #[.slice b.ra b.rn b.rc, .slice b.sa b.sn b.sc, .int .i64 b.k] 27)) pa sa) := HB6.out.below ((Below.refl _ _).alloc (Nat.le_refl _) _)
        have HW7 : Hid (Below w6.heap.size w6 (w6.alloc (.cells #[.slice b.ra b.rn b.rc, .slice b.sa b.sn b.sc, .int .i64 b.k] 27))) := (Below.refl _ _).alloc (Nat.le_refl _) _
        have hbx := Blk.new w6 [.slice b.ra b.rn b.rc, .slice b.sa b.sn b.sc, .int .i64 b.k] 27
        have HBY := Lib.hid hbx
        obtain ⟨rb, hrb⟩ : ∃ s, s = b.ra := ⟨_, rfl⟩
        obtain ⟨lb, hlb⟩ : ∃ s, s = b.sa := ⟨_, rfl⟩
        rw [← hrb, ← hlb] at HAC2 HB7 HW7 HBY ⊢
        clear hok hao hrn hsn hlaw hpl hbx hrb hlb hK
        go_upto_region 8 with fail
        change Code.wp _ _ _ _ (w6.alloc (.cells #[.slice rb b.rn b.rc, .slice lb b.sn b.sc, .int .i64 b.k] 27))
        obtain ⟨p6, hp6⟩ : ∃ x, x = w6.heap.size := ⟨_, rfl⟩
        have HBY7 : Hid (Blk (w6.alloc (.cells #[.slice rb b.rn b.rc, .slice lb b.sn b.sc, .int .i64 b.k] 27)) p6 27 [.slice rb b.rn b.rc, .slice lb b.sn b.sc, .int .i64 b.k]) := by rw [hp6]; exact HBY.out
        have HBX7 := Lib.hid (HBX6.out.below HW7.out (Blk.lt HBX6.out))
        have HV7 := Lib.hid (HW6.out.trans (HW7.out.mono HW6.out.size))
        rw [← hp6]
        clear hp6 HBY HB6 HBX6 HW6
        generalize w6.alloc (.cells #[.slice rb b.rn b.rc, .slice lb b.sn b.sc, .int .i64 b.k] 27) = w7 at HB7 HW7 HBX7 HBY7 HV7 ⊢
        have c0 := HB7.out.box.cell 0
        have c1 := HB7.out.box.cell 1
        have c2 := HB7.out.box.cell 2
        have c3 := HB7.out.box.cell 3
        have a0 := HBX7.out.cell 0
        have a1 := HBX7.out.cell 1
        have a2 := HBX7.out.cell 2
        simp only [List.getElem?_cons_zero, List.getElem?_cons_succ] at c0 c1 c2 c3 a0 a1 a2
        go_wp2_with fail
        refine (HAC1.out w7 HV7.out).mono ?_
        rintro e w8 ⟨rfl, hb8⟩
        have HB8 := Lib.hid (HB7.out.below hb8)
        have HW8 := Lib.hid (HW7.out.trans (hb8.mono HW7.out.size))
        have HBY8 := Lib.hid (HBY7.out.below hb8 (Blk.lt HBY7.out))
        clear hb8 HAC1 HB7 HW7 HBX7 HBY7 HV7 c0 c1 c2 c3 a0 a1 a2
        have c0 := HB8.out.box.cell 0
        have c1 := HB8.out.box.cell 1
        have c2 := HB8.out.box.cell 2
        have c3 := HB8.out.box.cell 3
        have a0 := HBY8.out.cell 0
        have a1 := HBY8.out.cell 1
        have a2 := HBY8.out.cell 2
        simp only [List.getElem?_cons_zero, List.getElem?_cons_succ] at c0 c1 c2 c3 a0 a1 a2
        go_wp2_with fail
        refine (HAC2.out w8 HW8.out).mono ?_
        rintro e w9 ⟨rfl, hb9⟩
        have HB9 := Lib.hid (HB8.out.below hb9)
        clear hb9 HAC2 HB8 HW8 HBY8 c0 c1 c2 c3 a0 a1 a2
        go_wp2_with fail
        go_ret
        exact ⟨rfl, HB9.out.be⟩
end Go.Proofs.Ytlaogkbdjkofaaa
