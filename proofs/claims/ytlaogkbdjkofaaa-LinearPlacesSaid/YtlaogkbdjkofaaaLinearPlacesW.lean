/- The walk of LinearPlaces. -/
import Derived.Test.YtlaogkbdjkofaaaScanP
import Derived.Test.YtlaogkbdjkofaaaPlacd
import Derived.Test.YtlaogkbdjkofaaaVSmall
import Derived.Test.YtlaogkbdjkofaaaVRef
namespace Go.Proofs.Ytlaogkbdjkofaaa
open Go.RowKit
set_option linter.unusedVariables false
set_option linter.unusedSimpArgs false

set_option maxRecDepth 100000 in
set_option maxHeartbeats 8000000 in
theorem linearPlaces_walk (f : VF) (k : Int) (w : World) (hf : f.Ok w) (hk : -9223372036854775808 ≤ k ∧ k ≤ 9223372036854775807) : Calls Try.prog 7 #[f.v, .int .i64 k] w fun e w' => e = .returned (.bool true) ∧ Below w.heap.size w w' := by
  have hb0 : BoxV f w (w.alloc (.cells #[.int .i64 f.name, .slice f.pa f.pn f.pc, .int .i64 f.regs, .slice f.sa f.sn f.sc] 25)) f.pa f.sa := ⟨(Below.refl _ _).alloc (Nat.le_refl _) _, Blk.new w [.int .i64 f.name, .slice f.pa f.pn f.pc, .int .i64 f.regs, .slice f.sa f.sn f.sc] 25⟩
  have HSM := Lib.hid fun wx (h : Below w.heap.size w wx) => small_ok wx f (hf.below h)
  have HIN := Lib.hid fun wx (h : Below w.heap.size w wx) => lallocate_any wx f (hf.below h) k hk
  have HFE := Lib.hid fun wx (h : Below w.heap.size w wx) => fnError_any wx f (hf.below h)
  have HRA := Lib.hid fun wx (h : Below w.heap.size w wx) => ranges_any wx f (hf.below h)
  have HPL := Lib.hid fun wx (h : Below w.heap.size w wx) a (ha : a.Ok wx) n nb (h1 : FnOk f n nb) (h2 : a.rn = n) (h3 : a.sn = n) (h4 : ∀ z ∈ a.slot, z ≤ 8192) (h5 : PlacedA f n nb k a) => placed_any wx f (hf.below h) a ha n nb k hk h1 h2 h3 h4 h5
  have HCF := Lib.hid fun wx => linearFact_ok wx
  unfold VF.v at HSM HIN HFE HRA HPL ⊢
  obtain ⟨pa, hpa⟩ : ∃ s, s = f.pa := ⟨_, rfl⟩
  obtain ⟨sa, hsa⟩ : ∃ s, s = f.sa := ⟨_, rfl⟩
  rw [← hpa, ← hsa] at hb0 HSM HIN HFE HRA HPL ⊢
  have HB0 := Lib.hid hb0
  obtain ⟨fe, hfe⟩ : ∃ x, x = fnE f := ⟨_, rfl⟩
  have HFQ := Lib.hid hfe
  rw [← hfe] at HFE
  have hk1 := hk.1
  have hk2 := hk.2
  clear hf hb0 hpa hsa hfe hk
  go_enter Try.func7, Try.ntmps7
  go_upto_region 1 with fail
  generalize w.alloc (.cells #[.int .i64 f.name, .slice pa f.pn f.pc, .int .i64 f.regs, .slice sa f.sn f.sc] 25) = w1 at HB0 ⊢
  go_wp2_with fail
  refine (HCF.out w1).mono ?_
  rintro e w2 ⟨rfl, hb2⟩
  have HB2 := Lib.hid (HB0.out.below hb2)
  clear hb2 HB0 HCF
  have c0 := HB2.out.box.cell 0
  have c1 := HB2.out.box.cell 1
  have c2 := HB2.out.box.cell 2
  have c3 := HB2.out.box.cell 3
  simp only [List.getElem?_cons_zero, List.getElem?_cons_succ] at c0 c1 c2 c3
  go_wp2_with fail
  refine (HSM.out w2 HB2.out.be).mono ?_
  rintro e w3 ⟨sm, rfl, hsm, hb3⟩
  have HB3 := Lib.hid (HB2.out.below hb3)
  clear hb3 HB2 c0 c1 c2 c3 HSM
  cases sm with
  | false =>
    go_wp2_with fail
    go_ret
    exact ⟨rfl, HB3.out.be⟩
  | true =>
    obtain ⟨h40, h12⟩ := hsm rfl
    clear hsm
    have c0 := HB3.out.box.cell 0
    have c1 := HB3.out.box.cell 1
    have c2 := HB3.out.box.cell 2
    have c3 := HB3.out.box.cell 3
    simp only [List.getElem?_cons_zero, List.getElem?_cons_succ] at c0 c1 c2 c3
    go_wp2_with fail
    refine (HIN.out w3 HB3.out.be).mono ?_
    rintro e w4 ⟨hb4, h⟩
    have HB4 := Lib.hid (HB3.out.below hb4)
    clear hb4 HB3 c0 c1 c2 c3 HIN
    rcases h with ⟨hne, rfl⟩ | ⟨hz, hkr, rfl⟩ | ⟨hz, hkr, n, nb, a, hok, rfl, hao, hrn, hsn, hlaw⟩
    ·
      unfold noAlS
      rw [← HFQ.out] at hne ⊢
      have hne' : (fe == 0) = false := by simpa using hne
      have HB5 : Hid (BoxV f w (w4.alloc (.cells #[.slice none 0 0, .slice none 0 0, .int .i64 0] 27)) pa sa) := HB4.out.below ((Below.refl _ _).alloc (Nat.le_refl _) _)
      have HR5 := Lib.hid (Blk.new w4 [.slice none 0 0, .slice none 0 0, .int .i64 0] 27)
      clear hne
      go_upto_region 6 with fail
      change Code.wp _ _ _ _ (w4.alloc (.cells #[.slice none 0 0, .slice none 0 0, .int .i64 0] 27))
      obtain ⟨pb, hpb⟩ : ∃ x, x = w4.heap.size := ⟨_, rfl⟩
      have HR5' : Hid (Blk (w4.alloc (.cells #[.slice none 0 0, .slice none 0 0, .int .i64 0] 27)) pb 27 [.slice none 0 0, .slice none 0 0, .int .i64 0]) := by rw [hpb]; exact HR5.out
      rw [← hpb]
      clear hpb HR5 HB4
      generalize w4.alloc (.cells #[.slice none 0 0, .slice none 0 0, .int .i64 0] 27) = w5 at HB5 HR5' ⊢
      have c0 := HB5.out.box.cell 0
      have c1 := HB5.out.box.cell 1
      have c2 := HB5.out.box.cell 2
      have c3 := HB5.out.box.cell 3
      simp only [List.getElem?_cons_zero, List.getElem?_cons_succ] at c0 c1 c2 c3
      go_wp2_with fail
      refine (HRA.out w5 HB5.out.be).mono ?_
      rintro e w5r ⟨hb5r, hrr⟩
      have HB5r := Lib.hid (HB5.out.below hb5r)
      have hr5r := HR5'.out.below hb5r HR5'.out.lt
      have HR5r := Lib.hid hr5r
      clear hb5r hr5r c0 c1 c2 c3
      have c0 := HB5r.out.box.cell 0
      have c1 := HB5r.out.box.cell 1
      have c2 := HB5r.out.box.cell 2
      have c3 := HB5r.out.box.cell 3
      simp only [List.getElem?_cons_zero, List.getElem?_cons_succ] at c0 c1 c2 c3
      obtain ⟨rv, rw0, hrv⟩ : ∃ (rv : Value) (rz : Int), e = .returned (.tuple #[rv, .int .i64 rz]) := by
        rcases hrr with ⟨_, h⟩ | ⟨_, n9, nb9, g9, c9, l9, _, h, _⟩
        · exact ⟨_, _, h⟩
        · exact ⟨_, _, h⟩
      subst hrv
      clear hrr
      go_wp2_with fail
      refine (HFE.out w5r HB5r.out.be).mono ?_
      rintro e w6 ⟨rfl, hb6⟩
      have HB6 := Lib.hid (HB5r.out.below hb6)
      have hr6 := HR5r.out.below hb6 HR5r.out.lt
      have a0 := hr6.cell 0
      have a1 := hr6.cell 1
      have a2 := hr6.cell 2
      simp only [List.getElem?_cons_zero, List.getElem?_cons_succ] at a0 a1 a2
      clear hb6 hr6 HB5 HB5r c0 c1 c2 c3 HFE
      go_wp2_with fail
      go_ret
      exact ⟨rfl, HB6.out.be⟩
    ·
      unfold noAlS
      obtain rfl : fe = 0 := HFQ.out.trans hz
      have q1 : decide (k < 1) = true ∨ (decide (k < 1) = false ∧ decide (10 < k) = true) := by
        by_cases h : k < 1
        · left; simp [h]
        · right; simp; omega
      have HB5 : Hid (BoxV f w (w4.alloc (.cells #[.slice none 0 0, .slice none 0 0, .int .i64 0] 27)) pa sa) := HB4.out.below ((Below.refl _ _).alloc (Nat.le_refl _) _)
      have HR5 := Lib.hid (Blk.new w4 [.slice none 0 0, .slice none 0 0, .int .i64 0] 27)
      clear hz hkr
      go_upto_region 6 with fail
      change Code.wp _ _ _ _ (w4.alloc (.cells #[.slice none 0 0, .slice none 0 0, .int .i64 0] 27))
      obtain ⟨pb, hpb⟩ : ∃ x, x = w4.heap.size := ⟨_, rfl⟩
      have HR5' : Hid (Blk (w4.alloc (.cells #[.slice none 0 0, .slice none 0 0, .int .i64 0] 27)) pb 27 [.slice none 0 0, .slice none 0 0, .int .i64 0]) := by rw [hpb]; exact HR5.out
      rw [← hpb]
      clear hpb HR5 HB4
      generalize w4.alloc (.cells #[.slice none 0 0, .slice none 0 0, .int .i64 0] 27) = w5 at HB5 HR5' ⊢
      have c0 := HB5.out.box.cell 0
      have c1 := HB5.out.box.cell 1
      have c2 := HB5.out.box.cell 2
      have c3 := HB5.out.box.cell 3
      simp only [List.getElem?_cons_zero, List.getElem?_cons_succ] at c0 c1 c2 c3
      go_wp2_with fail
      refine (HRA.out w5 HB5.out.be).mono ?_
      rintro e w5r ⟨hb5r, hrr⟩
      have HB5r := Lib.hid (HB5.out.below hb5r)
      have hr5r := HR5'.out.below hb5r HR5'.out.lt
      have HR5r := Lib.hid hr5r
      clear hb5r hr5r c0 c1 c2 c3
      have c0 := HB5r.out.box.cell 0
      have c1 := HB5r.out.box.cell 1
      have c2 := HB5r.out.box.cell 2
      have c3 := HB5r.out.box.cell 3
      simp only [List.getElem?_cons_zero, List.getElem?_cons_succ] at c0 c1 c2 c3
      obtain ⟨rv, rw0, hrv⟩ : ∃ (rv : Value) (rz : Int), e = .returned (.tuple #[rv, .int .i64 rz]) := by
        rcases hrr with ⟨_, h⟩ | ⟨_, n9, nb9, g9, c9, l9, _, h, _⟩
        · exact ⟨_, _, h⟩
        · exact ⟨_, _, h⟩
      subst hrv
      clear hrr
      go_wp2_with fail
      refine (HFE.out w5r HB5r.out.be).mono ?_
      rintro e w6 ⟨rfl, hb6⟩
      have HB6 := Lib.hid (HB5r.out.below hb6)
      have hr6 := HR5r.out.below hb6 HR5r.out.lt
      have a0 := hr6.cell 0
      have a1 := hr6.cell 1
      have a2 := hr6.cell 2
      simp only [List.getElem?_cons_zero, List.getElem?_cons_succ] at a0 a1 a2
      clear hb6 hr6 HB5 HB5r c0 c1 c2 c3 HFE
      rcases q1 with q1 | ⟨q1, q2⟩
      all_goals
        go_wp2_with fail
        go_ret
        exact ⟨rfl, HB6.out.be⟩
    · obtain rfl : fe = 0 := HFQ.out.trans hz
      have hn2 := hok.n2
      have hreg := hok.regs
      have hn40 : n ≤ 40 := by omega
      have hk10 : 1 ≤ k.toNat ∧ k.toNat ≤ 10 := by omega
      have hpl := lin_placed hok hz hk10 hrn hsn hlaw
      have ek : ((k.toNat : Nat) : Int) = k := by omega
      rw [ek] at hpl
      have hslb : ∀ z ∈ a.slot, z ≤ 8192 := fun z hz => by
        obtain ⟨l9, s9, b9, _, hsc9, _, hslot9, _, hsl9⟩ := hlaw.sci
        rw [hslot9] at hz
        obtain ⟨q, _, rfl⟩ := List.mem_map.1 hz
        by_cases h : ∃ x ∈ l9, x.r = (q : Int)
        · obtain ⟨x, hx, hxq⟩ := h
          have := hsc9.place x hx
          rw [hxq] at this
          rcases this with h1 | h1 <;> omega
        · have := hsc9.none (q : Int) fun x hx e => h ⟨x, hx, e⟩
          omega
      have HRG := Lib.hid hreg
      have HOK := Lib.hid hok
      have HSB := Lib.hid hslb
      have HLAW := Lib.hid hlaw
      have HK10 := Lib.hid hk10
      unfold AL.v
      obtain ⟨ra, hra⟩ : ∃ s, s = a.ra := ⟨_, rfl⟩
      obtain ⟨la, hla⟩ : ∃ s, s = a.sa := ⟨_, rfl⟩
      have HPLA := Lib.hid fun wx (h : Below w4.heap.size w4 wx) (hw : Below w.heap.size w wx) => HPL.out wx hw a (hao.below h) n nb hok hrn hsn hslb hpl
      have HSPA := Lib.hid fun wx (h : Below w4.heap.size w4 wx) (r : Nat) (h1 : r < n) => spot_any wx a (hao.below h) r (by omega) (by omega) hslb
      unfold AL.v at HPLA HSPA
      rw [hrn, hsn] at HPLA HSPA ⊢
      rw [← hra, ← hla] at HPLA HSPA ⊢
      have q1 : decide (k < 1) = false := by simp; omega
      have q2 : decide (10 < k) = false := by simp; omega
      have hb5 : BoxP f a w (w4.alloc (.cells #[.slice ra n a.rc, .slice la n a.sc, .int .i64 a.k] 27)) w.heap.size w4.heap.size pa sa ra la n := ⟨HB4.out.be.alloc HB4.out.be.size _, HB4.out.box.alloc _, Blk.new w4 [.slice ra n a.rc, .slice la n a.sc, .int .i64 a.k] 27⟩
      have HB5 := Lib.hid hb5
      have HW5 : Hid (Below w4.heap.size w4 (w4.alloc (.cells #[.slice ra n a.rc, .slice la n a.sc, .int .i64 a.k] 27))) := (Below.refl _ _).alloc (Nat.le_refl _) _
      have HFN : Hid (fnE f = 0) := hz
      clear hz hkr hok hao hrn hsn hlaw hreg hpl ek hslb hra hla hb5 HPL HFQ h40 hk10
      go_upto_region 6 with fail
      change Code.wp _ _ _ _ (w4.alloc (.cells #[.slice ra n a.rc, .slice la n a.sc, .int .i64 a.k] 27))
      obtain ⟨w4h, hw4h⟩ : ∃ x, x = w4.heap.size := ⟨_, rfl⟩
      have HB5' : Hid (BoxP f a w (w4.alloc (.cells #[.slice ra n a.rc, .slice la n a.sc, .int .i64 a.k] 27)) w.heap.size w4h pa sa ra la n) := by rw [hw4h]; exact HB5.out
      rw [← hw4h]
      clear hw4h HB5 HB4
      generalize w4.alloc (.cells #[.slice ra n a.rc, .slice la n a.sc, .int .i64 a.k] 27) = w5 at HB5' HW5 ⊢
      have c0 := HB5'.out.bf.cell 0
      have c1 := HB5'.out.bf.cell 1
      have c2 := HB5'.out.bf.cell 2
      have c3 := HB5'.out.bf.cell 3
      simp only [List.getElem?_cons_zero, List.getElem?_cons_succ] at c0 c1 c2 c3
      go_wp2_with fail
      refine (HRA.out w5 HB5'.out.be).mono ?_
      rintro e w5r ⟨hb5r, ⟨hne, _⟩ | ⟨_, n9, nb9, lg, lc, l, hok9, rfl, hrow, hrp, hcn⟩⟩
      · exact absurd HFN.out hne
      obtain rfl : n9 = n := by have h1 := hok9.regs; have h2 := HRG.out; omega
      obtain rfl : nb9 = nb := by have h1 := hok9.nbl; have h2 := HOK.out.nbl; omega
      have HB5r := Lib.hid (HB5'.out.below hb5r)
      have HW5r := Lib.hid (HW5.out.trans (hb5r.mono HW5.out.size))
      obtain ⟨B5, hB5⟩ : ∃ x, x = w5.heap.size := ⟨_, rfl⟩
      rw [← hB5] at hrow
      have HROW := Lib.hid hrow
      have HRP := Lib.hid hrp
      obtain ⟨p9, hp9⟩ := (⟨fun r => @decide _ (Classical.propDecidable (OccP f nb9 r)), fun r => @decide_eq_true_iff _ (Classical.propDecidable _)⟩ : ∃ p : Nat → Bool, ∀ r, p r = true ↔ OccP f nb9 r)
      have hll : l.length ≤ n9 := by
        rw [hcn p9 fun r _ _ => hp9 r]
        exact Nat.le_trans (List.length_filter_le ..) (by simp)
      obtain ⟨N, hN⟩ : ∃ N, N = l.length := ⟨_, rfl⟩
      have HN := Lib.hid hN
      rw [← hN] at hll ⊢
      clear hb5r hok9 hrow hrp hcn hp9 hB5 hN HB5' HW5 c0 c1 c2 c3 HRA
      have c0 := HB5r.out.bf.cell 0
      have c1 := HB5r.out.bf.cell 1
      have c2 := HB5r.out.bf.cell 2
      have c3 := HB5r.out.bf.cell 3
      simp only [List.getElem?_cons_zero, List.getElem?_cons_succ] at c0 c1 c2 c3
      go_wp2_with fail
      refine (HFE.out w5r HB5r.out.be).mono ?_
      rintro e w6 ⟨rfl, hb6⟩
      have HB6 := Lib.hid (HB5r.out.below hb6)
      have HW6 := Lib.hid (HW5r.out.trans (hb6.mono HW5r.out.size))
      have HROW6 := Lib.hid (HROW.out.below hb6)
      clear hb6 HB5r HW5r HROW c0 c1 c2 c3 HFE
      have c0 := HB6.out.bf.cell 0
      have c1 := HB6.out.bf.cell 1
      have c2 := HB6.out.bf.cell 2
      have c3 := HB6.out.bf.cell 3
      have a0 := HB6.out.ba.cell 0
      have a1 := HB6.out.ba.cell 1
      have a2 := HB6.out.ba.cell 2
      simp only [List.getElem?_cons_zero, List.getElem?_cons_succ] at c0 c1 c2 c3 a0 a1 a2
      go_wp2_with fail
      refine (HPLA.out w6 HW6.out HB6.out.be).mono ?_
      rintro e w7 ⟨rfl, hb7⟩
      have HB7 := Lib.hid (HB6.out.below hb7)
      have HW7 := Lib.hid (HW6.out.trans (hb7.mono HW6.out.size))
      have HROW7 := Lib.hid (HROW6.out.below hb7)
      clear hb7 HB6 HW6 HROW6 c0 c1 c2 c3 a0 a1 a2 HPLA
      go_wp2_with fail
      go_loopw [75] (fun u wx => ∃ i : Nat, i ≤ N ∧ u = .int .i64 (i : Int) ∧ BoxP f a w wx w.heap.size w4h pa sa ra la n9 ∧ Below w4.heap.size w4 wx ∧ RgRow wx B5 (some ⟨lg, 0, none⟩) lc l) (fun u _ => N - (intOf u).toNat)
      case atStart => exact ⟨0, Nat.zero_le _, rfl, HB7.out, HW7.out, HROW7.out⟩
      case round =>
        clear HB7 HW7 HROW7
        obtain ⟨i, hi, rfl, hbx, hwx, hrow⟩ := hrel
        have HBX := Lib.hid hbx
        have HWX := Lib.hid hwx
        have HROW := Lib.hid hrow
        clear hbx hwx hrow
        by_cases hlt : i < N
        ·
          have hil : i < l.length := by rw [← HN.out]; exact hlt
          obtain ⟨p, hxr, hp1, hp2, hrr9⟩ := HRP.out.el l[i] (List.getElem_mem _)
          clear hrr9
          obtain ⟨c0, c1, c2, c3⟩ := HROW.out.cells hil
          have hgw := (HROW.out.lt lg rfl).2
          have hcap : N ≤ lc ∧ lc ≤ 9223372036854775807 := by
            obtain ⟨g9, hgg9, _, _, hcap1, hcap2⟩ := HROW.out.has (by omega)
            unfold maxLen at hcap2
            rw [← HN.out] at hcap1
            exact ⟨hcap1, by omega⟩
          obtain ⟨hcap1, hcap2⟩ := hcap
          obtain ⟨x, hx⟩ : ∃ x, x = l[i] := ⟨_, rfl⟩
          rw [← hx] at c0 c1 c2 c3 hxr
          rw [hxr] at c0
          have HX := Lib.hid hx
          have HXR := Lib.hid hxr
          have hii : (i : Int) < (N : Int) := by omega
          have hab : Below wr.heap.size wr (wr.alloc (.cells #[.int .i64 (p : Int), .int .i64 x.b, .int .i64 x.e, .bool x.s] 46)) := (Below.refl _ _).alloc (Nat.le_refl _) _
          have HB1 := Lib.hid (HBX.out.below hab)
          have HW1 := Lib.hid (HWX.out.trans (hab.mono HWX.out.size))
          have HR1 := Lib.hid (HROW.out.below hab)
          have HXB : Hid (Blk (wr.alloc (.cells #[.int .i64 (p : Int), .int .i64 x.b, .int .i64 x.e, .bool x.s] 46)) wr.heap.size 46 [.int .i64 (p : Int), .int .i64 x.b, .int .i64 x.e, .bool x.s]) := Blk.new wr _ _
          clear hab hx hxr
          go_upto_region 17 with fail
          obtain ⟨xp, hxp⟩ : ∃ xp, xp = wr.heap.size := ⟨_, rfl⟩
          rw [← hxp] at HXB ⊢
          clear hxp c0 c1 c2 c3 hgw HBX HWX HROW
          generalize wr.alloc (.cells #[.int .i64 (p : Int), .int .i64 x.b, .int .i64 x.e, .bool x.s] 46) = w2x at HB1 HW1 HR1 HXB ⊢
          have hic : i ≤ lc := by omega
          go_wp2_with fail
          go_loopw [84] (fun u wx => ∃ j : Nat, j ≤ i ∧ u = .int .i64 (j : Int) ∧ BoxP f a w wx w.heap.size w4h pa sa ra la n9 ∧ Below w4.heap.size w4 wx ∧ RgRow wx B5 (some ⟨lg, 0, none⟩) lc l ∧ Blk wx xp 46 [.int .i64 (p : Int), .int .i64 x.b, .int .i64 x.e, .bool x.s]) (fun u _ => i - (intOf u).toNat)
          case atStart => exact ⟨0, Nat.zero_le _, rfl, HB1.out, HW1.out, HR1.out, HXB.out⟩
          case round =>
            clear HB1 HW1 HR1 HXB
            obtain ⟨j, hj, rfl, hbx, hwx, hrow, hxb⟩ := hrel
            have HBX := Lib.hid hbx
            have HWX := Lib.hid hwx
            have HROW := Lib.hid hrow
            have HXB := Lib.hid hxb
            clear hbx hwx hrow hxb
            by_cases hjl : j < i
            ·
              have hjl2 : j < l.length := by omega
              obtain ⟨q, hyr, hq1, hq2, hrr9⟩ := HRP.out.el l[j] (List.getElem_mem _)
              clear hrr9
              obtain ⟨c0, c1, c2, c3⟩ := HROW.out.cells hjl2
              have hgw := (HROW.out.lt lg rfl).2
              obtain ⟨y, hy⟩ : ∃ y, y = l[j] := ⟨_, rfl⟩
              rw [← hy] at c0 c1 c2 c3 hyr
              rw [hyr] at c0
              have hpq : p ≠ q := fun e => by
                have h1 := (List.pairwise_iff_getElem.1 HRP.out.once) j i hjl2 hil hjl
                rw [← hy, ← HX.out, hyr, HXR.out] at h1
                omega
              have HAP : Hid (plc 100 a p = plc 100 a q → ¬ (x.b ≤ y.e ∧ y.b ≤ x.e)) := fun e h => lin_apart HOK.out HK10.out HLAW.out HRP.out (by rw [HX.out]; exact List.getElem_mem _) (by rw [hy]; exact List.getElem_mem _) HXR.out hyr hpq h.1 h.2 e
              have hab : Below wr.heap.size wr (wr.alloc (.cells #[.int .i64 (q : Int), .int .i64 y.b, .int .i64 y.e, .bool y.s] 46)) := (Below.refl _ _).alloc (Nat.le_refl _) _
              have HB1 := Lib.hid (HBX.out.below hab)
              have HW1 := Lib.hid (HWX.out.trans (hab.mono HWX.out.size))
              have HR1 := Lib.hid (HROW.out.below hab)
              have HX1 := Lib.hid (HXB.out.below hab (Blk.lt HXB.out))
              have HYB : Hid (Blk (wr.alloc (.cells #[.int .i64 (q : Int), .int .i64 y.b, .int .i64 y.e, .bool y.s] 46)) wr.heap.size 46 [.int .i64 (q : Int), .int .i64 y.b, .int .i64 y.e, .bool y.s]) := Blk.new wr _ _
              have hjj : (j : Int) < (i : Int) := by omega
              have hjc : j < lc := by omega
              clear hab hy hyr hpq
              go_upto_region 20 with fail
              obtain ⟨yp, hyp⟩ : ∃ yp, yp = wr.heap.size := ⟨_, rfl⟩
              rw [← hyp] at HYB ⊢
              clear hyp c0 c1 c2 c3 hgw HBX HWX HROW HXB
              generalize wr.alloc (.cells #[.int .i64 (q : Int), .int .i64 y.b, .int .i64 y.e, .bool y.s] 46) = w2y at HB1 HW1 HR1 HX1 HYB ⊢
              have HSX := Lib.hid fun wx h => HSPA.out wx h p hp2
              have HSY := Lib.hid fun wx h => HSPA.out wx h q hq2
              obtain ⟨px, hpx⟩ : ∃ z, z = plc 100 a p := ⟨_, rfl⟩
              obtain ⟨py, hpy⟩ : ∃ z, z = plc 100 a q := ⟨_, rfl⟩
              rw [← hpx] at HSX HAP
              rw [← hpy] at HSY HAP
              obtain ⟨wd, hwd⟩ : ∃ wd, wd = w2y.drew := ⟨_, rfl⟩
              have hde : Below w2y.heap.size w2y wd := by rw [hwd]; exact (Below.refl _ _).drew
              have HD := Lib.hid (HB1.out.below hde)
              have HWD := Lib.hid (HW1.out.trans (hde.mono HW1.out.size))
              have HRD := Lib.hid (HR1.out.below hde)
              have HXD := Lib.hid (HX1.out.below hde (Blk.lt HX1.out))
              have HYD := Lib.hid (HYB.out.below hde (Blk.lt HYB.out))
              have a0 := HD.out.ba.cell 0
              have a1 := HD.out.ba.cell 1
              have a2 := HD.out.ba.cell 2
              have x0 := HXD.out.cell 0
              have y0 := HYD.out.cell 0
              simp only [List.getElem?_cons_zero, List.getElem?_cons_succ] at a0 a1 a2 x0 y0
              have hal := HD.out.ba.lt
              have hxl := Blk.lt HXD.out
              have hyl := Blk.lt HYD.out
              have s0 := fun z : After wd.heap.size wd => (z.below.cell (p := ⟨w4h, 0, none⟩) hal).trans a0
              have s1 := fun z : After wd.heap.size wd => (z.below.cell (p := ⟨w4h, 1, none⟩) hal).trans a1
              have s2 := fun z : After wd.heap.size wd => (z.below.cell (p := ⟨w4h, 2, none⟩) hal).trans a2
              have t0 := fun z : After wd.heap.size wd => (z.below.cell (p := ⟨xp, 0, none⟩) hxl).trans x0
              have t1 := fun z : After wd.heap.size wd => (z.below.cell (p := ⟨yp, 0, none⟩) hyl).trans y0
              clear hpx hpy hde a0 a1 a2 x0 y0 HB1 HW1 HR1 HX1 HYB
              refine wp_region_eager wd.heap.size [(0, true), (1, true), (2, true), (4, true), (5, true), (6, true), (3, false), (7, false), (8, true), (9, true), (10, true), (11, true), (12, true), (13, true), (14, true), (15, true), (16, true), (17, true), (18, true), (19, true), (20, true), (21, true), (22, true)] (by kernel_rfl) (by kernel_rfl) ?_
              rw [← hwd]
              clear hwd
              repeat (refine eag_read rfl ?_; go_big_quiet_step (fail); refine wpQuiet_nil ?_)
              clear s0 s1 s2 t0 t1
              refine eag_does rfl rfl ?_
              intro K hK
              go_simp
              refine (HSX.out _ HWD.out).mono ?_
              rintro e w11 ⟨rfl, hb⟩
              have HWD1 := Lib.hid (HWD.out.trans (hb.mono HWD.out.size))
              have HBB1 := Lib.hid (hb.mono (Nat.le_refl _))
              refine hK _ _ HBB1.out ?_
              clear hK K hb
              go_simp
              refine eag_does rfl rfl ?_
              intro K hK
              go_simp
              refine (HSY.out _ HWD1.out).mono ?_
              rintro e w21 ⟨rfl, hb⟩
              have HWD2 := Lib.hid (HWD1.out.trans (hb.mono HWD1.out.size))
              have HBB2 := Lib.hid (hb.mono HBB1.out.size)
              refine hK _ _ HBB2.out ?_
              clear hK K hb
              go_simp
              have HBB : Hid (Below wd.heap.size wd w21) := HBB1.out.trans HBB2.out
              have HB9 := Lib.hid (HD.out.below HBB.out)
              have HR9 := Lib.hid (HRD.out.below HBB.out)
              have HX9 := Lib.hid (HXD.out.below HBB.out (Blk.lt HXD.out))
              have HY9 := Lib.hid (HYD.out.below HBB.out (Blk.lt HYD.out))
              have x1 := HX9.out.cell 1
              have x2 := HX9.out.cell 2
              have y1 := HY9.out.cell 1
              have y2 := HY9.out.cell 2
              simp only [List.getElem?_cons_zero, List.getElem?_cons_succ] at x1 x2 y1 y2
              have t1 := fun z : After wd.heap.size w21 => (z.below.cell (p := ⟨xp, 1, none⟩) hxl).trans x1
              have t2 := fun z : After wd.heap.size w21 => (z.below.cell (p := ⟨xp, 2, none⟩) hxl).trans x2
              have t3 := fun z : After wd.heap.size w21 => (z.below.cell (p := ⟨yp, 1, none⟩) hyl).trans y1
              have t4 := fun z : After wd.heap.size w21 => (z.below.cell (p := ⟨yp, 2, none⟩) hyl).trans y2
              clear x1 x2 y1 y2 HD HRD HXD HYD HBB HBB1 HBB2 HWD HWD1
              have hcs : (px == py) = false ∨ ((px == py) = true ∧ decide (x.b ≤ y.e) = false) ∨ ((px == py) = true ∧ decide (x.b ≤ y.e) = true ∧ decide (y.b ≤ x.e) = false) := by
                by_cases h1 : px = py
                · have h2 := HAP.out h1
                  by_cases h3 : x.b ≤ y.e
                  · exact .inr (.inr ⟨by simp [h1], by simp [h3], by simp; omega⟩)
                  · exact .inr (.inl ⟨by simp [h1], by simp; omega⟩)
                · exact .inl (by simp [h1])
              rcases hcs with q5 | ⟨q5, q6⟩ | ⟨q5, q6, q7⟩
              · repeat (refine eag_read rfl ?_; go_big_quiet_step (fail); refine wpQuiet_nil ?_)
                refine eag_end ?_
                clear t1 t2 t3 t4
                go_wp2_with fail
                go_roundw
                case rel => exact ⟨j + 1, by omega, by go_num, HB9.out, HWD2.out, HR9.out, HX9.out⟩
                case measure => simp [intOf]; omega
              · have g6 : y.e < x.b := by simpa using q6
                repeat (refine eag_read rfl ?_; go_big_quiet_step (fail); refine wpQuiet_nil ?_)
                refine eag_end ?_
                clear t1 t2 t3 t4
                go_wp2_with fail
                go_roundw
                case rel => exact ⟨j + 1, by omega, by go_num, HB9.out, HWD2.out, HR9.out, HX9.out⟩
                case measure => simp [intOf]; omega
              · have g6 : x.b ≤ y.e := by simpa using q6
                have g7 : x.e < y.b := by simpa using q7
                repeat (refine eag_read rfl ?_; go_big_quiet_step (fail); refine wpQuiet_nil ?_)
                refine eag_end ?_
                clear t1 t2 t3 t4
                go_wp2_with fail
                go_roundw
                case rel => exact ⟨j + 1, by omega, by go_num, HB9.out, HWD2.out, HR9.out, HX9.out⟩
                case measure => simp [intOf]; omega
            · have ej : i = j := by omega
              subst ej
              go_wp2_with fail
              go_roundw
              case rel => exact ⟨i + 1, by omega, by go_num, HBX.out, HWX.out, HROW.out⟩
              case measure => simp [intOf]; omega
        · have ei : N = i := by omega
          subst ei
          go_wp2_with fail
          go_ret
          exact ⟨rfl, HBX.out.be⟩
end Go.Proofs.Ytlaogkbdjkofaaa
