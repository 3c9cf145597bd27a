/- The walk of CacheLevels. -/
import Derived.Test.YtkblfoabfajciaaCacheD
namespace Go.Proofs.Ytkblfoabfajciaa
open Go.RowKit
set_option linter.unusedVariables false
set_option linter.unusedSimpArgs false

theorem ccheckI (a0 a1 a2 a3 : Int) (w : World) : Calls Try.prog 9 #[.agg #[.int .i64 a0, .int .i64 a1, .int .i64 a2, .int .i64 a3]] w (IntB (confE ⟨a0, a1, a2, a3⟩) w) := ccheck_any ⟨a0, a1, a2, a3⟩ w
theorem missesI {a0 a1 a2 a3 b0 b1 b2 b3 : Int} (h1 : confB ⟨a0, a1, a2, a3⟩ = true) (h2 : confB ⟨b0, b1, b2, b3⟩ = true) : ∃ c1 : Conf, (∀ zs : List Int, missN c1 zs ≤ 60 ∧ missN c1 zs ≤ zs.length) ∧ c1.val = (ConfI.mk a0 a1 a2 a3).val ∧ c1.Ok ∧
    ∀ (a : Option Addr) (len cap : Nat) (zs : List Int) (w : World), Came w a len cap 1 (zs.map intCells) →
    Calls Try.prog 10 #[.agg #[.int .i64 a0, .int .i64 a1, .int .i64 a2, .int .i64 a3], .agg #[.int .i64 b0, .int .i64 b1, .int .i64 b2, .int .i64 b3], .slice a len cap] w (IntB (missN c1 zs) w) := by
  obtain ⟨c1, o1, v1, _⟩ := conf_ok h1
  obtain ⟨c2, o2, v2, _⟩ := conf_ok h2
  refine ⟨c1, fun zs => ⟨runK_le c1 zs 60, runK_len c1 zs⟩, v1.symm, o1, fun a len cap zs w h => ?_⟩
  have := misses_any c1 c2 o1 o2 a len cap zs w h
  rw [← v1, ← v2] at this
  exact this
theorem val_inj {c d : Conf} (h : c.val = d.val) : c = d := by
  obtain ⟨a, b, e, f⟩ := c
  obtain ⟨a', b', e', f'⟩ := d
  simp only [Conf.val, Value.agg.injEq, Array.mk.injEq, List.cons.injEq, Value.int.injEq, true_and, and_true] at h
  obtain ⟨h1, h2, h3, h4⟩ := h
  obtain rfl : a = a' := by omega
  obtain rfl : b = b' := by omega
  obtain rfl : e = e' := by omega
  obtain rfl : f = f' := by omega
  rfl

set_option maxRecDepth 100000 in
set_option maxHeartbeats 4000000 in
theorem cacheLevels_walk (a0 a1 a2 a3 b0 b1 b2 b3 d0 d1 d2 d3 : Int) (a : Option Addr) (len cap : Nat) (zs : List Int) (w : World)
    (_ : -9223372036854775808 ≤ a0 ∧ a0 ≤ 9223372036854775807) (_ : -9223372036854775808 ≤ a1 ∧ a1 ≤ 9223372036854775807) (_ : -9223372036854775808 ≤ a2 ∧ a2 ≤ 9223372036854775807) (_ : -9223372036854775808 ≤ a3 ∧ a3 ≤ 9223372036854775807)
    (_ : -9223372036854775808 ≤ b0 ∧ b0 ≤ 9223372036854775807) (_ : -9223372036854775808 ≤ b1 ∧ b1 ≤ 9223372036854775807) (_ : -9223372036854775808 ≤ b2 ∧ b2 ≤ 9223372036854775807) (_ : -9223372036854775808 ≤ b3 ∧ b3 ≤ 9223372036854775807)
    (_ : -9223372036854775808 ≤ d0 ∧ d0 ≤ 9223372036854775807) (_ : -9223372036854775808 ≤ d1 ∧ d1 ≤ 9223372036854775807) (_ : -9223372036854775808 ≤ d2 ∧ d2 ≤ 9223372036854775807) (_ : -9223372036854775808 ≤ d3 ∧ d3 ≤ 9223372036854775807)
    (h0 : Came w a len cap 1 (zs.map intCells) ∧ ∀ z ∈ zs, I64 z) :
    Calls Try.prog 3 #[.agg #[.int .i64 a0, .int .i64 a1, .int .i64 a2, .int .i64 a3], .agg #[.int .i64 b0, .int .i64 b1, .int .i64 b2, .int .i64 b3], .agg #[.int .i64 d0, .int .i64 d1, .int .i64 d2, .int .i64 d3], .slice a len cap] w fun e w' => e = .returned (.bool true) ∧ Below w.heap.size w w' := by
  have h := h0.1
  clear h0
  have hzl : zs.length = len := by simpa using h.count
  have hle := h.le
  have hmx := h.max
  have HC := Lib.hid h
  have hb0 : Below w.heap.size w (((w.alloc (.cells #[.int .i64 a0, .int .i64 a1, .int .i64 a2, .int .i64 a3] 23)).alloc (.cells #[.int .i64 b0, .int .i64 b1, .int .i64 b2, .int .i64 b3] 23)).alloc (.cells #[.int .i64 d0, .int .i64 d1, .int .i64 d2, .int .i64 d3] 23)) :=
    (((Below.refl _ _).alloc (Nat.le_refl _) _).alloc (by simp) _).alloc (by simp; omega) _
  have hA := ((Blk.new w [.int .i64 a0, .int .i64 a1, .int .i64 a2, .int .i64 a3] 23).alloc (.cells #[.int .i64 b0, .int .i64 b1, .int .i64 b2, .int .i64 b3] 23)).alloc (.cells #[.int .i64 d0, .int .i64 d1, .int .i64 d2, .int .i64 d3] 23)
  have hB := (Blk.new (w.alloc (.cells #[.int .i64 a0, .int .i64 a1, .int .i64 a2, .int .i64 a3] 23)) [.int .i64 b0, .int .i64 b1, .int .i64 b2, .int .i64 b3] 23).alloc (.cells #[.int .i64 d0, .int .i64 d1, .int .i64 d2, .int .i64 d3] 23)
  have hD := Blk.new ((w.alloc (.cells #[.int .i64 a0, .int .i64 a1, .int .i64 a2, .int .i64 a3] 23)).alloc (.cells #[.int .i64 b0, .int .i64 b1, .int .i64 b2, .int .i64 b3] 23)) [.int .i64 d0, .int .i64 d1, .int .i64 d2, .int .i64 d3] 23
  rw [World.size_alloc] at hB
  rw [World.size_alloc, World.size_alloc] at hD
  have HB0 := Lib.hid hb0
  have HA := Lib.hid hA
  have HB := Lib.hid hB
  have HD := Lib.hid hD
  clear h hb0 hA hB hD
  have HZ := Lib.hid hzl
  clear hzl
  have HC1 := fun wx => ccheckI a0 a1 a2 a3 wx
  have HC2 := fun wx => ccheckI b0 b1 b2 b3 wx
  have HC3 := fun wx => ccheckI d0 d1 d2 d3 wx
  cases ha : confB ⟨a0, a1, a2, a3⟩
  · rw [confE_bad ha] at HC1
    clear ha
    go_enter Try.func3, Try.ntmps3
    go_wp2_with fail
    generalize ((w.alloc (.cells #[.int .i64 a0, .int .i64 a1, .int .i64 a2, .int .i64 a3] 23)).alloc (.cells #[.int .i64 b0, .int .i64 b1, .int .i64 b2, .int .i64 b3] 23)).alloc (.cells #[.int .i64 d0, .int .i64 d1, .int .i64 d2, .int .i64 d3] 23) = w1 at HA HB HD HB0 ⊢
    refine (cacheFactK_ok _).mono ?_
    rintro e w2 ⟨rfl, hb⟩
    have HA := Lib.hid (HA.out.below hb HA.out.lt)
    have HB := Lib.hid (HB.out.below hb HB.out.lt)
    have HD := Lib.hid (HD.out.below hb HD.out.lt)
    have HB0 := Lib.hid (HB0.out.trans (hb.mono HB0.out.size))
    clear hb
    have za0 := HA.out.cell 0
    have za1 := HA.out.cell 1
    have za2 := HA.out.cell 2
    have za3 := HA.out.cell 3
    have zb0 := HB.out.cell 0
    have zb1 := HB.out.cell 1
    have zb2 := HB.out.cell 2
    have zb3 := HB.out.cell 3
    have zd0 := HD.out.cell 0
    have zd1 := HD.out.cell 1
    have zd2 := HD.out.cell 2
    have zd3 := HD.out.cell 3
    simp only [List.getElem?_cons_succ, List.getElem?_cons_zero] at za0 za1 za2 za3 zb0 zb1 zb2 zb3 zd0 zd1 zd2 zd3
    go_wp2_with fail
    refine (HC1 _).mono ?_
    rintro e w3 ⟨rfl, hb⟩
    have HA := Lib.hid (HA.out.below hb HA.out.lt)
    have HB := Lib.hid (HB.out.below hb HB.out.lt)
    have HD := Lib.hid (HD.out.below hb HD.out.lt)
    have HB0 := Lib.hid (HB0.out.trans (hb.mono HB0.out.size))
    clear hb
    clear za0 za1 za2 za3 zb0 zb1 zb2 zb3 zd0 zd1 zd2 zd3
    have za0 := HA.out.cell 0
    have za1 := HA.out.cell 1
    have za2 := HA.out.cell 2
    have za3 := HA.out.cell 3
    have zb0 := HB.out.cell 0
    have zb1 := HB.out.cell 1
    have zb2 := HB.out.cell 2
    have zb3 := HB.out.cell 3
    have zd0 := HD.out.cell 0
    have zd1 := HD.out.cell 1
    have zd2 := HD.out.cell 2
    have zd3 := HD.out.cell 3
    simp only [List.getElem?_cons_succ, List.getElem?_cons_zero] at za0 za1 za2 za3 zb0 zb1 zb2 zb3 zd0 zd1 zd2 zd3
    go_wp2_with fail
    go_ret
    exact ⟨rfl, HB0.out⟩
  · rw [confE_ok ha] at HC1
    cases hbb : confB ⟨b0, b1, b2, b3⟩
    · rw [confE_bad hbb] at HC2
      clear ha hbb
      go_enter Try.func3, Try.ntmps3
      go_wp2_with fail
      generalize ((w.alloc (.cells #[.int .i64 a0, .int .i64 a1, .int .i64 a2, .int .i64 a3] 23)).alloc (.cells #[.int .i64 b0, .int .i64 b1, .int .i64 b2, .int .i64 b3] 23)).alloc (.cells #[.int .i64 d0, .int .i64 d1, .int .i64 d2, .int .i64 d3] 23) = w1 at HA HB HD HB0 ⊢
      refine (cacheFactK_ok _).mono ?_
      rintro e w2 ⟨rfl, hb⟩
      have HA := Lib.hid (HA.out.below hb HA.out.lt)
      have HB := Lib.hid (HB.out.below hb HB.out.lt)
      have HD := Lib.hid (HD.out.below hb HD.out.lt)
      have HB0 := Lib.hid (HB0.out.trans (hb.mono HB0.out.size))
      clear hb
      have za0 := HA.out.cell 0
      have za1 := HA.out.cell 1
      have za2 := HA.out.cell 2
      have za3 := HA.out.cell 3
      have zb0 := HB.out.cell 0
      have zb1 := HB.out.cell 1
      have zb2 := HB.out.cell 2
      have zb3 := HB.out.cell 3
      have zd0 := HD.out.cell 0
      have zd1 := HD.out.cell 1
      have zd2 := HD.out.cell 2
      have zd3 := HD.out.cell 3
      simp only [List.getElem?_cons_succ, List.getElem?_cons_zero] at za0 za1 za2 za3 zb0 zb1 zb2 zb3 zd0 zd1 zd2 zd3
      go_wp2_with fail
      refine (HC1 _).mono ?_
      rintro e w3 ⟨rfl, hb⟩
      have HA := Lib.hid (HA.out.below hb HA.out.lt)
      have HB := Lib.hid (HB.out.below hb HB.out.lt)
      have HD := Lib.hid (HD.out.below hb HD.out.lt)
      have HB0 := Lib.hid (HB0.out.trans (hb.mono HB0.out.size))
      clear hb
      clear za0 za1 za2 za3 zb0 zb1 zb2 zb3 zd0 zd1 zd2 zd3
      have za0 := HA.out.cell 0
      have za1 := HA.out.cell 1
      have za2 := HA.out.cell 2
      have za3 := HA.out.cell 3
      have zb0 := HB.out.cell 0
      have zb1 := HB.out.cell 1
      have zb2 := HB.out.cell 2
      have zb3 := HB.out.cell 3
      have zd0 := HD.out.cell 0
      have zd1 := HD.out.cell 1
      have zd2 := HD.out.cell 2
      have zd3 := HD.out.cell 3
      simp only [List.getElem?_cons_succ, List.getElem?_cons_zero] at za0 za1 za2 za3 zb0 zb1 zb2 zb3 zd0 zd1 zd2 zd3
      go_wp2_with fail
      refine (HC2 _).mono ?_
      rintro e w4 ⟨rfl, hb⟩
      have HA := Lib.hid (HA.out.below hb HA.out.lt)
      have HB := Lib.hid (HB.out.below hb HB.out.lt)
      have HD := Lib.hid (HD.out.below hb HD.out.lt)
      have HB0 := Lib.hid (HB0.out.trans (hb.mono HB0.out.size))
      clear hb
      clear za0 za1 za2 za3 zb0 zb1 zb2 zb3 zd0 zd1 zd2 zd3
      have za0 := HA.out.cell 0
      have za1 := HA.out.cell 1
      have za2 := HA.out.cell 2
      have za3 := HA.out.cell 3
      have zb0 := HB.out.cell 0
      have zb1 := HB.out.cell 1
      have zb2 := HB.out.cell 2
      have zb3 := HB.out.cell 3
      have zd0 := HD.out.cell 0
      have zd1 := HD.out.cell 1
      have zd2 := HD.out.cell 2
      have zd3 := HD.out.cell 3
      simp only [List.getElem?_cons_succ, List.getElem?_cons_zero] at za0 za1 za2 za3 zb0 zb1 zb2 zb3 zd0 zd1 zd2 zd3
      go_wp2_with fail
      go_ret
      exact ⟨rfl, HB0.out⟩
    · rw [confE_ok hbb] at HC2
      cases hdd : confB ⟨d0, d1, d2, d3⟩
      · rw [confE_bad hdd] at HC3
        clear ha hbb hdd
        go_enter Try.func3, Try.ntmps3
        go_wp2_with fail
        generalize ((w.alloc (.cells #[.int .i64 a0, .int .i64 a1, .int .i64 a2, .int .i64 a3] 23)).alloc (.cells #[.int .i64 b0, .int .i64 b1, .int .i64 b2, .int .i64 b3] 23)).alloc (.cells #[.int .i64 d0, .int .i64 d1, .int .i64 d2, .int .i64 d3] 23) = w1 at HA HB HD HB0 ⊢
        refine (cacheFactK_ok _).mono ?_
        rintro e w2 ⟨rfl, hb⟩
        have HA := Lib.hid (HA.out.below hb HA.out.lt)
        have HB := Lib.hid (HB.out.below hb HB.out.lt)
        have HD := Lib.hid (HD.out.below hb HD.out.lt)
        have HB0 := Lib.hid (HB0.out.trans (hb.mono HB0.out.size))
        clear hb
        have za0 := HA.out.cell 0
        have za1 := HA.out.cell 1
        have za2 := HA.out.cell 2
        have za3 := HA.out.cell 3
        have zb0 := HB.out.cell 0
        have zb1 := HB.out.cell 1
        have zb2 := HB.out.cell 2
        have zb3 := HB.out.cell 3
        have zd0 := HD.out.cell 0
        have zd1 := HD.out.cell 1
        have zd2 := HD.out.cell 2
        have zd3 := HD.out.cell 3
        simp only [List.getElem?_cons_succ, List.getElem?_cons_zero] at za0 za1 za2 za3 zb0 zb1 zb2 zb3 zd0 zd1 zd2 zd3
        go_wp2_with fail
        refine (HC1 _).mono ?_
        rintro e w3 ⟨rfl, hb⟩
        have HA := Lib.hid (HA.out.below hb HA.out.lt)
        have HB := Lib.hid (HB.out.below hb HB.out.lt)
        have HD := Lib.hid (HD.out.below hb HD.out.lt)
        have HB0 := Lib.hid (HB0.out.trans (hb.mono HB0.out.size))
        clear hb
        clear za0 za1 za2 za3 zb0 zb1 zb2 zb3 zd0 zd1 zd2 zd3
        have za0 := HA.out.cell 0
        have za1 := HA.out.cell 1
        have za2 := HA.out.cell 2
        have za3 := HA.out.cell 3
        have zb0 := HB.out.cell 0
        have zb1 := HB.out.cell 1
        have zb2 := HB.out.cell 2
        have zb3 := HB.out.cell 3
        have zd0 := HD.out.cell 0
        have zd1 := HD.out.cell 1
        have zd2 := HD.out.cell 2
        have zd3 := HD.out.cell 3
        simp only [List.getElem?_cons_succ, List.getElem?_cons_zero] at za0 za1 za2 za3 zb0 zb1 zb2 zb3 zd0 zd1 zd2 zd3
        go_wp2_with fail
        refine (HC2 _).mono ?_
        rintro e w4 ⟨rfl, hb⟩
        have HA := Lib.hid (HA.out.below hb HA.out.lt)
        have HB := Lib.hid (HB.out.below hb HB.out.lt)
        have HD := Lib.hid (HD.out.below hb HD.out.lt)
        have HB0 := Lib.hid (HB0.out.trans (hb.mono HB0.out.size))
        clear hb
        clear za0 za1 za2 za3 zb0 zb1 zb2 zb3 zd0 zd1 zd2 zd3
        have za0 := HA.out.cell 0
        have za1 := HA.out.cell 1
        have za2 := HA.out.cell 2
        have za3 := HA.out.cell 3
        have zb0 := HB.out.cell 0
        have zb1 := HB.out.cell 1
        have zb2 := HB.out.cell 2
        have zb3 := HB.out.cell 3
        have zd0 := HD.out.cell 0
        have zd1 := HD.out.cell 1
        have zd2 := HD.out.cell 2
        have zd3 := HD.out.cell 3
        simp only [List.getElem?_cons_succ, List.getElem?_cons_zero] at za0 za1 za2 za3 zb0 zb1 zb2 zb3 zd0 zd1 zd2 zd3
        go_wp2_with fail
        refine (HC3 _).mono ?_
        rintro e w5 ⟨rfl, hb⟩
        have HA := Lib.hid (HA.out.below hb HA.out.lt)
        have HB := Lib.hid (HB.out.below hb HB.out.lt)
        have HD := Lib.hid (HD.out.below hb HD.out.lt)
        have HB0 := Lib.hid (HB0.out.trans (hb.mono HB0.out.size))
        clear hb
        clear za0 za1 za2 za3 zb0 zb1 zb2 zb3 zd0 zd1 zd2 zd3
        have za0 := HA.out.cell 0
        have za1 := HA.out.cell 1
        have za2 := HA.out.cell 2
        have za3 := HA.out.cell 3
        have zb0 := HB.out.cell 0
        have zb1 := HB.out.cell 1
        have zb2 := HB.out.cell 2
        have zb3 := HB.out.cell 3
        have zd0 := HD.out.cell 0
        have zd1 := HD.out.cell 1
        have zd2 := HD.out.cell 2
        have zd3 := HD.out.cell 3
        simp only [List.getElem?_cons_succ, List.getElem?_cons_zero] at za0 za1 za2 za3 zb0 zb1 zb2 zb3 zd0 zd1 zd2 zd3
        go_wp2_with fail
        go_ret
        exact ⟨rfl, HB0.out⟩
      · rw [confE_ok hdd] at HC3
        obtain ⟨c1, hm1, hv1, _, HM1⟩ := missesI ha hbb
        obtain ⟨c1', _, hv2, _, HM2⟩ := missesI ha hdd
        obtain rfl := val_inj (hv1.trans hv2.symm)
        obtain ⟨g1, g2⟩ := hm1 zs
        rw [HZ.out] at g2
        have HM1' := fun wx hx => HM1 a len cap zs wx hx
        have HM2' := fun wx hx => HM2 a len cap zs wx hx
        obtain ⟨n, hn⟩ : ∃ n, n = missN c1 zs := ⟨_, rfl⟩
        rw [← hn] at HM1' HM2' g1 g2
        have zn : ((n : Int) == (n : Int)) = true := beq_self_eq_true _
        clear ha hbb hdd hv1 hv2 hm1 HM1 HM2 hn
        have mnn : (n : Int) ≤ min (len : Int) 60 := by omega
        go_enter Try.func3, Try.ntmps3
        go_wp2_with fail
        generalize ((w.alloc (.cells #[.int .i64 a0, .int .i64 a1, .int .i64 a2, .int .i64 a3] 23)).alloc (.cells #[.int .i64 b0, .int .i64 b1, .int .i64 b2, .int .i64 b3] 23)).alloc (.cells #[.int .i64 d0, .int .i64 d1, .int .i64 d2, .int .i64 d3] 23) = w1 at HA HB HD HB0 ⊢
        refine (cacheFactK_ok _).mono ?_
        rintro e w2 ⟨rfl, hb⟩
        have HA := Lib.hid (HA.out.below hb HA.out.lt)
        have HB := Lib.hid (HB.out.below hb HB.out.lt)
        have HD := Lib.hid (HD.out.below hb HD.out.lt)
        have HB0 := Lib.hid (HB0.out.trans (hb.mono HB0.out.size))
        clear hb
        have za0 := HA.out.cell 0
        have za1 := HA.out.cell 1
        have za2 := HA.out.cell 2
        have za3 := HA.out.cell 3
        have zb0 := HB.out.cell 0
        have zb1 := HB.out.cell 1
        have zb2 := HB.out.cell 2
        have zb3 := HB.out.cell 3
        have zd0 := HD.out.cell 0
        have zd1 := HD.out.cell 1
        have zd2 := HD.out.cell 2
        have zd3 := HD.out.cell 3
        simp only [List.getElem?_cons_succ, List.getElem?_cons_zero] at za0 za1 za2 za3 zb0 zb1 zb2 zb3 zd0 zd1 zd2 zd3
        go_wp2_with fail
        refine (HC1 _).mono ?_
        rintro e w3 ⟨rfl, hb⟩
        have HA := Lib.hid (HA.out.below hb HA.out.lt)
        have HB := Lib.hid (HB.out.below hb HB.out.lt)
        have HD := Lib.hid (HD.out.below hb HD.out.lt)
        have HB0 := Lib.hid (HB0.out.trans (hb.mono HB0.out.size))
        clear hb
        clear za0 za1 za2 za3 zb0 zb1 zb2 zb3 zd0 zd1 zd2 zd3
        have za0 := HA.out.cell 0
        have za1 := HA.out.cell 1
        have za2 := HA.out.cell 2
        have za3 := HA.out.cell 3
        have zb0 := HB.out.cell 0
        have zb1 := HB.out.cell 1
        have zb2 := HB.out.cell 2
        have zb3 := HB.out.cell 3
        have zd0 := HD.out.cell 0
        have zd1 := HD.out.cell 1
        have zd2 := HD.out.cell 2
        have zd3 := HD.out.cell 3
        simp only [List.getElem?_cons_succ, List.getElem?_cons_zero] at za0 za1 za2 za3 zb0 zb1 zb2 zb3 zd0 zd1 zd2 zd3
        go_wp2_with fail
        refine (HC2 _).mono ?_
        rintro e w4 ⟨rfl, hb⟩
        have HA := Lib.hid (HA.out.below hb HA.out.lt)
        have HB := Lib.hid (HB.out.below hb HB.out.lt)
        have HD := Lib.hid (HD.out.below hb HD.out.lt)
        have HB0 := Lib.hid (HB0.out.trans (hb.mono HB0.out.size))
        clear hb
        clear za0 za1 za2 za3 zb0 zb1 zb2 zb3 zd0 zd1 zd2 zd3
        have za0 := HA.out.cell 0
        have za1 := HA.out.cell 1
        have za2 := HA.out.cell 2
        have za3 := HA.out.cell 3
        have zb0 := HB.out.cell 0
        have zb1 := HB.out.cell 1
        have zb2 := HB.out.cell 2
        have zb3 := HB.out.cell 3
        have zd0 := HD.out.cell 0
        have zd1 := HD.out.cell 1
        have zd2 := HD.out.cell 2
        have zd3 := HD.out.cell 3
        simp only [List.getElem?_cons_succ, List.getElem?_cons_zero] at za0 za1 za2 za3 zb0 zb1 zb2 zb3 zd0 zd1 zd2 zd3
        go_wp2_with fail
        refine (HC3 _).mono ?_
        rintro e w5 ⟨rfl, hb⟩
        have HA := Lib.hid (HA.out.below hb HA.out.lt)
        have HB := Lib.hid (HB.out.below hb HB.out.lt)
        have HD := Lib.hid (HD.out.below hb HD.out.lt)
        have HB0 := Lib.hid (HB0.out.trans (hb.mono HB0.out.size))
        clear hb
        clear za0 za1 za2 za3 zb0 zb1 zb2 zb3 zd0 zd1 zd2 zd3
        have za0 := HA.out.cell 0
        have za1 := HA.out.cell 1
        have za2 := HA.out.cell 2
        have za3 := HA.out.cell 3
        have zb0 := HB.out.cell 0
        have zb1 := HB.out.cell 1
        have zb2 := HB.out.cell 2
        have zb3 := HB.out.cell 3
        have zd0 := HD.out.cell 0
        have zd1 := HD.out.cell 1
        have zd2 := HD.out.cell 2
        have zd3 := HD.out.cell 3
        simp only [List.getElem?_cons_succ, List.getElem?_cons_zero] at za0 za1 za2 za3 zb0 zb1 zb2 zb3 zd0 zd1 zd2 zd3
        go_wp2_with fail
        refine (HM1' _ (HC.out.below HB0.out)).mono ?_
        rintro e w6 ⟨rfl, hb⟩
        have HA := Lib.hid (HA.out.below hb HA.out.lt)
        have HB := Lib.hid (HB.out.below hb HB.out.lt)
        have HD := Lib.hid (HD.out.below hb HD.out.lt)
        have HB0 := Lib.hid (HB0.out.trans (hb.mono HB0.out.size))
        clear hb
        clear za0 za1 za2 za3 zb0 zb1 zb2 zb3 zd0 zd1 zd2 zd3
        have za0 := HA.out.cell 0
        have za1 := HA.out.cell 1
        have za2 := HA.out.cell 2
        have za3 := HA.out.cell 3
        have zb0 := HB.out.cell 0
        have zb1 := HB.out.cell 1
        have zb2 := HB.out.cell 2
        have zb3 := HB.out.cell 3
        have zd0 := HD.out.cell 0
        have zd1 := HD.out.cell 1
        have zd2 := HD.out.cell 2
        have zd3 := HD.out.cell 3
        simp only [List.getElem?_cons_succ, List.getElem?_cons_zero] at za0 za1 za2 za3 zb0 zb1 zb2 zb3 zd0 zd1 zd2 zd3
        go_wp2_with fail
        refine (HM2' _ (HC.out.below HB0.out)).mono ?_
        rintro e w7 ⟨rfl, hb⟩
        have HA := Lib.hid (HA.out.below hb HA.out.lt)
        have HB := Lib.hid (HB.out.below hb HB.out.lt)
        have HD := Lib.hid (HD.out.below hb HD.out.lt)
        have HB0 := Lib.hid (HB0.out.trans (hb.mono HB0.out.size))
        clear hb
        clear za0 za1 za2 za3 zb0 zb1 zb2 zb3 zd0 zd1 zd2 zd3
        have za0 := HA.out.cell 0
        have za1 := HA.out.cell 1
        have za2 := HA.out.cell 2
        have za3 := HA.out.cell 3
        have zb0 := HB.out.cell 0
        have zb1 := HB.out.cell 1
        have zb2 := HB.out.cell 2
        have zb3 := HB.out.cell 3
        have zd0 := HD.out.cell 0
        have zd1 := HD.out.cell 1
        have zd2 := HD.out.cell 2
        have zd3 := HD.out.cell 3
        simp only [List.getElem?_cons_succ, List.getElem?_cons_zero] at za0 za1 za2 za3 zb0 zb1 zb2 zb3 zd0 zd1 zd2 zd3
        go_wp2_with fail
        all_goals
          go_ret
          exact ⟨ret_bool (by first | rfl | exact decide_eq_true (by omega)), HB0.out⟩
end Go.Proofs.Ytkblfoabfajciaa
