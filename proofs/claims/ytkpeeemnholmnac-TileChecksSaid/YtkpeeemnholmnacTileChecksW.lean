/- The walk of TileChecks. -/
import Derived.Test.YtkpeeemnholmnacVFact
import Derived.Test.YtkpeeemnholmnacVSmall
import Derived.Test.YtkpeeemnholmnacVFnErr
import Derived.Test.YtkpeeemnholmnacSameInts
import Derived.Test.YtkpeeemnholmnacEager
namespace Go.Proofs.Ytkpeeemnholmnac
open Go.RowKit
set_option linter.unusedVariables false
set_option linter.unusedSimpArgs false

set_option maxRecDepth 100000 in
set_option maxHeartbeats 8000000 in
theorem tileChecks_walk (f : VF) (w : World) (hf : f.Ok w) : Calls Try.prog 4 #[f.v] w fun e w' => e = .returned (.bool true) ∧ Below w.heap.size w w' := by
  have HF := Lib.hid hf
  have hlen := hf.len
  have hb0 : BoxV f w (w.alloc (.cells #[.int .i64 f.name, .slice f.pa f.pn f.pc, .int .i64 f.regs, .slice f.sa f.sn f.sc] 45)) f.pa f.sa := ⟨(Below.refl _ _).alloc (Nat.le_refl _) _, Blk.new w [.int .i64 f.name, .slice f.pa f.pn f.pc, .int .i64 f.regs, .slice f.sa f.sn f.sc] 45⟩
  have hV : f.v = .agg #[.int .i64 f.name, .slice f.pa f.pn f.pc, .int .i64 f.regs, .slice f.sa f.sn f.sc] := rfl
  have HTF := tileFact_ok (w.alloc (.cells #[.int .i64 f.name, .slice f.pa f.pn f.pc, .int .i64 f.regs, .slice f.sa f.sn f.sc] 45))
  have HSM := fun wx (h : Below w.heap.size w wx) => small_ok wx f (hf.below h)
  have HCK := fun wx (h : Below w.heap.size w wx) => vcheck_any wx f (hf.below h)
  have HFE := fun wx (h : Below w.heap.size w wx) => fnError_any wx f (hf.below h)
  rw [hV] at HSM HCK HFE ⊢
  obtain ⟨pa, hpa⟩ : ∃ s, s = f.pa := ⟨_, rfl⟩
  obtain ⟨sa, hsa⟩ : ∃ s, s = f.sa := ⟨_, rfl⟩
  rw [← hpa, ← hsa] at hb0 HSM HCK HFE HTF ⊢
  have HB0 := Lib.hid hb0
  have HSA := Lib.hid hsa
  have HSM := Lib.hid HSM
  have HCK := Lib.hid HCK
  have HFE := Lib.hid HFE
  clear hf hb0 hV hpa hsa
  go_enter Try.func4, Try.ntmps4
  go_wp2_with fail
  refine HTF.mono ?_
  rintro e w1 ⟨rfl, hb1⟩
  have HB1 := Lib.hid (HB0.out.below hb1)
  clear HTF hb1 HB0
  have c0 := HB1.out.box.cell 0
  have c1 := HB1.out.box.cell 1
  have c2 := HB1.out.box.cell 2
  have c3 := HB1.out.box.cell 3
  simp only [List.getElem?_cons_zero, List.getElem?_cons_succ] at c0 c1 c2 c3
  go_wp2_with fail
  refine (HSM.out _ HB1.out.be).mono ?_
  rintro e w2 ⟨sm, rfl, hsm, hb2⟩
  have HB2 := Lib.hid (HB1.out.below hb2)
  clear hb2 HB1 HSM c0 c1 c2 c3
  cases sm
  · go_wp2_with fail
    go_ret
    exact ⟨rfl, HB2.out.be⟩
  · obtain ⟨h40, h12⟩ := hsm rfl
    clear hsm
    have c3 := HB2.out.box.cell 3
    simp only [List.getElem?_cons_zero, List.getElem?_cons_succ] at c3
    go_wp2_with fail
    clear c3
    go_loopw [2, 4, 15] (fun _ _ u wr => ∃ k : Nat, k ≤ f.sn ∧ u = .int .i64 (k : Int) ∧ BoxV f w wr pa sa) (fun _ _ u _ => f.sn - (intOf u).toNat)
    case atStart => exact ⟨0, Nat.zero_le _, rfl, HB2.out⟩
    case round =>
      clear HB2
      obtain ⟨k, hk, rfl, hbx⟩ := hrel
      obtain ⟨w3, hw3⟩ : ∃ w3, w3 = wr := ⟨_, rfl⟩
      rw [← hw3] at hbx ⊢
      clear hw3
      have HBX := Lib.hid hbx
      by_cases hlt : k < f.sn
      · have hkb : k < f.blocks.length := by omega
        obtain ⟨gb, ob, hsa, hgb, d0, d1, d2, d3, d4, d5, d6⟩ := HF.out.cells hbx.be hkb
        obtain ⟨b, hb⟩ : ∃ b, b = f.blocks[k] := ⟨_, rfl⟩
        rw [← hb] at d0 d1 d2 d3 d4 d5 d6
        rw [← HSA.out] at hsa
        subst hsa
        have HBO : Hid (b.Ok w) := by rw [hb]; exact HF.out.blocks _ (List.getElem_mem _)
        have hbl := HBO.out.len
        have hbr := HBO.out.reach
        obtain ⟨sb, hsb⟩ : ∃ s, s = b.sa := ⟨_, rfl⟩
        rw [← hsb] at d0
        have HSB := Lib.hid hsb
        have hb4 : Below w3.heap.size w3 (w3.alloc (.cells #[.slice sb b.sn b.sc, .int .i64 b.e.kind, .int .i64 b.e.op, .int .i64 b.e.a, .int .i64 b.e.b, .int .i64 b.e.n, .slice b.e.sa b.e.sn b.e.sc] 51)) := (Below.refl _ _).alloc (Nat.le_refl _) _
        have HBX4 := Lib.hid (HBX.out.below hb4)
        have HV4 := Lib.hid (Blk.new w3 [.slice sb b.sn b.sc, .int .i64 b.e.kind, .int .i64 b.e.op, .int .i64 b.e.a, .int .i64 b.e.b, .int .i64 b.e.n, .slice b.e.sa b.e.sn b.e.sc] 51)
        clear hb hsb hbx
        go_wp2_with fail
        clear hb4 d0 d1 d2 d3 d4 d5 d6
        obtain ⟨V, hV⟩ : ∃ V, V = w3.heap.size := ⟨_, rfl⟩
        rw [← hV] at HV4 ⊢
        clear hV
        generalize w3.alloc (.cells #[.slice sb b.sn b.sc, .int .i64 b.e.kind, .int .i64 b.e.op, .int .i64 b.e.a, .int .i64 b.e.b, .int .i64 b.e.n, .slice b.e.sa b.e.sn b.e.sc] 51) = w4 at HBX4 HV4 ⊢
        clear HBX
        go_loopw [2, 6, 22] (fun _ _ u wr => ∃ j : Nat, j ≤ b.sn ∧ u = .int .i64 (j : Int) ∧ Below w4.heap.size w4 wr) (fun _ _ u _ => b.sn - (intOf u).toNat)
        case atStart => exact ⟨0, Nat.zero_le _, rfl, Below.refl _ _⟩
        case round =>
          obtain ⟨j, hj, rfl, hb5⟩ := hrel
          obtain ⟨w5, hw5⟩ : ∃ w5, w5 = wr := ⟨_, rfl⟩
          rw [← hw5] at hb5 ⊢
          clear hw5
          have HB5 := Lib.hid hb5
          have HBX5 := Lib.hid (HBX4.out.below hb5)
          have HV5 := Lib.hid (HV4.out.below hb5 HV4.out.lt)
          clear hb5
          by_cases hjl : j < b.sn
          · have hjb : j < b.ins.length := by omega
            obtain ⟨x, hx⟩ : ∃ x, x = b.ins[j] := ⟨_, rfl⟩
            obtain ⟨gi, oi, hsb2, hgi, d0, d1, d2, d3, d4, d5⟩ := HBO.out.cells HBX5.out.be hjb
            rw [← hx] at d0 d1 d2 d3 d4 d5
            rw [← HSB.out] at hsb2
            subst hsb2
            have HXO : Hid (x.Ok w) := by rw [hx]; exact HBO.out.ins _ (List.getElem_mem _)
            have hb6 : Below w5.heap.size w5 (w5.alloc (.cells #[.int .i64 x.op, .int .i64 x.d, .int .i64 x.a, .int .i64 x.b, .int .i64 x.n, .slice x.sa x.sn x.sc] 53)) := (Below.refl _ _).alloc (Nat.le_refl _) _
            have HB6 := Lib.hid (HB5.out.trans (hb6.mono HB5.out.size))
            have HBX6 := Lib.hid (HBX5.out.below hb6)
            have HVI := Lib.hid (Blk.new w5 [.int .i64 x.op, .int .i64 x.d, .int .i64 x.a, .int .i64 x.b, .int .i64 x.n, .slice x.sa x.sn x.sc] 53)
            clear hx
            go_wp2_with fail
            clear hb6 d0 d1 d2 d3 d4 d5
            obtain ⟨VI, hVI⟩ : ∃ VI, VI = w5.heap.size := ⟨_, rfl⟩
            rw [← hVI] at HVI ⊢
            clear hVI
            generalize w5.alloc (.cells #[.int .i64 x.op, .int .i64 x.d, .int .i64 x.a, .int .i64 x.b, .int .i64 x.n, .slice x.sa x.sn x.sc] 53) = w6 at HB6 HBX6 HVI ⊢
            have hVIl := HVI.out.lt
            have q0 := fun z : After w6.heap.size w6.drew => (z.below.cell (p := ⟨VI, 0, none⟩) hVIl).trans (HVI.out.cell 0)
            have q1 := fun z : After w6.heap.size w6.drew => (z.below.cell (p := ⟨VI, 1, none⟩) hVIl).trans (HVI.out.cell 1)
            have q2 := fun z : After w6.heap.size w6.drew => (z.below.cell (p := ⟨VI, 2, none⟩) hVIl).trans (HVI.out.cell 2)
            have q3 := fun z : After w6.heap.size w6.drew => (z.below.cell (p := ⟨VI, 3, none⟩) hVIl).trans (HVI.out.cell 3)
            have q4 := fun z : After w6.heap.size w6.drew => (z.below.cell (p := ⟨VI, 4, none⟩) hVIl).trans (HVI.out.cell 4)
            have q5 := fun z : After w6.heap.size w6.drew => (z.below.cell (p := ⟨VI, 5, none⟩) hVIl).trans (HVI.out.cell 5)
            simp only [List.getElem?_cons_zero, List.getElem?_cons_succ] at q0 q1 q2 q3 q4 q5
            refine wp_region_eager w6.heap.size [(0, true), (2, true), (1, false), (3, false), (4, true), (5, true), (6, true), (8, true), (7, false), (9, false), (10, false), (11, true), (12, true)] (by kernel_rfl) (by kernel_rfl) ?_
            refine eag_read rfl ?_; go_big_quiet_step (fail); refine wpQuiet_nil ?_
            refine eag_read rfl ?_; go_big_quiet_step (fail); refine wpQuiet_nil ?_
            have HD1 := def_any x
            have HD2 := insDef_any x
            unfold viV at HD1 HD2
            generalize defV x = dv at HD1 HD2
            refine eag_does rfl rfl ?_
            intro K hK
            go_simp
            refine (HD1 _).mono ?_
            rintro e w7 ⟨rfl, hb7⟩
            refine hK _ _ hb7 ?_
            clear hK K
            go_simp
            refine eag_does rfl rfl ?_
            intro K hK
            go_simp
            refine (HD2 _).mono ?_
            rintro e w8 ⟨rfl, hb8⟩
            have hb78 : Below w6.heap.size w7 w8 := hb8.mono hb7.size
            refine hK _ _ hb78 ?_
            clear hK K HD1 HD2 q0 q1 q2 q3 q4 q5
            go_simp
            have hb68 : Below w6.heap.size w6 w8 := (((Below.refl w6.heap.size w6).drew).trans hb7).trans hb78
            have HVI8 := Lib.hid (HVI.out.below hb68 hVIl)
            have q0 := fun z : After w6.heap.size w8 => (z.below.cell (p := ⟨VI, 0, none⟩) hVIl).trans (HVI8.out.cell 0)
            have q1 := fun z : After w6.heap.size w8 => (z.below.cell (p := ⟨VI, 1, none⟩) hVIl).trans (HVI8.out.cell 1)
            have q2 := fun z : After w6.heap.size w8 => (z.below.cell (p := ⟨VI, 2, none⟩) hVIl).trans (HVI8.out.cell 2)
            have q3 := fun z : After w6.heap.size w8 => (z.below.cell (p := ⟨VI, 3, none⟩) hVIl).trans (HVI8.out.cell 3)
            have q4 := fun z : After w6.heap.size w8 => (z.below.cell (p := ⟨VI, 4, none⟩) hVIl).trans (HVI8.out.cell 4)
            have q5 := fun z : After w6.heap.size w8 => (z.below.cell (p := ⟨VI, 5, none⟩) hVIl).trans (HVI8.out.cell 5)
            simp only [List.getElem?_cons_zero, List.getElem?_cons_succ] at q0 q1 q2 q3 q4 q5
            clear hb7 hb8
            refine eag_read rfl ?_; go_big_quiet_step (fail); refine wpQuiet_nil ?_
            refine eag_read rfl ?_; go_big_quiet_step (fail); refine wpQuiet_nil ?_
            refine eag_read rfl ?_; go_big_quiet_step (fail); refine wpQuiet_nil ?_
            refine eag_read rfl ?_; go_big_quiet_step (fail); refine wpQuiet_nil ?_
            clear q0 q1 q2 q3 q4 q5 hb78
            have HBW8 := HBX6.out.be.trans (hb68.mono HBX6.out.be.size)
            have HU1 := uses_any x w8 (HXO.out.below HBW8)
            unfold viV at HU1
            refine eag_does rfl rfl ?_
            intro K hK
            go_simp
            refine HU1.mono ?_
            rintro e w9 ⟨v9, rfl, ho9, hb9⟩
            refine hK _ _ (hb9.mono hb68.size) ?_
            clear hK K HU1
            go_simp
            have HU2 := insUses_any x w9 (HXO.out.below (HBW8.trans (hb9.mono HBW8.size)))
            unfold viV at HU2
            refine eag_does rfl rfl ?_
            intro K hK
            go_simp
            refine HU2.mono ?_
            rintro e w10 ⟨v10, rfl, ho10, hb10⟩
            refine hK _ _ (hb10.mono (Nat.le_trans hb68.size hb9.size)) ?_
            clear hK K HU2
            go_simp
            obtain ⟨a9, c9, rfl⟩ := ownG_shape ho9
            obtain ⟨a10, c10, rfl⟩ := ownG_shape ho10
            have HSI := same_ints w10 _ _ _ _ _ _ _ _ (came_owns_ints (ownG_below ho9 hb10)) (came_owns_ints ho10)
            rw [show decide (usesV x = usesV x) = true from decide_eq_true rfl] at HSI
            have hb610 : Below w6.heap.size w6 w10 := hb68.trans ((hb9.mono hb68.size).trans (hb10.mono (Nat.le_trans hb68.size hb9.size)))
            refine eag_does rfl rfl ?_
            intro K hK
            go_simp
            refine HSI.mono ?_
            rintro e w11 ⟨nn, rfl, rfl⟩
            refine hK _ _ (below_drewN_self _ _ _) ?_
            clear hK K HSI
            go_simp
            refine eag_read rfl ?_; go_big_quiet_step (fail); refine wpQuiet_nil ?_
            refine eag_read rfl ?_; go_big_quiet_step (fail); refine wpQuiet_nil ?_
            refine eag_end ?_
            have HFIN : Hid (Below w4.heap.size w4 (w10.drewN nn)) := (HB6.out.trans (hb610.mono HB6.out.size)).trans (below_drewN_self _ _ _)
            clear ho9 ho10 hb9 hb10 hb68 hb610 HBW8
            go_wp2_with fail
            go_roundw
            case rel => exact ⟨j + 1, by omega, by go_num, HFIN.out⟩
            case measure => simp [intOf]; omega
          · have v1 := HV5.out.cell 1
            have v2 := HV5.out.cell 2
            have v3 := HV5.out.cell 3
            have v4 := HV5.out.cell 4
            have v5 := HV5.out.cell 5
            have v6 := HV5.out.cell 6
            simp only [List.getElem?_cons_zero, List.getElem?_cons_succ] at v1 v2 v3 v4 v5 v6
            go_wp2_with fail
            have hVl := HV5.out.lt
            have q1 := fun z : After w5.heap.size w5.drew => (z.below.cell (p := ⟨V, 1, none⟩) hVl).trans v1
            have q2 := fun z : After w5.heap.size w5.drew => (z.below.cell (p := ⟨V, 2, none⟩) hVl).trans v2
            have q3 := fun z : After w5.heap.size w5.drew => (z.below.cell (p := ⟨V, 3, none⟩) hVl).trans v3
            have q4 := fun z : After w5.heap.size w5.drew => (z.below.cell (p := ⟨V, 4, none⟩) hVl).trans v4
            have q5 := fun z : After w5.heap.size w5.drew => (z.below.cell (p := ⟨V, 5, none⟩) hVl).trans v5
            have q6 := fun z : After w5.heap.size w5.drew => (z.below.cell (p := ⟨V, 6, none⟩) hVl).trans v6
            refine wp_region_eager w5.heap.size [(0, true), (1, true), (3, true), (4, true), (5, true), (6, true), (7, true), (8, true), (9, true), (2, false), (10, false), (11, false), (12, true)] (by kernel_rfl) (by kernel_rfl) ?_
            repeat (refine eag_read rfl ?_; go_big_quiet_step (fail); refine wpQuiet_nil ?_)
            clear v1 v2 v3 v4 v5 v6 q1 q2 q3 q4 q5 q6
            have hb5d : Below w5.heap.size w5 w5.drew := (Below.refl w5.heap.size w5).drew
            have HBW5 := HBX5.out.be.trans (hb5d.mono HBX5.out.be.size)
            have HU1 := endUses_any b.e w5.drew (HBO.out.e.below HBW5)
            unfold veV at HU1
            refine eag_does rfl rfl ?_
            intro K hK
            go_simp
            refine HU1.mono ?_
            rintro e w7 ⟨v7, rfl, ho7, hb7⟩
            refine hK _ _ hb7 ?_
            clear hK K HU1
            go_simp
            have hxo : (⟨0, 0, b.e.a, b.e.b, 0, none, 0, 0, []⟩ : VI).Ok w7 := ⟨came_nil w7 1, by show 0 ≤ _; omega, by show I64 0; unfold I64; omega, by show I64 0; unfold I64; omega, HBO.out.e.a, HBO.out.e.b, by show I64 0; unfold I64; omega, fun z hz => by cases hz⟩
            have HU2 := insUses_any (⟨0, 0, b.e.a, b.e.b, 0, none, 0, 0, []⟩ : VI) w7 hxo
            rw [show usesV (⟨0, 0, b.e.a, b.e.b, 0, none, 0, 0, []⟩ : VI) = endV b.e from rfl] at HU2
            unfold viV at HU2
            simp only at HU2
            refine eag_does rfl rfl ?_
            intro K hK
            go_simp
            refine HU2.mono ?_
            rintro e w8 ⟨v8, rfl, ho8, hb8⟩
            refine hK _ _ (hb8.mono hb7.size) ?_
            clear hK K HU2
            go_simp
            obtain ⟨a7, c7, rfl⟩ := ownG_shape ho7
            obtain ⟨a8, c8, rfl⟩ := ownG_shape ho8
            have HSI := same_ints w8 _ _ _ _ _ _ _ _ (came_owns_ints (ownG_below ho7 hb8)) (came_owns_ints ho8)
            rw [show decide (endV b.e = endV b.e) = true from decide_eq_true rfl] at HSI
            have hb58 : Below w5.heap.size w5 w8 := hb5d.trans ((show Below w5.heap.size w5.drew w7 from hb7).trans (hb8.mono hb7.size))
            refine eag_does rfl rfl ?_
            intro K hK
            go_simp
            refine HSI.mono ?_
            rintro e w9 ⟨nn, rfl, rfl⟩
            refine hK _ _ (below_drewN_self _ _ _) ?_
            clear hK K HSI
            go_simp
            refine eag_read rfl ?_; go_big_quiet_step (fail); refine wpQuiet_nil ?_
            refine eag_end ?_
            have HFIN : Hid (BoxV f w (w8.drewN nn) pa (some ⟨gb, ob, none⟩)) := (HBX5.out.below hb58).below (below_drewN_self _ _ _)
            clear ho7 ho8 hb7 hb8 hb58 HBW5 hxo hb5d
            go_wp2_with fail
            go_roundw
            case rel => exact ⟨k + 1, by omega, by go_num, HFIN.out⟩
            case measure => simp [intOf]; omega
      · have c0 := hbx.box.cell 0
        have c1 := hbx.box.cell 1
        have c2 := hbx.box.cell 2
        have c3 := hbx.box.cell 3
        simp only [List.getElem?_cons_zero, List.getElem?_cons_succ] at c0 c1 c2 c3
        have hwl := hbx.box.lt
        clear hbx
        go_wp2_with fail
        have q0 := fun z : After w3.heap.size w3.drew => (z.below.cell (p := ⟨w.heap.size, 0, none⟩) hwl).trans c0
        have q1 := fun z : After w3.heap.size w3.drew => (z.below.cell (p := ⟨w.heap.size, 1, none⟩) hwl).trans c1
        have q2 := fun z : After w3.heap.size w3.drew => (z.below.cell (p := ⟨w.heap.size, 2, none⟩) hwl).trans c2
        have q3 := fun z : After w3.heap.size w3.drew => (z.below.cell (p := ⟨w.heap.size, 3, none⟩) hwl).trans c3
        refine wp_region_eager w3.heap.size [(0, true), (2, true), (1, false), (3, false), (4, true), (5, true)] (by kernel_rfl) (by kernel_rfl) ?_
        refine eag_read rfl ?_; go_big_quiet_step (fail); refine wpQuiet_nil ?_
        refine eag_read rfl ?_; go_big_quiet_step (fail); refine wpQuiet_nil ?_
        clear c0 c1 c2 c3 q0 q1 q2 q3
        have hb3d : Below w3.heap.size w3 w3.drew := (Below.refl w3.heap.size w3).drew
        have hbe3 := HBX.out.be.trans (hb3d.mono HBX.out.be.size)
        have HC1 := HCK.out _ hbe3
        have HC2 := fun wx h => HFE.out wx h
        generalize fnE f = fe at HC1 HC2
        refine eag_does rfl rfl ?_
        intro K hK
        go_simp
        refine HC1.mono ?_
        rintro e w4 ⟨rfl, hb4⟩
        refine hK _ _ hb4 ?_
        clear hK K HC1
        go_simp
        have hbe4 := hbe3.trans (hb4.mono hbe3.size)
        refine eag_does rfl rfl ?_
        intro K hK
        go_simp
        refine (HC2 _ hbe4).mono ?_
        rintro e w5 ⟨rfl, hb5⟩
        refine hK _ _ (hb5.mono hb4.size) ?_
        clear hK K HC2
        go_simp
        refine eag_read rfl ?_; go_big_quiet_step (fail); refine wpQuiet_nil ?_
        refine eag_read rfl ?_; go_big_quiet_step (fail); refine wpQuiet_nil ?_
        refine eag_end ?_
        have HFIN := Lib.hid (hbe4.trans (hb5.mono hbe4.size))
        clear hbe3 hbe4 hb4 hb5 hb3d
        go_wp2_with fail
        go_ret
        exact ⟨rfl, HFIN.out⟩
end Go.Proofs.Ytkpeeemnholmnac
