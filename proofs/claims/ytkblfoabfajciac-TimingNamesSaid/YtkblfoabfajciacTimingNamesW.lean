/- The walk of the law TimingNames. -/
import Derived.Test.YtkblfoabfajciacNamesM
namespace Go.Proofs.Ytkblfoabfajciac
open Go.RowKit
set_option linter.unusedVariables false
set_option linter.unusedSimpArgs false

theorem ren_take (y : Nat) (os : List Op5) (k : Nat) (h : k < os.length) : (os.take (k + 1)).map (renOp y) = (os.take k).map (renOp y) ++ [renOp y os[k]] := by
  rw [List.take_add_one, List.getElem?_eq_getElem h, List.map_append]; rfl

set_option maxRecDepth 100000 in
set_option maxHeartbeats 4000000 in
theorem timingNames_walk (a0 : Option Addr) (len0 cap0 : Nat) (z0 : List Op5) (a1 : Int) (w : World) (h0 : Came w a0 len0 cap0 5 (z0.map opC) ∧ ∀ z ∈ z0, True) (_ : -9223372036854775808 ≤ a1 ∧ a1 ≤ 9223372036854775807) :
    Calls Try.prog 6 #[.slice a0 len0 cap0, .int .i64 a1] w fun e w' => e = .returned (.bool true) ∧ Below w.heap.size w w' := by
  have HTF := fun w => Lib.hid (timingFactK_ok w)
  have HST := fun w h => Lib.hid (straight_ok z0 a0 len0 cap0 w h)
  have HC := Lib.hid h0.1
  have hsl := strS_len z0
  have HGO := Lib.hid (strS_good z0)
  obtain ⟨os, hos⟩ : ∃ os, os = strS z0 := ⟨_, rfl⟩
  rw [← hos] at HST hsl HGO
  clear hos h0
  obtain ⟨m, hm⟩ : ∃ m, m = os.length := ⟨_, rfl⟩
  have HM := Lib.hid hm
  rw [← hm] at hsl HST
  clear hm
  obtain ⟨y, hy⟩ : ∃ y : Nat, (y : Int) = a1 % 15 := ⟨(a1 % 15).toNat, by have := Int.emod_nonneg a1 (b := 15) (by omega); omega⟩
  have hy15 : y < 15 := by have := Int.emod_lt_of_pos a1 (b := 15) (by omega); omega
  have HR := fun w => Lib.hid (rest_any a1 15 w (by omega) (by omega))
  rw [← hy] at HR
  have HCY := fun w a c h => Lib.hid (cycles_ok os a m c w h (by omega) HGO.out)
  have HCY2 := fun w a c h => Lib.hid (cycles_ok (os.map (renOp y)) a m c w h (by omega) (fun o ho => by obtain ⟨p, hp, rfl⟩ := List.mem_map.1 ho; exact ren_good (HGO.out p hp)))
  rw [runS_ren y os HGO.out] at HCY2
  obtain ⟨dn, hdn⟩ : ∃ dn, dn = (runS os).done := ⟨_, rfl⟩
  rw [← hdn] at HCY HCY2
  obtain ⟨i0, hi0, hz0, hz1, hz2⟩ := info_parts Try.infoO45
  clear hy hdn
  have hb0 : Below w.heap.size w (w.alloc (.cells #[.int .i64 a1] 3)) := (Below.refl _ _).alloc (Nat.le_refl _) _
  have hq0 := Blk.new w [.int .i64 a1] 3
  have HB0 := Lib.hid hb0
  have HQ0 := Lib.hid hq0
  clear hb0 hq0
  go_enter Try.func6, Try.ntmps6
  go_upto_region 1 with fail
  generalize w.alloc (.cells #[.int .i64 a1] 3) = w0 at HB0 HQ0 ⊢
  go_wp2_with fail
  refine (HTF _).out.mono ?_
  rintro e w1 ⟨rfl, hb1⟩
  have HB1 := Lib.hid (HB0.out.trans (hb1.mono HB0.out.size))
  have HQ1 := Lib.hid (HQ0.out.below hb1 HQ0.out.lt)
  clear hb1
  go_wp2_with fail
  refine (HST w1 (HC.out.below HB1.out)).out.mono ?_
  rintro e w2 ⟨v, rfl, hown, hb2⟩
  have hown' : w2.ownsRow w1.heap.size 45 5 v os.length (flat5 os) := by rw [← HM.out]; exact hown
  obtain ⟨sa, sc, hv, hcm⟩ := came_flat5 hown'
  rw [← HM.out] at hv hcm
  subst hv
  have HB2 := Lib.hid (HB1.out.trans (hb2.mono HB1.out.size))
  have HQ2 := Lib.hid (HQ1.out.below hb2 HQ1.out.lt)
  have hcle := hcm.le
  have hcmx := hcm.max
  have c0 := HQ2.out.cell 0
  have f0 := HQ2.out.free 0
  simp only [List.getElem?_cons_zero] at c0
  have hown2 : w2.ownsRow w1.heap.size 45 5 (.slice sa m sc) m (flat5 os) := hown
  have HOS := Lib.hid (ownsRow_setCell_other (a := ⟨w.heap.size, 0, none⟩) hown2 (fun e => by have := (World.ownsRow.lt hown2 _ e).1; have := HQ1.out.lt; simp at *; omega) (.int .i64 (y : Int)))
  have HB3 := Lib.hid (HB2.out.setCell (p := ⟨w.heap.size, 0, none⟩) (Nat.le_refl _) (.int .i64 (y : Int)))
  have HQ3 := Lib.hid (HQ2.out.set 0 (.int .i64 (y : Int)))
  clear hown hown' hb2 hcm hown2
  go_wp2_with fail
  refine (HR _).out.mono ?_
  rintro e w' ⟨rfl, rfl⟩
  go_upto_region 7 with fail
  have hos' : (w2.setCell ⟨w.heap.size, 0, none⟩ (.int .i64 (y : Int))).ownsRow w1.heap.size 45 5 (.slice sa m sc) os.length (flat5 os) := by rw [← HM.out]; exact HOS.out
  obtain ⟨sa', sc', he, hcm⟩ := came_flat5 hos'
  rw [← HM.out] at hcm
  simp only [Value.slice.injEq] at he
  obtain ⟨rfl, hz9, rfl⟩ := he
  have HCM := Lib.hid hcm
  have hwb : w.heap.size < w2.heap.size := HQ2.out.lt
  clear hz9 hos' hcm c0 f0 HOS HQ2 HQ1 HQ0
  have HQ : Hid (Blk (w2.setCell ⟨w.heap.size, 0, none⟩ (.int .i64 (y : Int))) w.heap.size 3 [.int .i64 (y : Int)]) := HQ3.out
  clear HQ3
  have hsz3 : w.heap.size < (w2.setCell ⟨w.heap.size, 0, none⟩ (.int .i64 (y : Int))).heap.size := HQ.out.lt
  generalize w2.setCell ⟨w.heap.size, 0, none⟩ (.int .i64 (y : Int)) = w3 at HB3 HQ HCM hsz3 ⊢
  go_wp2_with fail
  go_loopw [6, 22] (fun v u wr => ∃ k : Nat, k ≤ m ∧ u = .int .i64 (k : Int) ∧ wr.ownsRow w3.heap.size 45 5 v ((os.take k).map (renOp y)).length (flat5 ((os.take k).map (renOp y))) ∧ Below w3.heap.size w3 wr) (fun v u _ => m - (intOf u).toNat)
  case atStart => exact ⟨0, Nat.zero_le _, rfl, World.ownsRow_nil _ _ _ _, Below.refl _ _⟩
  case round =>
    obtain ⟨k, hk, rfl, hown, hb⟩ := hrel
    have HB := Lib.hid hb
    have HOWN := Lib.hid hown
    obtain ⟨va, vl, vc, rfl⟩ := owns_shape hown
    have hsz := hb.size
    clear hb hown
    have hfl : ((os.take k).map (renOp y)).length ≤ 60 := by simp; omega
    by_cases hlt : k < m
    · have hcr := HCM.out.below HB.out
      obtain ⟨b', off, ea, hbl, hcell⟩ := came_ops hcr (by omega)
      subst ea
      have hkl : k < os.length := by have := HM.out; omega
      have ho := hcell k hkl
      have HNF := Lib.hid (ren_take y os k hkl)
      have hgr := good_regs (HGO.out _ (List.getElem_mem hkl)).1
      generalize os[k] = o at ho HNF hgr
      obtain ⟨op, d, aa, bb, nn⟩ := o
      obtain ⟨c0, c1, c2, c3, c4⟩ := ho
      simp only [] at c0 c1 c2 c3 c4 hgr
      obtain ⟨d, rfl⟩ : ∃ d' : Nat, d = (d' : Int) := ⟨d.toNat, by omega⟩
      obtain ⟨aa, rfl⟩ : ∃ d' : Nat, aa = (d' : Int) := ⟨aa.toNat, by omega⟩
      obtain ⟨bb, rfl⟩ : ∃ d' : Nat, bb = (d' : Int) := ⟨bb.toNat, by omega⟩
      have hQ : Blk wr w.heap.size 3 [.int .i64 (y : Int)] := HQ.out.below HB.out hsz3
      have HQr := Lib.hid (hQ.alloc (.cells #[.int .i64 op, .int .i64 (d : Int), .int .i64 (aa : Int), .int .i64 (bb : Int), .int .i64 nn] 45))
      have HPr := Lib.hid (Blk.new wr [.int .i64 op, .int .i64 (d : Int), .int .i64 (aa : Int), .int .i64 (bb : Int), .int .i64 nn] 45)
      have HOr := Lib.hid (World.ownsRow.alloc HOWN.out (.cells #[.int .i64 op, .int .i64 (d : Int), .int .i64 (aa : Int), .int .i64 (bb : Int), .int .i64 nn] 45))
      have HBr := Lib.hid (HB.out.alloc hsz (.cells #[.int .i64 op, .int .i64 (d : Int), .int .i64 (aa : Int), .int .i64 (bb : Int), .int .i64 nn] 45))
      clear hcr hcell hkl hQ
      go_upto_region 10 with fail
      obtain ⟨p, hp⟩ : ∃ p, p = wr.heap.size := ⟨_, rfl⟩
      have hpl : p < (wr.alloc (.cells #[.int .i64 op, .int .i64 (d : Int), .int .i64 (aa : Int), .int .i64 (bb : Int), .int .i64 nn] 45)).heap.size := by simp; omega
      have hp3 : w3.heap.size ≤ p := by omega
      rw [← hp] at HPr ⊢
      have HOn : Hid (∀ q, (Value.slice va vl vc).ownBlock = some q → q ≠ p) := fun q hq e => by have := (World.ownsRow.lt HOWN.out q hq).2; omega
      clear hp c0 c1 c2 c3 c4 HOWN HB
      generalize wr.alloc (.cells #[.int .i64 op, .int .i64 (d : Int), .int .i64 (aa : Int), .int .i64 (bb : Int), .int .i64 nn] 45) = wA at HQr HPr HOr HBr hpl ⊢
      have HPd : Blk wA.drew p 45 [.int .i64 op, .int .i64 (d : Int), .int .i64 (aa : Int), .int .i64 (bb : Int), .int .i64 nn] := HPr.out
      have HQd : Blk wA.drew w.heap.size 3 [.int .i64 (y : Int)] := HQr.out
      have HOd : wA.drew.ownsRow w3.heap.size 45 5 (.slice va vl vc) ((os.take k).map (renOp y)).length (flat5 ((os.take k).map (renOp y))) := HOr.out
      have HBd : Below w3.heap.size w3 wA.drew := HBr.out.drew
      have hpl2 : p < wA.drew.heap.size := hpl
      refine wp_region_eagerRL (Keep2 p w.heap.size) [(0, true), (1, true), (2, true), (4, true), (5, true), (6, true), (8, true), (9, true), (10, true), (3, false), (12, true), (7, false), (11, false), (13, false), (14, true), (15, false), (16, true), (17, false)] (by kernel_rfl) (by kernel_rfl) ?_
      clear HQr HPr HOr HBr hpl
      generalize wA.drew = wD at HPd HQd HOd HBd hpl2 ⊢
      have r1 : ∀ x : AfterR (Keep2 p w.heap.size) wD, x.world.cell? ⟨p, 1, none⟩ = some (.int .i64 (d : Int)) := fun x => (Keep2.cell1 x.rel).trans (HPd.cell 1)
      have r2 : ∀ x : AfterR (Keep2 p w.heap.size) wD, x.world.cell? ⟨p, 2, none⟩ = some (.int .i64 (aa : Int)) := fun x => (Keep2.cell1 x.rel).trans (HPd.cell 2)
      have r3 : ∀ x : AfterR (Keep2 p w.heap.size) wD, x.world.cell? ⟨p, 3, none⟩ = some (.int .i64 (bb : Int)) := fun x => (Keep2.cell1 x.rel).trans (HPd.cell 3)
      have HP := Lib.hid HPd
      have HO := Lib.hid HOd
      have HB := Lib.hid HBd
      have HQ9 := Lib.hid HQd
      clear HPd HOd HBd HQd
      repeat (refine eagR_readL rfl ?_; go_big_quiet_step (fail); refine wpQuiet_nil ?_)
      clear r1 r2 r3
      refine eagR_doesL rfl rfl ?_
      intro K hK
      go_simp
      refine (rename_ok d y w.heap.size wD (by omega) hy15 HQ9.out).mono ?_
      rintro e w' ⟨rfl, rfl⟩
      refine hK _ _ (fun _ => PreR.refl _) ?_
      clear hK K
      go_simp
      refine eagR_readL rfl ?_
      go_big_quiet_step (fail)
      refine wpQuiet_nil ?_
      refine eagR_doesL rfl rfl ?_
      intro K hK
      go_simp
      refine (rename_ok aa y w.heap.size _ (by omega) hy15 HQ9.out).mono ?_
      rintro e w' ⟨rfl, rfl⟩
      refine hK _ _ (fun _ => PreR.refl _) ?_
      clear hK K
      go_simp
      refine eagR_doesL rfl rfl ?_
      intro K hK
      go_simp
      refine (rename_ok bb y w.heap.size _ (by omega) hy15 HQ9.out).mono ?_
      rintro e w' ⟨rfl, rfl⟩
      refine hK _ _ (fun _ => PreR.refl _) ?_
      clear hK K
      go_simp
      clear HQ9
      have c1 := HP.out.cell 1
      have f1 := HP.out.free 1
      simp only [List.getElem?_cons_succ, List.getElem?_cons_zero] at c1
      refine eagR_doesL rfl rfl ?_
      intro K hK
      go_simp
      refine hK _ _ (fun h => False.elim (Bool.false_ne_true (h.symm.trans (by kernel_rfl)))) ?_
      clear hK K
      go_simp
      replace HP := Lib.hid (show Blk (w'.setCell ⟨p, 1, none⟩ (.int .i64 (ren y d : Int))) p 45 [.int .i64 op, .int .i64 (ren y d : Int), .int .i64 (aa : Int), .int .i64 (bb : Int), .int .i64 nn] from HP.out.set 1 _)
      replace HO := Lib.hid (ownsRow_setCell_other (a := ⟨p, 1, none⟩) HO.out (fun e => HOn.out _ e rfl) (.int .i64 (ren y d : Int)))
      replace HB := Lib.hid (HB.out.setCell (p := ⟨p, 1, none⟩) hp3 (.int .i64 (ren y d : Int)))
      have hpl1 : p < (w'.setCell ⟨p, 1, none⟩ (.int .i64 (ren y d : Int))).heap.size := by simpa using hpl2
      clear c1 f1
      generalize w'.setCell ⟨p, 1, none⟩ (.int .i64 (ren y d : Int)) = wF1 at HP HO HB hpl1 ⊢
      refine eagR_readL rfl ?_
      go_big_quiet_step (fail)
      refine wpQuiet_nil ?_
      have c2 := HP.out.cell 2
      have f2 := HP.out.free 2
      simp only [List.getElem?_cons_succ, List.getElem?_cons_zero] at c2
      refine eagR_doesL rfl rfl ?_
      intro K hK
      go_simp
      refine hK _ _ (fun h => False.elim (Bool.false_ne_true (h.symm.trans (by kernel_rfl)))) ?_
      clear hK K
      go_simp
      replace HP := Lib.hid (show Blk (wF1.setCell ⟨p, 2, none⟩ (.int .i64 (ren y aa : Int))) p 45 [.int .i64 op, .int .i64 (ren y d : Int), .int .i64 (ren y aa : Int), .int .i64 (bb : Int), .int .i64 nn] from HP.out.set 2 _)
      replace HO := Lib.hid (ownsRow_setCell_other (a := ⟨p, 2, none⟩) HO.out (fun e => HOn.out _ e rfl) (.int .i64 (ren y aa : Int)))
      replace HB := Lib.hid (HB.out.setCell (p := ⟨p, 2, none⟩) hp3 (.int .i64 (ren y aa : Int)))
      have hpl2 : p < (wF1.setCell ⟨p, 2, none⟩ (.int .i64 (ren y aa : Int))).heap.size := by simpa using hpl1
      clear c2 f2
      generalize wF1.setCell ⟨p, 2, none⟩ (.int .i64 (ren y aa : Int)) = wF2 at HP HO HB hpl2 ⊢
      refine eagR_readL rfl ?_
      go_big_quiet_step (fail)
      refine wpQuiet_nil ?_
      have c3 := HP.out.cell 3
      have f3 := HP.out.free 3
      simp only [List.getElem?_cons_succ, List.getElem?_cons_zero] at c3
      refine eagR_doesL rfl rfl ?_
      intro K hK
      go_simp
      refine hK _ _ (fun h => False.elim (Bool.false_ne_true (h.symm.trans (by kernel_rfl)))) ?_
      clear hK K
      go_simp
      replace HP := Lib.hid (show Blk (wF2.setCell ⟨p, 3, none⟩ (.int .i64 (ren y bb : Int))) p 45 [.int .i64 op, .int .i64 (ren y d : Int), .int .i64 (ren y aa : Int), .int .i64 (ren y bb : Int), .int .i64 nn] from HP.out.set 3 _)
      replace HO := Lib.hid (ownsRow_setCell_other (a := ⟨p, 3, none⟩) HO.out (fun e => HOn.out _ e rfl) (.int .i64 (ren y bb : Int)))
      replace HB := Lib.hid (HB.out.setCell (p := ⟨p, 3, none⟩) hp3 (.int .i64 (ren y bb : Int)))
      have hpl3 : p < (wF2.setCell ⟨p, 3, none⟩ (.int .i64 (ren y bb : Int))).heap.size := by simpa using hpl2
      clear c3 f3
      generalize wF2.setCell ⟨p, 3, none⟩ (.int .i64 (ren y bb : Int)) = wF3 at HP HO HB hpl3 ⊢
      refine eagR_endL ?_
      obtain ⟨p0, p1, p2, p3, p4⟩ := op_cells5 HP.out
      have hsz9 := HB.out.size
      have HAL := Lib.hid (World.ownsRow.alloc HO.out (.cells #[.int .i64 op, .int .i64 (ren y d : Int), .int .i64 (ren y aa : Int), .int .i64 (ren y bb : Int), .int .i64 nn] 45))
      have HA2 := Lib.hid (cell_five_new wF3 [.int .i64 op, .int .i64 (ren y d : Int), .int .i64 (ren y aa : Int), .int .i64 (ren y bb : Int), .int .i64 nn] 45)
      have HA3 : Hid (∀ u ∈ ([.int .i64 op, .int .i64 (ren y d : Int), .int .i64 (ren y aa : Int), .int .i64 (ren y bb : Int), .int .i64 nn] : List Value), u.oneCell' = true) := by
        intro u hu; simp at hu; rcases hu with rfl | rfl | rfl | rfl | rfl <;> rfl
      go_wp2_with (at_builtin; refine wpList_append_own _ rfl _ _ 59 rfl w3.heap.size 45 i0 (.agg #[.int .i64 0, .int .i64 0, .int .i64 0, .int .i64 0, .int .i64 0]) 5 40 Try.underlying59 hi0 hz0 hz1 hz2 rfl (by decide) _ _ _ rfl HAL.out ⟨wF3.heap.size, 0, none⟩ 1 1 [.int .i64 op, .int .i64 (ren y d : Int), .int .i64 (ren y aa : Int), .int .i64 (ren y bb : Int), .int .i64 nn] rfl rfl HA2.out HA3.out (by unfold maxLen; omega) (by omega) (by simp; omega) ?_)
      intro v' w9 hown' hgrow _
      have HOW := Lib.hid hown'
      have hvb : ∀ q, (Value.slice va vl vc).ownBlock = some q → w3.heap.size ≤ q := fun q hq => (World.ownsRow.lt HO.out q hq).1
      have HB9 := Lib.hid ((HB.out.alloc hsz9 (.cells #[.int .i64 op, .int .i64 (ren y d : Int), .int .i64 (ren y aa : Int), .int .i64 (ren y bb : Int), .int .i64 nn] 45)).grown hgrow (by simp; omega) hvb)
      clear hown' hgrow hvb HAL HA2 HA3 p0 p1 p2 p3 p4
      go_wp2
      go_roundw
      case rel => exact ⟨k + 1, by omega, by go_num, by rw [HNF.out, List.length_append, flat5_append, List.length_map, List.length_take, List.map_take]; exact HOW.out, HB9.out⟩
      case measure => simp [intOf]; omega
    · have ek : k = m := by omega
      subst ek
      have HE : Hid ((os.take k).map (renOp y) = os.map (renOp y)) := by unfold Hid; rw [List.take_of_length_le (by have := HM.out; omega)]
      rw [HE.out] at HOWN
      obtain ⟨oa, oc, hv, hcm⟩ := came_flat5 HOWN.out
      have e9 : (os.map (renOp y)).length = k := by rw [List.length_map, ← HM.out]
      rw [e9] at hv hcm
      simp only [Value.slice.injEq] at hv
      obtain ⟨rfl, rfl, rfl⟩ := hv
      have HCN := Lib.hid hcm
      have HCM2 := Lib.hid (HCM.out.below HB.out)
      have hww : w.heap.size ≤ wr.heap.size := by omega
      have HBW := Lib.hid (HB3.out.trans (HB.out.mono (by omega)))
      clear hcm e9 HOWN
      go_wp2_with fail
      refine (HCY wr sa sc HCM2.out).out.mono ?_
      rintro e w7 ⟨rfl, hb7⟩
      have HB7 := Lib.hid (HBW.out.trans (hb7.mono hww))
      have HCN7 := Lib.hid (HCN.out.below hb7)
      clear hb7
      go_wp2_with fail
      refine (HCY2 w7 _ _ HCN7.out).out.mono ?_
      rintro e w8 ⟨rfl, hb8⟩
      have HB8 := Lib.hid (HB7.out.trans (hb8.mono HB7.out.size))
      clear hb8
      go_wp2
      go_ret
      exact ⟨rfl, HB8.out⟩
end Go.Proofs.Ytkblfoabfajciac
