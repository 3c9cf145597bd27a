/- The walk of LinkAgain, where the list is cut and where it is not (printed by linkagain.py). -/
import Derived.Test.YtkafbihlmhdjeabLnkAgS
import Derived.Test.YtkafbihlmhdjeabLinkK
namespace Go.Proofs.Ytkafbihlmhdjeab
open Go.RowKit
set_option linter.unusedVariables false
set_option linter.unusedSimpArgs false

theorem Try.infoF53 : (Try.prog.info? 53).map (fun i => (i.zero, i.size, i.bytes)) = some (some (.agg #[.int .i64 0, .slice none 0 0, .slice none 0 0, .slice none 0 0, .int .i64 0]), 5, 88) := by kernel_rfl
set_option maxRecDepth 100000 in
set_option maxHeartbeats 8000000 in
theorem linkAgain_big (a : Option Addr) (len cap : Nat) (l : List LF) (w : World) (h : Lnk w a len cap l) (hc : 12 < len) :
    Calls Try.prog 5 #[.slice a len cap] w fun e w' => e = .returned (.bool true) ∧ Below w.heap.size w w' := by
  have HFACT := fun w => Lib.hid (linkFactK_ok w)
  have hle := h.came.le
  have hmx := h.came.max
  have hmx0 : max (12 : Int) 0 = 12 := by omega
  have HTK := Lib.hid (h.cut 12 (by omega))
  obtain ⟨xs, hxs⟩ : ∃ xs, xs = l.take 12 := ⟨_, rfl⟩
  rw [← hxs] at HTK
  clear hxs h
  have hmk : ∀ w : World, (Instr.makeSlice 24 (.int .i64 (12 : Int)) (.int .i64 (12 : Int))).run Try.prog w = .ok (.slice (some ⟨w.heap.size, 0, none⟩) 12 12) (w.alloc (.cells (rowL 12 fun _ => .int .i64 0).toArray 3)) := fun w => run_make_rep (P := Try.prog) 24 3 (.int .i64 0) 8 Try.underlying24 Try.infoT3 rfl 12 (by omega) (by omega) w
  go_enter Try.func5, Try.ntmps5
  go_wp2_with fail
  refine (HFACT _).out.mono ?_
  rintro e w1 ⟨rfl, hb⟩
  have HB1 := Lib.hid hb
  have HL1 := Lib.hid (HTK.out.below hb)
  clear hb HFACT HTK
  go_wp2_with fail
  refine (merge_any w1 _ _ _ xs HL1.out).mono ?_
  rintro e w2 ⟨hb2, hcs⟩
  have HB2 := Lib.hid (HB1.out.trans (hb2.mono HB1.out.size))
  have HL2 := Lib.hid (HL1.out.below hb2)
  obtain ⟨ce, hce⟩ : ∃ ce, ce = chkE xs := ⟨_, rfl⟩
  rw [← hce] at hcs
  have HCE := Lib.hid hce
  clear hb2 hce HL1 HB1
  rcases hcs with ⟨hne, rfl⟩ | ⟨rfl, g, c, rfl, hcl, hg, hm⟩
  · have hne' : (ce != 0) = true := by simp [hne]
    clear hne hmk
    go_wp2_with fail
    go_ret
    exact ⟨rfl, HB2.out⟩
  have HCL := Lib.hid hcl
  have HM := Lib.hid hm
  have HXL : Hid (xs.length = 12) := HL2.out.len
  have HN : Hid ((12 : Nat) ≤ 12) := by unfold Hid; omega
  have HCHK : Hid (chkE xs = 0) := HCE.out.symm
  have HIN : Hid (LfsIn xs) := (chkE_in HCHK.out).1
  obtain ⟨B, hB⟩ : ∃ B, B = w2.heap.size := ⟨_, rfl⟩
  have HT0 : Hid (ClsAt (w2.alloc (.cells (rowL 12 fun _ => .int .i64 0).toArray 3)) B 12 fun _ => 0) := by rw [hB]; exact Blk.new w2 (rowL 12 fun _ => .int .i64 0) 3
  have HB3 : Hid (Below B w2 (w2.alloc (.cells (rowL 12 fun _ => .int .i64 0).toArray 3))) := by rw [hB]; exact (Below.refl _ _).alloc (Nat.le_refl _) _
  have HBE := Lib.hid hB
  have HWB : Hid (w.heap.size ≤ B) := by show _ ≤ _; rw [hB]; exact HB2.out.size
  have HGB : Hid (g < B) := by show _ < _; rw [hB]; exact Blk.lt hcl
  clear hcl hm hg HCE
  go_upto_region 10 with fail
  rw [← hB]
  clear hB hmk
  generalize (w2.alloc (.cells (rowL 12 fun _ => .int .i64 0).toArray 3)) = w3 at HT0 HB3 ⊢
  go_wp2_with fail
  obtain ⟨i0, hi0, hz0, hz1, hz2⟩ := info_parts Try.infoF53
  go_loopw [6, 41] (fun vf u wr => ∃ i : Nat, i ≤ 12 ∧ u = .int .i64 (i : Int) ∧ ClsAt wr B 12 (fun x => if x < i ∧ c x = x then cntR c x else 0) ∧ wr.ownsRow B 53 5 vf (cntR c i) (((repsL c i).map (fnAt xs)).flatMap lfC) ∧ Below B w2 wr) (fun _ u _ => 12 - (intOf u).toNat)
  case atStart => exact ⟨0, Nat.zero_le _, rfl, HT0.out.congr (fun k _ => by simp), World.ownsRow_nil _ _ _ _, HB3.out⟩
  case round =>
    clear HT0 HB3
    obtain ⟨i, hi, rfl, hto, hrow, hbe⟩ := hrel
    obtain ⟨wx, hwx⟩ : ∃ wx, wx = wr := ⟨_, rfl⟩
    rw [← hwx] at hto hrow hbe ⊢
    clear hwx
    have HBX := Lib.hid hbe
    have hBx : B ≤ wx.heap.size := Nat.le_of_lt (Blk.lt hto)
    have hcnb : cntR c i ≤ 12 := by have := repsL_len c i; have := HN.out; unfold cntR; omega
    obtain ⟨cn, hcn⟩ : ∃ cn, cn = cntR c i := ⟨_, rfl⟩
    rw [← hcn] at hrow hcnb
    obtain ⟨af, cf, rfl⟩ := ownG_shape hrow
    by_cases hin : i < 12
    · have hix : i < xs.length := by have := HXL.out; omega
      have hcl := HM.out.le i hix
      have hbw : Below w2.heap.size w2 wx := by rw [← HBE.out]; exact hbe
      obtain ⟨gl, off, rfl, hgl, hlc⟩ := came_lfs HL2.out.came (by omega)
      have hofs := (hlc i hix).later hbw hgl
      have HFE : Hid (fnAt xs i = xs[i]) := fnAt_get hix
      generalize xs[i] = f at hofs HFE
      have hglB : gl < B := by rw [HBE.out]; exact hgl
      have hci0 := (hbe.cell (p := ⟨g, i, none⟩) HGB.out).trans (HCL.out.cell hin)
      obtain ⟨ci, hcci⟩ : ∃ ci, ci = c i := ⟨_, rfl⟩
      rw [← hcci] at hci0 hcl
      have HCCI := Lib.hid hcci
      have hd1 : decide ((ci : Int) < 0) = false := by simp
      have hd2 : decide ((i : Int) < (ci : Int)) = false := by simp; omega
      have HTO := Lib.hid hto
      have HROW := Lib.hid hrow
      have HCN := Lib.hid hcn
      have HCNB := Lib.hid hcnb
      by_cases hcie : ci = i
      · have t1 : ((ci : Int) == (i : Int)) = true := by simp [hcie]
        have HCE : Hid (c i = i) := by show _ = _; rw [← hcci]; exact hcie
        obtain ⟨tv, htv⟩ : ∃ tv : Value, wx.cell? ⟨B, i, none⟩ = some tv := ⟨_, hto.cell hin⟩
        have tfr := Blk.free hto i
        have hby := (Rest1.set B i wx (.int .i64 (cn : Int))).below (Nat.le_refl B) hBx
        have HOF := Lib.hid (hofs.later hby hglB)
        have HTY : Hid (ClsAt (wx.setCell ⟨B, i, none⟩ (.int .i64 (cn : Int))) B 12 (fun x => if x < i + 1 ∧ c x = x then cntR c x else 0)) := (hto.put i cn).congr fun k hk => by
          show (if k = i then cn else if k < i ∧ c k = k then cntR c k else 0) = _
          by_cases e : k = i
          · subst e; rw [if_pos rfl, if_pos ⟨by omega, HCE.out⟩, HCN.out]
          · rw [if_neg e]
            have e3 : k < i ↔ k < i + 1 := by omega
            simp only [e3]
        have HRY : Hid ((wx.setCell ⟨B, i, none⟩ (.int .i64 (cn : Int))).ownsRow B 53 5 (.slice af cn cf) cn (((repsL c i).map (fnAt xs)).flatMap lfC)) := ownG_other (a := ⟨B, i, none⟩) hrow (own_ty hrow hto (by decide)) _
        have HBY := Lib.hid (hbe.trans hby)
        clear hto hrow hcn hcnb hcci hofs hbe hbw hlc hcie hby
        go_upto_region 18 with fail
        generalize wx.setCell ⟨B, i, none⟩ (.int .i64 (cn : Int)) = wy at HOF HTY HRY HBY ⊢
        obtain ⟨d0, d1, d2, d3, d4⟩ := HOF.out
        have hBy : B ≤ wy.heap.size := Nat.le_of_lt (Blk.lt HTY.out)
        go_wp2_with (at_builtin; refine wpList_append_own _ rfl _ _ 22 rfl B 53 i0 (.agg #[.int .i64 0, .slice none 0 0, .slice none 0 0, .slice none 0 0, .int .i64 0]) 5 88 Try.underlying22 hi0 hz0 hz1 hz2 rfl (by decide) _ _ _ rfl (HRY.out.alloc _) ⟨wy.heap.size, 0, none⟩ 1 1 (lfC f) rfl rfl ?a2 ?a3 ?a4 ?a5 ?a6 ?_)
        case a2 =>
          intro j u hj
          rw [Addr.add_lit, Nat.zero_add]
          exact ((Blk.new wy (lfC f) 53).cell j).trans hj
        case a3 =>
          intro u hu
          simp [lfC] at hu
          rcases hu with rfl | rfl | rfl | rfl | rfl <;> rfl
        case a4 => have := HCNB.out; unfold maxLen; omega
        case a5 => have := HCNB.out; omega
        case a6 => first | omega | (simp; omega)
        intro v' w7 hown hgrow _
        obtain ⟨af', cf', rfl⟩ := ownG_shape hown
        have HRN : Hid (w7.ownsRow B 53 5 (.slice af' (cn + 1) cf') (cntR c (i + 1)) (((repsL c (i + 1)).map (fnAt xs)).flatMap lfC)) := by
          have e1 : cntR c (i + 1) = cn + 1 := by rw [cntR_succ, if_pos HCE.out, HCN.out]
          have e2 : repsL c (i + 1) = repsL c i ++ [i] := by rw [repsL_succ, if_pos HCE.out]
          have e3 : ([i].map (fnAt xs)).flatMap lfC = lfC f := by simp [HFE.out]
          show w7.ownsRow _ _ _ _ _ _
          rw [e1, e2, List.map_append, List.flatMap_append, e3]
          exact hown
        have HTN : Hid (ClsAt w7 B 12 (fun x => if x < i + 1 ∧ c x = x then cntR c x else 0)) := Blk.of_heap HTY.out ((hgrow.block B (by have := Blk.lt HTY.out; simp; omega) (fun e => own_ty HRY.out HTY.out (by decide) e.symm)).trans (Below.heap_alloc _ _ _ (Blk.lt HTY.out)))
        have HBN : Hid (Below B w2 w7) := (HBY.out.trans ((Below.refl B wy).alloc hBy _)).grown hgrow (by simp; omega) (fun q hq => (HRY.out.lt q hq).1)
        clear hown hgrow d0 d1 d2 d3 d4 HOF HRY HTY HBY HTO HROW
        go_wp2_with fail
        go_roundw
        case rel => exact ⟨i + 1, by omega, by go_num, HTN.out, HRN.out, HBN.out⟩
        case measure => simp [intOf]; omega
      · have t1 : ((ci : Int) == (i : Int)) = false := by simp; omega
        have HCE : Hid (c i ≠ i) := by show _ ≠ _; rw [← hcci]; exact hcie
        have HTN : Hid (ClsAt wx B 12 (fun x => if x < i + 1 ∧ c x = x then cntR c x else 0)) := hto.congr fun k hk => by
          by_cases e : k = i
          · subst e; rw [if_neg (fun e => by omega), if_neg (fun e => HCE.out e.2)]
          · have e3 : k < i ↔ k < i + 1 := by omega
            simp only [e3]
        have HRN : Hid (wx.ownsRow B 53 5 (.slice af cn cf) (cntR c (i + 1)) (((repsL c (i + 1)).map (fnAt xs)).flatMap lfC)) := by
          have e1 : cntR c (i + 1) = cn := by rw [cntR_succ, if_neg HCE.out, HCN.out]; rfl
          have e2 : repsL c (i + 1) = repsL c i := by rw [repsL_succ, if_neg HCE.out, List.append_nil]
          show wx.ownsRow _ _ _ _ _ _
          rw [e1, e2]
          exact hrow
        have HBN := HBX
        clear hto hrow hcn hcnb hcci hofs hbe hbw hlc hcie HTO HROW
        go_wp2_with fail
        go_roundw
        case rel => exact ⟨i + 1, by omega, by go_num, HTN.out, HRN.out, HBN.out⟩
        case measure => simp [intOf]; omega
    · have hi9 : i = 12 := by omega
      rw [hi9] at hrow hto hcn
      rw [show (repsL c 12).map (fnAt xs) = (repsL c xs.length).map (fnAt xs) by rw [HXL.out]] at hrow
      have hag0 : AgS B wx (.slice af cn cf) xs c 0 ((repsL c xs.length).map (fnAt xs)) := AgS.start (by rw [HXL.out, ← hcn]; rw [HXL.out] at hrow; exact hrow)
      have hF0 : ((repsL c xs.length).map (fnAt xs)).length = cn := by rw [List.length_map, HXL.out, hcn]; rfl
      have HAG0 := Lib.hid hag0
      have HTO := Lib.hid hto
      have HF0 := Lib.hid hF0
      have HCN := Lib.hid hcn
      have hbwx : B ≤ wx.heap.size := hBx
      clear hto hrow hcn hbe hag0 hF0 hi hi9
      go_wp2_with fail
      go_loopw [78] (fun u wr => ∃ (j : Nat) (F : List LF), j ≤ cn ∧ u = .int .i64 (j : Int) ∧ F.length = cn ∧ AgS B wr (.slice af cn cf) xs c j F ∧ ClsAt wr B 12 (fun x => if x < 12 ∧ c x = x then cntR c x else 0) ∧ Below B w2 wr) (fun u _ => cn - (intOf u).toNat)
      case atStart => exact ⟨0, _, Nat.zero_le _, rfl, HF0.out, HAG0.out, HTO.out, HBX.out⟩
      case round =>
        clear HAG0 HTO HF0 HBX
        obtain ⟨j, F, hj, rfl, hFl, hag, hto, hbe⟩ := hrel
        obtain ⟨wy, hwy⟩ : ∃ wy, wy = wr := ⟨_, rfl⟩
        rw [← hwy] at hag hto hbe ⊢
        clear hwy
        have hBy : B ≤ wy.heap.size := Nat.le_of_lt (Blk.lt hto)
        have hbwy : Below w2.heap.size w2 wy := by rw [← HBE.out]; exact hbe
        by_cases hjn : j < cn
        · have hjF : j < F.length := by omega
          obtain ⟨gf, cap0, hv0, hgf, hgfl, _, _⟩ := ownG_has hag.row (by omega)
          injection hv0 with e1 e2 e3
          subst e1 e3
          clear e2
          have hag' := hag
          rw [← hFl] at hag'
          obtain ⟨c2, _⟩ := hag'.cell2 hjF
          have hcm : F[j].Ok wy := by
            rw [hag.todo j hjF (Nat.le_refl _)]
            have hjr : j < (repsL c xs.length).length := by rw [← hag.len]; exact hjF
            have ho : origF xs c j = fnAt xs (repsL c xs.length)[j] := by
              unfold origF
              rw [List.getD_eq_getElem?_getD, List.getElem?_eq_getElem hjr]
              rfl
            have hr := (repsL_cnt c hjr).1
            rw [ho, fnAt_get hr]
            exact (HL2.out.ok _ (List.getElem_mem hr)).below hbwy
          have hfi : FnsIn xs.length F[j].calls := by
            rw [hag.todo j hjF (Nat.le_refl _)]
            have hjr : j < (repsL c xs.length).length := by rw [← hag.len]; exact hjF
            have ho : origF xs c j = fnAt xs (repsL c xs.length)[j] := by
              unfold origF
              rw [List.getD_eq_getElem?_getD, List.getElem?_eq_getElem hjr]
              rfl
            have hr := (repsL_cnt c hjr).1
            rw [ho, fnAt_get hr]
            exact HIN.out _ (List.getElem_mem hr)
          obtain ⟨f, hf⟩ : ∃ f, f = F[j] := ⟨_, rfl⟩
          rw [← hf] at c2 hcm hfi
          have hcl9 := hcm.creach
          have hclen := hcm.clen
          have HCLN := Lib.hid (clone_lcs f.ca f.cl f.cc f.calls wy hcm.ccame hcl9)
          have HAG := Lib.hid hag'
          have HTO := Lib.hid hto
          have HBY := Lib.hid hbe
          have HF := Lib.hid hf
          have HFI := Lib.hid hfi
          have HFL := Lib.hid hFl
          clear hag hag' hto hbe hcm hf hfi hbwy hFl
          go_wp2_with fail
          refine HCLN.out.mono ?_
          rintro e wz ⟨a9, c9, rfl, hown, hbz⟩
          have HCL0 : Hid (CalS wy.heap.size wz a9 f.cl c9 c 0 f.calls) := by
            show wz.ownsRow _ _ _ _ _ _
            rw [mixC_zero]
            exact hown
          have HBZ := Lib.hid hbz
          clear hown hbz HCLN c2
          go_wp2_with fail
          go_loopw [89] (fun u wr => ∃ k : Nat, k ≤ f.cl ∧ u = .int .i64 (k : Int) ∧ CalS wy.heap.size wr a9 f.cl c9 c k f.calls ∧ Below wy.heap.size wy wr) (fun u _ => f.cl - (intOf u).toNat)
          case atStart => exact ⟨0, Nat.zero_le _, rfl, HCL0.out, HBZ.out⟩
          case round =>
            clear HCL0 HBZ
            obtain ⟨k, hk, rfl, hcs, hbz⟩ := hrel
            obtain ⟨wv, hwv⟩ : ∃ wv, wv = wr := ⟨_, rfl⟩
            rw [← hwv] at hcs hbz ⊢
            clear hwv
            by_cases hkn : k < f.cl
            · obtain ⟨g9, cap9, hv9, hg9, hg9l, _, _⟩ := ownG_has hcs (by omega)
              injection hv9 with e1 e2 e3
              subst e1 e3
              clear e2
              obtain ⟨x0, x1, x2⟩ := hcs.at hclen hkn
              have hkl : k < f.calls.length := by omega
              have hfx := HFI.out _ (List.getElem_mem hkl)
              generalize f.calls[k] = x at x0 x1 x2 hfx
              obtain ⟨fn, hfn⟩ : ∃ fn : Nat, x.fn = (fn : Int) := ⟨x.fn.toNat, by omega⟩
              rw [hfn] at x0 x2 hfx
              rw [Int.toNat_natCast] at x2
              have hfnl : fn < 12 := by have := HXL.out; omega
              have hby2 : Below B w2 wv := HBY.out.trans (hbz.mono hBy)
              have y0 := (hby2.cell (p := ⟨g, fn, none⟩) HGB.out).trans (HCL.out.cell hfnl)
              have hcl := HM.out.le fn (by have := HXL.out; omega)
              have hrp := HM.out.rep fn (by have := HXL.out; omega)
              have hcfl : c fn < 12 := by omega
              have z0 := (hbz.cell (p := ⟨B, c fn, none⟩) (Blk.lt HTO.out)).trans (HTO.out.cell hcfl)
              rw [if_pos ⟨hcfl, hrp⟩] at z0
              have HCN2 := Lib.hid x2
              have HBV : Hid (Below wy.heap.size wy (wv.setCell ⟨g9, k * 2 + 1, none⟩ (.int .i64 ((cntR c (c fn) : Nat) : Int)))) := hbz.trans ((Rest1.set g9 (k * 2 + 1) wv _).below hg9 hbz.size)
              obtain ⟨cf2, hcf2⟩ : ∃ cf2, cf2 = c fn := ⟨_, rfl⟩
              rw [← hcf2] at y0 z0 hcfl HCN2 HBV
              obtain ⟨cc2, hcc2⟩ : ∃ cc2, cc2 = cntR c cf2 := ⟨_, rfl⟩
              rw [← hcc2] at z0 HCN2 HBV
              clear hcs hbz x2 hfx hby2 hcl hrp hcf2 hcc2 hfn
              go_wp2_with fail
              go_roundw
              case rel => exact ⟨k + 1, by omega, by go_num, HCN2.out, HBV.out⟩
              case measure => simp [intOf]; omega
            · have hk9 : k = f.cl := by omega
              subst hk9
              have hagv := HAG.out.below hbz
              obtain ⟨p2, p3⟩ := hagv.cell2 hjF
              obtain ⟨F', hFl', hagn⟩ := HAG.out.put hjF hbz hBy (a := a9) (cc := c9) (by rw [← HF.out, hclen]; exact hcs)
              rw [← HF.out] at hagn p2
              rw [HFL.out] at hagn hFl'
              have hne : gf ≠ B := fun e => own_ty hagv.row (HTO.out.below hbz) (by decide) (by simp [Value.ownBlock, e])
              have HTN : Hid (ClsAt (wv.setCell ⟨gf, j * 5 + 2, none⟩ (.slice a9 f.cl c9)) B 12 (fun x => if x < 12 ∧ c x = x then cntR c x else 0)) := Blk.setOther (HTO.out.below hbz) (a := ⟨gf, j * 5 + 2, none⟩) (fun e => hne e.symm) _
              have HBN : Hid (Below B w2 (wv.setCell ⟨gf, j * 5 + 2, none⟩ (.slice a9 f.cl c9))) := (HBY.out.trans (hbz.mono hBy)).trans ((Rest1.set gf (j * 5 + 2) wv _).below hgf (Nat.le_trans hBy hbz.size))
              have HAGN := Lib.hid hagn
              have HFN := Lib.hid hFl'
              clear hcs hagv hagn hFl' hne HAG HTO HBY hbz
              go_wp2_with fail
              go_roundw
              case rel => exact ⟨j + 1, F', by omega, by go_num, HFN.out, HAGN.out, HTN.out, HBN.out⟩
              case measure => simp [intOf]; omega
        · have hj9 : j = cn := by omega
          subst hj9
          obtain ⟨jn, hjn9⟩ : ∃ jn, jn = j := ⟨_, rfl⟩
          rw [← hFl] at hag
          have hfs := hag.firsts
          have hck := firsts_chk hfs HM.out HCHK.out
          obtain ⟨vfa, vfc, hvf, hlnk⟩ := hag.lnk (fun f hf => (HL2.out.ok f hf).below hbwy) HM.out HIN.out (by have := HXL.out; have := HN.out; omega)
          injection hvf with e1 e2 e3
          rw [← e1, ← e3, hFl] at hlnk
          have HMG := Lib.hid (merge_any wy af j cf F hlnk)
          have HFS := Lib.hid hfs
          have HCK := Lib.hid hck
          have HFL := Lib.hid hFl
          have HBY : Hid (Below w.heap.size w wy) := HB2.out.trans (hbwy.mono HB2.out.size)
          clear e1 e2 e3 hag hfs hck hlnk hFl hto hbe hbwy hjn9
          go_wp2_with fail
          refine HMG.out.mono ?_
          rintro e wz ⟨hbz, ⟨h, _⟩ | ⟨_, g9, d, rfl, hd, _, hdm⟩⟩
          · exact absurd HCK.out h
          have hid := firsts_id HFS.out HIN.out HM.out hdm
          rw [HFL.out] at hid
          have HID := Lib.hid hid
          have HD := Lib.hid hd
          have HBZ := Lib.hid (HBY.out.trans (hbz.mono HBY.out.size))
          clear hbz hd hdm hid HMG HBY
          go_wp2_with fail
          go_loopw [121] (fun u wr => ∃ k : Nat, k ≤ j ∧ u = .int .i64 (k : Int) ∧ wr = wz) (fun u _ => j - (intOf u).toNat)
          case atStart => exact ⟨0, Nat.zero_le _, rfl, rfl⟩
          case round =>
            obtain ⟨k, hk, rfl, rfl⟩ := hrel
            by_cases hkj : k < j
            · have y0 := HD.out.cell hkj
              rw [HID.out k hkj] at y0
              have t1 : ((k : Int) != (k : Int)) = false := by simp
              go_wp2_with fail
              go_roundw
              case rel => exact ⟨k + 1, by omega, by go_num, by first | rfl | trivial⟩
              case measure => simp [intOf]; omega
            · go_wp2_with fail
              go_ret
              exact ⟨rfl, HBZ.out⟩
set_option maxRecDepth 100000 in
set_option maxHeartbeats 8000000 in
theorem linkAgain_small (a : Option Addr) (len cap : Nat) (l : List LF) (w : World) (h : Lnk w a len cap l) (hc : ¬ 12 < len) :
    Calls Try.prog 5 #[.slice a len cap] w fun e w' => e = .returned (.bool true) ∧ Below w.heap.size w w' := by
  have HFACT := fun w => Lib.hid (linkFactK_ok w)
  have hle := h.came.le
  have hmx := h.came.max
  have hmx0 : max (12 : Int) 0 = 12 := by omega
  have HTK := Lib.hid (h.cut len (by omega))
  obtain ⟨xs, hxs⟩ : ∃ xs, xs = l.take len := ⟨_, rfl⟩
  rw [← hxs] at HTK
  clear hxs h
  have hmk : ∀ w : World, (Instr.makeSlice 24 (.int .i64 (len : Int)) (.int .i64 (len : Int))).run Try.prog w = .ok (.slice (some ⟨w.heap.size, 0, none⟩) len len) (w.alloc (.cells (rowL len fun _ => .int .i64 0).toArray 3)) := fun w => run_make_rep (P := Try.prog) 24 3 (.int .i64 0) 8 Try.underlying24 Try.infoT3 rfl len (by omega) (by omega) w
  go_enter Try.func5, Try.ntmps5
  go_wp2_with fail
  refine (HFACT _).out.mono ?_
  rintro e w1 ⟨rfl, hb⟩
  have HB1 := Lib.hid hb
  have HL1 := Lib.hid (HTK.out.below hb)
  clear hb HFACT HTK
  go_wp2_with fail
  refine (merge_any w1 _ _ _ xs HL1.out).mono ?_
  rintro e w2 ⟨hb2, hcs⟩
  have HB2 := Lib.hid (HB1.out.trans (hb2.mono HB1.out.size))
  have HL2 := Lib.hid (HL1.out.below hb2)
  obtain ⟨ce, hce⟩ : ∃ ce, ce = chkE xs := ⟨_, rfl⟩
  rw [← hce] at hcs
  have HCE := Lib.hid hce
  clear hb2 hce HL1 HB1
  rcases hcs with ⟨hne, rfl⟩ | ⟨rfl, g, c, rfl, hcl, hg, hm⟩
  · have hne' : (ce != 0) = true := by simp [hne]
    clear hne hmk
    go_wp2_with fail
    go_ret
    exact ⟨rfl, HB2.out⟩
  have HCL := Lib.hid hcl
  have HM := Lib.hid hm
  have HXL : Hid (xs.length = len) := HL2.out.len
  have HN : Hid ((len : Nat) ≤ 12) := by unfold Hid; omega
  have HCHK : Hid (chkE xs = 0) := HCE.out.symm
  have HIN : Hid (LfsIn xs) := (chkE_in HCHK.out).1
  obtain ⟨B, hB⟩ : ∃ B, B = w2.heap.size := ⟨_, rfl⟩
  have HT0 : Hid (ClsAt (w2.alloc (.cells (rowL len fun _ => .int .i64 0).toArray 3)) B len fun _ => 0) := by rw [hB]; exact Blk.new w2 (rowL len fun _ => .int .i64 0) 3
  have HB3 : Hid (Below B w2 (w2.alloc (.cells (rowL len fun _ => .int .i64 0).toArray 3))) := by rw [hB]; exact (Below.refl _ _).alloc (Nat.le_refl _) _
  have HBE := Lib.hid hB
  have HWB : Hid (w.heap.size ≤ B) := by show _ ≤ _; rw [hB]; exact HB2.out.size
  have HGB : Hid (g < B) := by show _ < _; rw [hB]; exact Blk.lt hcl
  clear hcl hm hg HCE
  go_upto_region 10 with fail
  rw [← hB]
  clear hB hmk
  generalize (w2.alloc (.cells (rowL len fun _ => .int .i64 0).toArray 3)) = w3 at HT0 HB3 ⊢
  go_wp2_with fail
  obtain ⟨i0, hi0, hz0, hz1, hz2⟩ := info_parts Try.infoF53
  go_loopw [6, 41] (fun vf u wr => ∃ i : Nat, i ≤ len ∧ u = .int .i64 (i : Int) ∧ ClsAt wr B len (fun x => if x < i ∧ c x = x then cntR c x else 0) ∧ wr.ownsRow B 53 5 vf (cntR c i) (((repsL c i).map (fnAt xs)).flatMap lfC) ∧ Below B w2 wr) (fun _ u _ => len - (intOf u).toNat)
  case atStart => exact ⟨0, Nat.zero_le _, rfl, HT0.out.congr (fun k _ => by simp), World.ownsRow_nil _ _ _ _, HB3.out⟩
  case round =>
    clear HT0 HB3
    obtain ⟨i, hi, rfl, hto, hrow, hbe⟩ := hrel
    obtain ⟨wx, hwx⟩ : ∃ wx, wx = wr := ⟨_, rfl⟩
    rw [← hwx] at hto hrow hbe ⊢
    clear hwx
    have HBX := Lib.hid hbe
    have hBx : B ≤ wx.heap.size := Nat.le_of_lt (Blk.lt hto)
    have hcnb : cntR c i ≤ 12 := by have := repsL_len c i; have := HN.out; unfold cntR; omega
    obtain ⟨cn, hcn⟩ : ∃ cn, cn = cntR c i := ⟨_, rfl⟩
    rw [← hcn] at hrow hcnb
    obtain ⟨af, cf, rfl⟩ := ownG_shape hrow
    by_cases hin : i < len
    · have hix : i < xs.length := by have := HXL.out; omega
      have hcl := HM.out.le i hix
      have hbw : Below w2.heap.size w2 wx := by rw [← HBE.out]; exact hbe
      obtain ⟨gl, off, rfl, hgl, hlc⟩ := came_lfs HL2.out.came (by omega)
      have hofs := (hlc i hix).later hbw hgl
      have HFE : Hid (fnAt xs i = xs[i]) := fnAt_get hix
      generalize xs[i] = f at hofs HFE
      have hglB : gl < B := by rw [HBE.out]; exact hgl
      have hci0 := (hbe.cell (p := ⟨g, i, none⟩) HGB.out).trans (HCL.out.cell hin)
      obtain ⟨ci, hcci⟩ : ∃ ci, ci = c i := ⟨_, rfl⟩
      rw [← hcci] at hci0 hcl
      have HCCI := Lib.hid hcci
      have hd1 : decide ((ci : Int) < 0) = false := by simp
      have hd2 : decide ((i : Int) < (ci : Int)) = false := by simp; omega
      have HTO := Lib.hid hto
      have HROW := Lib.hid hrow
      have HCN := Lib.hid hcn
      have HCNB := Lib.hid hcnb
      by_cases hcie : ci = i
      · have t1 : ((ci : Int) == (i : Int)) = true := by simp [hcie]
        have HCE : Hid (c i = i) := by show _ = _; rw [← hcci]; exact hcie
        obtain ⟨tv, htv⟩ : ∃ tv : Value, wx.cell? ⟨B, i, none⟩ = some tv := ⟨_, hto.cell hin⟩
        have tfr := Blk.free hto i
        have hby := (Rest1.set B i wx (.int .i64 (cn : Int))).below (Nat.le_refl B) hBx
        have HOF := Lib.hid (hofs.later hby hglB)
        have HTY : Hid (ClsAt (wx.setCell ⟨B, i, none⟩ (.int .i64 (cn : Int))) B len (fun x => if x < i + 1 ∧ c x = x then cntR c x else 0)) := (hto.put i cn).congr fun k hk => by
          show (if k = i then cn else if k < i ∧ c k = k then cntR c k else 0) = _
          by_cases e : k = i
          · subst e; rw [if_pos rfl, if_pos ⟨by omega, HCE.out⟩, HCN.out]
          · rw [if_neg e]
            have e3 : k < i ↔ k < i + 1 := by omega
            simp only [e3]
        have HRY : Hid ((wx.setCell ⟨B, i, none⟩ (.int .i64 (cn : Int))).ownsRow B 53 5 (.slice af cn cf) cn (((repsL c i).map (fnAt xs)).flatMap lfC)) := ownG_other (a := ⟨B, i, none⟩) hrow (own_ty hrow hto (by decide)) _
        have HBY := Lib.hid (hbe.trans hby)
        clear hto hrow hcn hcnb hcci hofs hbe hbw hlc hcie hby
        go_upto_region 18 with fail
        generalize wx.setCell ⟨B, i, none⟩ (.int .i64 (cn : Int)) = wy at HOF HTY HRY HBY ⊢
        obtain ⟨d0, d1, d2, d3, d4⟩ := HOF.out
        have hBy : B ≤ wy.heap.size := Nat.le_of_lt (Blk.lt HTY.out)
        go_wp2_with (at_builtin; refine wpList_append_own _ rfl _ _ 22 rfl B 53 i0 (.agg #[.int .i64 0, .slice none 0 0, .slice none 0 0, .slice none 0 0, .int .i64 0]) 5 88 Try.underlying22 hi0 hz0 hz1 hz2 rfl (by decide) _ _ _ rfl (HRY.out.alloc _) ⟨wy.heap.size, 0, none⟩ 1 1 (lfC f) rfl rfl ?a2 ?a3 ?a4 ?a5 ?a6 ?_)
        case a2 =>
          intro j u hj
          rw [Addr.add_lit, Nat.zero_add]
          exact ((Blk.new wy (lfC f) 53).cell j).trans hj
        case a3 =>
          intro u hu
          simp [lfC] at hu
          rcases hu with rfl | rfl | rfl | rfl | rfl <;> rfl
        case a4 => have := HCNB.out; unfold maxLen; omega
        case a5 => have := HCNB.out; omega
        case a6 => first | omega | (simp; omega)
        intro v' w7 hown hgrow _
        obtain ⟨af', cf', rfl⟩ := ownG_shape hown
        have HRN : Hid (w7.ownsRow B 53 5 (.slice af' (cn + 1) cf') (cntR c (i + 1)) (((repsL c (i + 1)).map (fnAt xs)).flatMap lfC)) := by
          have e1 : cntR c (i + 1) = cn + 1 := by rw [cntR_succ, if_pos HCE.out, HCN.out]
          have e2 : repsL c (i + 1) = repsL c i ++ [i] := by rw [repsL_succ, if_pos HCE.out]
          have e3 : ([i].map (fnAt xs)).flatMap lfC = lfC f := by simp [HFE.out]
          show w7.ownsRow _ _ _ _ _ _
          rw [e1, e2, List.map_append, List.flatMap_append, e3]
          exact hown
        have HTN : Hid (ClsAt w7 B len (fun x => if x < i + 1 ∧ c x = x then cntR c x else 0)) := Blk.of_heap HTY.out ((hgrow.block B (by have := Blk.lt HTY.out; simp; omega) (fun e => own_ty HRY.out HTY.out (by decide) e.symm)).trans (Below.heap_alloc _ _ _ (Blk.lt HTY.out)))
        have HBN : Hid (Below B w2 w7) := (HBY.out.trans ((Below.refl B wy).alloc hBy _)).grown hgrow (by simp; omega) (fun q hq => (HRY.out.lt q hq).1)
        clear hown hgrow d0 d1 d2 d3 d4 HOF HRY HTY HBY HTO HROW
        go_wp2_with fail
        go_roundw
        case rel => exact ⟨i + 1, by omega, by go_num, HTN.out, HRN.out, HBN.out⟩
        case measure => simp [intOf]; omega
      · have t1 : ((ci : Int) == (i : Int)) = false := by simp; omega
        have HCE : Hid (c i ≠ i) := by show _ ≠ _; rw [← hcci]; exact hcie
        have HTN : Hid (ClsAt wx B len (fun x => if x < i + 1 ∧ c x = x then cntR c x else 0)) := hto.congr fun k hk => by
          by_cases e : k = i
          · subst e; rw [if_neg (fun e => by omega), if_neg (fun e => HCE.out e.2)]
          · have e3 : k < i ↔ k < i + 1 := by omega
            simp only [e3]
        have HRN : Hid (wx.ownsRow B 53 5 (.slice af cn cf) (cntR c (i + 1)) (((repsL c (i + 1)).map (fnAt xs)).flatMap lfC)) := by
          have e1 : cntR c (i + 1) = cn := by rw [cntR_succ, if_neg HCE.out, HCN.out]; rfl
          have e2 : repsL c (i + 1) = repsL c i := by rw [repsL_succ, if_neg HCE.out, List.append_nil]
          show wx.ownsRow _ _ _ _ _ _
          rw [e1, e2]
          exact hrow
        have HBN := HBX
        clear hto hrow hcn hcnb hcci hofs hbe hbw hlc hcie HTO HROW
        go_wp2_with fail
        go_roundw
        case rel => exact ⟨i + 1, by omega, by go_num, HTN.out, HRN.out, HBN.out⟩
        case measure => simp [intOf]; omega
    · have hi9 : i = len := by omega
      rw [hi9] at hrow hto hcn
      rw [show (repsL c len).map (fnAt xs) = (repsL c xs.length).map (fnAt xs) by rw [HXL.out]] at hrow
      have hag0 : AgS B wx (.slice af cn cf) xs c 0 ((repsL c xs.length).map (fnAt xs)) := AgS.start (by rw [HXL.out, ← hcn]; rw [HXL.out] at hrow; exact hrow)
      have hF0 : ((repsL c xs.length).map (fnAt xs)).length = cn := by rw [List.length_map, HXL.out, hcn]; rfl
      have HAG0 := Lib.hid hag0
      have HTO := Lib.hid hto
      have HF0 := Lib.hid hF0
      have HCN := Lib.hid hcn
      have hbwx : B ≤ wx.heap.size := hBx
      clear hto hrow hcn hbe hag0 hF0 hi hi9
      go_wp2_with fail
      go_loopw [78] (fun u wr => ∃ (j : Nat) (F : List LF), j ≤ cn ∧ u = .int .i64 (j : Int) ∧ F.length = cn ∧ AgS B wr (.slice af cn cf) xs c j F ∧ ClsAt wr B len (fun x => if x < len ∧ c x = x then cntR c x else 0) ∧ Below B w2 wr) (fun u _ => cn - (intOf u).toNat)
      case atStart => exact ⟨0, _, Nat.zero_le _, rfl, HF0.out, HAG0.out, HTO.out, HBX.out⟩
      case round =>
        clear HAG0 HTO HF0 HBX
        obtain ⟨j, F, hj, rfl, hFl, hag, hto, hbe⟩ := hrel
        obtain ⟨wy, hwy⟩ : ∃ wy, wy = wr := ⟨_, rfl⟩
        rw [← hwy] at hag hto hbe ⊢
        clear hwy
        have hBy : B ≤ wy.heap.size := Nat.le_of_lt (Blk.lt hto)
        have hbwy : Below w2.heap.size w2 wy := by rw [← HBE.out]; exact hbe
        by_cases hjn : j < cn
        · have hjF : j < F.length := by omega
          obtain ⟨gf, cap0, hv0, hgf, hgfl, _, _⟩ := ownG_has hag.row (by omega)
          injection hv0 with e1 e2 e3
          subst e1 e3
          clear e2
          have hag' := hag
          rw [← hFl] at hag'
          obtain ⟨c2, _⟩ := hag'.cell2 hjF
          have hcm : F[j].Ok wy := by
            rw [hag.todo j hjF (Nat.le_refl _)]
            have hjr : j < (repsL c xs.length).length := by rw [← hag.len]; exact hjF
            have ho : origF xs c j = fnAt xs (repsL c xs.length)[j] := by
              unfold origF
              rw [List.getD_eq_getElem?_getD, List.getElem?_eq_getElem hjr]
              rfl
            have hr := (repsL_cnt c hjr).1
            rw [ho, fnAt_get hr]
            exact (HL2.out.ok _ (List.getElem_mem hr)).below hbwy
          have hfi : FnsIn xs.length F[j].calls := by
            rw [hag.todo j hjF (Nat.le_refl _)]
            have hjr : j < (repsL c xs.length).length := by rw [← hag.len]; exact hjF
            have ho : origF xs c j = fnAt xs (repsL c xs.length)[j] := by
              unfold origF
              rw [List.getD_eq_getElem?_getD, List.getElem?_eq_getElem hjr]
              rfl
            have hr := (repsL_cnt c hjr).1
            rw [ho, fnAt_get hr]
            exact HIN.out _ (List.getElem_mem hr)
          obtain ⟨f, hf⟩ : ∃ f, f = F[j] := ⟨_, rfl⟩
          rw [← hf] at c2 hcm hfi
          have hcl9 := hcm.creach
          have hclen := hcm.clen
          have HCLN := Lib.hid (clone_lcs f.ca f.cl f.cc f.calls wy hcm.ccame hcl9)
          have HAG := Lib.hid hag'
          have HTO := Lib.hid hto
          have HBY := Lib.hid hbe
          have HF := Lib.hid hf
          have HFI := Lib.hid hfi
          have HFL := Lib.hid hFl
          clear hag hag' hto hbe hcm hf hfi hbwy hFl
          go_wp2_with fail
          refine HCLN.out.mono ?_
          rintro e wz ⟨a9, c9, rfl, hown, hbz⟩
          have HCL0 : Hid (CalS wy.heap.size wz a9 f.cl c9 c 0 f.calls) := by
            show wz.ownsRow _ _ _ _ _ _
            rw [mixC_zero]
            exact hown
          have HBZ := Lib.hid hbz
          clear hown hbz HCLN c2
          go_wp2_with fail
          go_loopw [89] (fun u wr => ∃ k : Nat, k ≤ f.cl ∧ u = .int .i64 (k : Int) ∧ CalS wy.heap.size wr a9 f.cl c9 c k f.calls ∧ Below wy.heap.size wy wr) (fun u _ => f.cl - (intOf u).toNat)
          case atStart => exact ⟨0, Nat.zero_le _, rfl, HCL0.out, HBZ.out⟩
          case round =>
            clear HCL0 HBZ
            obtain ⟨k, hk, rfl, hcs, hbz⟩ := hrel
            obtain ⟨wv, hwv⟩ : ∃ wv, wv = wr := ⟨_, rfl⟩
            rw [← hwv] at hcs hbz ⊢
            clear hwv
            by_cases hkn : k < f.cl
            · obtain ⟨g9, cap9, hv9, hg9, hg9l, _, _⟩ := ownG_has hcs (by omega)
              injection hv9 with e1 e2 e3
              subst e1 e3
              clear e2
              obtain ⟨x0, x1, x2⟩ := hcs.at hclen hkn
              have hkl : k < f.calls.length := by omega
              have hfx := HFI.out _ (List.getElem_mem hkl)
              generalize f.calls[k] = x at x0 x1 x2 hfx
              obtain ⟨fn, hfn⟩ : ∃ fn : Nat, x.fn = (fn : Int) := ⟨x.fn.toNat, by omega⟩
              rw [hfn] at x0 x2 hfx
              rw [Int.toNat_natCast] at x2
              have hfnl : fn < len := by have := HXL.out; omega
              have hby2 : Below B w2 wv := HBY.out.trans (hbz.mono hBy)
              have y0 := (hby2.cell (p := ⟨g, fn, none⟩) HGB.out).trans (HCL.out.cell hfnl)
              have hcl := HM.out.le fn (by have := HXL.out; omega)
              have hrp := HM.out.rep fn (by have := HXL.out; omega)
              have hcfl : c fn < len := by omega
              have z0 := (hbz.cell (p := ⟨B, c fn, none⟩) (Blk.lt HTO.out)).trans (HTO.out.cell hcfl)
              rw [if_pos ⟨hcfl, hrp⟩] at z0
              have HCN2 := Lib.hid x2
              have HBV : Hid (Below wy.heap.size wy (wv.setCell ⟨g9, k * 2 + 1, none⟩ (.int .i64 ((cntR c (c fn) : Nat) : Int)))) := hbz.trans ((Rest1.set g9 (k * 2 + 1) wv _).below hg9 hbz.size)
              obtain ⟨cf2, hcf2⟩ : ∃ cf2, cf2 = c fn := ⟨_, rfl⟩
              rw [← hcf2] at y0 z0 hcfl HCN2 HBV
              obtain ⟨cc2, hcc2⟩ : ∃ cc2, cc2 = cntR c cf2 := ⟨_, rfl⟩
              rw [← hcc2] at z0 HCN2 HBV
              clear hcs hbz x2 hfx hby2 hcl hrp hcf2 hcc2 hfn
              go_wp2_with fail
              go_roundw
              case rel => exact ⟨k + 1, by omega, by go_num, HCN2.out, HBV.out⟩
              case measure => simp [intOf]; omega
            · have hk9 : k = f.cl := by omega
              subst hk9
              have hagv := HAG.out.below hbz
              obtain ⟨p2, p3⟩ := hagv.cell2 hjF
              obtain ⟨F', hFl', hagn⟩ := HAG.out.put hjF hbz hBy (a := a9) (cc := c9) (by rw [← HF.out, hclen]; exact hcs)
              rw [← HF.out] at hagn p2
              rw [HFL.out] at hagn hFl'
              have hne : gf ≠ B := fun e => own_ty hagv.row (HTO.out.below hbz) (by decide) (by simp [Value.ownBlock, e])
              have HTN : Hid (ClsAt (wv.setCell ⟨gf, j * 5 + 2, none⟩ (.slice a9 f.cl c9)) B len (fun x => if x < len ∧ c x = x then cntR c x else 0)) := Blk.setOther (HTO.out.below hbz) (a := ⟨gf, j * 5 + 2, none⟩) (fun e => hne e.symm) _
              have HBN : Hid (Below B w2 (wv.setCell ⟨gf, j * 5 + 2, none⟩ (.slice a9 f.cl c9))) := (HBY.out.trans (hbz.mono hBy)).trans ((Rest1.set gf (j * 5 + 2) wv _).below hgf (Nat.le_trans hBy hbz.size))
              have HAGN := Lib.hid hagn
              have HFN := Lib.hid hFl'
              clear hcs hagv hagn hFl' hne HAG HTO HBY hbz
              go_wp2_with fail
              go_roundw
              case rel => exact ⟨j + 1, F', by omega, by go_num, HFN.out, HAGN.out, HTN.out, HBN.out⟩
              case measure => simp [intOf]; omega
        · have hj9 : j = cn := by omega
          subst hj9
          obtain ⟨jn, hjn9⟩ : ∃ jn, jn = j := ⟨_, rfl⟩
          rw [← hFl] at hag
          have hfs := hag.firsts
          have hck := firsts_chk hfs HM.out HCHK.out
          obtain ⟨vfa, vfc, hvf, hlnk⟩ := hag.lnk (fun f hf => (HL2.out.ok f hf).below hbwy) HM.out HIN.out (by have := HXL.out; have := HN.out; omega)
          injection hvf with e1 e2 e3
          rw [← e1, ← e3, hFl] at hlnk
          have HMG := Lib.hid (merge_any wy af j cf F hlnk)
          have HFS := Lib.hid hfs
          have HCK := Lib.hid hck
          have HFL := Lib.hid hFl
          have HBY : Hid (Below w.heap.size w wy) := HB2.out.trans (hbwy.mono HB2.out.size)
          clear e1 e2 e3 hag hfs hck hlnk hFl hto hbe hbwy hjn9
          go_wp2_with fail
          refine HMG.out.mono ?_
          rintro e wz ⟨hbz, ⟨h, _⟩ | ⟨_, g9, d, rfl, hd, _, hdm⟩⟩
          · exact absurd HCK.out h
          have hid := firsts_id HFS.out HIN.out HM.out hdm
          rw [HFL.out] at hid
          have HID := Lib.hid hid
          have HD := Lib.hid hd
          have HBZ := Lib.hid (HBY.out.trans (hbz.mono HBY.out.size))
          clear hbz hd hdm hid HMG HBY
          go_wp2_with fail
          go_loopw [121] (fun u wr => ∃ k : Nat, k ≤ j ∧ u = .int .i64 (k : Int) ∧ wr = wz) (fun u _ => j - (intOf u).toNat)
          case atStart => exact ⟨0, Nat.zero_le _, rfl, rfl⟩
          case round =>
            obtain ⟨k, hk, rfl, rfl⟩ := hrel
            by_cases hkj : k < j
            · have y0 := HD.out.cell hkj
              rw [HID.out k hkj] at y0
              have t1 : ((k : Int) != (k : Int)) = false := by simp
              go_wp2_with fail
              go_roundw
              case rel => exact ⟨k + 1, by omega, by go_num, by first | rfl | trivial⟩
              case measure => simp [intOf]; omega
            · go_wp2_with fail
              go_ret
              exact ⟨rfl, HBZ.out⟩
theorem linkAgain_walk (a : Option Addr) (len cap : Nat) (l : List LF) (w : World) (h : Lnk w a len cap l ∧ len * 88 ≤ 140737488351232) :
    Calls Try.prog 5 #[.slice a len cap] w fun e w' => e = .returned (.bool true) ∧ Below w.heap.size w w' := by
  by_cases hb : 12 < len
  · exact linkAgain_big a len cap l w h.1 hb
  · exact linkAgain_small a len cap l w h.1 hb
end Go.Proofs.Ytkafbihlmhdjeab
