/- The contract of the reference's (*Level).Set. -/
import Derived.Test.YtkpeeemnholmnabLevUse
namespace Go.Proofs.Ytkpeeemnholmnab
open Go.RowKit
set_option linter.unusedVariables false
set_option linter.unusedSimpArgs false

def cC (x : CLine) : List Value := [.int .i64 x.1, .bool x.2]
theorem cC_len (x : CLine) : (cC x).length = 2 := rfl
theorem lines_of_owns {w : World} {base : Nat} {v : Value} {xs : List CLine} (h : w.ownsRow base 90 2 v xs.length (xs.flatMap cC)) : Lines w v xs := by
  rcases h.2 with ⟨h1, h2⟩ | ⟨g, cap, cur, h1, _, h2, h3, h4, h5, h6⟩
  · exact .inl ⟨h1, List.eq_nil_of_length_eq_zero h2⟩
  · refine .inr ⟨g, cap, cur, h1, h2, h3, by unfold maxLen at h4; omega, h5, fun j hj => ?_⟩
    have hc : ∀ q, q < 2 → cur[j * 2 + q]? = (cC xs[j])[q]? := fun q hq => by
      have := flatN_get cC_len xs j q hj hq
      rw [← h6, List.getElem?_take, if_pos (by omega)] at this
      simpa using this
    exact ⟨hc 0 (by omega), hc 1 (by omega)⟩
def lenV : Value → Nat
  | .slice _ n _ => n
  | _ => 0
def SetLPost (xs : List CLine) (w : World) (e : Ending) (w' : World) : Prop := ∃ v, e = .returned v ∧ Lines w' v xs ∧ Below w.heap.size w w'
def LastIs (now : Nat) (ys : List UL) (k last : Nat) : Prop := ∃ hk : k ≤ ys.length, last = if h : 0 < k then (ys[k - 1]'(by omega)).tm else now + 1
def candU (sets i last : Nat) (u : UL) : Prop := liveU sets i u = true ∧ u.tm < last
def BestR (sets i last : Nat) (us : List UL) (q : Nat) (best : Int) : Prop :=
  (best = -1 ∧ ∀ j (h : j < us.length), j < q → ¬ candU sets i last us[j]) ∨ ∃ b : Nat, ∃ h : b < us.length, b < q ∧ best = (b : Int) ∧ candU sets i last us[b] ∧ ∀ j (h : j < us.length), j < q → candU sets i last us[j] → us[j].tm ≤ us[b].tm
section
variable {sets i last q : Nat} {us : List UL} {best : Int}
theorem BestR.skip (h : BestR sets i last us q best) (hq : q < us.length) (hc : ¬ candU sets i last us[q]) : BestR sets i last us (q + 1) best := by
  rcases h with ⟨e, h1⟩ | ⟨b, hb, h1, h2, h3, h4⟩
  · refine .inl ⟨e, fun j hj hj2 => ?_⟩
    by_cases e2 : j = q
    · subst e2; exact hc
    · exact h1 j hj (by omega)
  · refine .inr ⟨b, hb, by omega, h2, h3, fun j hj hj2 hl2 => ?_⟩
    by_cases e2 : j = q
    · subst e2; exact absurd hl2 hc
    · exact h4 j hj (by omega) hl2
theorem BestR.new (h : BestR sets i last us q best) (hq : q < us.length) (hc : candU sets i last us[q]) (ho : best < 0 ∨ ∃ b : Nat, ∃ hb : b < us.length, best = (b : Int) ∧ us[b].tm < us[q].tm) : BestR sets i last us (q + 1) (q : Int) := by
  refine .inr ⟨q, hq, by omega, rfl, hc, fun j hj hj2 hl2 => ?_⟩
  by_cases e2 : j = q
  · subst e2; exact Nat.le_refl _
  · rcases h with ⟨e, h1⟩ | ⟨b, hb, h1, h2, h3, h4⟩
    · exact absurd hl2 (h1 j hj (by omega))
    · rcases ho with ho | ⟨b', hb', e3, h5⟩
      · omega
      · obtain rfl : b = b' := by omega
        have := h4 j hj (by omega) hl2
        omega
theorem BestR.stay (h : BestR sets i last us q best) (hq : q < us.length) (b : Nat) (hb : b < us.length) (e : best = (b : Int)) (ht : us[q].tm ≤ us[b].tm) : BestR sets i last us (q + 1) best := by
  rcases h with ⟨e, h1⟩ | ⟨b', hb', h1, h2, h3, h4⟩
  · omega
  · obtain rfl : b = b' := by omega
    refine .inr ⟨b, hb, by omega, h2, h3, fun j hj hj2 hl2 => ?_⟩
    by_cases e2 : j = q
    · subst e2; exact ht
    · exact h4 j hj (by omega) hl2
end

set_option maxRecDepth 100000 in
set_option maxHeartbeats 4000000 in
theorem set_ok (w : World) (p : Nat) (v : Value) (c : Conf) (now : Nat) (us : List UL) (h : LevR w p v c now us) (ok : c.Ok) (hn : us.length ≤ 1000) (hnow : now ≤ 1000) (hus : ∀ u ∈ us, u.line ≤ 65535 ∧ u.tm ≤ now) (i : Nat) (hi : i < c.sets) (xs : List CLine) (ys : List UL) (hr : RelI c.sets i us xs ys) :
    Calls Try.prog 16 #[.pointer (some ⟨p, 0, none⟩), .int .i64 (i : Int)] w (SetLPost xs w) := by
  obtain ⟨va, vc, hv⟩ := ownG_shape h.row
  have q4 := h.st.cell 4
  have q5 := h.st.cell 5
  simp only [List.getElem?_cons_zero, List.getElem?_cons_succ] at q4 q5
  obtain ⟨o1, o2, o3, o4⟩ := ok
  have HLV := Lib.hid h
  have HUS := Lib.hid hus
  have HR := Lib.hid hr
  have hyl : ys.length ≤ us.length := by rw [hr.perm.length_eq]; exact List.length_filter_le _ _
  have HT : Hid (∀ u ∈ us, u.tm ≤ now) := fun u hu => (hus u hu).2
  clear h hus hr
  obtain ⟨cw, cs, cy, cm⟩ := c
  simp only at *
  subst hv
  obtain ⟨n, hnn⟩ : ∃ n, n = us.length := ⟨_, rfl⟩
  have HN := Lib.hid hnn
  rw [← hnn] at hn HLV q5 hyl
  clear hnn
  go_enter Try.func16, Try.ntmps16
  go_wp2_with fail
  go_loopw [5, 6] (fun ov lv wo => ∃ (k last : Nat), lv = .int .i64 (last : Int) ∧ LastIs now ys k last ∧ wo.ownsRow w.heap.size 90 2 ov k (((ys.take k).map asC).flatMap cC) ∧ Below w.heap.size w wo) (fun ov _ _ => ys.length - lenV ov)
  case atStart => exact ⟨0, now + 1, by go_num, ⟨Nat.zero_le _, by simp⟩, World.ownsRow_nil _ _ _ _, Below.refl _ _⟩
  case round =>
    obtain ⟨k, last, rfl, hlast, hown, hb⟩ := hrel
    obtain ⟨pa, pc, rfl⟩ := ownG_shape hown
    obtain ⟨wo, hwo⟩ : ∃ wo, wo = wr := ⟨_, rfl⟩
    rw [← hwo] at hown hb ⊢
    clear hwo
    have HLO := Lib.hid (HLV.out.later hb)
    have HOWN := Lib.hid hown
    have HB := Lib.hid hb
    have HLAST := Lib.hid hlast
    have hpl := HLO.out.st.lt
    have hszo := hb.size
    have e5 := HLO.out.st.cell 5
    simp only [List.getElem?_cons_zero, List.getElem?_cons_succ] at e5
    clear hown hb hlast q4 q5
    go_wp2_with fail
    go_loopw [7, 20] (fun bv qv wi => ∃ (q : Nat) (best : Int), q ≤ n ∧ bv = .int .i64 best ∧ qv = .int .i64 (q : Int) ∧ BestR cs i last us q best ∧ Below wo.heap.size wo wi) (fun _ qv _ => n - (intOf qv).toNat)
    case atStart => exact ⟨0, -1, Nat.zero_le _, rfl, rfl, .inl ⟨rfl, fun j h h0 => by omega⟩, Below.refl _ _⟩
    case round =>
      obtain ⟨q, best, hq, rfl, rfl, hbest, hbi⟩ := hrel
      by_cases hlt : q < n
      · have HLI := Lib.hid (HLO.out.later hbi)
        obtain ⟨g, cap, hva, hcl, hcm, hgl, hgp, hcell⟩ := HLI.out.cells (by have := HN.out; omega)
        injection hva with e1 e2 e3
        subst e1 e3
        clear e2
        have hqu : q < us.length := by have := HN.out; omega
        obtain ⟨b0, b1, b2, b3⟩ := hcell q hqu
        have HCELL := Lib.hid hcell
        have q1 := HLI.out.st.cell 1
        have q5 := HLI.out.st.cell 5
        simp only [List.getElem?_cons_zero, List.getElem?_cons_succ] at q1 q5
        have hpr := HLI.out.st.lt
        rw [← HN.out] at hcl
        unfold maxLen at hcm
        obtain ⟨ul1, ul2⟩ := HUS.out _ (List.getElem_mem hqu)
        have HSK := Lib.hid (fun hc => hbest.skip hqu hc)
        have HNW := Lib.hid (fun hc ho => hbest.new hqu hc ho)
        have HSY := Lib.hid (fun b hb e ht => hbest.stay hqu b hb e ht)
        have HLF := Lib.hid (@liveU_iff cs i us[q])
        have HOLD := Lib.hid hbest
        have HBI := Lib.hid hbi
        clear hbest hbi hcell
        obtain ⟨u, hu⟩ : ∃ u, u = us[q] := ⟨_, rfl⟩
        rw [← hu] at b0 b1 b2 b3 ul1 ul2 HSK HNW HSY HLF
        have HU := Lib.hid hu
        clear hu
        obtain ⟨ul, ut, ud, ug⟩ := u
        simp only [candU, Nat.add_zero] at b0 b1 b2 b3 ul1 ul2 HSK HNW HSY HLF
        have m1 : (ul : Int) % (cs : Int) = ((ul % cs : Nat) : Int) := by push_cast; rfl
        have m1b : ul % cs < cs := Nat.mod_lt _ (by omega)
        obtain ⟨r1, hr1⟩ : ∃ r1, r1 = ul % cs := ⟨_, rfl⟩
        rw [← hr1] at m1 m1b HLF
        clear hr1
        --BEGIN
        have HNB : Hid (∀ wq, Below wr.heap.size wr wq → Below wo.heap.size wo wq) := fun wq hq => HBI.out.trans (hq.mono HBI.out.size)
        have hboxed : ∀ nq, Below wr.heap.size wr ((wr.alloc (.cells #[.int .i64 (ul : Int), .int .i64 (ut : Int), .bool ud, .bool ug] 87)).drewN nq) := fun nq => ((Below.refl _ _).alloc (Nat.le_refl _) _).trans (below_drewN_self _ _ _)
        have HBX := Lib.hid (fun nq => HNB.out _ (hboxed nq))
        clear hboxed HNB
        cases ug
        case true =>
          have HST := Lib.hid (HSK.out (fun h => by have := (HLF.out.1 h.1).1; cases this))
          clear HSK HNW HSY HLF HOLD m1
          go_wp2_with fail
          go_quiet (fail)
          go_wp2_with fail
          go_roundw
          case rel => exact ⟨q + 1, best, by omega, rfl, by go_num, HST.out, HBX.out _⟩
          case measure => simp [intOf]; omega
        case false =>
          by_cases hr : r1 = i
          · subst hr
            have hlive := HLF.out.2 ⟨rfl, rfl⟩
            by_cases htl : ut < last
            · have HNW2 := Lib.hid (HNW.out ⟨hlive, htl⟩)
              clear HSK HNW HLF hlive
              by_cases h0 : best < 0
              · have t0 : decide (best < 0) = true := decide_eq_true h0
                have HST := Lib.hid (HNW2.out (.inl h0))
                clear HNW2 HSY HOLD h0
                go_wp2_with fail
                go_quiet (fail)
                go_wp2_with fail
                go_roundw
                case rel => exact ⟨q + 1, (q : Int), by omega, rfl, by go_num, HST.out, HBX.out _⟩
                case measure => simp [intOf]; omega
              · have t0 : decide (best < 0) = false := decide_eq_false h0
                have HOB : Hid (∃ b : Nat, ∃ h : b < us.length, b < q ∧ best = (b : Int)) := by
                  rcases HOLD.out with ⟨e, _⟩ | ⟨b, hb, h1, h2, _⟩
                  · omega
                  · exact ⟨b, hb, h1, h2⟩
                obtain ⟨b, hb, hbk, rfl⟩ := HOB.out
                obtain ⟨_, d1, _, _⟩ := HCELL.out b hb
                obtain ⟨tb, hte⟩ : ∃ tb, tb = us[b].tm := ⟨_, rfl⟩
                rw [← hte] at d1
                have HTB := Lib.hid hte
                have htbb : tb ≤ 1000 := by have := (HUS.out _ (List.getElem_mem hb)).2; omega
                have hbn : b < n := by omega
                clear hte HOLD HOB h0
                by_cases hlt2 : tb < ut
                · have HST := Lib.hid (HNW2.out (.inr ⟨b, hb, rfl, by rw [← HTB.out]; exact hlt2⟩))
                  clear HNW2 HSY
                  go_wp2_with fail
                  go_quiet (fail)
                  go_wp2_with fail
                  go_roundw
                  case rel => exact ⟨q + 1, (q : Int), by omega, rfl, by go_num, HST.out, HBX.out _⟩
                  case measure => simp [intOf]; omega
                · have HST := Lib.hid (HSY.out b hb rfl (by rw [← HTB.out]; omega))
                  clear HNW2 HSY
                  go_wp2_with fail
                  go_quiet (fail)
                  go_wp2_with fail
                  go_roundw
                  case rel => exact ⟨q + 1, (b : Int), by omega, rfl, by go_num, HST.out, HBX.out _⟩
                  case measure => simp [intOf]; omega
            · have HST := Lib.hid (HSK.out (fun h => htl h.2))
              clear HSK HNW HSY HLF HOLD hlive
              go_wp2_with fail
              go_quiet (fail)
              go_wp2_with fail
              go_roundw
              case rel => exact ⟨q + 1, best, by omega, rfl, by go_num, HST.out, HBX.out _⟩
              case measure => simp [intOf]; omega
          · have t1 : ((r1 : Int) == (i : Int)) = false := by rw [beq_eq_false_iff_ne]; omega
            have HST := Lib.hid (HSK.out (fun h => hr (HLF.out.1 h.1).2))
            clear HSK HNW HSY HLF HOLD hr
            go_wp2_with fail
            go_quiet (fail)
            go_wp2_with fail
            go_roundw
            case rel => exact ⟨q + 1, best, by omega, rfl, by go_num, HST.out, HBX.out _⟩
            case measure => simp [intOf]; omega
        --END
      · have ek : n = q := by omega
        subst ek
        have HBST := Lib.hid hbest
        have HLI := Lib.hid (HLO.out.later hbi)
        have HOW2 := Lib.hid (ownG_below HOWN.out hbi)
        have HBW := Lib.hid (HB.out.trans (hbi.mono hszo))
        have hszw := hbi.size
        clear hbest hbi HLO HOWN HB
        by_cases h0 : best < 0
        · have t0 : decide (best < 0) = true := decide_eq_true h0
          have HXS : Hid (k = ys.length) := by
            obtain ⟨hk, hl⟩ := HLAST.out
            refine HR.out.done HT.out k last hk hl fun v hv hlv hlt => ?_
            rcases HBST.out with ⟨_, h1⟩ | ⟨b, hb, h1, h2, _⟩
            · obtain ⟨j, hj, rfl⟩ := List.getElem_of_mem hv
              exact h1 j hj (by have := HN.out; omega) ⟨hlv, hlt⟩
            · omega
          have HXE : Hid (xs = ys.map asC) := HR.out.eq
          clear h0
          go_wp2_with fail
          go_ret
          refine ⟨_, rfl, ?_, HBW.out⟩
          have h9 := HOW2.out
          have e9 : (ys.take k).map asC = xs := by rw [HXS.out, List.take_length, HXE.out]
          have e8 : k = xs.length := by rw [HXE.out, List.length_map, HXS.out]
          rw [e9] at h9
          rw [e8] at h9 ⊢
          exact lines_of_owns h9
        · have t0 : decide (best < 0) = false := decide_eq_false h0
          have HOB : Hid (∃ b : Nat, ∃ h : b < us.length, best = (b : Int) ∧ ∃ h2 : k < ys.length, ys[k] = us[b]) := by
            obtain ⟨hk, hl⟩ := HLAST.out
            rcases HBST.out with ⟨e, _⟩ | ⟨b, hb, h1, h2, h3, h4⟩
            · omega
            · refine ⟨b, hb, h2, HR.out.next HT.out k last hk hl us[b] ⟨List.getElem_mem hb, h3.1, h3.2⟩ fun v hv hlv hlt => ?_⟩
              obtain ⟨j, hj, rfl⟩ := List.getElem_of_mem hv
              exact h4 j hj (by have := HN.out; omega) ⟨hlv, hlt⟩
          obtain ⟨b, hb, rfl, hky, hyk⟩ := HOB.out
          obtain ⟨g, cap, hva, hcl, hcm, hgl, hgp, hcell⟩ := HLV.out.cells (by omega)
          injection hva with e1 e2 e3
          subst e1 e3
          clear e2
          obtain ⟨d0, d1, d2, _⟩ := hcell b hb
          clear hcell
          rw [← HN.out] at hcl
          unfold maxLen at hcm
          have hbn : b < n := by have := HN.out; omega
          have hplw := HLV.out.st.lt
          have q5 := HLV.out.st.cell 5
          simp only [List.getElem?_cons_zero, List.getElem?_cons_succ] at q5
          have hub := (HUS.out _ (List.getElem_mem hb))
          have HTK : Hid (((ys.take (k + 1)).map asC).flatMap cC = ((ys.take k).map asC).flatMap cC ++ cC (asC us[b])) := by
            unfold Hid
            rw [List.take_succ_eq_append_getElem hky, hyk, List.map_append, List.flatMap_append]
            simp
          have HLA : Hid (LastIs now ys (k + 1) us[b].tm) := ⟨hky, by rw [dif_pos (by omega)]; simp [hyk]⟩
          obtain ⟨u, hu⟩ : ∃ u, u = us[b] := ⟨_, rfl⟩
          rw [← hu] at d0 d1 d2 hub HTK HLA
          clear hyk hu HOB
          obtain ⟨ul, ut, ud, ug⟩ := u
          simp only at d0 d1 d2 hub HLA
          have C5 := Lib.hid ((HBW.out.cell (p := ⟨p, 5, none⟩) hplw).trans q5)
          have C0 := Lib.hid ((HBW.out.cell (p := ⟨g, b * 4, none⟩) hgl).trans d0)
          have C1 := Lib.hid ((HBW.out.cell (p := ⟨g, b * 4 + 1, none⟩) hgl).trans d1)
          have C2 := Lib.hid ((HBW.out.cell (p := ⟨g, b * 4 + 2, none⟩) hgl).trans d2)
          have HQ5 := Lib.hid q5
          have HD1 := Lib.hid d1
          have hszx : w.heap.size ≤ wr.heap.size := Nat.le_trans hszo hszw
          clear d0 d1 d2 q5 e5 h0
          obtain ⟨i0, hi0, hz0, hz1, hz2⟩ := info_parts Try.infoL90
          go_wp2_with fail
          have r5 := fun x : After w.heap.size wr.drew => (x.below.cell (p := ⟨p, 5, none⟩) hplw).trans C5.out
          have r0 := fun x : After w.heap.size wr.drew => (x.below.cell (p := ⟨g, b * 4, none⟩) hgl).trans C0.out
          have r2 := fun x : After w.heap.size wr.drew => (x.below.cell (p := ⟨g, b * 4 + 2, none⟩) hgl).trans C2.out
          refine wp_region_eager w.heap.size [(0, true), (1, true), (2, true), (3, true), (4, true), (5, true), (6, true), (7, true), (8, true), (9, true), (10, true), (11, true), (12, true), (13, true), (14, true), (15, true), (16, true), (17, true), (18, false), (19, false), (20, true)] (by kernel_rfl) (by kernel_rfl) ?_
          repeat (refine eag_read rfl ?_; go_big_quiet_step (fail); refine wpQuiet_nil ?_)
          clear r0 r2 r5
          refine eag_does rfl rfl ?_
          intro K hK
          go_simp
          refine hK _ _ (below_alloc_drew hszx _) ?_
          clear hK K
          have hbz : Below wr.heap.size wr (wr.alloc (.cells #[.int .i64 (ul : Int), .bool ud] 90)).drew := ((Below.refl wr.heap.size wr).alloc (Nat.le_refl _) (.cells #[.int .i64 (ul : Int), .bool ud] 90)).drew
          have HOW3 := Lib.hid (ownG_below HOW2.out hbz)
          have HBW3 := Lib.hid (HBW.out.trans (hbz.mono hszx))
          have HNEW : Hid (Blk (wr.alloc (.cells #[.int .i64 (ul : Int), .bool ud] 90)).drew wr.heap.size 90 (cC (asC ⟨ul, ut, ud, ug⟩))) := Blk.new wr (cC (asC ⟨ul, ut, ud, ug⟩)) 90
          have hsz3 : w.heap.size ≤ (wr.alloc (.cells #[.int .i64 (ul : Int), .bool ud] 90)).drew.heap.size := by simp; omega
          clear hbz HOW2 HBW
          generalize (wr.alloc (.cells #[.int .i64 (ul : Int), .bool ud] 90)).drew = wz at HOW3 HBW3 HNEW hsz3 ⊢
          refine eag_does rfl rfl ?_
          intro K hK
          refine wp_append_own _ _ _ 40 rfl w.heap.size 90 i0 (.agg #[.int .i64 0, .bool false]) 2 16 Try.underlying40 hi0 hz0 hz1 hz2 rfl (by decide) (Value.slice pa k pc) k _ rfl HOW3.out ⟨wr.heap.size, 0, none⟩ 1 1 (cC (asC ⟨ul, ut, ud, ug⟩)) rfl rfl ?_ ?_ ?_ ?_ hsz3 ?_
          · intro j u hj
            rw [Addr.add_lit, Nat.zero_add, HNEW.out.cell]
            exact hj
          · intro u hu
            simp [cC, asC] at hu
            rcases hu with rfl | rfl <;> rfl
          · unfold maxLen; omega
          · omega
          intro v' w9 hown' hgrow _
          have hb9 : Below w.heap.size wz w9 := (Below.refl _ _).grown hgrow hsz3 (fun q hq => (HOW3.out.lt q hq).1)
          go_simp
          refine hK _ _ hb9 ?_
          clear hK K
          rw [← HTK.out] at hown'
          have HO9 := Lib.hid hown'
          have hbf := HBW3.out.trans hb9
          have HB9 := Lib.hid hbf
          have c5 := (hbf.cell (p := ⟨p, 5, none⟩) hplw).trans HQ5.out
          have c1 := (hbf.cell (p := ⟨g, b * 4 + 1, none⟩) hgl).trans HD1.out
          obtain ⟨va2, vc2, rfl⟩ := ownG_shape hown'
          clear hown' hgrow hb9 hbf HOW3 HBW3 HNEW
          repeat (refine eag_read rfl ?_; go_big_quiet_step (fail); refine wpQuiet_nil ?_)
          refine eag_end ?_
          go_wp2_with fail
          go_roundw
          case rel => exact ⟨k + 1, ut, rfl, HLA.out, HO9.out, HB9.out⟩
          case measure => simp [lenV]; omega
end Go.Proofs.Ytkpeeemnholmnab
