/- The contract of relax's Sizes. -/
import Derived.Test.YtkafbihlmhdjeabRelaxMath
import Derived.Deep.LoopGhost
namespace Go.Proofs.Ytkafbihlmhdjeab
open Go.RowKit
set_option linter.unusedVariables false

theorem sizeR_bel (op d a b n : Int) (w : World) :
    Calls Try.prog 74 #[.agg #[.int .i64 op, .int .i64 d, .int .i64 a, .int .i64 b, .int .i64 n]] w fun e w' => e = .returned (.int .i64 (sizeOfOp n)) ∧ Below w.heap.size w w' := by
  refine (size_any op d a b n w).mono ?_
  rintro e w' ⟨rfl, rfl⟩
  exact ⟨rfl, (Below.refl _ _).alloc (Nat.le_refl _) _⟩

/-- what Sizes hands back where the check finds nothing -/
def SizesPost (its : List Item) (len : Nat) (w : World) (e : Ending) (w' : World) : Prop :=
  ∃ g L, e = .returned (.tuple #[.slice (some ⟨g, 0, none⟩) len len, .int .i64 0]) ∧ Blk w' g 4 (rowL len (fun i => .bool (L i))) ∧ SizesOf its len L ∧ w.heap.size ≤ g ∧ Below w.heap.size w w'
def NoSizes (c : Int) (w : World) (e : Ending) (w' : World) : Prop := e = .returned (.tuple #[.slice none 0 0, .int .i64 c]) ∧ Below w.heap.size w w'

set_option maxHeartbeats 1000000 in
theorem sizes_err (a : Option Addr) (len cap : Nat) (its : List Item) (w : World) (h : Came w a len cap 6 (its.map itemCells)) (he : itemsE its ≠ 0) :
    Calls Try.prog 68 #[.slice a len cap] w (NoSizes (itemsE its) w) := by
  have HC := Lib.hid (relaxCheck_any a len cap its w h)
  obtain ⟨c, hc⟩ : ∃ c, c = itemsE its := ⟨_, rfl⟩
  rw [← hc] at HC he ⊢
  have hcn : (c != 0) = true := by rw [bne_iff_ne]; exact he
  clear hc he h
  go_enter Try.func68, Try.ntmps68
  go_wp2_with (go_at_call 34; refine HC.out.mono ?_; rintro e w' ⟨rfl, hb⟩; have HB := Lib.hid hb; clear hb)
  go_ret2
  exact ⟨rfl, HB.out⟩

set_option maxRecDepth 100000 in
set_option maxHeartbeats 4000000 in
theorem sizes_ok (a : Option Addr) (len cap : Nat) (its : List Item) (w : World) (h : Came w a len cap 6 (its.map itemCells)) (he : itemsE its = 0) :
    Calls Try.prog 68 #[.slice a len cap] w (SizesPost its len w) := by
  have hl : its.length = len := by simpa using h.count
  have hle := h.le
  have hmx := h.max
  obtain ⟨hbig, hok⟩ := items_ok he
  have HC := Lib.hid (relaxCheck_any a len cap its w h)
  rw [he] at HC
  rw [hl] at hbig hok
  have HCM := Lib.hid h
  have HL := Lib.hid hl
  have HOK := Lib.hid (fun i hi => item_ok (hok i hi))
  have hT : ∀ i, i < len → tgt its i ≤ len := by
    intro i hi
    unfold tgt
    rcases HOK.out i hi with ⟨_, h2, _⟩ | ⟨h2, _⟩ <;> omega
  have HT := Lib.hid hT
  have hmk := run_make_rep (P := Try.prog) 72 4 (.bool false) 1 Try.underlying72 Try.infoT4 rfl len (by omega) (by omega)
  clear h hl hok he hT
  go_enter Try.func68, Try.ntmps68
  go_wp2_with (go_at_call 34; refine HC.out.mono ?_; rintro e w1 ⟨rfl, hb⟩; have HB1 := Lib.hid hb; clear hb)
  clear hmk
  go_loopw [22] (fun u wr => ∃ k : Nat, k ≤ len ∧ u = .int .i64 k ∧ Blk wr w1.heap.size 4 (rowL len (fun i => .bool (if i < k then baseL its i else false))) ∧ Below w1.heap.size w1 wr) (fun u _ => len - (intOf u).toNat)
  case atStart =>
    refine ⟨0, Nat.zero_le _, rfl, ?_, (Below.refl _ _).alloc (Nat.le_refl _) _⟩
    exact (Blk.new w1 _ _).rowCongr fun i _ => by simp
  case round =>
    obtain ⟨k, hk, rfl, hblk, hb⟩ := hrel
    by_cases hlt : k < len
    · obtain ⟨b0, off, ea, hbl, hcell⟩ := came_items HCM.out (by omega)
      subst ea
      have hkl : k < its.length := by have := HL.out; omega
      have hcs := (hcell k hkl).later (HB1.out.trans (hb.mono (by have := HB1.out.size; omega))) hbl
      rw [← itAt_get hkl] at hcs
      have HBL : Hid (baseL its k = (!lab its k && !shortB (itAt its k).n)) := rfl
      have HLB : Hid (lab its k = decide (0 ≤ (itAt its k).tg)) := rfl
      obtain ⟨it, hit⟩ : ∃ it, it = itAt its k := ⟨_, rfl⟩
      rw [← hit] at hcs HBL HLB
      have HIT := Lib.hid hit
      have HCS := Lib.hid hcs
      have hb1 := hblk.row (i := k) hlt
      have hf1 := hblk.free k
      rw [if_neg (Nat.lt_irrefl k)] at hb1
      have hgl : w1.heap.size < wr.heap.size := hblk.lt
      have HBLK := Lib.hid hblk
      have HB := Lib.hid hb
      clear hit hcs hcell hblk hb
      obtain ⟨op, d, a, b, n, tg⟩ := it
      obtain ⟨c0, c1, c2, c3, c4, c5⟩ := HCS.out
      simp only at c0 c1 c2 c3 c4 c5 HBL HLB
      have hs2 := size_two n
      have HSZ := fun w => Lib.hid (sizeR_bel op d a b n w)
      obtain ⟨sz, hsz⟩ : ∃ sz, sz = sizeOfOp n := ⟨_, rfl⟩
      rw [← hsz] at HSZ hs2
      clear hsz
      by_cases htg : tg < 0
      · have HBV : Hid (baseL its k = !shortB n) := by unfold Hid; rw [HBL.out, HLB.out, decide_eq_false (by omega)]; rfl
        go_wp2_with (go_at_call 74; refine (HSZ _).out.mono ?_; rintro e w5 ⟨rfl, hb5⟩; have hblk5 := (HBLK.out.alloc (.cells #[.int .i64 op, .int .i64 d, .int .i64 a, .int .i64 b, .int .i64 n, .int .i64 tg] 68)).below hb5 (by simp; omega); have hb1' := hblk5.row (i := k) hlt; have hf1' := hblk5.free k; have HB5 := Lib.hid hb5; have HBLK5 := Lib.hid hblk5; clear hb5 hblk5)
        go_roundw
        case rel =>
          refine ⟨k + 1, by omega, by go_num, (HBLK5.out.rowSet k _).rowCongr fun i hi => ?_, Below.setCell (p := ⟨w1.heap.size, k, none⟩) ?_ (Nat.le_refl _) _⟩
          · by_cases e : i = k
            · subst e; rw [if_pos rfl, if_pos (by omega), HBV.out]
            · rw [if_neg e]
              by_cases e2 : i < k
              · rw [if_pos e2, if_pos (by omega)]
              · rw [if_neg e2, if_neg (by omega)]
          · exact (HB.out.alloc (by omega) _).trans (HB5.out.mono (by simp; omega))
        case measure => simp [intOf]; omega
      · have HBV : Hid (baseL its k = false) := by unfold Hid; rw [HBL.out, HLB.out, decide_eq_true (by omega)]; rfl
        go_wp2_with fail
        go_roundw
        case rel =>
          refine ⟨k + 1, by omega, by go_num, ((HBLK.out.rowSet k _).alloc _).rowCongr fun i hi => ?_, (HB.out.setCell (p := ⟨w1.heap.size, k, none⟩) (Nat.le_refl _) _).alloc (by simp; omega) _⟩
          by_cases e : i = k
          · subst e; rw [if_pos rfl, if_pos (by omega), HBV.out]
          · rw [if_neg e]
            by_cases e2 : i < k
            · rw [if_pos e2, if_pos (by omega)]
            · rw [if_neg e2, if_neg (by omega)]
        case measure => simp [intOf]; omega
    · have ek : k = len := by omega
      subst ek
      have HBLK := Lib.hid (hblk.rowCongr (g := fun i => .bool (baseL its i)) fun i hi => by rw [if_pos hi])
      have HB := Lib.hid hb
      clear hblk hb
      go_wp2_with fail
      obtain ⟨wo, hwo⟩ : ∃ wo, wo = wr := ⟨_, rfl⟩
      rw [← hwo] at HBLK HB ⊢
      clear hwo
      go_loopg [8] (2 * shorts k (baseL its) + 1) (fun gk c8 w2 => ∃ (L : Nat → Bool) (ch : Bool), c8 = .bool ch ∧ Blk w2 w1.heap.size 4 (rowL k (fun i => .bool (L i))) ∧ Grows its k L ∧ (ch = false → ∀ i, i < k → farL its L i = true → L i = true) ∧ gk = 2 * shorts k L + (if ch = true then 1 else 0) ∧ Below w1.heap.size w1 w2)
      case atStart => exact ⟨baseL its, true, rfl, HBLK.out, Grows.start _ _, (fun h => by cases h), rfl, HB.out⟩
      case round =>
        obtain ⟨L, ch, rfl, hblk, hgr, hcl, hgk, hb⟩ := hrel
        have HBLK := Lib.hid hblk
        have HGR := Lib.hid hgr
        have HCL := Lib.hid hcl
        have HGK := Lib.hid hgk
        have HB := Lib.hid hb
        clear hblk hgr hcl hgk hb
        cases ch
        · go_wp2_with fail
          go_ret2
          exact ⟨_, L, rfl, HBLK.out, HGR.out.done (HCL.out (by simp)), HB1.out.size, HB1.out.trans (HB.out.mono HB1.out.size)⟩
        · have HST := Lib.hid (starts_any a k cap w1.heap.size 0 k L wr hbig (fun i hi => by rw [Nat.zero_add]; exact HBLK.out.row hi) HBLK.out.lt ⟨Nat.le_refl _, by omega⟩)
          go_wp2_with (go_at_call 69; refine HST.out.mono ?_; rintro e w3 ⟨gs, rfl, hst, hge, hb3⟩; have HGS := Lib.hid hst; have HGE := Lib.hid hge; have HB3 := Lib.hid hb3; have HBLK3 := Lib.hid (HBLK.out.below hb3 HBLK.out.lt); clear hst hge hb3)
          have HBW3 := Lib.hid (HB.out.trans (HB3.out.mono (by have := HBLK.out.lt; omega)))
          have HGG : Hid (w1.heap.size < gs) := by have := HBLK.out.lt; have := HGE.out; unfold Hid; omega
          clear HST HBLK HB HB3 HGE
          obtain ⟨w4, hw4⟩ : ∃ w4, w4 = w3 := ⟨_, rfl⟩
          rw [← hw4] at HBLK3 HGS HBW3 ⊢
          clear hw4
          go_loopw [8, 46] (fun c8 u w5 => ∃ j : Nat, j ≤ k ∧ u = .int .i64 j ∧ c8 = .bool (chgL its L j) ∧ Blk w5 w1.heap.size 4 (rowL k (fun i => .bool (midL its L j i))) ∧ Blk w5 gs 3 (rowL (k + 1) (fun i => .int .i64 (posL L i))) ∧ Below w1.heap.size w1 w5) (fun _ u _ => k - (intOf u).toNat)
          case atStart => exact ⟨0, Nat.zero_le _, rfl, rfl, HBLK3.out.rowCongr fun i _ => by unfold midL; rw [if_neg (Nat.not_lt_zero i)], HGS.out, HBW3.out⟩
          case round =>
            clear HBLK3 HGS HBW3
            obtain ⟨j, hj, rfl, rfl, hblk, hst, hb⟩ := hrel
            by_cases hlt2 : j < k
            · obtain ⟨b0, off, ea, hbl, hcell⟩ := came_items HCM.out (by omega)
              subst ea
              have hjl : j < its.length := by have := HL.out; omega
              have hcs := (hcell j hjl).later (HB1.out.trans (hb.mono (by have := HB1.out.size; omega))) hbl
              rw [← itAt_get hjl] at hcs
              have HFL : Hid (farL its L j = (lab its j && !shortB (posL L (tgt its j) - posL L j - 1))) := rfl
              have HLB : Hid (lab its j = decide (0 ≤ (itAt its j).tg)) := rfl
              have HTG : Hid (tgt its j = (itAt its j).tg.toNat) := rfl
              have htl := HT.out j hlt2
              obtain ⟨it, hit⟩ : ∃ it, it = itAt its j := ⟨_, rfl⟩
              rw [← hit] at hcs HLB HTG
              have HCS := Lib.hid hcs
              have hb1 := hblk.row (i := j) hlt2
              have hf1 := hblk.free j
              rw [mid_self] at hb1
              have hgl : w1.heap.size < wr.heap.size := hblk.lt
              have hgs : gs < wr.heap.size := hst.lt
              have HBLK := Lib.hid hblk
              have HST := Lib.hid hst
              have HB := Lib.hid hb
              clear hit hcs hcell hblk hb hst
              obtain ⟨op, d, a, b, n, tg⟩ := it
              obtain ⟨c0, c1, c2, c3, c4, c5⟩ := HCS.out
              simp only at c0 c1 c2 c3 c4 c5 HLB HTG
              by_cases htg : tg < 0
              · have HFN : Hid (farL its L j = false) := by unfold Hid; rw [HFL.out, HLB.out, decide_eq_false (by omega)]; rfl
                go_wp2_with fail
                go_roundw
                case rel => exact ⟨j + 1, by omega, by go_num, by rw [chg_keep its L j (.inr HFN.out)], (HBLK.out.alloc _).rowCongr fun i _ => by rw [mid_keep its L j (.inr HFN.out)], HST.out.alloc _, HB.out.alloc (by omega) _⟩
                case measure => simp [intOf]; omega
              · cases hlj : L j
                · rw [hlj] at hb1
                  obtain ⟨t, rfl⟩ := Int.eq_ofNat_of_zero_le (show 0 ≤ tg by omega)
                  have ht : tgt its j = t := by rw [HTG.out]; omega
                  rw [ht] at htl HFL
                  have HLB2 : Hid (lab its j = true) := by unfold Hid; rw [HLB.out, decide_eq_true (by omega)]
                  have HLJ := Lib.hid hlj
                  clear hlj HLB HTG ht
                  have e1 := HST.out.row (i := t) (by omega)
                  have e2 := HST.out.row (i := j) (by omega)
                  have hp1 := posL_bd L t
                  have hp2 := posL_bd L j
                  obtain ⟨p1, hq1⟩ : ∃ p, p = posL L t := ⟨_, rfl⟩
                  obtain ⟨p2, hq2⟩ : ∃ p, p = posL L j := ⟨_, rfl⟩
                  rw [← hq1] at e1 hp1 HFL
                  rw [← hq2] at e2 hp2 HFL
                  clear hq1 hq2
                  go_wp2_with fail
                  have hbw : Below (wr.heap.size + 1) (wr.alloc (.cells #[.int .i64 op, .int .i64 d, .int .i64 a, .int .i64 b, .int .i64 n, .int .i64 (t : Int)] 68)) (wr.alloc (.cells #[.int .i64 op, .int .i64 d, .int .i64 a, .int .i64 b, .int .i64 n, .int .i64 (t : Int)] 68)).drew := (Below.refl _ _).drew
                  have g5 : (wr.alloc (.cells #[.int .i64 op, .int .i64 d, .int .i64 a, .int .i64 b, .int .i64 n, .int .i64 (t : Int)] 68)).cell? ⟨wr.heap.size, 5, none⟩ = some (.int .i64 (t : Int)) := by rw [World.cell?_alloc_new]; rfl
                  have g1 : (wr.alloc (.cells #[.int .i64 op, .int .i64 d, .int .i64 a, .int .i64 b, .int .i64 n, .int .i64 (t : Int)] 68)).cell? ⟨gs, t, none⟩ = some (.int .i64 p1) := by rw [World.cell?_alloc_lt _ _ _ hgs]; exact e1
                  have g2 : (wr.alloc (.cells #[.int .i64 op, .int .i64 d, .int .i64 a, .int .i64 b, .int .i64 n, .int .i64 (t : Int)] 68)).cell? ⟨gs, j, none⟩ = some (.int .i64 p2) := by rw [World.cell?_alloc_lt _ _ _ hgs]; exact e2
                  have r5 := fun x : After (wr.heap.size + 1) (wr.alloc (.cells #[.int .i64 op, .int .i64 d, .int .i64 a, .int .i64 b, .int .i64 n, .int .i64 (t : Int)] 68)).drew => ((hbw.trans x.below).cell (p := ⟨wr.heap.size, 5, none⟩) (by simp)).trans g5
                  have r1 := fun x : After (wr.heap.size + 1) (wr.alloc (.cells #[.int .i64 op, .int .i64 d, .int .i64 a, .int .i64 b, .int .i64 n, .int .i64 (t : Int)] 68)).drew => ((hbw.trans x.below).cell (p := ⟨gs, t, none⟩) (by simp; omega)).trans g1
                  have r2 := fun x : After (wr.heap.size + 1) (wr.alloc (.cells #[.int .i64 op, .int .i64 d, .int .i64 a, .int .i64 b, .int .i64 n, .int .i64 (t : Int)] 68)).drew => ((hbw.trans x.below).cell (p := ⟨gs, j, none⟩) (by simp; omega)).trans g2
                  clear hbw g5 g1 g2
                  have htn : (t : Int) < (k : Int) + 1 := by omega
                  have hjn : (j : Int) < (k : Int) + 1 := by omega
                  refine wp_region_eager (wr.heap.size + 1) [(0, true), (1, true), (2, true), (3, true), (4, true), (5, true), (6, true), (7, true), (8, true), (9, true), (10, true), (11, true), (12, false), (13, true)] (by kernel_rfl) (by kernel_rfl) ?_
                  repeat (refine eag_read rfl ?_; go_big_quiet_step (fail); refine wpQuiet_nil ?_)
                  clear r5 r1 r2
                  refine eag_does rfl rfl ?_
                  intro K hK
                  go_simp
                  refine (sizeR_bel _ _ _ _ _ _).mono ?_
                  rintro e w6 ⟨rfl, hb6⟩
                  refine hK _ _ (hb6.mono (by show _ ≤ (World.alloc _ _).heap.size; simp)) ?_
                  have hbl6 := ((HBLK.out.alloc (.cells #[.int .i64 op, .int .i64 d, .int .i64 a, .int .i64 b, .int .i64 n, .int .i64 (t : Int)] 68)).drew).below hb6 (by show _ < (World.alloc _ _).heap.size; simp; omega)
                  have hst6 := ((HST.out.alloc (.cells #[.int .i64 op, .int .i64 d, .int .i64 a, .int .i64 b, .int .i64 n, .int .i64 (t : Int)] 68)).drew).below hb6 (by show _ < (World.alloc _ _).heap.size; simp; omega)
                  have HB6 := Lib.hid ((HB.out.alloc (by omega) (.cells #[.int .i64 op, .int .i64 d, .int .i64 a, .int .i64 b, .int .i64 n, .int .i64 (t : Int)] 68)).drew.trans (hb6.mono (B' := w1.heap.size) (by show _ ≤ (World.alloc _ _).heap.size; simp; omega)))
                  have e3 := hbl6.row (i := j) hlt2
                  rw [mid_self, HLJ.out] at e3
                  have e4 := hbl6.free j
                  have HBL6 := Lib.hid hbl6
                  have HST6 := Lib.hid hst6
                  clear hK K hb6 hbl6 hst6
                  have hs2 := size_two (p1 - p2 - 1)
                  cases hsh : shortB (p1 - p2 - 1)
                  · have HFY : Hid (farL its L j = true) := by unfold Hid; rw [HFL.out, HLB2.out, hsh]; rfl
                    rw [hsh] at hs2
                    clear hsh
                    repeat (refine eag_read rfl ?_; go_big_quiet_step (fail); refine wpQuiet_nil ?_)
                    refine eag_end ?_
                    go_wp2_with fail
                    go_roundw
                    case rel => exact ⟨j + 1, by omega, by go_num, by rw [chg_turn its L j HLJ.out HFY.out], (HBL6.out.rowSet j _).rowCongr fun i _ => by rw [← mid_turn its L j HFY.out]; split <;> rfl, HST6.out.setOther (by simp; have := HGG.out; omega) _, HB6.out.setCell (p := ⟨w1.heap.size, j, none⟩) (Nat.le_refl _) _⟩
                    case measure => simp [intOf]; omega
                  · have HFN : Hid (farL its L j = false) := by unfold Hid; rw [HFL.out, hsh]; simp
                    rw [hsh] at hs2
                    clear hsh
                    repeat (refine eag_read rfl ?_; go_big_quiet_step (fail); refine wpQuiet_nil ?_)
                    refine eag_end ?_
                    go_wp2_with fail
                    go_roundw
                    case rel => exact ⟨j + 1, by omega, by go_num, by rw [chg_keep its L j (.inr HFN.out)], HBL6.out.rowCongr fun i _ => by rw [mid_keep its L j (.inr HFN.out)], HST6.out, HB6.out⟩
                    case measure => simp [intOf]; omega
                · rw [hlj] at hb1
                  have HLJ := Lib.hid hlj
                  clear hlj
                  go_wp2_with fail
                  go_roundw
                  case rel => exact ⟨j + 1, by omega, by go_num, by rw [chg_keep its L j (.inl HLJ.out)], (HBLK.out.alloc _).rowCongr fun i _ => by rw [mid_keep its L j (.inl HLJ.out)], HST.out.alloc _, HB.out.alloc (by omega) _⟩
                  case measure => simp [intOf]; omega
            · have ej : j = k := by omega
              subst ej
              have HBLK := Lib.hid hblk
              have HB := Lib.hid hb
              clear hblk hb hst
              have hstep : ∀ i, i < j → midL its L j i = stepL its L i := fun i hi => by unfold midL; rw [if_pos hi]
              have HSTEP := Lib.hid hstep
              have hle' : ∀ i, i < j → L i = true → midL its L j i = true := fun i hi h => by rw [hstep i hi]; unfold stepL; rw [h]; rfl
              have HLE := Lib.hid hle'
              clear hstep hle'
              go_wp2_with fail
              go_roundg (2 * shorts j (midL its L j) + (if chgL its L j = true then 1 else 0))
              case measure =>
                have hgk := HGK.out
                have h1 := shorts_le j L (midL its L j) HLE.out
                cases hc : chgL its L j
                · simp at hgk ⊢; omega
                · obtain ⟨i, hi, h2, h3⟩ := (chg_ex its L j).1 hc
                  have := shorts_lt j L (midL its L j) HLE.out i hi h2 (by rw [HSTEP.out i hi]; unfold stepL; rw [h3]; simp)
                  simp at hgk ⊢; omega
              case rel =>
                refine ⟨midL its L j, chgL its L j, rfl, HBLK.out, HGR.out.add HT.out fun i hi => ?_, fun hc i hi hf => ?_, rfl, HB.out⟩
                · rw [HSTEP.out i hi]
                  unfold stepL
                  cases hf : farL its L i
                  · left; simp
                  · right; exact ⟨rfl, by simp⟩
                · have hno : ∀ i, i < j → midL its L j i = L i := by
                    intro i hi
                    rw [HSTEP.out i hi]
                    unfold stepL
                    cases hl : L i
                    · cases hf : farL its L i
                      · rfl
                      · have := (chg_ex its L j).2 ⟨i, hi, hl, hf⟩
                        rw [hc] at this; cases this
                    · rfl
                  have hpc := pos_congr (midL its L j) L j hno
                  have hf2 : farL its L i = true := by
                    unfold farL distL at hf ⊢
                    rw [hpc _ (HT.out i hi), hpc _ (by omega)] at hf
                    exact hf
                  rw [HSTEP.out i hi]
                  unfold stepL; rw [hf2]; simp
end Go.Proofs.Ytkafbihlmhdjeab
