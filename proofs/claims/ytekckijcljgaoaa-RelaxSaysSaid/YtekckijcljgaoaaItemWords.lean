/- The contract of the reference's ItemWords. -/
import Derived.Test.YtekckijcljgaoaaShortItems
import Derived.Test.YtekckijcljgaoaaRelaxEnc
import Derived.Test.YtekckijcljgaoaaEagerR
namespace Go.Proofs.Ytekckijcljgaoaa
open Go.RowKit
set_option linter.unusedVariables false

def CodePost (its : List Item) (len : Nat) (all : Bool) (w : World) (e : Ending) (w' : World) : Prop :=
  ∃ v L, e = .returned v ∧ SizesOf its len L ∧ w'.ownsRow w.heap.size 3 1 v (codeTo its (allL its all L) len).length ((codeTo its (allL its all L) len).map (Value.int .i64)) ∧ Below w.heap.size w w'

theorem opAt_set {w : World} {t : TypeId} {B : Nat} {op d a b n N : Int} (h : Blk w B t (opCells op d a b n)) : OpAt (w.setCell ⟨B, 4, none⟩ (.int .i64 N)) B op d a b N :=
  opAt_blk (h.set 4 (.int .i64 N))
theorem op_after {w wx : World} {t t2 : TypeId} {op d a b n tg op' d' a' b' n' : Int}
    (hb : Below ((w.alloc (.cells #[.int .i64 op, .int .i64 d, .int .i64 a, .int .i64 b, .int .i64 n, .int .i64 tg] t)).alloc (.cells #[.int .i64 op', .int .i64 d', .int .i64 a', .int .i64 b', .int .i64 n'] t2)).heap.size ((w.alloc (.cells #[.int .i64 op, .int .i64 d, .int .i64 a, .int .i64 b, .int .i64 n, .int .i64 tg] t)).alloc (.cells #[.int .i64 op', .int .i64 d', .int .i64 a', .int .i64 b', .int .i64 n'] t2)) wx) :
    Blk wx (w.heap.size + 1) t2 (opCells op' d' a' b' n') := by
  have h2 := (Blk.new (w.alloc (.cells #[.int .i64 op, .int .i64 d, .int .i64 a, .int .i64 b, .int .i64 n, .int .i64 tg] t)) (opCells op' d' a' b' n') t2).below hb (by simp)
  rwa [World.size_alloc] at h2

set_option maxRecDepth 100000 in
set_option maxHeartbeats 4000000 in
theorem itemWords_any (a : Option Addr) (len cap : Nat) (its : List Item) (all : Bool) (w : World) (h : Came w a len cap 6 (its.map itemCells)) (he : itemsE its = 0) :
    Calls Try.prog 47 #[.slice a len cap, .bool all] w (CodePost its len all w) := by
  have hl : its.length = len := by simpa using h.count
  have hle := h.le
  have hmx := h.max
  obtain ⟨hbig, hok⟩ := items_ok he
  have HC := Lib.hid (shortItems_any a len cap its w h he)
  rw [hl] at hbig hok
  have HCM := Lib.hid h
  have HL := Lib.hid hl
  have HOK := Lib.hid hok
  have hT : ∀ i, i < len → tgt its i ≤ len := by
    intro i hi
    unfold tgt
    rcases item_ok (hok i hi) with ⟨_, h2, _⟩ | ⟨h2, _⟩ <;> omega
  have HT := Lib.hid hT
  clear h hl hok he hT
  go_enter Try.func47, Try.ntmps47
  go_wp2_with (go_at_call 46; refine HC.out.mono ?_; rintro e w1 ⟨gl, L, rfl, hbl, hS, hgl, hb⟩; have HBL := Lib.hid hbl; have HS := Lib.hid hS; have HGL := Lib.hid hgl; have HB1 := Lib.hid hb; clear hbl hS hgl hb)
  clear HC
  go_loopw [16] (fun u wr => ∃ k : Nat, k ≤ len ∧ u = .int .i64 k ∧ Blk wr gl 4 (rowL len (fun i => .bool (if i < k then allL its all L i else L i))) ∧ Below w.heap.size w wr) (fun u _ => len - (intOf u).toNat)
  case atStart =>
    exact ⟨0, Nat.zero_le _, rfl, HBL.out.rowCongr fun i _ => by rw [if_neg (Nat.not_lt_zero i)], HB1.out⟩
  case round =>
    clear HBL HB1
    obtain ⟨k, hk, rfl, hblk, hb⟩ := hrel
    by_cases hlt : k < len
    · obtain ⟨b0, off, ea, hbl, hcell⟩ := came_items HCM.out (by omega)
      subst ea
      have hkl : k < its.length := by have := HL.out; omega
      have hcs := (hcell k hkl).later hb hbl
      rw [← itAt_get hkl] at hcs
      have HAL : Hid (allL its all L k = (L k || (all && lab its k))) := rfl
      have HLB : Hid (lab its k = decide (0 ≤ (itAt its k).tg)) := rfl
      obtain ⟨it, hit⟩ : ∃ it, it = itAt its k := ⟨_, rfl⟩
      rw [← hit] at hcs HLB
      have HCS := Lib.hid hcs
      have hb1 := hblk.row (i := k) hlt
      have hf1 := hblk.free k
      rw [if_neg (Nat.lt_irrefl k)] at hb1
      have hglt : gl < wr.heap.size := hblk.lt
      have hws : w.heap.size ≤ wr.heap.size := hb.size
      have hwg := HGL.out
      have HBLK := Lib.hid hblk
      have HB := Lib.hid hb
      clear hit hcs hcell hblk hb
      obtain ⟨op, d, a, b, n, tg⟩ := it
      obtain ⟨c0, c1, c2, c3, c4, c5⟩ := HCS.out
      simp only at c0 c1 c2 c3 c4 c5 HLB
      obtain ⟨nv, hnv⟩ : ∃ nv, nv = allL its all L k := ⟨_, rfl⟩
      rw [← hnv] at HAL
      have HNV := Lib.hid hnv
      clear hnv
      have hcases : (all = false ∧ nv = L k) ∨ (all = true ∧ 0 ≤ tg ∧ nv = true) ∨ (all = true ∧ tg < 0 ∧ nv = L k) := by
        have h1 := HAL.out
        rw [HLB.out] at h1
        cases all
        · left; exact ⟨rfl, by rw [h1]; simp⟩
        · by_cases ht : 0 ≤ tg
          · right; left; exact ⟨rfl, ht, by rw [h1, decide_eq_true ht]; simp⟩
          · right; right; exact ⟨rfl, by omega, by rw [h1, decide_eq_false ht]; simp⟩
      clear HAL HLB
      rcases hcases with ⟨rfl, hnl⟩ | ⟨rfl, htg, rfl⟩ | ⟨rfl, htg, hnl⟩
      case' inr.inl =>
        go_wp2_with fail
        go_roundw
        case rel =>
          refine ⟨k + 1, by omega, by go_num, ((HBLK.out.rowSet k _).alloc _).rowCongr fun i hi => ?_, (HB.out.setCell (p := ⟨gl, k, none⟩) (by exact hwg) _).alloc (by simp; omega) _⟩
          by_cases e : i = k
          · subst e; rw [if_pos rfl, if_pos (by omega), ← HNV.out]
          · rw [if_neg e]
            by_cases e2 : i < k
            · rw [if_pos e2, if_pos (by omega)]
            · rw [if_neg e2, if_neg (by omega)]
        case measure => simp [intOf]; omega
      all_goals
        have HNL := Lib.hid (hnl.symm.trans HNV.out)
        clear hnl
        go_wp2_with fail
        go_roundw
        case rel =>
          refine ⟨k + 1, by omega, by go_num, (HBLK.out.alloc _).rowCongr fun i hi => ?_, HB.out.alloc (by omega) _⟩
          by_cases e : i = k
          · subst e; rw [if_neg (Nat.lt_irrefl i), if_pos (by omega), HNL.out]
          · by_cases e2 : i < k
            · rw [if_pos e2, if_pos (by omega)]
            · rw [if_neg e2, if_neg (by omega)]
        case measure => simp [intOf]; omega
    · have ek : k = len := by omega
      subst ek
      have hbm := hblk.rowCongr (g := fun i => .bool (allL its all L i)) fun i hi => by rw [if_pos hi]
      have HDEC := Lib.hid (fun i (hi : i < k) => (item_words (all := all) hbig HS.out HT.out hi (HOK.out i hi)).1)
      obtain ⟨M, hM⟩ : ∃ M, M = allL its all L := ⟨_, rfl⟩
      rw [← hM] at hbm HDEC
      have HMM := Lib.hid hM
      have HBG := Lib.hid hbm
      have HB := Lib.hid hb
      have hglt : gl < wr.heap.size := hblk.lt
      clear hblk hb hbm hM
      go_wp2_with fail
      obtain ⟨w4, hw4⟩ : ∃ w4, w4 = wr := ⟨_, rfl⟩
      rw [← hw4] at HBG HB hglt ⊢
      clear hw4
      obtain ⟨i0, hi0, hz0, hz1, hz2⟩ := info_parts Try.infoT3
      go_loopw [8, 33] (fun v u w5 => ∃ j : Nat, j ≤ k ∧ u = .int .i64 j ∧ w5.ownsRow w4.heap.size 3 1 v (codeTo its M j).length ((codeTo its M j).map (Value.int .i64)) ∧ Below w4.heap.size w4 w5) (fun _ u _ => k - (intOf u).toNat)
      case atStart => exact ⟨0, Nat.zero_le _, rfl, World.ownsRow_nil _ _ _ _, Below.refl _ _⟩
      case round =>
        obtain ⟨j, hj, rfl, hown, hb⟩ := hrel
        by_cases hlt2 : j < k
        · obtain ⟨b0, off, ea, hbl, hcell⟩ := came_items HCM.out (by omega)
          subst ea
          have hjl : j < its.length := by have := HL.out; omega
          have hbw := HB.out.trans (hb.mono HB.out.size)
          have hcs := (hcell j hjl).later hbw hbl
          rw [← itAt_get hjl] at hcs
          have hblj := HBG.out.below hb hglt
          have e0 := hblj.row (i := j) hlt2
          have hgr : gl < wr.heap.size := hblj.lt
          have hw4r : w4.heap.size ≤ wr.heap.size := hb.size
          have HNO : Hid (nOf its M j = if lab its j = true then posL M (tgt its j) - posL M (j + 1) else (itAt its j).n) := rfl
          have HLB : Hid (lab its j = decide (0 ≤ (itAt its j).tg)) := rfl
          have HTG : Hid (tgt its j = (itAt its j).tg.toNat) := rfl
          have HWA : Hid (wordsAt its M j = refWords (itAt its j).op (itAt its j).d (itAt its j).a (itAt its j).b (nOf its M j) (M j)) := rfl
          have hwl := wordsAt_len its M j
          have hcl := codeTo_len its M j
          have hpj := posL_bd M j
          have htl := HT.out j hlt2
          have hck := checkE_ok (HDEC.out j hlt2)
          have HD := fun (wx : World) (hx : Below wr.heap.size wr wx) (t : Nat) (ht : t ≤ k) (hit : (itAt its j).tg = (t : Int)) => Lib.hid (dist_any (some ⟨b0, off, none⟩) k cap its wx (HCM.out.below (hbw.trans (hx.mono (Nat.le_trans HB.out.size hb.size)))) hbig gl 0 k M (fun i hi => by rw [Nat.zero_add]; exact (hblj.below hx hgr).row hi) (hblj.below hx hgr).lt ⟨Nat.le_refl _, by omega⟩ j t (by omega) ht hit)
          obtain ⟨it, hit⟩ : ∃ it, it = itAt its j := ⟨_, rfl⟩
          rw [← hit] at hcs HNO HLB HTG HWA hck HD
          have HCS := Lib.hid hcs
          have HOWN := Lib.hid hown
          have HB5 := Lib.hid hb
          clear hit hcs hcell hown hb hbw
          obtain ⟨op, d, a, b, n, tg⟩ := it
          obtain ⟨c0, c1, c2, c3, c4, c5⟩ := HCS.out
          simp only at c0 c1 c2 c3 c4 c5 HNO HLB HTG HWA hck HD
          have HCK := Lib.hid hck
          clear hck
          obtain ⟨ml, hml⟩ : ∃ ml, ml = M j := ⟨_, rfl⟩
          obtain ⟨N, hN⟩ : ∃ N, N = nOf its M j := ⟨_, rfl⟩
          obtain ⟨ws, hws⟩ : ∃ ws, ws = wordsAt its M j := ⟨_, rfl⟩
          obtain ⟨cd, hcd⟩ : ∃ cd, cd = codeTo its M j := ⟨_, rfl⟩
          have HC1 : Hid (codeTo its M (j + 1) = cd ++ ws) := by unfold Hid; rw [hcd, hws]; rfl
          rw [← hml] at e0 HWA hwl
          rw [← hN] at HNO HWA
          rw [← hws] at hwl HWA
          rw [← hcd] at HOWN hcl
          have hwl2 : ws.length ≤ 2 := by cases ml <;> simp at hwl <;> omega
          have hwl1 : 1 ≤ ws.length := by cases ml <;> simp at hwl <;> omega
          have hcl2 : cd.length ≤ 32768 := by omega
          clear hml hN hws hcd hwl hcl hpj
          have HOW := fun w => Lib.hid (opWords_any op d a b N ml w HCK.out.1 HCK.out.2.1 HCK.out.2.2.1 HCK.out.2.2.2.1)
          rw [← HWA.out] at HOW
          clear HWA HCK
          have hjk : (j : Int) < (k : Int) := by omega
          by_cases htg : tg < 0
          case' pos =>
            have hNn : N = n := by rw [HNO.out, HLB.out, decide_eq_false (by omega), if_neg (by simp)]
            clear HNO HLB HTG htl HD
            subst hNn
            go_wp2_with fail
            have HQO : Hid (OpAt ((wr.alloc (.cells #[.int .i64 op, .int .i64 d, .int .i64 a, .int .i64 b, .int .i64 N, .int .i64 tg] 41)).alloc (.cells #[.int .i64 op, .int .i64 d, .int .i64 a, .int .i64 b, .int .i64 N] 27)) (wr.heap.size + 1) op d a b N) := (item_after (Below.refl _ _)).2
            have HQB : Hid (Below wr.heap.size wr ((wr.alloc (.cells #[.int .i64 op, .int .i64 d, .int .i64 a, .int .i64 b, .int .i64 N, .int .i64 tg] 41)).alloc (.cells #[.int .i64 op, .int .i64 d, .int .i64 a, .int .i64 b, .int .i64 N] 27))) := ((Below.refl _ _).alloc (Nat.le_refl _) _).alloc (by simp) _
            have HQL : Hid (wr.heap.size + 1 < ((wr.alloc (.cells #[.int .i64 op, .int .i64 d, .int .i64 a, .int .i64 b, .int .i64 N, .int .i64 tg] 41)).alloc (.cells #[.int .i64 op, .int .i64 d, .int .i64 a, .int .i64 b, .int .i64 N] 27)).heap.size) := by unfold Hid; simp
            generalize ((wr.alloc (.cells #[.int .i64 op, .int .i64 d, .int .i64 a, .int .i64 b, .int .i64 N, .int .i64 tg] 41)).alloc (.cells #[.int .i64 op, .int .i64 d, .int .i64 a, .int .i64 b, .int .i64 N] 27)) = wq at HQO HQB HQL ⊢
          case' neg =>
            obtain ⟨t, rfl⟩ := Int.eq_ofNat_of_zero_le (show 0 ≤ tg by omega)
            have ht : tgt its j = t := by rw [HTG.out]; omega
            have hNn : N = posL M t - posL M (j + 1) := by rw [HNO.out, HLB.out, decide_eq_true (by omega), if_pos rfl, ht]
            rw [ht] at htl
            have HDD := fun wx hx => Lib.hid (HD wx hx t htl rfl).out
            rw [← hNn] at HDD
            clear HD HNO HLB HTG ht hNn
            go_wp2_with fail
            refine (HDD _ (((Below.refl _ _).alloc (Nat.le_refl _) _).alloc (by simp) _)).out.mono ?_
            rintro e w6 ⟨rfl, hb6⟩
            have HB6 := Lib.hid hb6; have hop6 := op_after hb6; have c64 := hop6.cell 4; have c65 := hop6.free 4; have HOP6 := Lib.hid hop6; clear hb6 hop6
            simp only [opCells, List.getElem?_cons_succ, List.getElem?_cons_zero] at c64
            go_wp2_with fail
            have HQO : Hid (OpAt (w6.setCell ⟨wr.heap.size + 1, 4, none⟩ (.int .i64 N)) (wr.heap.size + 1) op d a b N) := opAt_set HOP6.out
            have HQB : Hid (Below wr.heap.size wr (w6.setCell ⟨wr.heap.size + 1, 4, none⟩ (.int .i64 N))) := ((((Below.refl _ _).alloc (Nat.le_refl _) _).alloc (by simp) _).trans (HB6.out.mono (by simp; omega))).setCell (by simp) _
            clear c64 c65
            have HQL : Hid (wr.heap.size + 1 < (w6.setCell ⟨wr.heap.size + 1, 4, none⟩ (.int .i64 N)).heap.size) := by have := HB6.out.size; unfold Hid; simp at this ⊢; omega
            generalize (w6.setCell ⟨wr.heap.size + 1, 4, none⟩ (.int .i64 N)) = wq at HQO HQB HQL ⊢
          all_goals
            obtain ⟨q0, q1, q2, q3, q4⟩ := HQO.out
            have q5 := (HQB.out.cell (p := ⟨gl, j, none⟩) (by exact hgr)).trans e0
            clear c0 c1 c2 c3 c4 c5 e0
            have r0 := fun x : AfterR (KeptB w4.heap.size (wr.heap.size + 1)) wq.drew => (World.cell?_of_block (a := ⟨wr.heap.size + 1, 0, none⟩) x.rel.2).trans q0
            have r1 := fun x : AfterR (KeptB w4.heap.size (wr.heap.size + 1)) wq.drew => (World.cell?_of_block (a := ⟨wr.heap.size + 1, 1, none⟩) x.rel.2).trans q1
            have r2 := fun x : AfterR (KeptB w4.heap.size (wr.heap.size + 1)) wq.drew => (World.cell?_of_block (a := ⟨wr.heap.size + 1, 2, none⟩) x.rel.2).trans q2
            have r3 := fun x : AfterR (KeptB w4.heap.size (wr.heap.size + 1)) wq.drew => (World.cell?_of_block (a := ⟨wr.heap.size + 1, 3, none⟩) x.rel.2).trans q3
            have r4 := fun x : AfterR (KeptB w4.heap.size (wr.heap.size + 1)) wq.drew => (World.cell?_of_block (a := ⟨wr.heap.size + 1, 4, none⟩) x.rel.2).trans q4
            have r5 := fun x : AfterR (KeptB w4.heap.size (wr.heap.size + 1)) wq.drew => (x.rel.1.cell (p := ⟨gl, j, none⟩) hglt).trans q5
            refine wp_region_eagerR (KeptB w4.heap.size (wr.heap.size + 1)) [(0, true), (1, true), (2, true), (3, true), (4, true), (5, true), (6, false), (7, false), (8, true)] (by kernel_rfl) (by kernel_rfl) ?_
            repeat (refine eagR_read rfl ?_; go_big_quiet_step (fail); refine wpQuiet_nil ?_)
            clear r0 r1 r2 r3 r4 r5 q0 q1 q2 q3 q4 q5
            have HB7 := Lib.hid HQB.out.drew
            have HW1 : Hid (wr.heap.size + 1 < wq.heap.size) := HQL.out
            have HO7 := Lib.hid (owns_laterR HOWN.out HB7.out)
            refine eagR_does rfl rfl ?_
            intro K hK
            go_simp
            refine (HOW _).out.mono ?_
            rintro e w8 ⟨g, rfl, hs, hg, hb8⟩
            refine hK _ _ ⟨hb8.mono (Nat.le_trans HB5.out.size HB7.out.size), hb8.block _ HW1.out⟩ ?_
            have HS8 := Lib.hid hs
            have HO8 := Lib.hid (owns_laterR HO7.out hb8)
            have HB8 := Lib.hid (HB5.out.trans ((HB7.out.trans (hb8.mono HB7.out.size)).mono HB5.out.size))
            have HW8 : Hid (wr.heap.size + 1 < w8.heap.size) := Nat.lt_of_lt_of_le HW1.out hb8.size
            clear hs hg hb8 hK K
            refine eagR_does rfl rfl ?_
            intro K hK
            refine wp_append_own _ _ _ 25 rfl w4.heap.size 3 i0 (.int .i64 0) 1 8 Try.underlying25 hi0 hz0 hz1 hz2 rfl (by decide) _ _ _ rfl HO8.out ⟨g, 0, none⟩ ws.length ws.length (ws.map (Value.int .i64)) rfl ?_ ?_ ?_ ?_ ?_ ?_ ?_
            · simp
            · intro q u hu; rw [Addr.add_lit, Nat.zero_add]; exact (HS8.out.cell q).trans hu
            · exact ints_oneCell _ _
            · unfold maxLen; omega
            · omega
            · exact HB8.out.size
            intro v' w9 hown' hgrow _
            have hb9 := HB8.out.grown hgrow HB8.out.size (fun q hq => (HO8.out.lt q hq).1)
            have hb10 : Below w4.heap.size w8 w9 := (Below.refl _ _).grown hgrow HB8.out.size (fun q hq => (HO8.out.lt q hq).1)
            have hkp := hgrow.block (wr.heap.size + 1) HW8.out (fun e => by have := HOWN.out.lt _ e.symm; omega)
            have hown9 : w9.ownsRow w4.heap.size 3 1 v' (codeTo its M (j + 1)).length ((codeTo its M (j + 1)).map (Value.int .i64)) := by rw [HC1.out, List.length_append, List.map_append]; exact hown'
            go_simp
            refine hK _ _ ⟨hb10, hkp⟩ ?_
            have HO9 := Lib.hid hown9
            have HB9 := Lib.hid hb9
            clear hown' hgrow hb9 hown9 hb10 hkp hK K
            repeat (refine eagR_read rfl ?_; go_big_quiet_step (fail); refine wpQuiet_nil ?_)
            refine eagR_end ?_
            go_wp2_with fail
            go_roundw
            case rel => exact ⟨j + 1, by omega, by go_num, HO9.out, HB9.out⟩
            case measure => simp [intOf]; omega
        · have ej : j = k := by omega
          subst ej
          have HOWN := Lib.hid hown
          have HBR := Lib.hid hb
          clear hown hb
          go_wp2_with fail
          go_ret
          exact ⟨_, L, rfl, HS.out, by rw [← HMM.out]; exact owns_base HOWN.out HB.out.size, HB.out.trans (HBR.out.mono HB.out.size)⟩
end Go.Proofs.Ytekckijcljgaoaa
