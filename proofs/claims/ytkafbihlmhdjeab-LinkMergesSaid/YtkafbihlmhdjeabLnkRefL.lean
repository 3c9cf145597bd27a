/- The reference's LinkedSame. -/
import Derived.Test.YtkafbihlmhdjeabLnkRefM
import Derived.Deep.LoopGhost
namespace Go.Proofs.Ytkafbihlmhdjeab
open Go.RowKit
set_option linter.unusedVariables false
set_option linter.unusedSimpArgs false

theorem Try.infoB4 : (Try.prog.info? 4).map (fun i => (i.zero, i.size, i.bytes)) = some (some (.bool false), 1, 1) := by kernel_rfl
def LinkedPost (l : List LF) (n : Nat) (w : World) (e : Ending) (w' : World) : Prop :=
  ∃ v d, e = .returned v ∧ w'.ownsRow w.heap.size 3 1 v (clsZ d n).length ((clsZ d n).map (Value.int .i64)) ∧ (∀ i, i < n → LeastG l i (d i)) ∧ Below w.heap.size w w'

set_option maxRecDepth 100000 in
set_option maxHeartbeats 8000000 in
theorem linkedSame_any (w : World) (a : Option Addr) (n cp : Nat) (l : List LF) (h : Lnk w a n cp l) (hin : LfsIn l) (hn : n ≤ 256) : Calls Try.prog 11 #[.slice a n cp] w (LinkedPost l n w) := by
  obtain ⟨nn, hnn⟩ : ∃ nn, nn = n * n := ⟨_, rfl⟩
  have hmul : (n : Int) * (n : Int) = (nn : Int) := by rw [hnn]; simp
  have hnb : nn ≤ 65536 := by have := Nat.mul_le_mul hn hn; omega
  have hl := h.len
  have hle := h.came.le
  have hmx := h.came.max
  have HH := Lib.hid h
  have HIN := Lib.hid hin
  have HNN := Lib.hid hnn
  clear h hin hnn
  have hmk : ∀ w : World, (Instr.makeSlice 72 (.int .i64 (nn : Int)) (.int .i64 (nn : Int))).run Try.prog w = .ok (.slice (some ⟨w.heap.size, 0, none⟩) nn nn) (w.alloc (.cells (rowL nn fun _ => .bool false).toArray 4)) := fun w => run_make_rep (P := Try.prog) 72 4 (.bool false) 1 Try.underlying72 Try.infoB4 rfl nn (by omega) (by omega) w
  have HM : Hid (Blk (w.alloc (.cells (rowL nn fun _ => .bool false).toArray 4)) w.heap.size 4 (rowL nn fun _ => .bool false)) := Blk.new w _ _
  have HB1 : Hid (Below w.heap.size w (w.alloc (.cells (rowL nn fun _ => .bool false).toArray 4))) := (Below.refl _ _).alloc (Nat.le_refl _) _
  go_enter Try.func11, Try.ntmps11
  go_wp2_with fail
  generalize hw1 : w.alloc (.cells (rowL nn fun _ => .bool false).toArray 4) = w1 at HM HB1 ⊢
  clear hw1
  go_loopw [20] (fun u wr => ∃ k : Nat, k ≤ nn ∧ u = .int .i64 (k : Int) ∧ Blk wr w.heap.size 4 (rowL nn fun q => .bool (decide (q < k))) ∧ Below w.heap.size w wr) (fun u _ => nn - (intOf u).toNat)
  case atStart => exact ⟨0, Nat.zero_le _, rfl, Blk.rowCongr HM.out fun i hi => by simp, HB1.out⟩
  case round =>
    clear HM HB1
    obtain ⟨k, hk, rfl, hb, hbe⟩ := hrel
    have HBK := Lib.hid hb
    have HBE := Lib.hid hbe
    clear hb hbe
    by_cases hlt : k < nn
    · have cx := Blk.row HBK.out hlt
      have fx := Blk.free HBK.out k
      have HN : Hid (Blk (wr.setCell ⟨w.heap.size, k, none⟩ (.bool true)) w.heap.size 4 (rowL nn fun q => .bool (decide (q < k + 1)))) := by
        refine Blk.rowCongr (Blk.rowSet HBK.out k (.bool true)) fun q hq => ?_
        by_cases e : q = k
        · subst e; simp
        · rw [if_neg e]
          by_cases e2 : q < k
          · simp [e2, show q < k + 1 by omega]
          · simp [e2, show ¬ q < k + 1 by omega]
      go_wp2_with fail
      go_roundw
      case rel => exact ⟨k + 1, by omega, by go_num, HN.out, HBE.out.setCell (Nat.le_refl _) _⟩
      case measure => simp [intOf]; omega
    · have HE : Hid (EqAt wr w.heap.size n nn (fun _ _ => true)) := ⟨HNN.out, Blk.rowCongr HBK.out fun q hq => by simp; omega⟩
      clear HBK
      go_wp2_with fail
      obtain ⟨w2, hw2⟩ : ∃ w2, w2 = wr := ⟨_, rfl⟩
      rw [← hw2] at HE HBE ⊢
      clear hw2
      go_loopg [6] (cntT nn (flatY n (fun _ _ => true)) + 1) (fun gk c wr => ∃ (Y : Nat → Nat → Bool) (ch : Bool), c = .bool ch ∧ EqAt wr w.heap.size n nn Y ∧ Pairs l Y ∧ Below w.heap.size w wr ∧ (ch = false → ∀ a b (ha : a < l.length) (hb : b < l.length), Y a b = true → sameL Y l[a] l[b] = true) ∧ cntT nn (flatY n Y) + (if ch then 1 else 0) ≤ gk)
      case atStart => exact ⟨_, true, rfl, HE.out, Pairs.start l, HBE.out, fun h => (by cases h), Nat.le_refl _⟩
      case round =>
        clear HE HBE
        obtain ⟨Y0, ch0, rfl, hE, hP, hbe, hdone, hgk⟩ := hrel
        have HE := Lib.hid hE
        have HP := Lib.hid hP
        have HBE := Lib.hid hbe
        have HDN := Lib.hid hdone
        have HGK := Lib.hid hgk
        clear hE hP hbe hdone hgk
        cases ch0
        · have HG : Hid (∀ i k, i < n → k < n → (Y0 i k = true ↔ Gf l i k)) := fun i k hi hk => HP.out.done HIN.out (HDN.out rfl) (by omega) (by omega)
          clear HDN HGK
          go_wp2_with fail
          obtain ⟨w3, hw3⟩ : ∃ w3, w3 = wr := ⟨_, rfl⟩
          rw [← hw3] at HE HBE ⊢
          clear hw3
          obtain ⟨i0, hi0, hz0, hz1, hz2⟩ := info_parts Try.infoT3
          go_loopw [9, 68] (fun v u wr => ∃ (i : Nat) (d : Nat → Nat), i ≤ n ∧ u = .int .i64 (i : Int) ∧ wr.ownsRow w3.heap.size 3 1 v (clsZ d i).length ((clsZ d i).map (Value.int .i64)) ∧ (∀ k, k < i → LeastG l k (d k)) ∧ Below w3.heap.size w3 wr) (fun _ u _ => n - (intOf u).toNat)
          case atStart => exact ⟨0, fun _ => 0, Nat.zero_le _, rfl, World.ownsRow_nil _ _ _ _, fun k hk => absurd hk (Nat.not_lt_zero _), Below.refl _ _⟩
          case round =>
            obtain ⟨i, d, hi, rfl, hown, hld, hb⟩ := hrel
            have HO := Lib.hid hown
            have HLD := Lib.hid hld
            have HB := Lib.hid hb
            have hw3r := hb.size
            obtain ⟨va, vc, rfl⟩ := ownG_shape hown
            clear hown hld hb
            by_cases hlt2 : i < n
            · go_wp2_with fail
              obtain ⟨wq, hwq⟩ : ∃ wq, wq = wr := ⟨_, rfl⟩
              rw [← hwq] at HO HB hw3r ⊢
              clear hwq
              go_loopw [11] (fun u wr => ∃ k : Nat, k ≤ i ∧ u = .int .i64 (k : Int) ∧ (∀ j, j < k → ¬ Gf l i j) ∧ wr = wq) (fun u _ => i - (intOf u).toNat)
              case atStart => exact ⟨0, Nat.zero_le _, rfl, fun j hj => absurd hj (Nat.not_lt_zero _), rfl⟩
              case round =>
                obtain ⟨k, hk, rfl, hno, rfl⟩ := hrel
                have HNO := Lib.hid hno
                clear hno
                obtain ⟨mm, hmm⟩ : ∃ mm, mm = i * n := ⟨_, rfl⟩
                have hmi : (i : Int) * (n : Int) = (mm : Int) := by rw [hmm]; simp
                obtain ⟨hq1, hq2⟩ := (HE.out.below HB.out).cell (i := i) (k := k) (by omega) (by omega) hmm
                have hq1I : (mm : Int) + (k : Int) < (nn : Int) := by omega
                have HYG := Lib.hid (HG.out i k hlt2 (by omega))
                have HYI := Lib.hid (HG.out i i hlt2 hlt2)
                have HYR : Hid (Gf l i i) := Gf.refl HIN.out (by omega)
                clear hmm
                obtain ⟨yb, hyb⟩ : ∃ yb, yb = Y0 i k := ⟨_, rfl⟩
                rw [← hyb] at hq2 HYG
                have HYB := Lib.hid hyb
                clear hyb
                cases yb
                · have HNF : Hid (¬ Gf l i k) := fun h => by have := HYG.out.2 h; cases this
                  have HKI : Hid (k < i) := by
                    rcases Nat.lt_or_ge k i with h9 | h9
                    · exact h9
                    · obtain rfl : k = i := by omega
                      exact absurd HYR.out HNF.out
                  have hki := HKI.out
                  go_wp2_with fail
                  go_roundw
                  case rel => exact ⟨k + 1, by omega, by go_num, fun j hj => (by by_cases e : j = k; (subst e; exact HNF.out); exact HNO.out j (by omega)), by first | rfl | trivial⟩
                  case measure => simp [intOf]; omega
                · have HLG : Hid (LeastG l i k) := ⟨HYG.out.1 rfl, HNO.out⟩
                  have hlen : (clsZ d i).length = i := by simp [clsZ]
                  have HLEN := Lib.hid hlen
                  rw [hlen] at HO ⊢
                  clear hlen
                  go_wp2_with (at_builtin; refine wpList_append_own _ rfl _ _ 24 rfl w3.heap.size 3 i0 (.int .i64 0) 1 8 Try.underlying24 hi0 hz0 hz1 hz2 rfl (by decide) _ _ _ rfl (HO.out.alloc _) ⟨wr.heap.size, 0, none⟩ 1 1 [.int .i64 (k : Int)] rfl rfl ?a2 ?a3 ?a4 ?a5 ?a6 ?_)
                  case a3 => first | rfl | (intro u hu; simp at hu; subst hu; rfl)
                  case a4 => unfold maxLen; omega
                  case a5 => omega
                  case a6 => first | omega | (simp; omega)
                  · intro v' w7 hown' hgrow _
                    have hb7 := (HB.out.alloc hw3r (.cells #[.int .i64 (k : Int)] 3)).grown hgrow (by simp; omega) (fun q hq => (HO.out.lt q hq).1)
                    have hcz : clsZ (fun j => if j = i then k else d j) (i + 1) = clsZ d i ++ [(k : Int)] := by
                      unfold clsZ
                      rw [List.range_succ, List.map_append]
                      congr 1
                      · refine List.map_congr_left fun j hj => ?_
                        have := List.mem_range.1 hj
                        show (((if j = i then k else d j : Nat)) : Int) = _
                        rw [if_neg (by omega)]
                      · simp
                    have HO7 : Hid (w7.ownsRow w3.heap.size 3 1 v' (clsZ (fun j => if j = i then k else d j) (i + 1)).length ((clsZ (fun j => if j = i then k else d j) (i + 1)).map (Value.int .i64))) := by
                      rw [hcz, List.length_append, List.map_append, HLEN.out]; exact hown'
                    have HB7 := Lib.hid hb7
                    clear hown' hgrow hb7 hcz
                    go_wp2_with fail
                    go_roundw
                    case rel =>
                      refine ⟨i + 1, fun j => if j = i then k else d j, by omega, by go_num, HO7.out, fun j hj => ?_, HB7.out⟩
                      show LeastG l j (if j = i then k else d j)
                      by_cases e : j = i
                      · subst e; rw [if_pos rfl]; exact HLG.out
                      · rw [if_neg e]; exact HLD.out j (by omega)
                    case measure => simp [intOf]; omega
            · obtain rfl : i = n := by omega
              have HBW : Hid (w.heap.size ≤ w3.heap.size) := HBE.out.size
              go_wp2_with fail
              go_ret
              exact ⟨_, d, rfl, ownG_base HO.out HBW.out, HLD.out, HBE.out.trans (HB.out.mono HBW.out)⟩
        · clear HDN
          go_wp2_with fail
          obtain ⟨w3, hw3⟩ : ∃ w3, w3 = wr := ⟨_, rfl⟩
          rw [← hw3] at HE HBE ⊢
          clear hw3
          go_loopw [6, 29] (fun c u wr => ∃ (i : Nat) (Y : Nat → Nat → Bool) (ch : Bool), i ≤ n ∧ c = .bool ch ∧ u = .int .i64 (i : Int) ∧ EqAt wr w.heap.size n nn Y ∧ PassY l n nn Y0 Y ch i 0 ∧ Below w.heap.size w wr) (fun _ u _ => n - (intOf u).toNat)
          case atStart => exact ⟨0, Y0, false, Nat.zero_le _, rfl, rfl, HE.out, ⟨HP.out, fun h => (by cases h), fun _ => rfl, fun _ a b ha hb hab => by omega⟩, HBE.out⟩
          case round =>
            clear HE HBE
            obtain ⟨i, Y, ch, hi, rfl, rfl, hE, hps, hbe⟩ := hrel
            have HE := Lib.hid hE
            have HPS := Lib.hid hps
            have HBE := Lib.hid hbe
            clear hE hps hbe
            by_cases hlt2 : i < n
            · go_wp2_with fail
              obtain ⟨w4, hw4⟩ : ∃ w4, w4 = wr := ⟨_, rfl⟩
              rw [← hw4] at HE HBE ⊢
              clear hw4
              go_loopw [6, 33] (fun c u wr => ∃ (k : Nat) (Y : Nat → Nat → Bool) (ch : Bool), k ≤ n ∧ c = .bool ch ∧ u = .int .i64 (k : Int) ∧ EqAt wr w.heap.size n nn Y ∧ PassY l n nn Y0 Y ch i k ∧ Below w.heap.size w wr) (fun _ u _ => n - (intOf u).toNat)
              case atStart => exact ⟨0, Y, ch, Nat.zero_le _, rfl, rfl, HE.out, HPS.out, HBE.out⟩
              case round =>
                clear HE HPS HBE
                obtain ⟨k, Y, ch, hk, rfl, rfl, hE, hps, hbe⟩ := hrel
                obtain ⟨wy, hwy⟩ : ∃ wy, wy = wr := ⟨_, rfl⟩
                rw [← hwy] at hE hbe ⊢
                clear hwy
                have HE := Lib.hid hE
                have HPS := Lib.hid hps
                have HBE := Lib.hid hbe
                clear hE hps hbe
                by_cases hkn : k < n
                · obtain ⟨mm, hmm⟩ : ∃ mm, mm = i * n := ⟨_, rfl⟩
                  have hmi : (i : Int) * (n : Int) = (mm : Int) := by rw [hmm]; simp
                  obtain ⟨hq1, hq2⟩ := HE.out.cell (i := i) (k := k) hlt2 hkn hmm
                  have hq1I : (mm : Int) + (k : Int) < (nn : Int) := by omega
                  have hlG : w.heap.size < wy.heap.size := Blk.lt HE.out.row
                  have HMM := Lib.hid hmm
                  clear hmm
                  have hkI : (k : Int) < (n : Int) := by omega
                  have hiI : (i : Int) < (n : Int) := by omega
                  have qy := fun z : After wy.heap.size wy.drew => (z.below.cell (p := ⟨w.heap.size, mm + k, none⟩) hlG).trans hq2
                  obtain ⟨yb, hyb⟩ : ∃ yb, yb = Y i k := ⟨_, rfl⟩
                  rw [← hyb] at hq2 qy
                  have HYB := Lib.hid hyb
                  clear hyb
                  cases yb
                  · have HN := Lib.hid (HPS.out.keep (fun hi hk hy => by rw [← HYB.out] at hy; cases hy))
                    clear hq2
                    go_wp2_with fail
                    refine wp_region_eager wy.heap.size [(0, true), (1, true), (2, true), (3, true), (4, true), (5, true), (6, true), (7, true), (8, true), (9, true), (10, true), (11, true), (12, true), (13, true), (14, true), (15, true), (16, true), (17, true), (18, true), (19, false), (20, true), (21, true)] (by kernel_rfl) (by kernel_rfl) ?_
                    repeat (refine eag_read rfl ?_; go_big_quiet_step (fail); refine wpQuiet_nil ?_)
                    refine eag_skip rfl rfl ?_
                    go_simp
                    repeat (refine eag_read rfl ?_; go_big_quiet_step (fail); refine wpQuiet_nil ?_)
                    refine eag_end ?_
                    go_wp2_with fail
                    go_roundw
                    case rel => exact ⟨k + 1, Y, ch, by omega, rfl, by go_num, HE.out.below (Below.refl _ _).drew, HN.out, HBE.out.drew⟩
                    case measure => simp [intOf]; omega
                  · obtain ⟨gl, off, rfl, hgl, hlc⟩ := came_lfs HH.out.came (by omega)
                    have hil : i < l.length := by omega
                    have hkl : k < l.length := by omega
                    have hl1 := (hlc i hil).later HBE.out hgl
                    have hl2 := (hlc k hkl).later HBE.out hgl
                    have hgly : gl < wy.heap.size := Nat.lt_of_lt_of_le hgl HBE.out.size
                    have HSM := Lib.hid (sameLinked_any wy.drew l[i] l[k] ((HH.out.ok _ (List.getElem_mem hil)).below HBE.out.drew) ((HH.out.ok _ (List.getElem_mem hkl)).below HBE.out.drew) w.heap.size n nn Y (HE.out.below (Below.refl _ _).drew) hn (by rw [← hl]; exact HIN.out _ (List.getElem_mem hil)) (by rw [← hl]; exact HIN.out _ (List.getElem_mem hkl)))
                    have HKP : Hid (sameL Y l[i] l[k] = true → PassY l n nn Y0 Y ch i (k + 1)) := fun hs => HPS.out.keep fun _ _ _ => hs
                    have HDP : Hid (sameL Y l[i] l[k] = false → PassY l n nn Y0 (dropY Y i k) true i (k + 1)) := fun hs => HPS.out.drop HIN.out HNN.out hl hil hkl HYB.out.symm hs
                    generalize l[i] = fi at hl1 HSM HKP HDP
                    generalize l[k] = fk at hl2 HSM HKP HDP
                    obtain ⟨a0, a1, a2, a3, a4⟩ := hl1
                    obtain ⟨b0, b1, b2, b3, b4⟩ := hl2
                    have ra0 := fun z : After wy.heap.size wy.drew => (z.below.cell (p := ⟨gl, off + i * 5, none⟩) hgly).trans a0
                    have ra1 := fun z : After wy.heap.size wy.drew => (z.below.cell (p := ⟨gl, off + i * 5 + 1, none⟩) hgly).trans a1
                    have ra2 := fun z : After wy.heap.size wy.drew => (z.below.cell (p := ⟨gl, off + i * 5 + 2, none⟩) hgly).trans a2
                    have ra3 := fun z : After wy.heap.size wy.drew => (z.below.cell (p := ⟨gl, off + i * 5 + 3, none⟩) hgly).trans a3
                    have ra4 := fun z : After wy.heap.size wy.drew => (z.below.cell (p := ⟨gl, off + i * 5 + 4, none⟩) hgly).trans a4
                    have rb0 := fun z : After wy.heap.size wy.drew => (z.below.cell (p := ⟨gl, off + k * 5, none⟩) hgly).trans b0
                    have rb1 := fun z : After wy.heap.size wy.drew => (z.below.cell (p := ⟨gl, off + k * 5 + 1, none⟩) hgly).trans b1
                    have rb2 := fun z : After wy.heap.size wy.drew => (z.below.cell (p := ⟨gl, off + k * 5 + 2, none⟩) hgly).trans b2
                    have rb3 := fun z : After wy.heap.size wy.drew => (z.below.cell (p := ⟨gl, off + k * 5 + 3, none⟩) hgly).trans b3
                    have rb4 := fun z : After wy.heap.size wy.drew => (z.below.cell (p := ⟨gl, off + k * 5 + 4, none⟩) hgly).trans b4
                    unfold LF.v at HSM
                    clear a0 a1 a2 a3 a4 b0 b1 b2 b3 b4 hlc hq2
                    generalize sameL Y fi fk = dd at HSM HKP HDP
                    go_wp2_with fail
                    refine wp_region_eager wy.heap.size [(0, true), (1, true), (2, true), (3, true), (4, true), (5, true), (6, true), (7, true), (8, true), (9, true), (10, true), (11, true), (12, true), (13, true), (14, true), (15, true), (16, true), (17, true), (18, true), (19, false), (20, true), (21, true)] (by kernel_rfl) (by kernel_rfl) ?_
                    repeat (refine eag_read rfl ?_; go_big_quiet_step (fail); refine wpQuiet_nil ?_)
                    refine eag_does rfl rfl ?_
                    intro K hK
                    go_simp
                    refine HSM.out.mono ?_
                    rintro e w5 ⟨rfl, hb5⟩
                    refine hK _ _ hb5 ?_
                    have HE5 := Lib.hid (HE.out.below ((Below.refl wy.heap.size wy).drew.trans hb5))
                    have HBE5 := Lib.hid (HBE.out.trans (((Below.refl wy.heap.size wy).drew.trans hb5).mono HBE.out.size))
                    clear hK K hb5 qy ra0 ra1 ra2 ra3 ra4 rb0 rb1 rb2 rb3 rb4
                    repeat (refine eag_read rfl ?_; go_big_quiet_step (fail); refine wpQuiet_nil ?_)
                    refine eag_end ?_
                    cases dd
                    · have HD := Lib.hid (HDP.out rfl)
                      have hcx := (HE5.out.cell (i := i) (k := k) hlt2 hkn HMM.out).2
                      have hfx := Blk.free HE5.out.row (mm + k)
                      have HE6 := Lib.hid (HE5.out.drop hlt2 hkn HMM.out)
                      generalize Y i k = yv at hcx
                      go_wp2_with fail
                      go_roundw
                      case rel => exact ⟨k + 1, dropY Y i k, true, by omega, rfl, by go_num, HE6.out, HD.out, HBE5.out.setCell (Nat.le_refl _) _⟩
                      case measure => simp [intOf]; omega
                    · have HD := Lib.hid (HKP.out rfl)
                      go_wp2_with fail
                      go_roundw
                      case rel => exact ⟨k + 1, Y, ch, by omega, rfl, by go_num, HE5.out, HD.out, HBE5.out⟩
                      case measure => simp [intOf]; omega
                · have HN : Hid (PassY l n nn Y0 Y ch (i + 1) 0) := by
                    have ek : k = l.length := by omega
                    have := HPS.out
                    rw [ek] at this
                    exact this.row
                  go_wp2_with fail
                  go_roundw
                  case rel => exact ⟨i + 1, Y, ch, by omega, rfl, by go_num, HE.out, HN.out, HBE.out⟩
                  case measure => simp [intOf]; omega
            · have HDN : Hid (ch = false → ∀ a b (ha : a < l.length) (hb : b < l.length), Y a b = true → sameL Y l[a] l[b] = true) := fun hc a b ha hb hy => HPS.out.seen hc a b ha hb (.inl (by omega)) hy
              have HLE : Hid (cntT nn (flatY n Y) + (if ch then 1 else 0) < gk) := by
                have h1 := HGK.out
                simp only [if_true] at h1
                show _ < _
                cases ch
                · rw [HPS.out.same rfl]; simp only [Bool.false_eq_true, if_false]; omega
                · have := HPS.out.less rfl; simp only [if_true]; omega
              go_wp2_with fail
              go_roundg (cntT nn (flatY n Y) + (if ch then 1 else 0))
              case measure => exact HLE.out
              case rel => exact ⟨Y, ch, rfl, HE.out, HPS.out.pairs, HBE.out, HDN.out, Nat.le_refl _⟩
end Go.Proofs.Ytkafbihlmhdjeab
