/- link's Merge: the classes. -/
import Derived.Test.YtkafbihlmhdjeabLnkSameF
import Derived.Test.YtkafbihlmhdjeabRest1
import Derived.Test.YtkafbihlmhdjeabTimingB
import Derived.Deep.LoopGhost
namespace Go.Proofs.Ytkafbihlmhdjeab
open Go.RowKit
set_option linter.unusedVariables false
set_option linter.unusedSimpArgs false

theorem callsE_in (its : List Item) (many : Nat) : ∀ (cs : List LC) (last : Int), callsE its many last cs = 0 → FnsIn many cs
  | [], _, _ => fun c hc => by cases hc
  | c :: cs, last, h => by
    have h' : (if callE its many last c ≠ 0 then callE its many last c else callsE its many c.item cs) = 0 := h
    by_cases hc : callE its many last c = 0
    · rw [if_neg (by simp [hc])] at h'
      intro d hd
      rcases List.mem_cons.1 hd with rfl | hd
      · unfold callE at hc
        by_cases h9 : d.item ≤ last ∨ (its.length : Int) ≤ d.item ∨ d.fn < 0 ∨ (many : Int) ≤ d.fn
        · rw [if_pos h9] at hc; cases hc
        · omega
      · exact callsE_in its many cs _ h' d hd
    · rw [if_pos hc] at h'; exact absurd h' hc
theorem chkL_in (many : Nat) : ∀ l : List LF, chkL many l = 0 → ∀ f ∈ l, fnL many f = 0
  | [], _, f, hf => by cases hf
  | f :: l, h, x, hx => by
    have h' : (if fnL many f ≠ 0 then fnL many f else chkL many l) = 0 := h
    by_cases hc : fnL many f = 0
    · rw [if_neg (by simp [hc])] at h'
      rcases List.mem_cons.1 hx with rfl | hx
      · exact hc
      · exact chkL_in many l h' x hx
    · rw [if_pos hc] at h'; exact absurd h' hc
theorem fnL_calls {many : Nat} {f : LF} (h : fnL many f = 0) : itemsE f.its = 0 ∧ f.il ≠ 0 ∧ (1 ≤ f.size ∧ f.size ≤ 4096) ∧ refsE f many = 0 := by
  unfold fnL at h
  by_cases h1 : itemsE f.its = 0
  · rw [if_neg (by simp [h1])] at h
    by_cases h2 : f.il = 0 ∨ f.size < 1 ∨ 4096 < f.size
    · rw [if_pos h2] at h; cases h
    · rw [if_neg h2] at h
      exact ⟨h1, by omega, by omega, h⟩
  · rw [if_pos h1] at h; exact absurd h h1
theorem refsE_calls {many : Nat} {f : LF} (h : refsE f many = 0) : (∀ x ∈ f.its, x.tg ≠ (f.its.length : Int)) ∧ callsE f.its many (-1) f.calls = 0 ∧ mapsE f.its.length (-1) f.maps = 0 := by
  unfold refsE at h
  by_cases h1 : (f.its.any fun x => x.tg == (f.its.length : Int)) = true
  · rw [if_pos h1] at h; cases h
  · rw [if_neg h1] at h
    by_cases h2 : callsE f.its many (-1) f.calls = 0
    · rw [if_neg (by simp [h2])] at h
      refine ⟨fun x hx e => h1 ?_, h2, h⟩
      rw [List.any_eq_true]
      exact ⟨x, hx, by simp [e]⟩
    · rw [if_pos h2] at h; exact absurd h h2
theorem chkE_in {l : List LF} (h : chkE l = 0) : LfsIn l ∧ l.length ≤ 256 := by
  unfold chkE at h
  by_cases h1 : 256 < l.length
  · rw [if_pos h1] at h; cases h
  · rw [if_neg h1] at h
    exact ⟨fun f hf => callsE_in _ _ _ _ (refsE_calls (fnL_calls (chkL_in _ _ h f hf)).2.2.2).2.1, by omega⟩

def MergePost (l : List LF) (n : Nat) (w : World) (e : Ending) (w' : World) : Prop :=
  Below w.heap.size w w' ∧ ((chkE l ≠ 0 ∧ e = .returned (.tuple #[.slice none 0 0, .int .i64 (chkE l)])) ∨ (chkE l = 0 ∧ ∃ g c, e = .returned (.tuple #[.slice (some ⟨g, 0, none⟩) n n, .int .i64 0]) ∧ ClsAt w' g n c ∧ w.heap.size ≤ g ∧ Merged l c))
theorem ClsAt.put {w : World} {g n : Nat} {c : Nat → Nat} (h : ClsAt w g n c) (j v : Nat) : ClsAt (w.setCell ⟨g, j, none⟩ (.int .i64 (v : Int))) g n (fun k => if k = j then v else c k) := by
  refine Blk.rowCongr (Blk.rowSet h j (.int .i64 (v : Int))) fun i _ => ?_
  by_cases e : i = j <;> simp [e]
theorem ClsAt.congr {w : World} {g n : Nat} {c d : Nat → Nat} (h : ClsAt w g n c) (e : ∀ k, k < n → c k = d k) : ClsAt w g n d := Blk.rowCongr h fun i hi => by rw [e i hi]
theorem ClsAt.rest {w w' : World} {g G n : Nat} {c : Nat → Nat} (h : ClsAt w g n c) (hr : Rest1 G w w') (hne : g ≠ G) : ClsAt w' g n c := Blk.of_heap h (hr.block g (Blk.lt h) hne)
theorem Cls.start (l : List LF) : Cls l fun _ => 0 := ⟨fun i _ => Nat.zero_le _, fun _ _ => rfl, fun _ _ _ => rfl⟩

def clsZ (c : Nat → Nat) (n : Nat) : List Int := (List.range n).map fun i => ((c i : Nat) : Int)
theorem clsZ_inj {c d : Nat → Nat} {n : Nat} (h : clsZ d n = clsZ c n) (i : Nat) (hi : i < n) : d i = c i := by
  have h9 := congrArg (fun l => l[i]?) h
  unfold clsZ at h9
  simp only [List.getElem?_map, List.getElem?_range hi, Option.map_some, Option.some.injEq] at h9
  omega
theorem clsZ_ne {c d : Nat → Nat} {n : Nat} (h : ¬ clsZ d n = clsZ c n) : ∃ i, i < n ∧ d i ≠ c i := by
  refine Classical.byContradiction fun hc => h ?_
  unfold clsZ
  refine List.map_congr_left fun i hi => ?_
  have h1 : ¬ d i ≠ c i := fun hne => hc ⟨i, List.mem_range.1 hi, hne⟩
  rw [Classical.not_not.1 h1]
theorem ClsAt.came {w : World} {g n : Nat} {c : Nat → Nat} (h : ClsAt w g n c) (hm : n ≤ 9223372036854775807) : Came w (some ⟨g, 0, none⟩) n n 1 ((clsZ c n).map intCells) := by
  have h1 := came_of_row h hm
  have e : ((rowL n fun i => Value.int .i64 ((c i : Nat) : Int)).map fun v => [v]) = (clsZ c n).map intCells := by
    unfold rowL clsZ
    rw [List.map_map, List.map_map]
    rfl
  rwa [e] at h1

set_option maxRecDepth 100000 in
set_option maxHeartbeats 8000000 in
theorem merge_any (w : World) (a : Option Addr) (n cp : Nat) (l : List LF) (h : Lnk w a n cp l) : Calls Try.prog 8 #[.slice a n cp] w (MergePost l n w) := by
  have HCK := Lib.hid (linkCheck_any w a n cp l h)
  have hl := h.len
  have hle := h.came.le
  have hmx := h.came.max
  have HH := Lib.hid h
  obtain ⟨ce, hce⟩ : ∃ ce, ce = chkE l := ⟨_, rfl⟩
  rw [← hce] at HCK
  have HCE := Lib.hid hce
  clear h hce
  go_enter Try.func8, Try.ntmps8
  go_wp2_with fail
  refine HCK.out.mono ?_
  rintro e w1 ⟨rfl, hb1⟩
  have HB1 := Lib.hid hb1
  clear HCK hb1
  by_cases he : ce = 0
  · subst he
    obtain ⟨hin, h256⟩ := chkE_in HCE.out.symm
    have hn256 : n ≤ 256 := by omega
    have HIN := Lib.hid hin
    clear hin h256
    have hmk : ∀ w : World, (Instr.makeSlice 24 (.int .i64 (n : Int)) (.int .i64 (n : Int))).run Try.prog w = .ok (.slice (some ⟨w.heap.size, 0, none⟩) n n) (w.alloc (.cells (rowL n fun _ => .int .i64 0).toArray 3)) := fun w => run_make_rep (P := Try.prog) 24 3 (.int .i64 0) 8 Try.underlying24 Try.infoT3 rfl n (by omega) (by omega) w
    have HG1 : Hid (ClsAt (w1.alloc (.cells (rowL n fun _ => .int .i64 0).toArray 3)) w1.heap.size n fun _ => 0) := Blk.new w1 (rowL n fun _ => .int .i64 0) 3
    go_wp2_with fail
    have HB2 : Hid (Below w.heap.size w (w1.alloc (.cells (rowL n fun _ => .int .i64 0).toArray 3))) := HB1.out.alloc HB1.out.size _
    have HW1 := Lib.hid HB1.out.size
    generalize hw2 : w1.alloc (.cells (rowL n fun _ => .int .i64 0).toArray 3) = w2 at HG1 HB2 ⊢
    clear hw2
    generalize w1.heap.size = g1 at HG1 HW1 ⊢
    go_loopg [5] (restC n (fun _ => 0) + 1) (fun gk v wr => ∃ (g : Nat) (c : Nat → Nat), v = .slice (some ⟨g, 0, none⟩) n n ∧ ClsAt wr g n c ∧ w.heap.size ≤ g ∧ Cls l c ∧ Below w.heap.size w wr ∧ restC n c + 1 ≤ gk)
    case atStart => exact ⟨_, _, rfl, HG1.out, HW1.out, Cls.start l, HB2.out, Nat.le_refl _⟩
    case round =>
      clear HG1 HB2 HW1
      obtain ⟨g, c, rfl, hg, hwg, hcl, hb, hgk⟩ := hrel
      have HG := Lib.hid hg
      have HC := Lib.hid hcl
      have HB := Lib.hid hb
      have HGK := Lib.hid hgk
      clear hg hcl hb hgk
      have HN : Hid (ClsAt (wr.alloc (.cells (rowL n fun _ => .int .i64 0).toArray 3)) wr.heap.size n fun _ => 0) := Blk.new wr (rowL n fun _ => .int .i64 0) 3
      go_wp2_with fail
      have HGA : Hid (ClsAt (wr.alloc (.cells (rowL n fun _ => .int .i64 0).toArray 3)) g n c) := HG.out.below ((Below.refl _ _).alloc (Nat.le_refl _) _)
      have HB3 : Hid (Below w.heap.size w (wr.alloc (.cells (rowL n fun _ => .int .i64 0).toArray 3))) := HB.out.alloc HB.out.size _
      have hgN : g < wr.heap.size := Blk.lt HG.out
      have hwN : w.heap.size ≤ wr.heap.size := HB.out.size
      generalize hw3 : wr.alloc (.cells (rowL n fun _ => .int .i64 0).toArray 3) = w3 at HN HGA HB3 ⊢
      clear hw3 HG HB
      generalize wr.heap.size = G at HN hgN hwN ⊢
      go_loopw [22] (fun u wr => ∃ (i : Nat) (d : Nat → Nat), i ≤ n ∧ u = .int .i64 (i : Int) ∧ ClsAt wr G n (fun k => if k < i then d k else 0) ∧ (∀ k, k < i → Least l c k (d k)) ∧ Rest1 G w3 wr) (fun u _ => n - (intOf u).toNat)
      case atStart => exact ⟨0, fun _ => 0, Nat.zero_le _, rfl, HN.out.congr fun k _ => by simp, fun k hk => absurd hk (Nat.not_lt_zero _), Rest1.refl _ _⟩
      case round =>
        clear HN
        obtain ⟨i, d, hi, rfl, hd, hle, hr⟩ := hrel
        have HD := Lib.hid hd
        have HLE := Lib.hid hle
        have HR := Lib.hid hr
        clear hd hle hr
        by_cases hin : i < n
        · have cx := HD.out.cell hin
          have fx := Blk.free HD.out i
          have HD4 : Hid (ClsAt (wr.setCell ⟨G, i, none⟩ (.int .i64 (i : Int))) G n (fun k => if k = i then i else if k < i then d k else 0)) := HD.out.put i i
          have HR4 : Hid (Rest1 G w3 (wr.setCell ⟨G, i, none⟩ (.int .i64 (i : Int)))) := HR.out.trans (Rest1.set _ _ _ _)
          go_wp2_with fail
          generalize hw4 : wr.setCell ⟨G, i, none⟩ (.int .i64 (i : Int)) = w4 at HD4 HR4 ⊢
          clear hw4 cx fx HD HR
          go_loopw [30] (fun u wy => ∃ k : Nat, k ≤ i ∧ u = .int .i64 (k : Int) ∧ (∀ j, j < k → ¬ finE l c i j) ∧ Rest1 G w3 wy ∧ ClsAt wy G n (fun k => if k = i then i else if k < i then d k else 0)) (fun u _ => i - (intOf u).toNat)
          case atStart => exact ⟨0, Nat.zero_le _, rfl, fun j hj => absurd hj (Nat.not_lt_zero _), HR4.out, HD4.out⟩
          case round =>
            clear HD4
            obtain ⟨k, hk, rfl, hno, hry, hdy⟩ := hrel
            obtain ⟨wy, hwy⟩ : ∃ wy, wy = wr := ⟨_, rfl⟩
            rw [← hwy] at hry hdy ⊢
            clear hwy
            have HNO := Lib.hid hno
            have HRY := Lib.hid hry
            have HDY := Lib.hid hdy
            clear hno hry hdy
            have hbw : Below w.heap.size w wy := HB3.out.trans (HRY.out.below hwN HB3.out.size)
            have HBW := Lib.hid hbw
            by_cases hki : k < i
            · have ck0 := HDY.out.cell (show k < n by omega)
              rw [if_neg (by omega), if_pos hki] at ck0
              have HGY := Lib.hid (HGA.out.rest HRY.out (by omega))
              have cg1 := HGY.out.cell hin
              have cg2 := HGY.out.cell (show k < n by omega)
              have HLK := Lib.hid (HLE.out k hki)
              have lG : G < wy.heap.size := Blk.lt HDY.out
              have lg : g < wy.heap.size := Blk.lt HGY.out
              have hkn : (k : Int) < (n : Int) := by omega
              have hinI : (i : Int) < (n : Int) := by omega
              have q0 := fun z : After wy.heap.size wy.drew => (z.below.cell (p := ⟨G, k, none⟩) lG).trans ck0
              have q1 := fun z : After wy.heap.size wy.drew => (z.below.cell (p := ⟨g, i, none⟩) lg).trans cg1
              have q2 := fun z : After wy.heap.size wy.drew => (z.below.cell (p := ⟨g, k, none⟩) lg).trans cg2
              obtain ⟨dk, hdk⟩ : ∃ dk, dk = d k := ⟨_, rfl⟩
              obtain ⟨c1, hc1⟩ : ∃ c1, c1 = c i := ⟨_, rfl⟩
              obtain ⟨c2, hc2⟩ : ∃ c2, c2 = c k := ⟨_, rfl⟩
              rw [← hdk] at q0 HLK
              rw [← hc1] at q1
              rw [← hc2] at q2
              have HC1 := Lib.hid hc1
              have HC2 := Lib.hid hc2
              clear hdk hc1 hc2 ck0 cg1 cg2 hbw
              by_cases hA : dk = k
              · have t1 : ((dk : Int) == (k : Int)) = true := by simp [hA]
                by_cases hBq : c1 = c2
                · have t2 : ((c1 : Int) == (c2 : Int)) = true := by simp [hBq]
                  have HCC : Hid (c i = c k) := by show _ = _; rw [← HC1.out, ← HC2.out, hBq]
                  obtain ⟨gl, off, rfl, hgl, hlc⟩ := came_lfs HH.out.came (by omega)
                  have hil : i < l.length := by omega
                  have hkl : k < l.length := by omega
                  have hl1 := (hlc i hil).later HBW.out hgl
                  have hl2 := (hlc k hkl).later HBW.out hgl
                  have hgly : gl < wy.heap.size := Nat.lt_of_lt_of_le hgl HBW.out.size
                  have HSM := Lib.hid (same_any wy.drew l[i] l[k] ((HH.out.ok _ (List.getElem_mem hil)).below (HBW.out.drew)) ((HH.out.ok _ (List.getElem_mem hkl)).below (HBW.out.drew)) g n c (HGY.out.below (Below.refl _ _).drew) (by rw [← hl]; exact HIN.out _ (List.getElem_mem hil)) (by rw [← hl]; exact HIN.out _ (List.getElem_mem hkl)))
                  have HSF : Hid (finE l c i k ↔ sameL (kerC c) l[i] l[k] = true) := ⟨fun ⟨_, _, _, h⟩ => h, fun h => ⟨hil, hkl, HCC.out, h⟩⟩
                  generalize l[i] = fi at hl1 HSM HSF
                  generalize l[k] = fk at hl2 HSM HSF
                  obtain ⟨a0, a1, a2, a3, a4⟩ := hl1
                  obtain ⟨b0, b1, b2, b3, b4⟩ := hl2
                  have ra0 := fun z : After wy.heap.size wy.drew => (z.below.cell (p := ⟨gl, off + i * 5, none⟩) hgly).trans a0
                  have ra1 := fun z : After wy.heap.size wy.drew => (z.below.cell (p := ⟨gl, off + i * 5 + 1, none⟩) hgly).trans a1
                  have ra2 := fun z : After wy.heap.size wy.drew => (z.below.cell (p := ⟨gl, off + i * 5 + 2, none⟩) hgly).trans a2
                  have ra3 := fun z : After wy.heap.size wy.drew => (z.below.cell (p := ⟨gl, off + i * 5 + 3, none⟩) hgly).trans a3
                  have ra4 := fun z : After wy.heap.size wy.drew => (z.below.cell (p := ⟨gl, off + i * 5 + 4, none⟩) hgly).trans a4
                  have rb0 := fun z : After wy.heap.size wy.drew => (z.below.cell (p := ⟨gl, off + k * 5, none⟩) hgly).trans b0
                  have rb1 := fun z : After wy.heap.size wy.drew => (z.below.cell (p := ⟨gl, off + k * 5 + 1, none⟩) hgly).trans b1
                  have rb2 := fun z : After wy.heap.size wy.drew => (z.below.cell (p := ⟨gl, off + k * 5 + 2, none⟩) hgly).trans b2
                  have rb3 := fun z : After wy.heap.size wy.drew => (z.below.cell (p := ⟨gl, off + k * 5 + 3, none⟩) hgly).trans b3
                  have rb4 := fun z : After wy.heap.size wy.drew => (z.below.cell (p := ⟨gl, off + k * 5 + 4, none⟩) hgly).trans b4
                  unfold LF.v at HSM
                  clear a0 a1 a2 a3 a4 b0 b1 b2 b3 b4 hlc hA hBq
                  generalize sameL (kerC c) fi fk = dd at HSM HSF
                  go_wp2_with fail
                  refine wp_region_eager wy.heap.size [(0, true), (1, true), (2, true), (3, true), (4, true), (5, true), (6, true), (7, true), (8, true), (9, true), (10, true), (11, true), (12, true), (13, true), (14, true), (15, true), (16, true), (17, true), (18, true), (19, true), (20, true), (21, true), (22, true), (23, true), (24, true), (25, true), (26, true), (27, false), (28, true)] (by kernel_rfl) (by kernel_rfl) ?_
                  repeat (refine eag_read rfl ?_; go_big_quiet_step (fail); refine wpQuiet_nil ?_)
                  refine eag_does rfl rfl ?_
                  intro K hK
                  go_simp
                  refine HSM.out.mono ?_
                  rintro e w5 ⟨rfl, hb5⟩
                  refine hK _ _ hb5 ?_
                  have HR5 := Lib.hid (HRY.out.trans ((Rest1.ofBelow (Below.refl wy.heap.size wy).drew).trans (Rest1.ofBelow hb5)))
                  have HD5 := Lib.hid (HDY.out.below ((Below.refl wy.heap.size wy).drew.trans hb5))
                  clear hK K hb5 q0 q1 q2 ra0 ra1 ra2 ra3 ra4 rb0 rb1 rb2 rb3 rb4
                  repeat (refine eag_read rfl ?_; go_big_quiet_step (fail); refine wpQuiet_nil ?_)
                  refine eag_end ?_
                  cases dd
                  · have HNF : Hid (¬ finE l c i k) := fun h => by have := HSF.out.1 h; cases this
                    have HN : Hid (∀ j, j < k + 1 → ¬ finE l c i j) := fun j hj => by
                      by_cases e : j = k
                      · subst e; exact HNF.out
                      · exact HNO.out j (by omega)
                    go_wp2_with fail
                    go_roundw
                    case rel => exact ⟨k + 1, by omega, by go_num, HN.out, HR5.out, HD5.out⟩
                    case measure => simp [intOf]; omega
                  · have HL : Hid (Least l c i k) := ⟨HSF.out.2 rfl, HNO.out⟩
                    have cx := HD5.out.cell hin
                    have fx := Blk.free HD5.out i
                    have HD6 : Hid (ClsAt (w5.setCell ⟨G, i, none⟩ (.int .i64 (k : Int))) G n (fun j => if j < i + 1 then (if j = i then k else d j) else 0)) := (HD5.out.put i k).congr fun j hj => by
                      by_cases e1 : j = i
                      · subst e1; simp
                      · by_cases e2 : j < i
                        · simp [e1, e2, show j < i + 1 by omega]
                        · simp [e1, e2, show ¬ j < i + 1 by omega]
                    go_wp2_with fail
                    go_roundw
                    case rel =>
                      refine ⟨i + 1, fun j => if j = i then k else d j, by omega, by go_num, HD6.out, fun j hj => ?_, HR5.out.trans (Rest1.set _ _ _ _)⟩
                      show Least l c j (if j = i then k else d j)
                      by_cases e1 : j = i
                      · subst e1; rw [if_pos rfl]; exact HL.out
                      · rw [if_neg e1]; exact HLE.out j (by omega)
                    case measure => simp [intOf]; omega
                · have t2 : ((c1 : Int) == (c2 : Int)) = false := by simp; omega
                  have HNF : Hid (¬ finE l c i k) := fun ⟨_, _, h, _⟩ => hBq (by rw [HC1.out, HC2.out, h])
                  clear hA hBq
                  go_wp2_with fail
                  refine wp_region_eager wy.heap.size [(0, true), (1, true), (2, true), (3, true), (4, true), (5, true), (6, true), (7, true), (8, true), (9, true), (10, true), (11, true), (12, true), (13, true), (14, true), (15, true), (16, true), (17, true), (18, true), (19, true), (20, true), (21, true), (22, true), (23, true), (24, true), (25, true), (26, true), (27, false), (28, true)] (by kernel_rfl) (by kernel_rfl) ?_
                  repeat (refine eag_read rfl ?_; go_big_quiet_step (fail); refine wpQuiet_nil ?_)
                  refine eag_skip rfl rfl ?_
                  go_simp
                  repeat (refine eag_read rfl ?_; go_big_quiet_step (fail); refine wpQuiet_nil ?_)
                  refine eag_end ?_
                  have HN : Hid (∀ j, j < k + 1 → ¬ finE l c i j) := fun j hj => by
                    by_cases e : j = k
                    · subst e; exact HNF.out
                    · exact HNO.out j (by omega)
                  go_wp2_with fail
                  go_roundw
                  case rel => exact ⟨k + 1, by omega, by go_num, HN.out, HRY.out.trans (Rest1.ofBelow (Below.refl _ _).drew), HDY.out⟩
                  case measure => simp [intOf]; omega
              · have t1 : ((dk : Int) == (k : Int)) = false := by simp; omega
                have HNF : Hid (¬ finE l c i k) := fun h => by
                  have h1 := HLK.out.le HIN.out (show k < l.length by omega)
                  exact HNO.out dk (by omega) (h.trans HIN.out HLK.out.1)
                clear hA
                go_wp2_with fail
                refine wp_region_eager wy.heap.size [(0, true), (1, true), (2, true), (3, true), (4, true), (5, true), (6, true), (7, true), (8, true), (9, true), (10, true), (11, true), (12, true), (13, true), (14, true), (15, true), (16, true), (17, true), (18, true), (19, true), (20, true), (21, true), (22, true), (23, true), (24, true), (25, true), (26, true), (27, false), (28, true)] (by kernel_rfl) (by kernel_rfl) ?_
                repeat (refine eag_read rfl ?_; go_big_quiet_step (fail); refine wpQuiet_nil ?_)
                refine eag_skip rfl rfl ?_
                go_simp
                repeat (refine eag_read rfl ?_; go_big_quiet_step (fail); refine wpQuiet_nil ?_)
                refine eag_end ?_
                have HN : Hid (∀ j, j < k + 1 → ¬ finE l c i j) := fun j hj => by
                  by_cases e : j = k
                  · subst e; exact HNF.out
                  · exact HNO.out j (by omega)
                go_wp2_with fail
                go_roundw
                case rel => exact ⟨k + 1, by omega, by go_num, HN.out, HRY.out.trans (Rest1.ofBelow (Below.refl _ _).drew), HDY.out⟩
                case measure => simp [intOf]; omega
            · have ek : k = i := by omega
              have HL : Hid (Least l c i i) := ⟨finE.refl HIN.out (by omega), fun j hj => HNO.out j (by omega)⟩
              clear ek
              have HD6 : Hid (ClsAt wy G n (fun j => if j < i + 1 then (if j = i then i else d j) else 0)) := HDY.out.congr fun j hj => by
                by_cases e1 : j = i
                · subst e1; simp
                · by_cases e2 : j < i
                  · simp [e1, e2, show j < i + 1 by omega]
                  · simp [e1, e2, show ¬ j < i + 1 by omega]
              clear hbw
              go_wp2_with fail
              go_roundw
              case rel =>
                refine ⟨i + 1, fun j => if j = i then i else d j, by omega, by go_num, HD6.out, fun j hj => ?_, HRY.out⟩
                show Least l c j (if j = i then i else d j)
                by_cases e1 : j = i
                · subst e1; rw [if_pos rfl]; exact HL.out
                · rw [if_neg e1]; exact HLE.out j (by omega)
              case measure => simp [intOf]; omega
        · have ei : i = n := by omega
          have HDN : Hid (ClsAt wr G n d) := HD.out.congr fun k hk => by rw [if_pos (by omega)]
          have HLN : Hid (∀ k, k < n → Least l c k (d k)) := fun k hk => HLE.out k (by omega)
          have HGY := Lib.hid (HGA.out.rest HR.out (by omega))
          have hbw : Below w.heap.size w wr := HB3.out.trans (HR.out.below hwN HB3.out.size)
          have HBW := Lib.hid hbw
          have HEQ := Lib.hid (equal_ints wr (some ⟨G, 0, none⟩) n n (clsZ d n) (some ⟨g, 0, none⟩) n n (clsZ c n) (HDN.out.came (by omega)) (HGY.out.came (by omega)))
          clear ei hbw HD HLE HR
          go_wp2_with fail
          refine HEQ.out.mono ?_
          rintro e w5 ⟨q, rfl, hw5⟩
          have hb5 : Below wr.heap.size wr w5 := by rw [hw5]; exact below_drewN_self _ _ _
          have HB5 := Lib.hid (HBW.out.trans (hb5.mono HBW.out.size))
          have HD5 := Lib.hid (HDN.out.below hb5)
          have HG5 := Lib.hid (HGY.out.below hb5)
          clear hb5 hw5 HEQ
          by_cases hz : clsZ d n = clsZ c n
          · have t3 : decide (clsZ d n = clsZ c n) = true := by simp [hz]
            have HM : Hid (Merged l c) := by
              have hd : ∀ i, i < l.length → Least l c i (c i) := fun i hi => by
                have h1 := HLN.out i (by omega)
                rw [clsZ_inj hz i (by omega)] at h1
                exact h1
              exact ⟨HC.out.le, HC.out.rep, fun i k hi hk => HC.out.done HIN.out hd hi hk⟩
            clear hz
            generalize decide (clsZ d n = clsZ c n) = dd at t3 ⊢
            subst t3
            go_wp2_with fail
            exact bodyPost_ret (v := .tuple #[.slice (some ⟨g, 0, none⟩) n n, .int .i64 0]) (by simp [results, Try.results8, go_sem]) rfl ⟨HB5.out, .inr ⟨HCE.out.symm, g, c, rfl, HG5.out, hwg, HM.out⟩⟩
          · have t3 : decide (clsZ d n = clsZ c n) = false := by simp [hz]
            have hnx := HC.out.next HIN.out fun i hi => HLN.out i (by omega)
            have HX := Lib.hid hnx.1
            have HLT : Hid (restC n d < restC n c) := restC_lt (fun i hi => ⟨hnx.2 i (by omega), hnx.1.le i (by omega)⟩) (clsZ_ne hz)
            clear hz hnx
            generalize decide (clsZ d n = clsZ c n) = dd at t3 ⊢
            subst t3
            go_wp2_with fail
            go_roundg (restC n d + 1)
            case measure => have := HLT.out; have := HGK.out; omega
            case rel => exact ⟨G, d, rfl, HD5.out, hwN, HX.out, HB5.out, Nat.le_refl _⟩
  · have he' : (ce == 0) = false := by simp [he]
    have HNE : Hid (chkE l ≠ 0) := by rw [← HCE.out]; exact he
    clear he
    go_wp2_with fail
    exact bodyPost_ret (v := .tuple #[.slice none 0 0, .int .i64 ce]) (by simp [results, Try.results8, go_sem]) rfl ⟨HB1.out, .inl ⟨HNE.out, by rw [HCE.out]⟩⟩
end Go.Proofs.Ytkafbihlmhdjeab
