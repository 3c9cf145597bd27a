/- timing's Issue where it answers an error. -/
import Derived.Test.YtgcbdndfobiphabIssueH
namespace Go.Proofs.Ytgcbdndfobiphab
open Go.RowKit
set_option linter.unusedVariables false
set_option linter.unusedSimpArgs false

/-- the error that Issue answers -/
noncomputable def wantE (S : TI) (op d a b n extra : Int) : Int := if stE S ≠ 0 then stE S else if checkE op d a b n ≠ 0 then checkE op d a b n else if extra < 0 ∨ 10000 < extra then 1 else 0
def IssueEPost (r : Int) (w : World) (e : Ending) (w' : World) : Prop := e = .returned (.tuple #[.agg zCells.toArray, .int .i64 0, .int .i64 r]) ∧ Below w.heap.size w w'

theorem zi_end {w w8 : World} {S' : TI} {v : Value} {op d a b n : Int} (hbx : BoxI w w8 S' v op d a b n)
    : (w8.setRow (w.heap.size + 2) zCells.toArray).heap[w.heap.size + 2]? = some (.cells zCells.toArray 25 (0, 0)) ∧ Below w.heap.size w (w8.setRow (w.heap.size + 2) zCells.toArray) := by
  have hg := hbx.out
  unfold Blk at hg
  have h1 : (w8.setRow (w.heap.size + 2) zCells.toArray).heap[w.heap.size + 2]? = some (.cells zCells.toArray 25 (0, 0)) := by simp [World.setRow, Array.getElem?_modify, hg]
  have hgr : w8.grownBy (w8.setRow (w.heap.size + 2) zCells.toArray) (some (w.heap.size + 2)) := ⟨rfl, rfl, rfl, by simp [World.setRow], fun k _ hk => by simp only [World.setRow, Array.getElem?_modify]; rw [if_neg (fun e => hk (by rw [e]))]⟩
  exact ⟨h1, hbx.below.trans (grown_below hgr (fun g hg => by simp at hg; omega) hbx.below.size)⟩

set_option maxRecDepth 100000 in
set_option maxHeartbeats 4000000 in
theorem issue_err (S : TI) (wv : Value) (op d a b n extra : Int) (w : World) (hnx : I64 S.next) (hw : WrI w wv S.wr) (hr : wantE S op d a b n extra ≠ 0) :
    Calls Try.prog 17 #[.agg (tiCells S wv).toArray, .agg #[.int .i64 op, .int .i64 d, .int .i64 a, .int .i64 b, .int .i64 n], .int .i64 extra] w (IssueEPost (wantE S op d a b n extra) w) := by
  obtain ⟨wa, wc, hwv, _⟩ := id hw
  subst hwv
  have HTC := fun w h => Lib.hid (tcheck_any S (.slice wa S.wr.length wc) w hnx h)
  have HIC := fun w => Lib.hid ((check_any op d a b n w).mono (R' := IntPost (checkE op d a b n) w) (fun e w' h => h))
  obtain ⟨se, hse⟩ : ∃ x, x = stE S := ⟨_, rfl⟩
  obtain ⟨ce, hce⟩ : ∃ x, x = checkE op d a b n := ⟨_, rfl⟩
  have HWE : Hid (wantE S op d a b n extra = if se ≠ 0 then se else if ce ≠ 0 then ce else if extra < 0 ∨ 10000 < extra then 1 else 0) := by show _ = _; rw [hse, hce]; rfl
  rw [← hse] at HTC
  rw [← hce] at HIC
  obtain ⟨we, hwe⟩ : ∃ x, x = wantE S op d a b n extra := ⟨_, rfl⟩
  rw [← hwe] at HWE hr ⊢
  have HR := Lib.hid hr
  have HW := Lib.hid hw
  have HBX := Lib.hid (BoxI.new w S (.slice wa S.wr.length wc) op d a b n)
  have HSZ2 : Hid ((Try.prog.info? 25).map (·.size) = some zCells.toArray.size) := by unfold Hid; kernel_rfl
  clear hse hce hwe hr
  go_enter Try.func17, Try.ntmps17
  go_upto_region 1 with fail
  generalize ((w.alloc (.cells (tiCells S (.slice wa S.wr.length wc)).toArray 25)).alloc (.cells #[.int .i64 op, .int .i64 d, .int .i64 a, .int .i64 b, .int .i64 n] 27)).alloc (.cells #[.int .i64 0, .int .i64 0, .int .i64 0, .int .i64 0, .int .i64 0, .int .i64 0, .int .i64 0, .int .i64 0, .int .i64 0, .int .i64 0, .int .i64 0, .int .i64 0, .int .i64 0, .int .i64 0, .int .i64 0, .int .i64 0, .int .i64 0, .int .i64 0, .int .i64 0, .slice none 0 0] 25) = w0 at HBX ⊢
  have HW0 := Lib.hid (HW.out.below HBX.out.below)
  have HSZ : Hid ((Try.prog.info? 25).map (·.size) = some (tiCells S (.slice wa S.wr.length wc)).toArray.size) := by unfold Hid; kernel_rfl
  obtain ⟨p0, p1, p2, p3, p4⟩ := op_cells5 HBX.out.op
  go_wp2_with (refine wpList_load_row rfl 25 _ rfl w.heap.size rfl _ (tiCells S (.slice wa S.wr.length wc)).toArray _ _ HBX.out.st Try.underlying25 rfl HSZ.out ?_)
  refine (HTC _ HW0.out).out.mono ?_
  rintro e w1 ⟨rfl, hb1⟩
  replace HBX := Lib.hid (HBX.out.after hb1)
  replace HW0 := Lib.hid (HW.out.below HBX.out.below)
  clear hb1 p0 p1 p2 p3 p4
  by_cases h1 : se = 0
  · have q1 : (se != 0) = false := by simp [h1]
    have HWE2 : Hid (we = if ce ≠ 0 then ce else if extra < 0 ∨ 10000 < extra then 1 else 0) := by show _ = _; rw [HWE.out, if_neg (by simp [h1])]
    clear h1 HWE
    obtain ⟨p0, p1, p2, p3, p4⟩ := op_cells5 HBX.out.op
    go_wp2_with fail
    refine (HIC _).out.mono ?_
    rintro e w2 ⟨rfl, hb1⟩
    replace HBX := Lib.hid (HBX.out.after hb1)
    clear hb1 p0 p1 p2 p3 p4
    by_cases h2 : ce = 0
    · have q2 : (ce != 0) = false := by simp [h2]
      have HWE3 : Hid (we = if extra < 0 ∨ 10000 < extra then 1 else 0) := by show _ = _; rw [HWE2.out, if_neg (by simp [h2])]
      clear h2 HWE2
      have hbad : extra < 0 ∨ 10000 < extra := Classical.byContradiction fun h => HR.out (by rw [HWE3.out, if_neg h])
      have HF : Hid (we = 1) := by show _ = _; rw [HWE3.out, if_pos hbad]
      by_cases h3 : extra < 0
      · go_wp2_with (refine wpList_store_rowTo rfl 25 _ _ rfl rfl (w.heap.size + 2) zCells.toArray rfl rfl _ _ HBX.out.out HSZ2.out rfl (by simp [zCells, Value.oneCell']) ?_)
        obtain ⟨e1, e2⟩ := zi_end HBX.out
        exact bodyPost_ret (results_row_two rfl _ _ (w.heap.size + 2) _ _ _ _ rfl e1 Try.underlying25 rfl HSZ2.out) rfl ⟨by rw [HF.out]; rfl, e2⟩
      · have h4 : 10000 < extra := by omega
        go_wp2_with (refine wpList_store_rowTo rfl 25 _ _ rfl rfl (w.heap.size + 2) zCells.toArray rfl rfl _ _ HBX.out.out HSZ2.out rfl (by simp [zCells, Value.oneCell']) ?_)
        obtain ⟨e1, e2⟩ := zi_end HBX.out
        exact bodyPost_ret (results_row_two rfl _ _ (w.heap.size + 2) _ _ _ _ rfl e1 Try.underlying25 rfl HSZ2.out) rfl ⟨by rw [HF.out]; rfl, e2⟩
    · have q2 : (ce != 0) = true := by simp [h2]
      have HF : Hid (we = ce) := by show _ = _; rw [HWE2.out, if_pos h2]
      clear h2 HWE2
      go_wp2_with (refine wpList_store_rowTo rfl 25 _ _ rfl rfl (w.heap.size + 2) zCells.toArray rfl rfl _ _ HBX.out.out HSZ2.out rfl (by simp [zCells, Value.oneCell']) ?_)
      obtain ⟨e1, e2⟩ := zi_end HBX.out
      exact bodyPost_ret (results_row_two rfl _ _ (w.heap.size + 2) _ _ _ _ rfl e1 Try.underlying25 rfl HSZ2.out) rfl ⟨by rw [HF.out]; rfl, e2⟩
  · have q1 : (se != 0) = true := by simp [h1]
    have HF : Hid (we = se) := by show _ = _; rw [HWE.out, if_pos h1]
    clear h1 HWE
    go_wp2_with (refine wpList_store_rowTo rfl 25 _ _ rfl rfl (w.heap.size + 2) zCells.toArray rfl rfl _ _ HBX.out.out HSZ2.out rfl (by simp [zCells, Value.oneCell']) ?_)
    obtain ⟨e1, e2⟩ := zi_end HBX.out
    exact bodyPost_ret (results_row_two rfl _ _ (w.heap.size + 2) _ _ _ _ rfl e1 Try.underlying25 rfl HSZ2.out) rfl ⟨by rw [HF.out]; rfl, e2⟩
end Go.Proofs.Ytgcbdndfobiphab
