/- linear's Allocate. -/
import Derived.Test.YtlcnbihfpjhffaaLinRan
import Derived.Test.YtlcnbihfpjhffaaScanD
import Derived.Test.YtlcnbihfpjhffaaScanE
import Derived.Deep.MidRow
import Derived.Great.BuildSlice
import Derived.Laws.Rows
import Derived.BigRegion
import Derived.Deep.CutBlock
namespace Go.Proofs.Ytlcnbihfpjhffaa
open Go.RowKit
set_option linter.unusedVariables false
set_option linter.unusedSimpArgs false

theorem results_row_oneS {P : Program} {fn : Func} {p u : Tmp} {ty : TypeId} (h : fn.results = #[.cell p ty, .tmp u]) (tmps : Array Value) (w : World) (g : Nat) (t : TypeId) (cs : Array Value) (fr : Nat × Nat) (d : TypeDesc)
  (hp : tmps.getD p undef = .pointer (some ⟨g, 0, none⟩)) (hg : w.heap[g]? = some (.cells cs t fr))
  (hu : P.underlying ty = some d) (hd : (match d with | .struct _ | .array _ _ => true | _ => false) = true) (hi : (P.info? ty).map (·.size) = some cs.size) :
  (results fn tmps).run P w = .ok (.tuple #[.agg cs, tmps.getD u undef]) w := by
 have hp' : tmps[p]?.getD undef = .pointer (some ⟨g, 0, none⟩) := by simpa using hp
 simp [results, h, hp', asAddr, run_loadVar_row w g t ty cs fr d hg hu hd hi]
theorem setRowBlkS {w : World} {g : Nat} {t : TypeId} {old : List Value} (h : Blk w g t old) (cs : List Value) : Blk (w.setRow g cs.toArray) g t cs := by
 unfold Blk at h ⊢
 simp [World.setRow, Array.getElem?_modify, h]
theorem setRowBelowS {B : Nat} {w w' : World} (h : Below B w w') {g : Nat} (hg : B ≤ g) (xs : Array Value) : Below B w (w'.setRow g xs) :=
 h.trans ⟨rfl, rfl, rfl, by simp [World.setRow], fun k hk => by simp only [World.setRow, Array.getElem?_modify]; rw [if_neg (by omega)]⟩
theorem setRowOtherS {w : World} {g k : Nat} {t : TypeId} {cs : List Value} (h : Blk w k t cs) (hk : k ≠ g) (xs : Array Value) : Blk (w.setRow g xs) k t cs := by
 unfold Blk at h ⊢
 simp only [World.setRow, Array.getElem?_modify]
 rw [if_neg (fun e => hk e.symm)]
 exact h
theorem zeroS : (#[.slice none 0 0, .slice none 0 0, .int .i64 0] : Array Value).all (·.oneCell') = true := by kernel_rfl
theorem oneS (a b : Option Addr) (n m c d : Nat) (z : Int) : (#[.slice a n c, .slice b m d, .int .i64 z] : Array Value).all (·.oneCell') = true := by simp [Value.oneCell']
theorem came_rowS {w : World} {g n : Nat} {c : Nat → Int} (h : Blk w g 3 (rowL n fun r => .int .i64 (c r))) (hn : n ≤ 8192) : Came w (some ⟨g, 0, none⟩) n n 1 (((List.range n).map c).map intCells) := by
 have h1 : w.ownsRow 0 3 1 (.slice (some ⟨g, 0, none⟩) n n) ((List.range n).map c).length (((List.range n).map c).map (Value.int .i64)) := by
  refine ⟨by simp, .inr ⟨g, n, (rowL n fun r => .int .i64 (c r)).toArray, by simp, Nat.zero_le _, h, by simp, by unfold maxLen; omega, by simp [rowL], ?_⟩⟩
  rw [List.take_of_length_le (by simp [rowL])]
  simp [rowL, Function.comp]
 obtain ⟨la, lc, he, hc⟩ := came_ownsV h1
 injection he with e1 e2 e3
 subst e1 e3
 rw [← e2] at hc
 exact hc
theorem RgRow.pop {w : World} {base : Nat} {a : Option Addr} {c : Nat} {xs : List RG} {x : RG} (h : RgRow w base a c (xs ++ [x])) : RgRow w base a c xs := by
 have hl := rgs_len xs
 obtain ⟨_, h2⟩ := h
 unfold RgRow
 refine ⟨hl, ?_⟩
 rcases h2 with ⟨h3, h4⟩ | ⟨g, cap, cur, h3, h4, h5, h6, h7, h8, h9⟩
 ·simp at h4
 ·injection h3 with e1 e2 e3
  subst e1 e3
  rw [List.length_append, List.length_singleton] at h6 h9
  refine .inr ⟨g, c, cur, rfl, h4, h5, by omega, h7, h8, ?_⟩
  have h10 := congrArg (List.take (xs.length * 4)) h9
  rw [List.take_take, List.flatMap_append, List.take_left' hl] at h10
  rw [← h10]
  congr 1
  omega
def noAlS (e : Int) : Value := .tuple #[.agg #[.slice none 0 0, .slice none 0 0, .int .i64 0], .int .i64 e]
def LinLaw (f : VF) (n nb k : Nat) (a : AL) : Prop := ∃ (l : List RG) (s : LS), RangesP f n nb l ∧ RunL (k : Int) l s ∧ a.reg = (List.range n).map (fun (r : Nat) => s.R (r : Int)) ∧ a.slot = (List.range n).map (fun (r : Nat) => s.S (r : Int)) ∧ a.k = (s.sl.length : Int) ∧ s.sl.length ≤ 8192
def LAllocPost (f : VF) (k : Int) (w : World) (e : Ending) (w' : World) : Prop :=
 Below w.heap.size w w' ∧ ((fnE f ≠ 0 ∧ e = .returned (noAlS (fnE f))) ∨ (fnE f = 0 ∧ ¬ (1 ≤ k ∧ k ≤ 10) ∧ e = .returned (noAlS 4)) ∨
  (fnE f = 0 ∧ (1 ≤ k ∧ k ≤ 10) ∧ ∃ (n nb : Nat) (a : AL), FnOk f n nb ∧ e = .returned (.tuple #[a.v, .int .i64 0]) ∧ a.Ok w' ∧ a.rn = n ∧ a.sn = n ∧ LinLaw f n nb k.toNat a))
/-- what Allocate's loop keeps -/
structure AlI (w0 w : World) (n sb rb tb ob lg lc : Nat) (l : List RG) (aa : Option Addr) (ac : Nat) (ca : Option Addr) (cc : Nat) (s : LS) : Prop where
 m : ScM w0 w n sb rb tb aa ac ca cc s
 row : RgRow w w0.heap.size (some ⟨lg, 0, none⟩) lc l
 res : Blk w ob 34 [.slice none 0 0, .slice none 0 0, .int .i64 0]
 ne : (Value.slice aa s.act.length ac).ownBlock ≠ some lg
section
variable {w0 w w' : World} {n sb rb tb ob lg lc : Nat} {l : List RG} {aa : Option Addr} {ac : Nat} {ca : Option Addr} {cc : Nat} {s s' : LS}
theorem AlI.below (h : AlI w0 w n sb rb tb ob lg lc l aa ac ca cc s) (hb : Below w.heap.size w w') : AlI w0 w' n sb rb tb ob lg lc l aa ac ca cc s := ⟨h.m.below hb, h.row.below hb, h.res.below hb h.res.lt, h.ne⟩
theorem AlI.keep {ca' : Option Addr} {cc' : Nat} (h : AlI w0 w n sb rb tb ob lg lc l aa ac ca cc s) (hm : ScM w0 w' n sb rb tb aa ac ca' cc' s') (hk : KeepRg w w') (ha : s'.act.length = s.act.length) : AlI w0 w' n sb rb tb ob lg lc l aa ac ca' cc' s' := ⟨hm, hk.row h.row, hk.blkA h.res, by rw [ha]; exact h.ne⟩
theorem AlI.enter {g c : Nat} (h : AlI w0 w n sb rb tb ob lg lc l aa ac ca cc s) (hm : ScM w0 w' n sb rb tb (some ⟨g, 0, none⟩) c ca cc s') (hk : KeepRgX (Value.slice aa s.act.length ac).ownBlock w w') (hw : (Value.slice aa s.act.length ac).ownBlock = some g ∨ w.heap.size ≤ g) : AlI w0 w' n sb rb tb ob lg lc l (some ⟨g, 0, none⟩) c ca cc s' :=
 ⟨hm, hk.row h.row h.ne, hk.blkA h.res (blk_noOwn h.res h.m.act (by decide)), fun e => by
  have e2 : g = lg := by injection e
  rcases hw with h1 | h1
  ·rw [e2] at h1; exact h.ne h1
  ·have := (h.row.lt lg rfl).2; omega⟩
/-- the active row is another one, in its place -/
theorem AlI.put {act' : List RG} (h : AlI w0 w n sb rb tb ob lg lc l aa ac ca cc s) (hr : RgRow w' w0.heap.size aa ac act') (hg : RestS (fun k => (Value.slice aa s.act.length ac).ownBlock = some k) w w') :
  AlI w0 (w'.setCell ⟨sb, 3, none⟩ (.slice aa act'.length ac)) n sb rb tb ob lg lc l aa ac ca cc ⟨s.R, s.S, act', s.sl⟩ := by
 have hbox : Blk w' sb 95 _ := Blk.of_heap h.m.box (hg.block _ (Blk.lt h.m.box) (blk_noOwn h.m.box h.m.act (by decide)))
 have hrow : RgRow w' w0.heap.size (some ⟨lg, 0, none⟩) lc l := ownG_kept h.row fun q hq => hg.block q (h.row.lt q hq).2 (fun e => h.ne (by
  have e2 : lg = q := by injection hq
  rw [e2]; exact e))
 have hres : Blk w' ob 34 _ := Blk.of_heap h.res (hg.block _ (Blk.lt h.res) (blk_noOwn h.res h.m.act (by decide)))
 refine ⟨h.m.putA hr hg, ownG_other (a := ⟨sb, 3, none⟩) hrow (blk_noOwn hbox hrow (by decide)) _, hres.setOther (a := ⟨sb, 3, none⟩) (blk_tyne hres hbox (by decide)) _, fun e => h.ne ?_⟩
 cases aa with
 | none => cases e
 | some a => exact e
end
theorem row_start {w0 w : World} {n sb rb tb : Nat} {R S : Nat → Int} (he : ∀ r, r < n → R r = -1 ∧ S r = -1) (be : Below w0.heap.size w0 w) (box : Blk w sb 95 [.slice (some ⟨rb, 0, none⟩) n n, .slice (some ⟨tb, 0, none⟩) n n, .int .i64 0, .slice none 0 0, .slice none 0 0])
  (reg : Blk w rb 3 (rowL n fun r => .int .i64 (R r))) (slo : Blk w tb 3 (rowL n fun r => .int .i64 (S r))) (ne : rb ≠ tb) (lo : w0.heap.size ≤ sb ∧ w0.heap.size ≤ rb ∧ w0.heap.size ≤ tb) : ScM w0 w n sb rb tb none 0 none 0 LS.init :=
 ⟨be, box, reg.rowCongr fun i hi => by rw [(he i hi).1]; rfl, slo.rowCongr fun i hi => by rw [(he i hi).2]; rfl, World.ownsRow_nil _ _ _ _, World.ownsRow_nil _ _ _ _, ne, fun q h => (by cases h), lo⟩
theorem three_heapS (w : World) (o0 o1 o2 : Obj) (k : Nat) (hk : k < 3) : (((w.alloc o0).alloc o1).alloc o2).drew.heap[w.heap.size + k]? = [o0, o1, o2][k]? := by
 have e : (((w.alloc o0).alloc o1).alloc o2).drew.heap = w.heap ++ #[o0, o1, o2] := by
  show (((w.heap.push o0).push o1).push o2) = _
  apply Array.ext'
  simp
 rw [e, Array.getElem?_append_right (by omega), Nat.add_sub_cancel_left]
 simp
theorem scan_three {w : World} {n : Nat} {o0 o1 o2 : Obj} (kr kt ks : Nat) (h3 : (kr < 3 ∧ kt < 3 ∧ ks < 3) ∧ kr ≠ kt)
  (e1 : [o0, o1, o2][ks]? = some (.cells #[.slice (some ⟨w.heap.size + kr, 0, none⟩) n n, .slice (some ⟨w.heap.size + kt, 0, none⟩) n n, .int .i64 0, .slice none 0 0, .slice none 0 0] 95)) (e2 : [o0, o1, o2][kr]? = some (.cells (rowL n fun _ => .int .i64 0).toArray 3)) (e3 : [o0, o1, o2][kt]? = some (.cells (rowL n fun _ => .int .i64 0).toArray 3)) :
  ∃ sb rb tb, Value.pointer (some ⟨w.heap.size + ks, 0, none⟩) = .pointer (some ⟨sb, 0, none⟩) ∧ Below w.heap.size w (((w.alloc o0).alloc o1).alloc o2).drew ∧ Blk (((w.alloc o0).alloc o1).alloc o2).drew sb 95 [.slice (some ⟨rb, 0, none⟩) n n, .slice (some ⟨tb, 0, none⟩) n n, .int .i64 0, .slice none 0 0, .slice none 0 0] ∧ Blk (((w.alloc o0).alloc o1).alloc o2).drew rb 3 (rowL n fun _ => .int .i64 0) ∧ Blk (((w.alloc o0).alloc o1).alloc o2).drew tb 3 (rowL n fun _ => .int .i64 0) ∧ rb ≠ tb ∧ w.heap.size ≤ sb ∧ w.heap.size ≤ rb ∧ w.heap.size ≤ tb :=
 ⟨_, w.heap.size + kr, w.heap.size + kt, rfl, ((((Below.refl _ w).alloc (Nat.le_refl _) o0).alloc (by simp) o1).alloc (by simp; omega) o2).drew, (three_heapS w o0 o1 o2 ks h3.1.2.2).trans e1, (three_heapS w o0 o1 o2 kr h3.1.1).trans e2, (three_heapS w o0 o1 o2 kt h3.1.2.1).trans e3, by omega, by omega, by omega, by omega⟩
set_option maxRecDepth 100000 in
set_option maxHeartbeats 8000000 in
theorem lallocate_any (w : World) (f : VF) (hf : f.Ok w) (k : Int) (hk : I64 k) : Calls Try.prog 18 #[f.v, .int .i64 k] w (LAllocPost f k w) := by
 have hb0 : Below w.heap.size w ((w.alloc (.cells (fC f).toArray 25)).alloc (.cells #[.slice none 0 0, .slice none 0 0, .int .i64 0] 34)) := ((Below.refl _ _).alloc (Nat.le_refl _) _).alloc (by simp) _
 have hbf := (Blk.new w (fC f) 25).alloc (.cells #[.slice none 0 0, .slice none 0 0, .int .i64 0] 34)
 have hbr := Blk.new (w.alloc (.cells (fC f).toArray 25)) [.slice none 0 0, .slice none 0 0, .int .i64 0] 34
 rw [World.size_alloc] at hbr
 have HCK := Lib.hid fun wx (h : Below w.heap.size w wx) => ranges_any wx f (hf.below h)
 have HSZ : Hid ((Try.prog.info? 34).map (·.size) = some 3) := by unfold Hid; kernel_rfl
 unfold VF.v at HCK ⊢
 have HF := Lib.hid hf
 have HB0 := Lib.hid hb0
 have HBF := Lib.hid hbf
 have HBR := Lib.hid hbr
 have hk1 := hk.1
 have hk2 := hk.2
 clear hf hb0 hbf hbr hk
 go_enter Try.func18, Try.ntmps18
 go_upto_region 1 with fail
 change Code.wp _ _ _ _ ((w.alloc (.cells (fC f).toArray 25)).alloc (.cells #[.slice none 0 0, .slice none 0 0, .int .i64 0] 34))
 obtain ⟨pf, hpf⟩ : ∃ x, x = w.heap.size := ⟨_, rfl⟩
 have HB1 : Hid (Below w.heap.size w ((w.alloc (.cells (fC f).toArray 25)).alloc (.cells #[.slice none 0 0, .slice none 0 0, .int .i64 0] 34))) := HB0.out
 rw [← hpf] at HBF HBR ⊢
 have HPF : Hid (w.heap.size ≤ pf + 1) := by show _ ≤ _; omega
 generalize (w.alloc (.cells (fC f).toArray 25)).alloc (.cells #[.slice none 0 0, .slice none 0 0, .int .i64 0] 34) = w1 at HB1 HBF HBR ⊢
 clear HB0 hpf
 have c0 := HBF.out.cell 0
 have c1 := HBF.out.cell 1
 have c2 := HBF.out.cell 2
 have c3 := HBF.out.cell 3
 simp only [fC, List.getElem?_cons_zero, List.getElem?_cons_succ] at c0 c1 c2 c3
 go_wp2_with fail
 refine (HCK.out w1 HB1.out).mono ?_
 rintro e w2 ⟨hb2, hlr⟩
 have HB2 := Lib.hid (HB1.out.trans (hb2.mono HB1.out.size))
 have HBF2 := Lib.hid (HBF.out.below hb2 HBF.out.lt)
 have HBR2 := Lib.hid (HBR.out.below hb2 HBR.out.lt)
 have HB12 := Lib.hid HB1.out.size
 clear hb2 HB1 HBF HBR c0 c1 c2 c3 HCK
 rcases hlr with ⟨hz, rfl⟩ | ⟨hz, n, nb, lg, lc, l, hok, rfl, hrow, hrp, hcn⟩
 ·as_aux_lemma =>
  obtain ⟨e0, he0⟩ : ∃ e, e = fnE f := ⟨_, rfl⟩
  rw [← he0] at hz ⊢
  have hne : (e0 == 0) = false := by simpa using hz
  have HE0 : Hid (fnE f ≠ 0) := by rw [← he0]; exact hz
  have HE1 := Lib.hid he0
  clear hz he0
  go_wp2_with (refine wpList_store_rowTo rfl 34 _ _ rfl rfl (pf + 1) #[.slice none 0 0, .slice none 0 0, .int .i64 0] rfl rfl _ _ HBR2.out HSZ.out rfl zeroS ?_)
  have hr4 := setRowBlkS HBR2.out [.slice none 0 0, .slice none 0 0, .int .i64 0]
  exact bodyPost_ret (results_row_oneS rfl _ _ (pf + 1) _ _ _ _ rfl hr4 Try.underlying34 rfl HSZ.out) rfl ⟨setRowBelowS HB2.out HPF.out _, .inl ⟨HE0.out, by rw [← HE1.out]; rfl⟩⟩
 ·have HZ := Lib.hid hz
  have HOK := Lib.hid hok
  have HRP := Lib.hid hrp
  have hn2 := hok.n2
  have HREG := Lib.hid hok.regs
  obtain ⟨p, hp⟩ := (⟨fun r => @decide _ (Classical.propDecidable (OccP f nb r)), fun r => @decide_eq_true_iff _ (Classical.propDecidable _)⟩ : ∃ p : Nat → Bool, ∀ r, p r = true ↔ OccP f nb r)
  have hln : l.length ≤ n := by
   rw [hcn p fun r _ _ => hp r]
   exact Nat.le_trans (List.length_filter_le ..) (by simp)
  have HROW : Hid (RgRow w2 w.heap.size (some ⟨lg, 0, none⟩) lc l) := ownG_base hrow HB12.out
  clear hz hok hrp hcn hp p hrow
  by_cases hkr : 1 ≤ k ∧ k ≤ 10
  ·obtain ⟨kn, hkn⟩ : ∃ x : Nat, k = (x : Int) := ⟨k.toNat, by omega⟩
   subst hkn
   have hkn1 : 1 ≤ kn ∧ kn ≤ 10 := by omega
   have q1 : decide ((kn : Int) < 1) = false := by simp; omega
   have q2 : decide ((10 : Int) < (kn : Int)) = false := by simp; omega
   obtain ⟨N, hN⟩ : ∃ N, N = l.length := ⟨_, rfl⟩
   have HN := Lib.hid hN
   rw [← hN] at hln ⊢
   clear hN hkr
   go_upto_region 6 with fail
   have c2 := HBF2.out.cell 2
   simp only [fC, List.getElem?_cons_zero, List.getElem?_cons_succ] at c2
   rw [HREG.out] at c2
   have hmk : ∀ w : World, (Instr.makeSlice 22 (.int .i64 (n : Int)) (.int .i64 (n : Int))).run Try.prog w = .ok (.slice (some ⟨w.heap.size, 0, none⟩) n n) (w.alloc (.cells (rowL n fun _ => .int .i64 0).toArray 3)) := fun w => run_make_rep (P := Try.prog) 22 3 (.int .i64 0) 8 Try.underlying22 (by kernel_rfl) rfl n (by omega) (by omega) w
   go_cut [8] from 31 (fun v wx => ∃ sb rb tb, v = .pointer (some ⟨sb, 0, none⟩) ∧ Below w2.heap.size w2 wx ∧ Blk wx sb 95 [.slice (some ⟨rb, 0, none⟩) n n, .slice (some ⟨tb, 0, none⟩) n n, .int .i64 0, .slice none 0 0, .slice none 0 0] ∧ Blk wx rb 3 (rowL n fun _ => .int .i64 0) ∧ Blk wx tb 3 (rowL n fun _ => .int .i64 0) ∧ rb ≠ tb ∧ w2.heap.size ≤ sb ∧ w2.heap.size ≤ rb ∧ w2.heap.size ≤ tb)
   case first => as_aux_lemma =>
    have hpl := Blk.lt HBF2.out
    go_region
    all_goals go_wp2_with fail
    all_goals go_meet
    ·exact scan_three 0 1 2 (by decide) rfl rfl rfl
    ·exact scan_three 1 0 2 (by decide) rfl rfl rfl
   case rest => as_aux_lemma =>
    obtain ⟨sb, rb, tb, rfl, hb3, hbox, hreg, hslo, hrt, hl1, hl2, hl3⟩ := hcut
    have HBE := Lib.hid (HB2.out.trans (hb3.mono HB2.out.size))
    have HRES := Lib.hid (HBR2.out.below hb3 (Blk.lt HBR2.out))
    have HROW3 := Lib.hid (HROW.out.below hb3)
    have HBOX := Lib.hid hbox
    have HREG3 := Lib.hid hreg
    have HSLO := Lib.hid hslo
    have HLO : Hid (w.heap.size ≤ sb ∧ w.heap.size ≤ rb ∧ w.heap.size ≤ tb) := by have := HB2.out.size; exact ⟨by omega, by omega, by omega⟩
    have HRT := Lib.hid hrt
    have b0 := hbox.cell 0
    simp only [List.getElem?_cons_zero] at b0
    clear hb3 hbox hreg hslo hrt hl1 hl2 hl3 c2 hmk HBF2 HBR2 HROW HB2
    go_upto_block 0 with fail
    go_cut [9] from 41 (fun _ wx => AlI w wx n sb rb tb (pf + 1) lg lc l none 0 none 0 LS.init)
    case first => as_aux_lemma =>
     go_wp2_with fail
     clear b0
     go_loopw [46] (fun u wr => ∃ j : Nat, j ≤ n ∧ u = .int .i64 (j : Int) ∧ Below w.heap.size w wr ∧ Blk wr sb 95 [.slice (some ⟨rb, 0, none⟩) n n, .slice (some ⟨tb, 0, none⟩) n n, .int .i64 0, .slice none 0 0, .slice none 0 0] ∧ Blk wr rb 3 (rowL n fun r => .int .i64 (if r < j then -1 else 0)) ∧ Blk wr tb 3 (rowL n fun r => .int .i64 (if r < j then -1 else 0)) ∧ Blk wr (pf + 1) 34 [.slice none 0 0, .slice none 0 0, .int .i64 0] ∧ RgRow wr w.heap.size (some ⟨lg, 0, none⟩) lc l) (fun u _ => n - (intOf u).toNat)
     case atStart => exact ⟨0, Nat.zero_le _, rfl, HBE.out, HBOX.out, HREG3.out, HSLO.out, HRES.out, HROW3.out⟩
     case round =>
      clear HBE HBOX HREG3 HSLO HRES HROW3
      obtain ⟨j, hj, rfl, hbe, hbox, hreg, hslo, hres, hrow⟩ := hrel
      by_cases hlt : j < n
      ·have b0 := hbox.cell 0
       have b1 := hbox.cell 1
       simp only [List.getElem?_cons_zero, List.getElem?_cons_succ] at b0 b1
       have r1 := Blk.row hreg hlt
       have r2 := hreg.free j
       have t1 := Blk.row hslo hlt
       have t2 := hslo.free j
       have hnb : rb ≠ tb := HRT.out
       have hnb2 : tb ≠ rb := fun e => HRT.out e.symm
       have hn5 : sb ≠ rb := blk_tyne hbox hreg (by decide)
       have hn6 : sb ≠ tb := blk_tyne hbox hslo (by decide)
       have hlo := HLO.out
       have hd : ∀ wx : World, Below wx.heap.size wx wx.drew := fun wx => (Below.refl _ _).drew
       have HB4 : Hid (Below w.heap.size w ((wr.setCell ⟨rb, j, none⟩ (.int .i64 (-1))).setCell ⟨tb, j, none⟩ (.int .i64 (-1))).drew) := ((hbe.setCell (p := ⟨rb, j, none⟩) hlo.2.1 _).setCell (p := ⟨tb, j, none⟩) hlo.2.2 _).drew
       have HX4 := Lib.hid ((hbox.setOther (a := ⟨rb, j, none⟩) hn5 (.int .i64 (-1))).setOther (a := ⟨tb, j, none⟩) hn6 (.int .i64 (-1)))
       have hc : ∀ i, (if i = j then Value.int .i64 (-1) else .int .i64 (if i < j then -1 else 0)) = .int .i64 (if i < j + 1 then -1 else 0) := fun i => by
        by_cases e : i = j
        ·rw [if_pos e, if_pos (by omega)]
        ·rw [if_neg e]
         by_cases e2 : i < j
         ·rw [if_pos e2, if_pos (by omega)]
         ·rw [if_neg e2, if_neg (by omega)]
       have HR4 := Lib.hid (((hreg.rowSet j (.int .i64 (-1))).rowCongr fun i _ => hc i).setOther (a := ⟨tb, j, none⟩) hnb (.int .i64 (-1)))
       have HT4 := Lib.hid (((hslo.setOther (a := ⟨rb, j, none⟩) hnb2 (.int .i64 (-1))).rowSet j (.int .i64 (-1))).rowCongr fun i _ => hc i)
       have HS4 := Lib.hid ((hres.setOther (a := ⟨rb, j, none⟩) (blk_tyne hres hreg (by decide)) (.int .i64 (-1))).setOther (a := ⟨tb, j, none⟩) (blk_tyne hres hslo (by decide)) (.int .i64 (-1)))
       have HW4 : Hid (RgRow ((wr.setCell ⟨rb, j, none⟩ (.int .i64 (-1))).setCell ⟨tb, j, none⟩ (.int .i64 (-1))) w.heap.size (some ⟨lg, 0, none⟩) lc l) := by
        have h1 : RgRow (wr.setCell ⟨rb, j, none⟩ (.int .i64 (-1))) w.heap.size (some ⟨lg, 0, none⟩) lc l := ownG_other (a := ⟨rb, j, none⟩) hrow (blk_noOwn hreg hrow (by decide)) _
        exact ownG_other (a := ⟨tb, j, none⟩) h1 (blk_noOwn (hslo.setOther (a := ⟨rb, j, none⟩) hnb2 (.int .i64 (-1))) h1 (by decide)) _
       have hji : (j : Int) < (n : Int) := by omega
       clear hc hd hlo hbe hbox hreg hslo hres hrow
       go_upto_region 10 with fail
       go_region
       all_goals go_wp2_with fail
       go_roundw
       case rel => exact ⟨j + 1, by omega, by go_num, HB4.out, HX4.out.drew, HR4.out.drew, HT4.out.drew, HS4.out.drew, HW4.out.below (Below.refl _ _).drew⟩
       case measure => simp [intOf]; omega
      ·have ej : j = n := by omega
       subst ej
       have HI : Hid (AlI w wr j sb rb tb (pf + 1) lg lc l none 0 none 0 LS.init) := ⟨row_start (fun r hr => ⟨if_pos hr, if_pos hr⟩) hbe hbox hreg hslo HRT.out HLO.out, hrow, hres, fun e => (by cases e)⟩
       clear hbe hbox hreg hslo hres hrow
       go_wp2_with fail
       go_meet
       exact HI.out
    case rest => as_aux_lemma =>
     clear HBE HBOX HREG3 HSLO HRES HROW3 b0
     have HI := Lib.hid hcut
     clear hcut
     go_upto_block 2 with fail
     go_cut [10, 11, 12, 13, 14] from 64 (fun _ _ _ _ _ wx => ∃ aa ac ca cc s, AlI w wx n sb rb tb (pf + 1) lg lc l aa ac ca cc s ∧ RunL (kn : Int) l s ∧ s.sl.length ≤ n)
     case first => as_aux_lemma =>
      go_wp2_with fail
      go_loopw [66] (fun u wr => ∃ (i : Nat) (aa : Option Addr) (ac : Nat) (ca : Option Addr) (cc : Nat) (s : LS), i ≤ N ∧ u = .int .i64 (i : Int) ∧ AlI w wr n sb rb tb (pf + 1) lg lc l aa ac ca cc s ∧ RunL (kn : Int) (l.take i) s ∧ s.act.length ≤ i ∧ s.sl.length ≤ i) (fun u _ => N - (intOf u).toNat)
      case atStart => exact ⟨0, none, 0, none, 0, LS.init, Nat.zero_le _, rfl, HI.out, RunL.nil, Nat.le_refl _, Nat.le_refl _⟩
      case round =>
       clear HI
       obtain ⟨i, aa, ac, ca, cc, s, hi, rfl, hai, hrun, hal, hsl⟩ := hrel
       have HI := Lib.hid hai
       have HRUN := Lib.hid hrun
       clear hai hrun
       by_cases hlt : i < N
       ·
        have hil : i < l.length := by rw [← HN.out]; exact hlt
        have HTK := Lib.hid (List.take_succ_eq_append_getElem hil)
        obtain ⟨r, hxr, hr1, hr2, hrr9⟩ := HRP.out.el l[i] (List.getElem_mem _)
        clear hrr9
        obtain ⟨c0, c1, c2, c3⟩ := HI.out.row.cells hil
        have hgw := (HI.out.row.lt lg rfl).2
        have hcap : N ≤ lc ∧ lc ≤ 9223372036854775807 := by
         obtain ⟨g9, hgg9, _, _, hcap1, hcap2⟩ := HI.out.row.has (by omega)
         unfold maxLen at hcap2
         rw [← HN.out] at hcap1
         exact ⟨hcap1, by omega⟩
        obtain ⟨hcap1, hcap2⟩ := hcap
        obtain ⟨x, hx⟩ : ∃ x, x = l[i] := ⟨_, rfl⟩
        rw [← hx] at c0 c1 c2 c3 hxr HTK
        have HXR := Lib.hid hxr
        have HACT : Hid (∀ y ∈ s.act, ∃ q : Nat, y.r = (q : Int) ∧ q < n) := fun y hy => by
         obtain ⟨b, _, hsc⟩ := HRUN.out.sci (HRP.out.ord.sublist (List.take_sublist _ _)) (HRP.out.once.sublist (List.take_sublist _ _)) (fun z hz => by
          obtain ⟨q, _, _, _, h4, _, h6, _⟩ := HRP.out.el z (List.mem_of_mem_take hz)
          exact (h6 _ h4).2)
         obtain ⟨q, h1, _, h3, _⟩ := HRP.out.el y (List.mem_of_mem_take (hsc.act y hy).1)
         exact ⟨q, h1, h3⟩
        have hii : (i : Int) < (N : Int) := by omega
        have hab : Below wr.heap.size wr (wr.alloc (.cells #[.int .i64 x.r, .int .i64 x.b, .int .i64 x.e, .bool x.s] 97)) := (Below.refl _ _).alloc (Nat.le_refl _) _
        have HI1 := Lib.hid (HI.out.below hab)
        have HXB : Hid (Blk (wr.alloc (.cells #[.int .i64 x.r, .int .i64 x.b, .int .i64 x.e, .bool x.s] 97)) wr.heap.size 97 (rgC x)) := Blk.new wr (rgC x) 97
        have HOX : Hid ((Value.slice aa s.act.length ac).ownBlock ≠ some wr.heap.size) := fun e => by have := (HI.out.m.act.lt _ e).2; omega
        clear hx hxr
        go_upto_region 15 with fail
        obtain ⟨xp, hxp⟩ : ∃ xp, xp = wr.heap.size := ⟨_, rfl⟩
        rw [← hxp] at HXB HOX ⊢
        clear hxp hab HI c0 c1 c2 c3 hgw
        generalize wr.alloc (.cells #[.int .i64 x.r, .int .i64 x.b, .int .i64 x.e, .bool x.s] 97) = w3 at HI1 HXB ⊢
        have b3 := HI1.out.m.box.cell 3
        simp only [List.getElem?_cons_zero, List.getElem?_cons_succ] at b3
        have hmf : ∀ (fn : Fn) (first cap : Array Value) (w : World), (Instr.makeFunc fn first cap).run Try.prog w = .ok (.func fn first cap) w := fun _ _ _ _ => rfl
        have HDE := Lib.hid (del_dead w3 w.heap.size aa ac s.act.length s.act HI1.out.m.act rfl (by omega) xp (fun y => decide (y.e < x.b)) fun wx y _ hr => dead_any wx xp x y (Blk.of_heap HXB.out (hr.block _ (Blk.lt HXB.out) HOX.out)))
        go_wp2_with fail
        refine HDE.out.mono ?_
        rintro e w4 ⟨rfl, hrow4, hrest4⟩
        have hput := HI1.out.put hrow4 hrest4
        have hx4 : Blk w4 xp 97 (rgC x) := Blk.of_heap HXB.out (hrest4.block _ (Blk.lt HXB.out) HOX.out)
        have hbox4 : Blk w4 sb 95 _ := Blk.of_heap HI1.out.m.box (hrest4.block _ (Blk.lt HI1.out.m.box) (blk_noOwn HI1.out.m.box HI1.out.m.act (by decide)))
        have z3 := hbox4.cell 3
        have z4 := hbox4.free 3
        simp only [List.getElem?_cons_zero, List.getElem?_cons_succ] at z3
        have hsb4 := Blk.lt hbox4
        obtain ⟨act1, hact1⟩ : ∃ a, a = keepP (fun y => decide (y.e < x.b)) s.act := ⟨_, rfl⟩
        have HA1 : Hid (act1 = stillA s.act x.b) := by rw [hact1]; rfl
        have hal1 : act1.length ≤ i := by rw [hact1]; exact Nat.le_trans (List.length_filter_le ..) hal
        rw [← hact1] at hput ⊢
        have HI2 := Lib.hid hput
        have HX2 : Hid (Blk (w4.setCell ⟨sb, 3, none⟩ (.slice aa act1.length ac)) xp 97 (rgC x)) := hx4.setOther (a := ⟨sb, 3, none⟩) (blk_tyne hx4 hbox4 (by decide)) _
        have HACT1 : Hid (∀ y ∈ act1, ∃ q : Nat, y.r = (q : Int) ∧ q < n) := fun y hy => HACT.out y (by rw [HA1.out] at hy; exact (stillA_mem.1 hy).1)
        have HOX2 : Hid ((Value.slice aa act1.length ac).ownBlock ≠ some xp) := fun e => HOX.out (by
         cases aa with
         | none => cases e
         | some a => exact e)
        clear hact1 hput hx4 hbox4 hrow4 hrest4 HDE HI1 HXB HOX b3 HACT
        go_upto_region 16 with fail
        clear z3 z4
        generalize w4.setCell ⟨sb, 3, none⟩ (.slice aa act1.length ac) = w5 at HI2 HX2 ⊢
        have HST : Hid (∀ s', StepL (kn : Int) s x s' → RunL (kn : Int) (l.take (i + 1)) s') := fun s' h => by
         rw [HTK.out]
         exact RunL.snoc _ x s s' HRUN.out h
        have HS1 : Hid ((⟨s.R, s.S, act1, s.sl⟩ : LS) = { s with act := stillA s.act x.b }) := by show _ = _; rw [HA1.out]
        obtain ⟨s1, hs1⟩ : ∃ s1 : LS, s1 = ⟨s.R, s.S, act1, s.sl⟩ := ⟨_, rfl⟩
        have HE1 : Hid (s1.R = s.R ∧ s1.S = s.S ∧ s1.act = act1 ∧ s1.sl = s.sl) := by rw [hs1]; exact ⟨rfl, rfl, rfl, rfl⟩
        have HE2 : Hid (s1 = { s with act := stillA s.act x.b }) := by rw [hs1]; exact HS1.out
        have hM1 : AlI w w5 n sb rb tb (pf + 1) lg lc l aa ac ca cc s1 := by rw [hs1]; exact HI2.out
        have HM1 := Lib.hid hM1
        have hsl1 : s1.sl.length ≤ i := by rw [HE1.out.2.2.2]; exact hsl
        have hal2 : s1.act.length ≤ i := by rw [HE1.out.2.2.1]; exact hal1
        have HACT2 : Hid (∀ y ∈ s1.act, ∃ q : Nat, y.r = (q : Int) ∧ q < n) := by rw [HE1.out.2.2.1]; exact HACT1.out
        have HOX3 : Hid ((Value.slice aa s1.act.length ac).ownBlock ≠ some xp) := by rw [HE1.out.2.2.1]; exact HOX2.out
        clear hs1 hM1 HI2 HS1 HACT1 HOX2 HA1 hal1 hal hsl
        have x0 := HX2.out.cell 0
        have x1 := HX2.out.cell 1
        have x2 := HX2.out.cell 2
        have x3 := HX2.out.cell 3
        simp only [rgC, List.getElem?_cons_zero, List.getElem?_cons_succ] at x0 x1 x2 x3
        have HSLOT := Lib.hid fun wx (ca' : Option Addr) (cc' : Nat) (h : ScM w wx n sb rb tb aa ac ca' cc' s1) => slot_any w wx n sb rb tb aa ac ca' cc' s1 h x r HXR.out hr2 (by omega) (by omega)
        unfold rgV at HSLOT
        cases hxs : x.s with
        | true =>
         have HXS := Lib.hid hxs
         rw [hxs] at x3 HSLOT
         clear hxs
         have HSL := Lib.hid (HSLOT.out w5 ca cc HM1.out.m)
         clear HSLOT
         go_wp2_with fail
         refine HSL.out.mono ?_
         rintro e w6 ⟨rfl, ca2, cc2, s2, hm2, hsp, hk2⟩
         have HRN := Lib.hid (HST.out s2 (.inl ⟨HXS.out, by rw [← HE2.out]; exact hsp⟩))
         have hsp' := hsp
         obtain ⟨q, hq, _, _, hac⟩ := hsp'
         have hl2 : s2.sl.length ≤ i + 1 := by
          rcases hq with ⟨_, h⟩ | ⟨_, h⟩
          ·rw [h, List.length_set]; omega
          ·rw [h, List.length_append]; simp; omega
         have ha2 : s2.act.length ≤ i + 1 := by rw [hac]; omega
         have HI6 := Lib.hid (HM1.out.keep hm2 hk2 (by rw [hac]))
         have H78 := Lib.hid (And.intro ha2 hl2)
         clear hm2 hsp hk2 hq hac hl2 ha2 HSL HM1 x0 x1 x2 x3 hsl1 hal2
         go_wp2_with fail
         go_roundw
         case rel => exact ⟨i + 1, aa, ac, ca2, cc2, s2, by omega, by go_num, HI6.out, HRN.out, H78.out.1, H78.out.2⟩
         case measure => simp [intOf]; omega
        | false =>
         have HXS := Lib.hid hxs
         rw [hxs] at x3 HSLOT
         clear hxs
         have HFR := Lib.hid (free_any w w5 n sb rb tb aa ac ca cc s1 HM1.out.m kn hkn1 HACT2.out (by omega) (by omega))
         go_wp2_with fail
         refine HFR.out.mono ?_
         rintro e w6 ⟨m, rfl, hfp, hb6⟩
         have HFP := Lib.hid hfp
         have HM6 := Lib.hid (HM1.out.below hb6)
         have HX6 := Lib.hid (HX2.out.below hb6 (Blk.lt HX2.out))
         clear hfp hb6 HFR HM1 HX2 x0 x1 x2 x3
         have x0 := HX6.out.cell 0
         have x1 := HX6.out.cell 1
         have x2 := HX6.out.cell 2
         have x3 := HX6.out.cell 3
         simp only [rgC, List.getElem?_cons_zero, List.getElem?_cons_succ] at x0 x1 x2 x3
         rw [HXS.out] at x3
         have hmc : m = 0 ∨ 1 ≤ m := by
          rcases HFP.out with h | h
          ·exact .inr h.1
          ·exact .inl h.1
         rcases hmc with hm0 | hm1
         ·
          have hne : s1.act ≠ [] := fun e => by
           rcases HFP.out with h | h
           ·omega
           ·obtain ⟨y, hy, _⟩ := h.2 1 (Nat.le_refl _) (by omega)
            rw [e] at hy; cases hy
          obtain ⟨act2, last, hal9⟩ : ∃ a' last, s1.act = a' ++ [last] := by
           rcases List.eq_nil_or_concat s1.act with h | ⟨a', last, h⟩
           ·exact absurd h hne
           ·exact ⟨a', last, by rw [h, List.concat_eq_append]⟩
          have HA9 := Lib.hid hal9
          obtain ⟨q, hlq, hqn⟩ := HACT2.out last (by rw [hal9]; exact List.mem_append_right _ (List.mem_singleton.2 rfl))
          obtain ⟨L, hL⟩ : ∃ L, L = act2.length := ⟨_, rfl⟩
          have hlen9 : s1.act.length = L + 1 := by rw [hal9, hL]; simp
          have HLEN9 := Lib.hid hlen9
          have hLL : L ≤ i := by omega
          have hact9 := HM6.out.m.act
          rw [hal9] at hact9
          obtain ⟨ga, gac, hav, _, hga, hgc1, hgc2⟩ := ownG_has HM6.out.m.act (by omega)
          injection hav with e1 _ e3
          subst e1 e3
          unfold maxLen at hgc2
          rw [hlen9] at hgc1
          obtain ⟨y0, y1, y2, y3⟩ := hact9.cells (i := L) (by rw [← hal9, hlen9]; omega)
          have hgl : (act2 ++ [last])[L]'(by rw [← hal9, hlen9]; omega) = last := by simp [hL]
          rw [hgl] at y0 y1 y2 y3
          rw [hlq] at y0
          have b3 := HM6.out.m.box.cell 3
          simp only [List.getElem?_cons_zero, List.getElem?_cons_succ] at b3
          rw [hlen9] at b3
          have HF0 : Hid (FreeP (kn : Int) s1 0) := by rw [← hm0]; exact HFP.out
          subst hm0
          have HLQ := Lib.hid hlq
          have HLE := Lib.hid hL
          clear hne hal9 hact9 hgl hlq hlen9 hL
          go_upto_region 21 with fail
          have hli : (L : Int) < (L : Int) + 1 := by omega
          have hsb6 := Blk.lt HM6.out.m.box
          have hLm : L ≤ 8192 := by omega
          have HLR : Hid (rgC last = [.int .i64 (q : Int), .int .i64 last.b, .int .i64 last.e, .bool last.s]) := by show _ = _; unfold rgC; rw [HLQ.out]
          have hab : Below w6.heap.size w6 (w6.alloc (.cells #[.int .i64 (q : Int), .int .i64 last.b, .int .i64 last.e, .bool last.s] 97)).drew := ((Below.refl _ _).alloc (Nat.le_refl _) _).drew
          have HM7 := Lib.hid (HM6.out.below hab)
          have HX7 := Lib.hid (HX6.out.below hab (Blk.lt HX6.out))
          have HLB : Hid (Blk (w6.alloc (.cells #[.int .i64 (q : Int), .int .i64 last.b, .int .i64 last.e, .bool last.s] 97)).drew w6.heap.size 97 (rgC last)) := by
           show Blk _ _ _ _
           rw [HLR.out]
           exact (Blk.new w6 _ _).drew
          clear hab
          go_region
          all_goals go_upto_region 22 with fail
          obtain ⟨lp, hlp⟩ : ∃ x, x = w6.heap.size := ⟨_, rfl⟩
          rw [← hlp] at HLB ⊢
          clear hlp y0 y1 y2 y3 b3 x0 x1 x2 x3 hga HM6 HX6
          generalize (w6.alloc (.cells #[.int .i64 (q : Int), .int .i64 last.b, .int .i64 last.e, .bool last.s] 97)).drew = w7 at HM7 HX7 HLB ⊢
          have x0 := HX7.out.cell 0
          have x1 := HX7.out.cell 1
          have x2 := HX7.out.cell 2
          have x3 := HX7.out.cell 3
          have l2 := HLB.out.cell 2
          simp only [rgC, List.getElem?_cons_zero, List.getElem?_cons_succ] at x0 x1 x2 x3 l2
          rw [HXS.out] at x3
          by_cases hle : last.e ≤ x.e
          ·
           have HLE9 := Lib.hid hle
           have HSL := Lib.hid (HSLOT.out w7 ca cc HM7.out.m)
           clear HSLOT
           go_wp2_with fail
           refine HSL.out.mono ?_
           rintro e w8 ⟨rfl, ca2, cc2, s2, hm2, hsp, hk2⟩
           have HRN := Lib.hid (HST.out s2 (.inr ⟨HXS.out, 0, by rw [← HE2.out]; exact HF0.out, .inr ⟨rfl, act2, last, by have := HA9.out; rw [HE2.out] at this; exact this, .inl ⟨HLE9.out, by rw [← HE2.out]; exact hsp⟩⟩⟩))
           have hsp' := hsp
           obtain ⟨q9, hq9, _, _, hac⟩ := hsp'
           have hl2 : s2.sl.length ≤ i + 1 := by
            rcases hq9 with ⟨_, h⟩ | ⟨_, h⟩
            ·rw [h, List.length_set]; omega
            ·rw [h, List.length_append]; simp; omega
           have ha2 : s2.act.length ≤ i + 1 := by rw [hac]; omega
           have HI6 := Lib.hid (HM7.out.keep hm2 hk2 (by rw [hac]))
           have H78 := Lib.hid (And.intro ha2 hl2)
           clear hm2 hsp hk2 hq9 hac hl2 ha2 HSL HM7 x0 x1 x2 x3 l2 hsl1 hal2
           go_wp2_with fail
           go_roundw
           case rel => exact ⟨i + 1, some ⟨ga, 0, none⟩, ac, ca2, cc2, s2, by omega, by go_num, HI6.out, HRN.out, H78.out.1, H78.out.2⟩
           case measure => simp [intOf]; omega
          ·
           have HGT : Hid (x.e < last.e) := by show _ < _; omega
           have p9 : decide (last.e ≤ x.e) = false := by simp; omega
           have p8 : x.e < last.e := by omega
           clear hle HSLOT
           go_upto_region 24 with fail
           have b3 := HM7.out.m.box.cell 3
           have b3f := HM7.out.m.box.free 3
           simp only [List.getElem?_cons_zero, List.getElem?_cons_succ] at b3
           rw [HLEN9.out] at b3
           have hsb7 := Blk.lt HM7.out.m.box
           have hpop : RgRow w7 w.heap.size (some ⟨ga, 0, none⟩) ac act2 := by
            have h9 := HM7.out.m.act
            rw [HA9.out] at h9
            exact h9.pop
           have hput := HM7.out.put hpop (RestS.refl _ _)
           rw [← HLE.out] at hput
           have HP8 := Lib.hid (hput.below ((Below.refl _ (w7.setCell ⟨sb, 3, none⟩ (.slice (some ⟨ga, 0, none⟩) L ac))).drew))
           have HX8 : Hid (Blk (w7.setCell ⟨sb, 3, none⟩ (.slice (some ⟨ga, 0, none⟩) L ac)).drew xp 97 (rgC x)) := (HX7.out.setOther (a := ⟨sb, 3, none⟩) (blk_tyne HX7.out HM7.out.m.box (by decide)) _).drew
           have HL8 : Hid (Blk (w7.setCell ⟨sb, 3, none⟩ (.slice (some ⟨ga, 0, none⟩) L ac)).drew lp 97 (rgC last)) := (HLB.out.setOther (a := ⟨sb, 3, none⟩) (blk_tyne HLB.out HM7.out.m.box (by decide)) _).drew
           have hc9 : L ≤ ac := by omega
           clear hpop hput
           go_region
           all_goals go_upto_region 25 with fail
           clear b3 b3f x0 x1 x2 x3 l2 HM7 HX7 HLB hsb7
           generalize (w7.setCell ⟨sb, 3, none⟩ (.slice (some ⟨ga, 0, none⟩) L ac)).drew = w8 at HP8 HX8 HL8 ⊢
           have k0 := HP8.out.m.box.cell 0
           have k1 := HL8.out.cell 0
           simp only [rgC, List.getElem?_cons_zero, List.getElem?_cons_succ] at k0 k1
           rw [HLQ.out] at k1
           have k2 := Blk.row HP8.out.m.reg hqn
           have g0 := Blk.lt HP8.out.m.box
           have g1 := Blk.lt HL8.out
           have g2 := Blk.lt HP8.out.m.reg
           have q5 := fun z : After w8.heap.size w8.drew => (z.below.cell (p := ⟨sb, 0, none⟩) g0).trans k0
           have q6 := fun z : After w8.heap.size w8.drew => (z.below.cell (p := ⟨lp, 0, none⟩) g1).trans k1
           have q7 := fun z : After w8.heap.size w8.drew => (z.below.cell (p := ⟨rb, q, none⟩) g2).trans k2
           have hqi : (q : Int) < (n : Int) := by omega
           have hd8 : Below w8.heap.size w8 w8.drew := (Below.refl _ _).drew
           have HP9 := Lib.hid (HP8.out.below hd8)
           have HX9 := Lib.hid (HX8.out.below hd8 (Blk.lt HX8.out))
           have HL9 := Lib.hid (HL8.out.below hd8 (Blk.lt HL8.out))
           clear k0 k1 k2 hd8 HP8 HX8 HL8
           refine wp_region_eager w8.heap.size [(0, true), (1, true), (2, true), (3, true), (4, true), (5, true), (6, true), (7, true), (8, true), (9, true)] (by kernel_rfl) (by kernel_rfl) ?_
           repeat (refine eag_read rfl ?_; go_big_quiet_step (fail); refine wpQuiet_nil ?_)
           refine eag_end ?_
           clear q5 q6 q7 g0 g1 g2
           generalize w8.drew = w9 at HP9 HX9 HL9 ⊢
           have l0 := HL9.out.cell 0
           have l1 := HL9.out.cell 1
           have l2 := HL9.out.cell 2
           have l3 := HL9.out.cell 3
           simp only [rgC, List.getElem?_cons_zero, List.getElem?_cons_succ] at l0 l1 l2 l3
           have HSPL := Lib.hid (spill_any w w9 n sb rb tb (some ⟨ga, 0, none⟩) ac ca cc ⟨s1.R, s1.S, act2, s1.sl⟩ HP9.out.m last q HLQ.out hqn (by omega) (by show s1.sl.length ≤ _; omega))
           unfold rgV at HSPL
           obtain ⟨mm, hmm⟩ : ∃ mm, mm = s1.R (q : Int) := ⟨_, rfl⟩
           have hmmS : Value.int .i64 (s1.R (q : Int)) = .int .i64 mm := by rw [hmm]
           have HMM := Lib.hid hmm
           clear hmm
           go_wp2_with fail
           refine HSPL.out.mono ?_
           rintro e w10 ⟨rfl, ca2, cc2, hm10, hk10⟩
           have HI10 := Lib.hid (HP9.out.keep hm10 hk10 rfl)
           have HX10 := Lib.hid (hk10.blk HX9.out)
           clear hm10 hk10 HSPL HP9 HX9 HL9 l0 l1 l2 l3
           have x0 := HX10.out.cell 0
           have x1 := HX10.out.cell 1
           have x2 := HX10.out.cell 2
           have x3 := HX10.out.cell 3
           simp only [rgC, List.getElem?_cons_zero, List.getElem?_cons_succ] at x0 x1 x2 x3
           rw [HXS.out] at x3
           have HEN := Lib.hid (enter_any w w10 n sb rb tb (some ⟨ga, 0, none⟩) ac ca2 cc2 (spillS ⟨s1.R, s1.S, act2, s1.sl⟩ last) HI10.out.m x r HXR.out hr2 (by omega) (by show act2.length ≤ _; have := HLE.out; omega) (s1.R (q : Int)))
           unfold rgV at HEN
           rw [HXS.out] at HEN
           go_wp2_with fail
           refine HEN.out.mono ?_
           rintro e w11 ⟨rfl, g2, c2, s2, hm2, hen, hkx, hwh, hal3⟩
           have HRN := Lib.hid (HST.out s2 (.inr ⟨HXS.out, 0, by rw [← HE2.out]; exact HF0.out, .inr ⟨rfl, act2, last, by have := HA9.out; rw [HE2.out] at this; exact this, .inr ⟨HGT.out, by
            have h9 := hen
            rw [← HLQ.out, HE1.out.1, HE1.out.2.1, HE1.out.2.2.2] at h9
            exact h9⟩⟩⟩))
           have HI11 := Lib.hid (HI10.out.enter hm2 hkx hwh)
           have H78 : Hid (s2.act.length ≤ i + 1 ∧ s2.sl.length ≤ i + 1) := by
            refine ⟨?_, ?_⟩
            ·rw [hal3]; show act2.length + 1 ≤ _; have := HLE.out; omega
            ·rw [hen.2.2.1]; show (s1.sl ++ [last.e]).length ≤ _; rw [List.length_append]; simp; omega
           clear hm2 hen hkx hwh hal3 HEN HI10 x0 x1 x2 x3 hsl1 hal2
           go_wp2_with fail
           go_roundw
           case rel => exact ⟨i + 1, some ⟨g2, 0, none⟩, c2, ca2, cc2, s2, by omega, by go_num, HI11.out, HRN.out, H78.out.1, H78.out.2⟩
           case measure => simp [intOf]; omega
         ·
          have hmk : 1 ≤ m ∧ m ≤ (kn : Int) ∧ ∀ y ∈ s1.act, s1.R y.r ≠ m := by
           rcases HFP.out with h | h
           ·exact h
           ·omega
          have HEN := Lib.hid (enter_any w w6 n sb rb tb aa ac ca cc s1 HM6.out.m x r HXR.out hr2 (by omega) (by omega) m)
          unfold rgV at HEN
          rw [HXS.out] at HEN
          have hm0 : 0 < m := by omega
          have HMK := Lib.hid hmk
          clear hmk HSLOT
          go_wp2_with fail
          refine HEN.out.mono ?_
          rintro e w7 ⟨rfl, g2, c2, s2, hm2, hen, hkx, hwh, hal3⟩
          have HRN := Lib.hid (HST.out s2 (.inr ⟨HXS.out, m, by rw [← HE2.out]; exact HFP.out, .inl ⟨by omega, by rw [← HE2.out]; exact hen⟩⟩))
          have HI7 := Lib.hid (HM6.out.enter hm2 hkx hwh)
          have H78 : Hid (s2.act.length ≤ i + 1 ∧ s2.sl.length ≤ i + 1) := ⟨by omega, by rw [hen.2.2.1]; omega⟩
          clear hm2 hen hkx hwh hal3 HEN HM6 x0 x1 x2 x3 hsl1 hal2 HMK
          go_wp2_with fail
          go_roundw
          case rel => exact ⟨i + 1, some ⟨g2, 0, none⟩, c2, ca, cc, s2, by omega, by go_num, HI7.out, HRN.out, H78.out.1, H78.out.2⟩
          case measure => simp [intOf]; omega
       ·
        have ei : i = N := by omega
        have HR9 : Hid (RunL (kn : Int) l s) := by
         have h9 := HRUN.out
         rw [List.take_of_length_le (by rw [← HN.out]; omega)] at h9
         exact h9
        have hsn : s.sl.length ≤ n := by omega
        have HSN := Lib.hid hsn
        clear hsn ei hal hsl
        go_wp2_with fail
        go_meet
        exact ⟨aa, ac, ca, cc, s, HI.out, HR9.out, HSN.out⟩
     case rest => as_aux_lemma =>
      clear HI
      obtain ⟨aa, ac, ca, cc, s, hai, hrun, hsl⟩ := hcut
      have HI := Lib.hid hai
      have HRUN := Lib.hid hrun
      clear hai hrun
      have b2 := HI.out.m.box.cell 2
      have b2f := HI.out.m.box.free 2
      have b4 := HI.out.m.box.cell 4
      have hsb := Blk.lt HI.out.m.box
      simp only [List.getElem?_cons_zero, List.getElem?_cons_succ] at b2 b4
      have hbx := HI.out.m.box.set 2 (.int .i64 (s.sl.length : Int))
      have HBX : Hid (Blk (wc.setCell ⟨sb, 2, none⟩ (.int .i64 (s.sl.length : Int))) sb 95 [.slice (some ⟨rb, 0, none⟩) n n, .slice (some ⟨tb, 0, none⟩) n n, .int .i64 (s.sl.length : Int), .slice aa s.act.length ac, .slice ca s.sl.length cc]) := hbx
      have HRG := Lib.hid (HI.out.m.reg.setOther (a := ⟨sb, 2, none⟩) (blk_tyne HI.out.m.reg HI.out.m.box (by decide)) (.int .i64 (s.sl.length : Int)))
      have HSL := Lib.hid (HI.out.m.slo.setOther (a := ⟨sb, 2, none⟩) (blk_tyne HI.out.m.slo HI.out.m.box (by decide)) (.int .i64 (s.sl.length : Int)))
      have HRS := Lib.hid (HI.out.res.setOther (a := ⟨sb, 2, none⟩) (blk_tyne HI.out.res HI.out.m.box (by decide)) (.int .i64 (s.sl.length : Int)))
      have HBE := Lib.hid (HI.out.m.be.setCell (p := ⟨sb, 2, none⟩) HI.out.m.lo.1 (.int .i64 (s.sl.length : Int)))
      have HMID : Hid (World.rangeAt (wc.setCell ⟨sb, 2, none⟩ (.int .i64 (s.sl.length : Int))) sb 0 [.slice (some ⟨rb, 0, none⟩) n n, .slice (some ⟨tb, 0, none⟩) n n, .int .i64 (s.sl.length : Int)]) := fun j v hj => by
       have h9 := HBX.out.cell (0 + j)
       have hj3 : j < 3 := (List.getElem?_eq_some_iff.1 hj).1
       have : j = 0 ∨ j = 1 ∨ j = 2 := by omega
       rcases this with rfl | rfl | rfl <;> exact h9.trans hj
      go_upto_region 30 with fail
      clear b2 b2f b4
      generalize wc.setCell ⟨sb, 2, none⟩ (.int .i64 (s.sl.length : Int)) = w9 at HBX HRG HSL HRS HBE HMID ⊢
      have HS3 : Hid ((Try.prog.info? 34).map (·.size) = some [Value.slice (some ⟨rb, 0, none⟩) n n, .slice (some ⟨tb, 0, none⟩) n n, .int .i64 (s.sl.length : Int)].length) := HSZ.out
      clear HI hbx
      go_wp2_with (first | refine wpList_load_mid rfl 34 _ rfl sb 0 rfl _ _ HMID.out Try.underlying34 rfl HS3.out ?_ | refine wpList_store_rowTo rfl 34 _ _ rfl rfl (pf + 1) #[.slice (some ⟨rb, 0, none⟩) n n, .slice (some ⟨tb, 0, none⟩) n n, .int .i64 (s.sl.length : Int)] rfl rfl _ _ HRS.out HSZ.out rfl (oneS _ _ _ _ _ _ _) ?_)
      have hr4 := setRowBlkS HRS.out [.slice (some ⟨rb, 0, none⟩) n n, .slice (some ⟨tb, 0, none⟩) n n, .int .i64 (s.sl.length : Int)]
      obtain ⟨a, ha⟩ : ∃ a : AL, a = ⟨some ⟨rb, 0, none⟩, n, n, (List.range n).map (fun (q : Nat) => s.R (q : Int)), some ⟨tb, 0, none⟩, n, n, (List.range n).map (fun (q : Nat) => s.S (q : Int)), (s.sl.length : Int)⟩ := ⟨_, rfl⟩
      obtain ⟨b9, _, hsc⟩ := HRUN.out.sci HRP.out.ord HRP.out.once (fun z hz => by
       obtain ⟨q, _, _, _, h4, _, h6, _⟩ := HRP.out.el z hz
       exact (h6 _ h4).2)
      have hbd : ∀ q : Int, (-1 ≤ s.R q ∧ s.R q ≤ 10) ∧ (-1 ≤ s.S q ∧ s.S q ≤ 8192) := fun q => by
       by_cases h : ∃ x ∈ l, x.r = q
       ·obtain ⟨x, hx, rfl⟩ := h
        rcases hsc.place x hx with h1 | h1 <;> omega
       ·have := hsc.none q fun x hx e => h ⟨x, hx, e⟩
        omega
      refine bodyPost_ret (results_row_oneS rfl _ _ (pf + 1) _ _ _ _ rfl hr4 Try.underlying34 rfl HSZ.out) rfl ⟨setRowBelowS HBE.out HPF.out _, .inr (.inr ⟨HZ.out, by omega, n, nb, a, HOK.out, by rw [ha]; rfl, ?_, by rw [ha], by rw [ha], l, s, HRP.out, HRUN.out, by rw [ha], by rw [ha], by rw [ha], by omega⟩)⟩
      rw [ha]
      have h1 := setRowOtherS HRG.out (fun e => blk_tyne HRG.out HRS.out (by decide) e) #[.slice (some ⟨rb, 0, none⟩) n n, .slice (some ⟨tb, 0, none⟩) n n, .int .i64 (s.sl.length : Int)]
      have h2 := setRowOtherS HSL.out (fun e => blk_tyne HSL.out HRS.out (by decide) e) #[.slice (some ⟨rb, 0, none⟩) n n, .slice (some ⟨tb, 0, none⟩) n n, .int .i64 (s.sl.length : Int)]
      refine ⟨came_rowS h1 hn2.2, by show n * 8 ≤ _; omega, fun z hz => ?_, came_rowS h2 hn2.2, by show n * 8 ≤ _; omega, fun z hz => ?_, ?_⟩
      ·obtain ⟨q, _, rfl⟩ := List.mem_map.1 hz
       have := (hbd (q : Int)).1
       unfold I64; omega
      ·obtain ⟨q, _, rfl⟩ := List.mem_map.1 hz
       have := (hbd (q : Int)).2
       unfold I64; omega
      ·show I64 (s.sl.length : Int)
       unfold I64; omega
  ·as_aux_lemma =>
   have q1 : decide (k < 1) = true ∨ (decide (k < 1) = false ∧ decide (10 < k) = true) := by
    by_cases h : k < 1
    ·left; simp [h]
    ·right; simp; omega
   have HKR : Hid (¬ (1 ≤ k ∧ k ≤ 10)) := hkr
   clear hkr
   rcases q1 with q1 | ⟨q1, q2⟩
   all_goals
    go_wp2_with (refine wpList_store_rowTo rfl 34 _ _ rfl rfl (pf + 1) #[.slice none 0 0, .slice none 0 0, .int .i64 0] rfl rfl _ _ HBR2.out HSZ.out rfl zeroS ?_)
    have hr4 := setRowBlkS HBR2.out [.slice none 0 0, .slice none 0 0, .int .i64 0]
    exact bodyPost_ret (results_row_oneS rfl _ _ (pf + 1) _ _ _ _ rfl hr4 Try.underlying34 rfl HSZ.out) rfl ⟨setRowBelowS HB2.out HPF.out _, .inr (.inl ⟨HZ.out, HKR.out, rfl⟩)⟩
end Go.Proofs.Ytlcnbihfpjhffaa
