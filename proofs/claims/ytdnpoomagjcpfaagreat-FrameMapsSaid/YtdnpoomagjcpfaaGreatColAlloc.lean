/- color's Allocate: its memory. color's Allocate: the walk. The fact that the laws on colouring state: one parameter gets a register. -/
import Derived.Test.YtdnpoomagjcpfaaGreatColLaw
import Derived.Test.YtdnpoomagjcpfaaGreatColH
import Derived.Test.YtdnpoomagjcpfaaGreatColJ
import Derived.Test.YtdnpoomagjcpfaaGreatColC
import Derived.Test.YtdnpoomagjcpfaaGreatVCheck
import Derived.Great.BuildSlice
import Derived.BigRegion
import Derived.Test.YtdnpoomagjcpfaaGreatVFact
namespace Go.Proofs.YtdnpoomagjcpfaaGreat
open Go.RowKit
set_option linter.unusedVariables false
set_option linter.unusedSimpArgs false

theorem results_row_oneC {P : Program} {fn : Func} {p u : Tmp} {ty : TypeId} (h : fn.results = #[.cell p ty, .tmp u]) (tmps : Array Value) (w : World) (g : Nat) (t : TypeId) (cs : Array Value) (fr : Nat × Nat) (d : TypeDesc)
  (hp : tmps.getD p undef = .pointer (some ⟨g, 0, none⟩)) (hg : w.heap[g]? = some (.cells cs t fr))
  (hu : P.underlying ty = some d) (hd : (match d with | .struct _ | .array _ _ => true | _ => false) = true) (hi : (P.info? ty).map (·.size) = some cs.size) :
  (results fn tmps).run P w = .ok (.tuple #[.agg cs, tmps.getD u undef]) w := by
 have hp' : tmps[p]?.getD undef = .pointer (some ⟨g, 0, none⟩) := by simpa using hp
 simp [results, h, hp', asAddr, run_loadVar_row w g t ty cs fr d hg hu hd hi]
theorem setRowBlkC {w : World} {g : Nat} {t : TypeId} {old : List Value} (h : Blk w g t old) (cs : List Value) : Blk (w.setRow g cs.toArray) g t cs := by
 unfold Blk at h ⊢
 simp [World.setRow, Array.getElem?_modify, h]
theorem setRowBelowC {B : Nat} {w w' : World} (h : Below B w w') {g : Nat} (hg : B ≤ g) (xs : Array Value) : Below B w (w'.setRow g xs) :=
 h.trans ⟨rfl, rfl, rfl, by simp [World.setRow], fun k hk => by simp only [World.setRow, Array.getElem?_modify]; rw [if_neg (by omega)]⟩
theorem setRowOtherC {w : World} {g k : Nat} {t : TypeId} {cs : List Value} (h : Blk w k t cs) (hk : k ≠ g) (xs : Array Value) : Blk (w.setRow g xs) k t cs := by
 unfold Blk at h ⊢
 simp only [World.setRow, Array.getElem?_modify]
 rw [if_neg (fun e => hk e.symm)]
 exact h
theorem zeroC : (#[.slice none 0 0, .slice none 0 0, .int .i64 0] : Array Value).all (·.oneCell') = true := by kernel_rfl
theorem oneC (a b : Option Addr) (n m c d : Nat) (z : Int) : (#[.slice a n c, .slice b m d, .int .i64 z] : Array Value).all (·.oneCell') = true := by simp [Value.oneCell']
def alC (rb sb n : Nat) (K : Int) : List Value := [.slice (some ⟨rb, 0, none⟩) n n, .slice (some ⟨sb, 0, none⟩) n n, .int .i64 K]
/-- Allocate's memory -/
structure AcI (w0 w : World) (n ob : Nat) (g : GP) (X : Nat → Nat → Bool) (SL TH : Nat → Bool) (mv : Value) (cb : Nat) (c : Nat → Int) (ab rb sb : Nat) (R S : Nat → Int) (K : Int) : Prop where
 be : Below w0.heap.size w0 w
 gr : GrM w w0.heap.size n g X SL TH mv
 cls : NRow w cb n c
 res : Blk w ob 31 [.slice none 0 0, .slice none 0 0, .int .i64 0]
 box : Blk w ab 31 (alC rb sb n K)
 reg : NRow w rb n R
 slot : NRow w sb n S
 ne : (rb ≠ sb ∧ cb ≠ rb ∧ cb ≠ sb) ∧ ob ≠ ab
 lo : w0.heap.size ≤ ab ∧ w0.heap.size ≤ rb ∧ w0.heap.size ≤ sb ∧ w0.heap.size ≤ ob
section
variable {w0 w w' : World} {n ob : Nat} {g : GP} {X : Nat → Nat → Bool} {SL TH : Nat → Bool} {mv : Value} {cb : Nat} {c : Nat → Int} {ab rb sb : Nat} {R S : Nat → Int} {K : Int}
theorem AcI.below (h : AcI w0 w n ob g X SL TH mv cb c ab rb sb R S K) (hb : Below w.heap.size w w') : AcI w0 w' n ob g X SL TH mv cb c ab rb sb R S K :=
 ⟨h.be.trans (hb.mono h.be.size), h.gr.below hb, Blk.below h.cls hb (Blk.lt h.cls), h.res.below hb h.res.lt, h.box.below hb h.box.lt, Blk.below h.reg hb (Blk.lt h.reg), Blk.below h.slot hb (Blk.lt h.slot), h.ne, h.lo⟩
theorem AcI.congr (h : AcI w0 w n ob g X SL TH mv cb c ab rb sb R S K) {R' S' : Nat → Int} (e1 : ∀ r, r < n → R r = R' r) (e2 : ∀ r, r < n → S r = S' r) : AcI w0 w n ob g X SL TH mv cb c ab rb sb R' S' K :=
 ⟨h.be, h.gr, h.cls, h.res, h.box, h.reg.congr e1, h.slot.congr e2, h.ne, h.lo⟩
theorem nrow_ne {m q : Nat} {cs : List Value} {t : TypeId} {c : Nat → Int} (h : NRow w q m c) {p : Nat} (k : Blk w p t cs) (ht : t ≠ 3) : p ≠ q := fun e => by
 subst e
 have h3 : w.heap[_]? = _ := h
 have h4 : w.heap[_]? = _ := k
 rw [h4] at h3
 injection h3 with h3
 injection h3 with _ h3 _
 exact ht h3
theorem GrM.ofSet {q : Nat} {m : Nat} {d : Nat → Int} (h : GrM w w0.heap.size n g X SL TH mv) (hq : NRow w q m d) (j : Nat) (v : Value) : GrM (w.setCell ⟨q, j, none⟩ v) w0.heap.size n g X SL TH mv := by
 obtain ⟨h1, h2, h3, h4, h5⟩ := GrM.ints (s := ⟨X, TH, fun r => r, fun r => r⟩) h hq
 exact h.rest (RestS.set (S := fun k => k = q) (RestS.refl _ w) (p := ⟨q, j, none⟩) rfl v) h1 h2 h3 h4 h5
theorem AcI.setR (h : AcI w0 w n ob g X SL TH mv cb c ab rb sb R S K) (j : Nat) (z : Int) : AcI w0 (w.setCell ⟨rb, j, none⟩ (.int .i64 z)) n ob g X SL TH mv cb c ab rb sb (fun r => if r = j then z else R r) S K :=
 ⟨h.be.setCell (p := ⟨rb, j, none⟩) h.lo.2.1 _, h.gr.ofSet h.reg j _, Blk.setOther h.cls (a := ⟨rb, j, none⟩) h.ne.1.2.1 _, Blk.setOther h.res (a := ⟨rb, j, none⟩) (nrow_ne h.reg h.res (by decide)) _, Blk.setOther h.box (a := ⟨rb, j, none⟩) (nrow_ne h.reg h.box (by decide)) _, h.reg.set j z, Blk.setOther h.slot (a := ⟨rb, j, none⟩) (fun e => h.ne.1.1 e.symm) _, h.ne, h.lo⟩
theorem AcI.setS (h : AcI w0 w n ob g X SL TH mv cb c ab rb sb R S K) (j : Nat) (z : Int) : AcI w0 (w.setCell ⟨sb, j, none⟩ (.int .i64 z)) n ob g X SL TH mv cb c ab rb sb R (fun r => if r = j then z else S r) K :=
 ⟨h.be.setCell (p := ⟨sb, j, none⟩) h.lo.2.2.1 _, h.gr.ofSet h.slot j _, Blk.setOther h.cls (a := ⟨sb, j, none⟩) h.ne.1.2.2 _, Blk.setOther h.res (a := ⟨sb, j, none⟩) (nrow_ne h.slot h.res (by decide)) _, Blk.setOther h.box (a := ⟨sb, j, none⟩) (nrow_ne h.slot h.box (by decide)) _, Blk.setOther h.reg (a := ⟨sb, j, none⟩) h.ne.1.1 _, h.slot.set j z, h.ne, h.lo⟩
theorem GrM.notAl (h : GrM w w0.heap.size n g X SL TH mv) {q : Nat} {cs : List Value} (hq : Blk w q 31 cs) : g.gb ≠ q ∧ g.G ≠ q ∧ g.sb ≠ q ∧ g.tb ≠ q ∧ ∀ i, i < n → g.bs i ≠ q := by
 have key : ∀ {p : Nat} {t : TypeId} {cur : Array Value}, w.heap[p]? = some (.cells cur t (0, 0)) → t ≠ 31 → p ≠ q := fun h1 h2 e => by
  subst e
  have h3 : w.heap[_]? = _ := hq
  rw [h1] at h3
  injection h3 with h3
  injection h3 with _ h3 _
  exact h2 h3
 obtain ⟨cur, hc⟩ := own_blkTy h.rows (g := g.G) rfl
 exact ⟨key h.box (by decide), key hc (by decide), key h.slot (by decide), key h.there (by decide), fun i hi => key (h.row i hi) (by decide)⟩
theorem AcI.setK (h : AcI w0 w n ob g X SL TH mv cb c ab rb sb R S K) (z : Int) : AcI w0 (w.setCell ⟨ab, 2, none⟩ (.int .i64 z)) n ob g X SL TH mv cb c ab rb sb R S z := by
 obtain ⟨h1, h2, h3, h4, h5⟩ := h.gr.notAl h.box
 refine ⟨h.be.setCell (p := ⟨ab, 2, none⟩) h.lo.1 _, h.gr.rest (RestS.set (S := fun k => k = ab) (RestS.refl _ w) (p := ⟨ab, 2, none⟩) rfl _) h1 h2 h3 h4 h5, Blk.setOther h.cls (a := ⟨ab, 2, none⟩) (fun e => nrow_ne h.cls h.box (by decide) e.symm) _, Blk.setOther h.res (a := ⟨ab, 2, none⟩) h.ne.2 _, ?_, Blk.setOther h.reg (a := ⟨ab, 2, none⟩) (fun e => nrow_ne h.reg h.box (by decide) e.symm) _, Blk.setOther h.slot (a := ⟨ab, 2, none⟩) (fun e => nrow_ne h.slot h.box (by decide) e.symm) _, h.ne, h.lo⟩
 have := h.box.set 2 (.int .i64 z)
 simpa [alC] using this
end
theorem NRow.came {w : World} {g n : Nat} {c : Nat → Int} (h : NRow w g n c) (hn : n ≤ 8192) : Came w (some ⟨g, 0, none⟩) n n 1 (((List.range n).map c).map intCells) := by
 have h1 : w.ownsRow 0 3 1 (.slice (some ⟨g, 0, none⟩) n n) ((List.range n).map c).length (((List.range n).map c).map (Value.int .i64)) := by
  refine ⟨by simp, .inr ⟨g, n, (rowL n fun r => .int .i64 (c r)).toArray, by simp, Nat.zero_le _, h, by simp, by unfold maxLen; omega, by simp [rowL], ?_⟩⟩
  rw [List.take_of_length_le (by simp [rowL])]
  simp [rowL, Function.comp]
 obtain ⟨la, lc, he, hc⟩ := came_ownsV h1
 injection he with e1 e2 e3
 subst e1 e3
 rw [← e2] at hc
 exact hc
def AllocLaw (f : VF) (n nb k : Nat) (a : AL) : Prop := ∃ XL : Nat → Nat → Bool, (∀ i, i < nb → ∀ r, r < n → (XL i r = true ↔ LiveI f i r)) ∧ ∃ reg slot : Nat → Int, a.reg = (List.range n).map reg ∧ a.slot = (List.range n).map slot ∧
 ColorA n k (blksC n f (fun i => aftF (f.blk i).e.to XL) nb).SL (coalK k n (blksC n f (fun i => aftF (f.blk i).e.to XL) nb).SL (blksC n f (fun i => aftF (f.blk i).e.to XL) nb).mv (startK (parX n (f.params.map Int.toNat) (XL 0) (blksC n f (fun i => aftF (f.blk i).e.to XL) nb).X f.pn) (fun r => if r = 0 then false else markL (blksC n f (fun i => aftF (f.blk i).e.to XL) nb).TH (f.params.map Int.toNat) r))) reg slot a.k
def noAl (e : Int) : Value := .tuple #[.agg #[.slice none 0 0, .slice none 0 0, .int .i64 0], .int .i64 e]
def AllocPost (f : VF) (k : Int) (w : World) (e : Ending) (w' : World) : Prop :=
 Below w.heap.size w w' ∧ ((fnE f ≠ 0 ∧ e = .returned (noAl (fnE f))) ∨ (fnE f = 0 ∧ ¬ (1 ≤ k ∧ k ≤ 10) ∧ e = .returned (noAl 4)) ∨
  (fnE f = 0 ∧ (1 ≤ k ∧ k ≤ 10) ∧ ∃ (n nb : Nat) (a : AL), FnOk f n nb ∧ e = .returned (.tuple #[a.v, .int .i64 0]) ∧ a.Ok w' ∧ a.rn = n ∧ a.sn = n ∧ AllocLaw f n nb k.toNat a))
/-- its slices are new -/
def NewA (w : World) (a : AL) : Prop := (∀ q, a.ra = some q → w.heap.size ≤ q.block) ∧ ∀ q, a.sa = some q → w.heap.size ≤ q.block
def AllocPostN (f : VF) (k : Int) (w : World) (e : Ending) (w' : World) : Prop :=
 Below w.heap.size w w' ∧ ((fnE f ≠ 0 ∧ e = .returned (noAl (fnE f))) ∨ (fnE f = 0 ∧ ¬ (1 ≤ k ∧ k ≤ 10) ∧ e = .returned (noAl 4)) ∨
  (fnE f = 0 ∧ (1 ≤ k ∧ k ≤ 10) ∧ ∃ (n nb : Nat) (a : AL), FnOk f n nb ∧ e = .returned (.tuple #[a.v, .int .i64 0]) ∧ a.Ok w' ∧ a.rn = n ∧ a.sn = n ∧ AllocLaw f n nb k.toNat a ∧ NewA w a))
theorem ElimP.mem {n k : Nat} {X : Nat → Nat → Bool} {left0 left : Nat → Bool} {l : List Nat} (h : ElimP n X k left0 l left) : (∀ b ∈ l, b < n ∧ left0 b = true) ∧ ∀ q, left q = true → left0 q = true := by
 induction h with
 | nil => exact ⟨fun b hb => by (cases hb), fun q h => h⟩
 | snoc l left b _ hb hl _ ih =>
  refine ⟨fun x hx => ?_, fun q hq => ?_⟩
  ·rcases List.mem_append.1 hx with h1 | h1
   ·exact ih.1 x h1
   ·rw [List.mem_singleton.1 h1]; exact ⟨hb, ih.2 b hl⟩
  ·by_cases e : q = b
   ·simp [e] at hq
   ·simp only [e, if_false] at hq; exact ih.2 q hq

/-- two blocks and a cell stay -/
def Keep2P (a b : Nat) (p : Addr) (w w' : World) : Prop := w'.heap[a]? = w.heap[a]? ∧ w'.heap[b]? = w.heap[b]? ∧ w'.cell? p = w.cell? p
instance (a b : Nat) (p : Addr) : PreR (Keep2P a b p) := ⟨fun w => ⟨rfl, rfl, rfl⟩, fun h k => ⟨k.1.trans h.1, k.2.1.trans h.2.1, k.2.2.trans h.2.2⟩⟩
theorem three_heapC (w : World) (o0 o1 o2 : Obj) (k : Nat) (hk : k < 3) : (((w.alloc o0).alloc o1).alloc o2).drew.heap[w.heap.size + k]? = [o0, o1, o2][k]? := by
 have e : (((w.alloc o0).alloc o1).alloc o2).drew.heap = w.heap ++ #[o0, o1, o2] := by
  show (((w.heap.push o0).push o1).push o2) = _
  apply Array.ext'
  simp
 rw [e, Array.getElem?_append_right (by omega), Nat.add_sub_cancel_left]
 simp
theorem acI_three {w0 w : World} {n ob : Nat} {g : GP} {X : Nat → Nat → Bool} {SL TH : Nat → Bool} {mv : Value} {cb : Nat} {c : Nat → Int} {o0 o1 o2 : Obj} (hbe : Below w0.heap.size w0 w) (hgr : GrM w w0.heap.size n g X SL TH mv) (hcls : NRow w cb n c) (hres : Blk w ob 31 [.slice none 0 0, .slice none 0 0, .int .i64 0]) (hob : w0.heap.size ≤ ob)
  (kr ks ka : Nat) (h3 : (kr < 3 ∧ ks < 3 ∧ ka < 3) ∧ kr ≠ ks) (e1 : [o0, o1, o2][ka]? = some (.cells (alC (w.heap.size + kr) (w.heap.size + ks) n 0).toArray 31)) (e2 : [o0, o1, o2][kr]? = some (.cells (rowL n fun _ => .int .i64 0).toArray 3)) (e3 : [o0, o1, o2][ks]? = some (.cells (rowL n fun _ => .int .i64 0).toArray 3)) :
  AcI w0 (((w.alloc o0).alloc o1).alloc o2).drew n ob g X SL TH mv cb c (w.heap.size + ka) (w.heap.size + kr) (w.heap.size + ks) (fun r => if r < 0 then -1 else 0) (fun r => if r < 0 then -1 else 0) 0 := by
 have hbe3 : Below w.heap.size w (((w.alloc o0).alloc o1).alloc o2).drew := ((((Below.refl _ w).alloc (Nat.le_refl _) o0).alloc (by simp) o1).alloc (by simp; omega) o2).drew
 have hs := hbe.size
 have hcl := Blk.lt hcls
 have hol := Blk.lt hres
 refine ⟨hbe.trans (hbe3.mono hbe.size), hgr.below hbe3, Blk.below hcls hbe3 hcl, hres.below hbe3 hol, (three_heapC w o0 o1 o2 ka h3.1.2.2).trans e1, ?_, ?_, by omega, by omega⟩
 ·exact (three_heapC w o0 o1 o2 kr h3.1.1).trans e2
 ·exact (three_heapC w o0 o1 o2 ks h3.1.2.1).trans e3
set_option maxRecDepth 100000 in
set_option maxHeartbeats 8000000 in
theorem allocate_new (w : World) (f : VF) (hf : f.Ok w) (k : Int) (hk : I64 k) : Calls Tryz.prog 8 #[f.v, .int .i64 k] w (AllocPostN f k w) := by
 have hb0 : Below w.heap.size w ((w.alloc (.cells (fC f).toArray 25)).alloc (.cells #[.slice none 0 0, .slice none 0 0, .int .i64 0] 31)) := ((Below.refl _ _).alloc (Nat.le_refl _) _).alloc (by simp) _
 have hbf := (Blk.new w (fC f) 25).alloc (.cells #[.slice none 0 0, .slice none 0 0, .int .i64 0] 31)
 have hbr := Blk.new (w.alloc (.cells (fC f).toArray 25)) [.slice none 0 0, .slice none 0 0, .int .i64 0] 31
 rw [World.size_alloc] at hbr
 have HCK := Lib.hid fun wx (h : Below w.heap.size w wx) => vcheck_any wx f (hf.below h)
 have HSZ : Hid ((Tryz.prog.info? 31).map (·.size) = some 3) := by unfold Hid; kernel_rfl
 unfold VF.v at HCK ⊢
 have HF := Lib.hid hf
 have HB0 := Lib.hid hb0
 have HBF := Lib.hid hbf
 have HBR := Lib.hid hbr
 have hk1 := hk.1
 have hk2 := hk.2
 clear hf hb0 hbf hbr hk
 go_enter Tryz.func8, Tryz.ntmps8
 go_upto_region 1 with fail
 change Code.wp _ _ _ _ ((w.alloc (.cells (fC f).toArray 25)).alloc (.cells #[.slice none 0 0, .slice none 0 0, .int .i64 0] 31))
 obtain ⟨pf, hpf⟩ : ∃ x, x = w.heap.size := ⟨_, rfl⟩
 have HB1 : Hid (Below w.heap.size w ((w.alloc (.cells (fC f).toArray 25)).alloc (.cells #[.slice none 0 0, .slice none 0 0, .int .i64 0] 31))) := HB0.out
 rw [← hpf] at HBF HBR ⊢
 have HPF : Hid (w.heap.size ≤ pf + 1) := by show _ ≤ _; omega
 generalize (w.alloc (.cells (fC f).toArray 25)).alloc (.cells #[.slice none 0 0, .slice none 0 0, .int .i64 0] 31) = w1 at HB1 HBF HBR ⊢
 clear HB0 hpf
 have c0 := HBF.out.cell 0
 have c1 := HBF.out.cell 1
 have c2 := HBF.out.cell 2
 have c3 := HBF.out.cell 3
 simp only [fC, List.getElem?_cons_zero, List.getElem?_cons_succ] at c0 c1 c2 c3
 go_wp2_with fail
 refine (HCK.out w1 HB1.out).mono ?_
 rintro e w2 ⟨rfl, hb2⟩
 have HB2 := Lib.hid (HB1.out.trans (hb2.mono HB1.out.size))
 have HBF2 := Lib.hid (HBF.out.below hb2 HBF.out.lt)
 have HBR2 := Lib.hid (HBR.out.below hb2 HBR.out.lt)
 clear hb2 HB1 HBF HBR c0 c1 c2 c3 HCK
 by_cases hz : fnE f = 0
 ·rw [hz]
  have HZ := Lib.hid hz
  clear hz
  by_cases hkr : 1 ≤ k ∧ k ≤ 10
  ·obtain ⟨n, hok⟩ := fnOk HF.out HZ.out
   obtain ⟨nb, hnb⟩ : ∃ x, x = f.blocks.length := ⟨_, rfl⟩
   rw [← hnb] at hok
   have HOK := Lib.hid hok
   have hn2 := hok.n2
   have HREG := Lib.hid hok.regs
   obtain ⟨kn, hkn⟩ : ∃ x : Nat, k = (x : Int) := ⟨k.toNat, by omega⟩
   subst hkn
   have hkn1 : 1 ≤ kn ∧ kn ≤ 10 := by omega
   have c0 := HBF2.out.cell 0
   have c1 := HBF2.out.cell 1
   have c2 := HBF2.out.cell 2
   have c3 := HBF2.out.cell 3
   simp only [fC, List.getElem?_cons_zero, List.getElem?_cons_succ] at c0 c1 c2 c3
   have hbd := build_any w2 f (HF.out.below HB2.out) n nb hok HZ.out
   unfold VF.v at hbd
   have HBD := Lib.hid hbd
   have q1 : decide ((kn : Int) < 1) = false := by simp; omega
   have q2 : decide ((10 : Int) < (kn : Int)) = false := by simp; omega
   clear hok hnb hbd
   go_wp2_with fail
   refine HBD.out.mono ?_
   rintro e w3 ⟨g, XL, EL, mv, rfl, hb3, hXL, hEL, hgr, hmo⟩
   subst hEL
   have HB3 := Lib.hid (HB2.out.trans (hb3.mono HB2.out.size))
   have HBF3 := Lib.hid (HBF2.out.below hb3 HBF2.out.lt)
   have HBR3 := Lib.hid (HBR2.out.below hb3 HBR2.out.lt)
   obtain ⟨cs, hcs⟩ : ∃ cs, cs = blksC n f (fun i => aftF (f.blk i).e.to XL) nb := ⟨_, rfl⟩
   obtain ⟨X0, hX0⟩ : ∃ X, X = parX n (f.params.map Int.toNat) (XL 0) (blksC n f (fun i => aftF (f.blk i).e.to XL) nb).X f.pn := ⟨_, rfl⟩
   obtain ⟨TH0, hTH0⟩ : ∃ T, T = fun r => if r = 0 then false else markL (blksC n f (fun i => aftF (f.blk i).e.to XL) nb).TH (f.params.map Int.toNat) r := ⟨_, rfl⟩
   rw [← hX0, ← hTH0, ← hcs] at hgr
   rw [← hcs] at hmo
   have hsz : SymZ X0 := by rw [hX0]; exact SymZ.par _ _ _ (SymZ.blks _ _ _ _) _
   have hmv := moves_ok HOK.out (fun i => aftF (f.blk i).e.to XL)
   have hml := blksC_mv n f (fun i => aftF (f.blk i).e.to XL) (fun i hi => HOK.out.ins i hi) nb (Nat.le_refl _)
   rw [← hcs] at hmv hml
   have hnb2 := HOK.out.nb2
   have hml2 : cs.mv.length ≤ 20000000 := by omega
   have hgr' : GrM w3 w.heap.size n g X0 cs.SL TH0 mv := ⟨hgr.box, ownR_weaken hgr.rows HB2.out.size, hgr.row, hgr.inj, hgr.slot, hgr.there, hgr.ne, ⟨Nat.le_trans HB2.out.size hgr.lo.1.1, Nat.le_trans HB2.out.size hgr.lo.1.2.1, Nat.le_trans HB2.out.size hgr.lo.1.2.2⟩, fun i hi => Nat.le_trans HB2.out.size (hgr.lo.2 i hi)⟩
   have hco := coalesce_any w3 w.heap.size n g X0 cs.SL TH0 mv cs.mv hgr' (ownR_weaken hmo HB2.out.size) hmv hml2 (hsz.kinv TH0) kn (by omega) hn2
   have HKI := Lib.hid ((hsz.kinv TH0).coal kn cs.SL hmv)
   have HLW : Hid (∀ a : AL, (∃ reg slot : Nat → Int, a.reg = (List.range n).map reg ∧ a.slot = (List.range n).map slot ∧ ColorA n kn cs.SL (coalK kn n cs.SL cs.mv (startK X0 TH0)) reg slot a.k) → AllocLaw f n nb kn a) := fun a h => ⟨XL, hXL, by rw [← hX0, ← hTH0, ← hcs]; exact h⟩
   have HCO := Lib.hid hco
   have HG3 := Lib.hid hgr'
   clear hb3 hXL hgr hmo hcs hX0 hTH0 hsz hmv hml hml2 hgr' hco HBD HB2 HBF2 HBR2 c0 c1 c2 c3 q1 q2
   go_wp2_with fail
   refine HCO.out.mono ?_
   rintro e w4 ⟨cb, rfl, hci⟩
   obtain ⟨s, hs⟩ : ∃ s, s = coalK kn n cs.SL cs.mv (startK X0 TH0) := ⟨_, rfl⟩
   rw [← hs] at hci HKI HLW
   have HB4 : Hid (Below w.heap.size w w4) := HB3.out.trans (hci.rs.toBelow (fun q hq => by
    rcases hq with ⟨i, hi, e⟩ | e
    ·rw [e]; exact HG3.out.lo.2 i hi
    ·rw [e]; exact HG3.out.lo.1.2.2) HB3.out.size)
   have hfr : ∀ (q : Nat) (t : TypeId) (cs' : List Value), Blk w3 q t cs' → t ≠ 4 → w4.heap[q]? = w3.heap[q]? := fun q t cs' hq ht => hci.rs.block _ (Blk.lt hq) (fun hh => by
    rcases hh with ⟨i, hi, e⟩ | e
    ·exact brow_ne (HG3.out.row i hi) hq ht e
    ·exact brow_ne HG3.out.there hq ht e)
   have HBF4 : Hid (Blk w4 pf 25 (fC f)) := Blk.of_heap HBF3.out (hfr _ _ _ HBF3.out (by decide))
   have HBR4 : Hid (Blk w4 (pf + 1) 31 [.slice none 0 0, .slice none 0 0, .int .i64 0]) := Blk.of_heap HBR3.out (hfr _ _ _ HBR3.out (by decide))
   have HGR4 := Lib.hid hci.gr
   have HCL4 := Lib.hid hci.cls
   clear hfr hci hs HCO HG3 HB3 HBF3 HBR3
   have c2 := HBF4.out.cell 2
   simp only [fC, List.getElem?_cons_zero, List.getElem?_cons_succ] at c2
   rw [HREG.out] at c2
   have hpl := HBF4.out.lt
   have hmk : ∀ w : World, (Instr.makeSlice 22 (.int .i64 (n : Int)) (.int .i64 (n : Int))).run Tryz.prog w = .ok (.slice (some ⟨w.heap.size, 0, none⟩) n n) (w.alloc (.cells (rowL n fun _ => .int .i64 0).toArray 3)) := fun w => run_make_rep (P := Tryz.prog) 22 3 (.int .i64 0) 8 Tryz.underlying22 Tryz.infoT3 rfl n (by omega) (by omega) w
   go_upto_region 8 with fail
   go_cut [9] from 34 (fun v wx => ∃ ab rb sb, v = .pointer (some ⟨ab, 0, none⟩) ∧ AcI w wx n (pf + 1) g s.X cs.SL s.TH mv cb (fun r => (s.c r : Int)) ab rb sb (fun r => if r < 0 then -1 else 0) (fun r => if r < 0 then -1 else 0) 0)
   case first => as_aux_lemma =>
    go_region
    all_goals go_wp2_with fail
    all_goals go_meet
    ·exact ⟨_, _, _, rfl, acI_three HB4.out HGR4.out HCL4.out HBR4.out HPF.out 0 1 2 (by decide) rfl rfl rfl⟩
    ·exact ⟨_, _, _, rfl, acI_three HB4.out HGR4.out HCL4.out HBR4.out HPF.out 0 2 1 (by decide) rfl rfl rfl⟩
    ·exact ⟨_, _, _, rfl, acI_three HB4.out HGR4.out HCL4.out HBR4.out HPF.out 1 0 2 (by decide) rfl rfl rfl⟩
    ·exact ⟨_, _, _, rfl, acI_three HB4.out HGR4.out HCL4.out HBR4.out HPF.out 2 0 1 (by decide) rfl rfl rfl⟩
    ·exact ⟨_, _, _, rfl, acI_three HB4.out HGR4.out HCL4.out HBR4.out HPF.out 1 2 0 (by decide) rfl rfl rfl⟩
    ·exact ⟨_, _, _, rfl, acI_three HB4.out HGR4.out HCL4.out HBR4.out HPF.out 2 1 0 (by decide) rfl rfl rfl⟩
   case rest => as_aux_lemma =>
    obtain ⟨ab, rb, sb, rfl, hac⟩ := hcut
    have HI0 := Lib.hid hac
    have HZE := HZ
    clear hac hmk c2 hpl HB4 HBF4 HBR4 HGR4 HCL4 HREG HF HZ
    have a0 := HI0.out.box.cell 0
    simp only [alC, List.getElem?_cons_zero] at a0
    go_wp2_with fail
    clear a0
    go_loopw [44] (fun u wr => ∃ j : Nat, j ≤ n ∧ u = .int .i64 (j : Int) ∧ AcI w wr n (pf + 1) g s.X cs.SL s.TH mv cb (fun r => (s.c r : Int)) ab rb sb (fun r => if r < j then -1 else 0) (fun r => if r < j then -1 else 0) 0) (fun u _ => n - (intOf u).toNat)
    case atStart => exact ⟨0, Nat.zero_le _, rfl, HI0.out⟩
    case round =>
     clear HI0
     obtain ⟨j, hj, rfl, hi⟩ := hrel
     have HI := Lib.hid hi
     clear hi
     by_cases hlt : j < n
     ·as_aux_lemma =>
      obtain ⟨wd, hwd⟩ : ∃ wd, wd = wr.drew := ⟨_, rfl⟩
      have HD := Lib.hid (HI.out.below (w' := wd) (by rw [hwd]; exact (Below.refl _ _).drew))
      have a0 := HD.out.box.cell 0
      have a1 := HD.out.box.cell 1
      simp only [alC, List.getElem?_cons_zero, List.getElem?_cons_succ] at a0 a1
      have r0 := fun z : AfterR (Keep2C ab ab) wd => (World.cell?_of_block (a := ⟨ab, 0, none⟩) z.rel.1).trans a0
      have r1 := fun z : AfterR (Keep2C ab ab) wd => (World.cell?_of_block (a := ⟨ab, 1, none⟩) z.rel.1).trans a1
      clear a0 a1 HI
      go_upto_region 12 with fail
      refine wp_region_eagerRT (Keep2C ab ab) [(0, true), (1, true), (2, true), (3, true), (4, true), (5, true), (6, true), (7, false), (8, true), (9, false)] (by kernel_rfl) (by kernel_rfl) ?_
      rw [← hwd]
      clear hwd
      repeat (refine eagR_readT rfl ?_; go_big_quiet_step (fail); refine wpQuiet_nil ?_)
      clear r0 r1
      have x1 := HD.out.reg.cell hlt
      have f1 := Blk.free HD.out.reg j
      have hab := nrow_ne HD.out.reg HD.out.box (by decide)
      refine eagR_doesT rfl rfl ?_
      intro K hK
      go_simp
      refine hK _ _ (fun _ => ⟨Below.heap_setCell _ _ _ _ hab, Below.heap_setCell _ _ _ _ hab⟩) ?_
      clear hK K x1 f1 hab
      go_simp
      have HD2 := Lib.hid (HD.out.setR j (-1))
      generalize wd.setCell ⟨rb, j, none⟩ (.int .i64 (-1)) = w2' at HD2 ⊢
      repeat (refine eagR_readT rfl ?_; go_big_quiet_step (fail); refine wpQuiet_nil ?_)
      have x2 := HD2.out.slot.cell hlt
      have f2 := Blk.free HD2.out.slot j
      refine eagR_freeT rfl rfl (by kernel_rfl) ?_
      intro K hK
      go_simp
      refine hK _ _ ?_
      clear hK K x2 f2
      go_simp
      refine eagR_endT ?_
      have HD3 := Lib.hid ((HD2.out.setS j (-1)).congr (R' := fun r => if r < j + 1 then -1 else 0) (S' := fun r => if r < j + 1 then -1 else 0) (fun r _ => by
       by_cases e : r = j
       ·subst e; rw [if_pos rfl, if_pos (by omega)]
       ·rw [if_neg e]
        by_cases e2 : r < j
        ·rw [if_pos e2, if_pos (by omega)]
        ·rw [if_neg e2, if_neg (by omega)]) (fun r _ => by
       by_cases e : r = j
       ·subst e; rw [if_pos rfl, if_pos (by omega)]
       ·rw [if_neg e]
        by_cases e2 : r < j
        ·rw [if_pos e2, if_pos (by omega)]
        ·rw [if_neg e2, if_neg (by omega)]))
      clear HD2 HD
      go_wp2_with fail
      go_roundw
      case rel => exact ⟨j + 1, by omega, by go_num, HD3.out⟩
      case measure => simp [intOf]; omega
     ·have ej : n = j := by omega
      subst ej
      have HI1 := Lib.hid (HI.out.congr (R' := fun _ => -1) (S' := fun _ => -1) (fun r hr => by rw [if_pos hr]) (fun r hr => by rw [if_pos hr]))
      have HOR := Lib.hid (order_any wr w.heap.size n g s.X cs.SL s.TH mv HI1.out.gr HKI.out.sym kn (by omega) hn2)
      clear HI
      go_wp2_with fail
      refine HOR.out.mono ?_
      rintro e w5 ⟨l, la, lc, rfl, hlo, hb5, hel⟩
      obtain ⟨zl, hzl⟩ : ∃ z, z = (l.map fun (r : Nat) => (r : Int)).map (Value.int .i64) := ⟨_, rfl⟩
      rw [← hzl] at hlo
      have HZL := Lib.hid hzl
      obtain ⟨B0, hB0⟩ : ∃ x, x = wr.heap.size := ⟨_, rfl⟩
      rw [← hB0] at hlo
      have HRL : Hid (rb < B0 ∧ sb < B0 ∧ ab < B0) := ⟨by rw [hB0]; exact Blk.lt HI1.out.reg, by rw [hB0]; exact Blk.lt HI1.out.slot, by rw [hB0]; exact Blk.lt HI1.out.box⟩
      have HI5 := Lib.hid (HI1.out.below hb5)
      have HLO := Lib.hid hlo
      have HEL := Lib.hid hel
      have HMB : Hid (∀ b ∈ l, b < n) := fun b hb => by
       obtain ⟨left, h1, _⟩ := hel
       exact (h1.mem.1 b (List.mem_reverse.2 hb)).1
      have HLW2 : Hid (∀ (R S : Nat → Int) (K : Int), RegRun n s.X kn l R → SlotRun n s.X s.TH R n S K → ∀ a : AL, a.k = K → a.reg = (List.range n).map (fun r => R (s.rep r)) → a.slot = (List.range n).map (fun r => S (s.rep r)) → AllocLaw f n nb kn a) := fun R S K h1 h2 a h3 h4 h5 => HLW.out a ⟨_, _, h4, h5, ⟨l, R, S, HEL.out, h1, by rw [h3]; exact h2, fun _ _ => rfl, fun _ _ => rfl⟩⟩
      clear hzl hB0 hlo hb5 hel HOR HI1 HLW
      have hll := HLO.out.1
      go_wp2_with fail
      go_loopw [60] (fun u wx => ∃ (i : Nat) (R : Nat → Int), i ≤ l.length ∧ u = .int .i64 (i : Int) ∧ RegRun n s.X kn (l.take i) R ∧ AcI w wx n (pf + 1) g s.X cs.SL s.TH mv cb (fun r => (s.c r : Int)) ab rb sb R (fun _ => -1) 0 ∧ wx.ownsRow B0 3 1 (.slice la l.length lc) l.length zl) (fun u _ => l.length - (intOf u).toNat)
      case atStart => exact ⟨0, _, Nat.zero_le _, rfl, .nil, HI5.out, HLO.out⟩
      case round =>
       clear HI5 HLO hll hlt hj
       obtain ⟨i, R, hi0, rfl, hrr, hi, hlo⟩ := hrel
       have HI := Lib.hid hi
       have HLO := Lib.hid hlo
       have HRR := Lib.hid hrr
       clear hi hlo hrr
       by_cases hlt : i < l.length
       ·as_aux_lemma =>
        obtain ⟨r, hr⟩ : ∃ r, r = l[i] := ⟨_, rfl⟩
        have hrn : r < n := HMB.out r (by rw [hr]; exact List.getElem_mem _)
        have HT : Hid (l.take (i + 1) = l.take i ++ [r]) := by rw [hr]; exact List.take_succ_eq_append_getElem hlt
        have ez : zl[i]? = some (.int .i64 (r : Int)) := by
         rw [HZL.out, List.getElem?_map, List.getElem?_map, List.getElem?_eq_getElem hlt, hr]; rfl
        obtain ⟨q, cap, hv, _, hql, hq1, hq2⟩ := ownG_has HLO.out (by omega)
        injection hv with e1 e2 e3
        subst e1 e3
        unfold maxLen at hq2
        have cl := HLO.out.cellAt i (by omega)
        rw [ez] at cl
        have HLE := Lib.hid (least_any wr w.heap.size n g s.X cs.SL s.TH mv HI.out.gr r 1 hrn (by omega) hn2.2 rb R HI.out.reg)
        have a0 := HI.out.box.cell 0
        simp only [alC, List.getElem?_cons_zero] at a0
        have x1 := HI.out.reg.cell hrn
        have f1 := Blk.free HI.out.reg r
        clear hr ez e2
        go_wp2_with fail
        refine HLE.out.mono ?_
        rintro e w9 ⟨⟨m, rfl, hm⟩, hw9⟩
        rw [hw9]
        have hm1 := hm.1
        have hm2 := held_le hm.2.2
        have hm3 := cntY_le n (s.X r)
        have hm4 : m ≤ 9000 := by omega
        have HNX := Lib.hid (RegRun.snoc (l.take i) R r m HRR.out hrn hm)
        clear hw9 w9 HLE hm hm2 hm3
        by_cases hmk2 : m ≤ kn
        ·have HS := Lib.hid ((HI.out.setR r (m : Int)).congr (R' := fun q => if q = r ∧ m ≤ kn then (m : Int) else R q) (S' := fun _ => -1) (fun q _ => by
          by_cases e : q = r
          ·rw [if_pos e, if_pos ⟨e, hmk2⟩]
          ·rw [if_neg e, if_neg (fun h => e h.1)]) (fun _ _ => rfl))
         have HO2 := Lib.hid (ownG_other (a := ⟨rb, r, none⟩) HLO.out (fun e => by have h9 : B0 ≤ rb := (HLO.out.lt _ e).1; have := HRL.out.1; omega) (.int .i64 (m : Int)))
         have q1 : decide ((m : Int) ≤ (kn : Int)) = true := by simp; omega
         clear HI HLO
         go_wp2_with fail
         go_roundw
         case rel => exact ⟨i + 1, _, by omega, by go_num, by rw [HT.out]; exact HNX.out, HS.out, HO2.out⟩
         case measure => simp [intOf]; omega
        ·have HS := Lib.hid (HI.out.congr (R' := fun q => if q = r ∧ m ≤ kn then (m : Int) else R q) (S' := fun _ => -1) (fun q _ => by rw [if_neg (fun h => hmk2 h.2)]) (fun _ _ => rfl))
         have q1 : decide ((m : Int) ≤ (kn : Int)) = false := by simp; omega
         clear HI a0 x1 f1
         go_wp2_with fail
         go_roundw
         case rel => exact ⟨i + 1, _, by omega, by go_num, by rw [HT.out]; exact HNX.out, HS.out, HLO.out⟩
         case measure => simp [intOf]; omega
       ·as_aux_lemma =>
        have ei : i = l.length := by omega
        have HRR2 : Hid (RegRun n s.X kn l R) := by have := HRR.out; rw [ei, List.take_length] at this; exact this
        have HLW3 := Lib.hid fun S K h2 => HLW2.out R S K HRR2.out h2
        have a0 := HI.out.box.cell 0
        simp only [alC, List.getElem?_cons_zero] at a0
        clear ei HRR HLW2 HLO HEL HMB HRL HZL
        go_wp2_with fail
        clear a0
        have HI2 := HI
        go_loopw [81] (fun u wx => ∃ (r : Nat) (S : Nat → Int) (K : Int), r ≤ n ∧ u = .int .i64 (r : Int) ∧ SlotRun n s.X s.TH R r S K ∧ AcI w wx n (pf + 1) g s.X cs.SL s.TH mv cb (fun r => (s.c r : Int)) ab rb sb R S K) (fun u _ => n - (intOf u).toNat)
        case atStart => exact ⟨0, _, 0, Nat.zero_le _, rfl, .zero, HI2.out⟩
        case round =>
         clear HI HI2 hlt hi0
         obtain ⟨r, S, K, hr, rfl, hsr, hi⟩ := hrel
         have HI := Lib.hid hi
         have HSR := Lib.hid hsr
         clear hi hsr
         by_cases hlt : r < n
         ·have g2 := HI.out.gr.box.cell 2
          have a0 := HI.out.box.cell 0
          simp only [alC, List.getElem?_cons_zero, List.getElem?_cons_succ] at g2 a0
          have x1 := HI.out.gr.there.cell hlt
          have x2 := HI.out.reg.cell hlt
          obtain ⟨gb, hgb⟩ : ∃ x, x = g.gb := ⟨_, rfl⟩
          obtain ⟨tb, htb⟩ : ∃ x, x = g.tb := ⟨_, rfl⟩
          rw [← hgb, ← htb] at g2
          rw [← htb] at x1
          rw [← hgb]
          have HGB := Lib.hid hgb
          obtain ⟨tv, htv⟩ : ∃ x, x = s.TH r := ⟨_, rfl⟩
          obtain ⟨z, hz⟩ : ∃ x, x = R r := ⟨_, rfl⟩
          rw [← htv] at x1
          rw [← hz] at x2
          have hzb := HRR2.out.bd r
          rw [← hz] at hzb
          clear hgb htb
          by_cases hc : tv = true ∧ z < 0
          ·obtain ⟨rfl, hz0⟩ := hc
           have q1 : decide (z < 0) = true := by simp [hz0]
           have HPUT := Lib.hid fun m hm => SlotRun.put r S K m HSR.out htv.symm (by rw [← hz]; exact hz0) hm
           have hK := HSR.out.bd.1
           clear htv hz hzb hz0
           obtain ⟨wd, hwd⟩ : ∃ wd, wd = wr.drew := ⟨_, rfl⟩
           have HD := Lib.hid (HI.out.below (w' := wd) (by rw [hwd]; exact (Below.refl _ _).drew))
           have HLE := Lib.hid (least_any wd w.heap.size n g s.X cs.SL s.TH mv HD.out.gr r 0 hlt (by omega) hn2.2 sb S HD.out.slot)
           rw [← HGB.out] at HLE
           have a1 := HD.out.box.cell 1
           simp only [alC, List.getElem?_cons_zero, List.getElem?_cons_succ] at a1
           have r1 := fun z : AfterR (Keep2C ab ab) wd => (World.cell?_of_block (a := ⟨ab, 1, none⟩) z.rel.1).trans a1
           go_upto_region 25 with fail
           clear a1 HI g2 a0 x1 x2
           refine wp_region_eagerRT (Keep2C ab ab) [(0, true), (1, true), (2, true), (3, true), (4, true), (5, true), (6, true), (7, false), (8, true), (9, false)] (by kernel_rfl) (by kernel_rfl) ?_
           rw [← hwd]
           clear hwd
           repeat (refine eagR_readT rfl ?_; go_big_quiet_step (fail); refine wpQuiet_nil ?_)
           clear r1
           refine eagR_doesT rfl rfl ?_
           intro K' hK
           go_simp
           refine HLE.out.mono ?_
           rintro e w9 ⟨⟨m, rfl, hm⟩, hw9⟩
           rw [hw9]
           have HPUT2 := Lib.hid (HPUT.out m hm)
           have hm2 := held_le hm.2.2
           have hm3 := cntY_le n (s.X r)
           have hm4 : m ≤ 9000 := by omega
           refine hK _ _ (fun _ => ⟨rfl, rfl⟩) ?_
           clear hK K' HLE hw9 w9 HPUT hm hm2 hm3
           go_simp
           repeat (refine eagR_readT rfl ?_; go_big_quiet_step (fail); refine wpQuiet_nil ?_)
           have x1 := HD.out.slot.cell hlt
           have f1 := Blk.free HD.out.slot r
           refine eagR_freeT rfl rfl (by kernel_rfl) ?_
           intro K' hK
           go_simp
           refine hK _ _ ?_
           clear hK K' x1 f1
           go_simp
           refine eagR_endT ?_
           have HS := Lib.hid (HD.out.setS r (m : Int))
           clear HD
           generalize wd.setCell ⟨sb, r, none⟩ (.int .i64 (m : Int)) = w6 at HS ⊢
           obtain ⟨S', hS'⟩ : ∃ S', S' = fun q => if q = r then (m : Int) else S q := ⟨_, rfl⟩
           have hSr : S' r = (m : Int) := by rw [hS']; simp
           rw [← hS'] at HS HPUT2
           obtain ⟨we, hwe⟩ : ∃ we, we = w6.drew := ⟨_, rfl⟩
           have HD := Lib.hid (HS.out.below (w' := we) (by rw [hwe]; exact (Below.refl _ _).drew))
           clear HS hS'
           have a1 := HD.out.box.cell 1
           have a2 := HD.out.box.cell 2
           simp only [alC, List.getElem?_cons_zero, List.getElem?_cons_succ] at a1 a2
           have y1 := HD.out.slot.cell hlt
           rw [hSr] at y1
           have r1 := fun z : AfterR (Keep2C ab sb) we => (World.cell?_of_block (a := ⟨ab, 1, none⟩) z.rel.1).trans a1
           have r2 := fun z : AfterR (Keep2C ab sb) we => (World.cell?_of_block (a := ⟨ab, 2, none⟩) z.rel.1).trans a2
           have r3 := fun z : AfterR (Keep2C ab sb) we => (World.cell?_of_block (a := ⟨sb, r, none⟩) z.rel.2).trans y1
           have f2 := Blk.free HD.out.box 2
           have HK2 : Hid (∀ K2 : Int, K2 = max K ((m : Int) + 1) → AcI w (we.setCell ⟨ab, 2, none⟩ (.int .i64 K2)) n (pf + 1) g s.X cs.SL s.TH mv cb (fun r => (s.c r : Int)) ab rb sb R S' (max K ((m : Int) + 1))) := fun K2 e => by rw [← e]; exact HD.out.setK K2
           go_upto_region 26 with fail
           clear hSr y1
           refine wp_region_eagerRT (Keep2C ab sb) [(0, true), (1, true), (2, true), (3, true), (4, true), (5, true), (6, true), (7, true), (8, true), (9, true), (10, false)] (by kernel_rfl) (by kernel_rfl) ?_
           rw [← hwe]
           clear hwe
           by_cases hKm : K < (m : Int) + 1
           ·have HK3 := Lib.hid (HK2.out ((m : Int) + 1) (by omega))
            have q5 : decide (K < (m : Int) + 1) = true := by simp [hKm]
            clear HK2
            repeat (refine eagR_readT rfl ?_; go_big_quiet_step (fail); refine wpQuiet_nil ?_)
            clear r1 r2 r3
            refine eagR_freeT rfl rfl (by kernel_rfl) ?_
            intro K' hK
            go_simp
            refine hK _ _ ?_
            clear hK K' a1 a2 f2
            go_simp
            refine eagR_endT ?_
            go_wp2_with fail
            go_roundw
            case rel => exact ⟨r + 1, S', _, by omega, by go_num, HPUT2.out, HK3.out⟩
            case measure => simp [intOf]; omega
           ·have HK3 := Lib.hid (HK2.out K (by omega))
            have q5 : decide (K < (m : Int) + 1) = false := by simp; omega
            clear HK2
            repeat (refine eagR_readT rfl ?_; go_big_quiet_step (fail); refine wpQuiet_nil ?_)
            clear r1 r2 r3
            refine eagR_freeT rfl rfl (by kernel_rfl) ?_
            intro K' hK
            go_simp
            refine hK _ _ ?_
            clear hK K' a1 a2 f2
            go_simp
            refine eagR_endT ?_
            go_wp2_with fail
            go_roundw
            case rel => exact ⟨r + 1, S', _, by omega, by go_num, HPUT2.out, HK3.out⟩
            case measure => simp [intOf]; omega
          ·have HSK := Lib.hid (SlotRun.skip r S K HSR.out (by rw [← htv, ← hz]; exact hc))
           cases tv with
           | false =>
            clear hc htv hz hzb
            go_wp2_with fail
            go_roundw
            case rel => exact ⟨r + 1, S, K, by omega, by go_num, HSK.out, HI.out⟩
            case measure => simp [intOf]; omega
           | true =>
            have q1 : decide (z < 0) = false := by simp; simp at hc; omega
            clear hc htv hz hzb
            go_wp2_with fail
            go_roundw
            case rel => exact ⟨r + 1, S, K, by omega, by go_num, HSK.out, HI.out⟩
            case measure => simp [intOf]; omega
         ·have er : n = r := by omega
          subst er
          have HIL : Hid (AcI w wr n (pf + 1) g s.X cs.SL s.TH mv cb (fun r => (s.c r : Int)) ab rb sb (fun q => if q < 0 then R (s.rep q) else R q) (fun q => if q < 0 then S (s.rep q) else S q) K) := HI.out
          have hK := HSR.out.bd.1
          have HALL := Lib.hid (HLW3.out S K HSR.out)
          have HSB := Lib.hid HSR.out.bd.2
          obtain ⟨rank, hcr⟩ := HKI.out.cr
          have HCR := Lib.hid hcr
          have a0 := HI.out.box.cell 0
          simp only [alC, List.getElem?_cons_zero] at a0
          clear HI HSR HLW3 hcr
          go_wp2_with fail
          clear a0
          go_loopw [122] (fun u wx => ∃ j : Nat, j ≤ n ∧ u = .int .i64 (j : Int) ∧ AcI w wx n (pf + 1) g s.X cs.SL s.TH mv cb (fun r => (s.c r : Int)) ab rb sb (fun q => if q < j then R (s.rep q) else R q) (fun q => if q < j then S (s.rep q) else S q) K) (fun u _ => n - (intOf u).toNat)
          case atStart => exact ⟨0, Nat.zero_le _, rfl, HIL.out⟩
          case round =>
           clear HIL hlt hr
           obtain ⟨j, hj, rfl, hi⟩ := hrel
           have HI := Lib.hid hi
           clear hi
           by_cases hlt : j < n
           ·as_aux_lemma =>
            obtain ⟨wd, hwd⟩ : ∃ wd, wd = wr.drew := ⟨_, rfl⟩
            have HD := Lib.hid (HI.out.below (w' := wd) (by rw [hwd]; exact (Below.refl _ _).drew))
            have HOF := Lib.hid (cof_any wd cb n s.c s.rep rank HD.out.cls HCR.out hn2.2 j hlt)
            have hrl := HCR.out.rl j hlt
            have hid := HCR.out.idem j hlt
            have a0 := HD.out.box.cell 0
            have a1 := HD.out.box.cell 1
            simp only [alC, List.getElem?_cons_zero, List.getElem?_cons_succ] at a0 a1
            have y0 := HD.out.reg.cell hrl
            have y1 := HD.out.slot.cell hrl
            have e0 : (if s.rep j < j then R (s.rep (s.rep j)) else R (s.rep j)) = R (s.rep j) := by rw [hid]; split <;> rfl
            have e1 : (if s.rep j < j then S (s.rep (s.rep j)) else S (s.rep j)) = S (s.rep j) := by rw [hid]; split <;> rfl
            rw [e0] at y0
            rw [e1] at y1
            obtain ⟨p, hp⟩ : ∃ p, p = s.rep j := ⟨_, rfl⟩
            rw [← hp] at y0 y1 hrl HOF
            have HP := Lib.hid hp
            obtain ⟨z0, hz0⟩ : ∃ z, z = R p := ⟨_, rfl⟩
            obtain ⟨z1, hz1⟩ : ∃ z, z = S p := ⟨_, rfl⟩
            rw [← hz0] at y0
            rw [← hz1] at y1
            have HZ0 := Lib.hid hz0
            have HZ1 := Lib.hid hz1
            have r0 := fun z : AfterR (Keep2P ab sb ⟨rb, p, none⟩) wd => (World.cell?_of_block (a := ⟨ab, 0, none⟩) z.rel.1).trans a0
            have r1 := fun z : AfterR (Keep2P ab sb ⟨rb, p, none⟩) wd => (World.cell?_of_block (a := ⟨ab, 1, none⟩) z.rel.1).trans a1
            have r2 := fun z : AfterR (Keep2P ab sb ⟨rb, p, none⟩) wd => z.rel.2.2.trans y0
            have r3 := fun z : AfterR (Keep2P ab sb ⟨rb, p, none⟩) wd => (World.cell?_of_block (a := ⟨sb, p, none⟩) z.rel.2.1).trans y1
            have HY0 := Lib.hid y0
            clear a0 a1 y0 y1 e0 e1 hid hp hz0 hz1 HI
            go_upto_region 31 with fail
            refine wp_region_eagerRT (Keep2P ab sb ⟨rb, p, none⟩) [(0, true), (1, true), (2, true), (3, true), (4, true), (5, true), (6, true), (7, true), (8, true), (9, true), (13, true), (14, true), (15, true), (16, true), (10, false), (11, true), (12, true), (17, false), (18, true), (19, true), (20, true), (21, false), (22, true), (23, false)] (by kernel_rfl) (by kernel_rfl) ?_
            rw [← hwd]
            clear hwd
            repeat (refine eagR_readT rfl ?_; go_big_quiet_step (fail); refine wpQuiet_nil ?_)
            refine eagR_doesT rfl rfl ?_
            intro K' hK'
            go_simp
            refine HOF.out.mono ?_
            rintro e w9 ⟨rfl, hw9⟩
            rw [hw9]
            refine hK' _ _ (fun _ => ⟨rfl, rfl, rfl⟩) ?_
            clear hK' K' hw9 w9
            go_simp
            repeat (refine eagR_readT rfl ?_; go_big_quiet_step (fail); refine wpQuiet_nil ?_)
            refine eagR_doesT rfl rfl ?_
            intro K' hK'
            go_simp
            refine HOF.out.mono ?_
            rintro e w9 ⟨rfl, hw9⟩
            rw [hw9]
            refine hK' _ _ (fun _ => ⟨rfl, rfl, rfl⟩) ?_
            clear hK' K' hw9 w9 HOF
            go_simp
            repeat (refine eagR_readT rfl ?_; go_big_quiet_step (fail); refine wpQuiet_nil ?_)
            clear r0 r1 r2 r3
            have x1 := HD.out.reg.cell hlt
            have f1 := Blk.free HD.out.reg j
            have hab := nrow_ne HD.out.reg HD.out.box (by decide)
            have hsb : sb ≠ rb := fun e => HD.out.ne.1.1 e.symm
            have hcell : (wd.setCell ⟨rb, j, none⟩ (.int .i64 z0)).cell? ⟨rb, p, none⟩ = wd.cell? ⟨rb, p, none⟩ := by
             rw [HY0.out, (HD.out.reg.set j z0).cell hrl]
             by_cases e : p = j
             ·rw [if_pos e]
             ·rw [if_neg e]
              have h1 := HD.out.reg.cell hrl
              rw [HY0.out] at h1
              exact h1.symm
            refine eagR_doesT rfl rfl ?_
            intro K' hK'
            go_simp
            refine hK' _ _ (fun _ => ⟨Below.heap_setCell _ _ _ _ hab, Below.heap_setCell _ _ _ _ hsb, hcell⟩) ?_
            clear hK' K' x1 f1 hab hsb hcell HY0
            go_simp
            have HD2 := Lib.hid (HD.out.setR j z0)
            generalize wd.setCell ⟨rb, j, none⟩ (.int .i64 z0) = w2' at HD2 ⊢
            repeat (refine eagR_readT rfl ?_; go_big_quiet_step (fail); refine wpQuiet_nil ?_)
            have x2 := HD2.out.slot.cell hlt
            have f2 := Blk.free HD2.out.slot j
            refine eagR_freeT rfl rfl (by kernel_rfl) ?_
            intro K' hK'
            go_simp
            refine hK' _ _ ?_
            clear hK' K' x2 f2
            go_simp
            refine eagR_endT ?_
            have HD3 := Lib.hid ((HD2.out.setS j z1).congr (R' := fun q => if q < j + 1 then R (s.rep q) else R q) (S' := fun q => if q < j + 1 then S (s.rep q) else S q) (fun q _ => by
             by_cases e : q = j
             ·subst e; rw [if_pos rfl, if_pos (by omega), HZ0.out, HP.out]
             ·rw [if_neg e]
              by_cases e2 : q < j
              ·rw [if_pos e2, if_pos (by omega)]
              ·rw [if_neg e2, if_neg (by omega)]) (fun q _ => by
             by_cases e : q = j
             ·subst e; rw [if_pos rfl, if_pos (by omega), HZ1.out, HP.out]
             ·rw [if_neg e]
              by_cases e2 : q < j
              ·rw [if_pos e2, if_pos (by omega)]
              ·rw [if_neg e2, if_neg (by omega)]))
            clear HD2 HD
            go_wp2_with fail
            go_roundw
            case rel => exact ⟨j + 1, by omega, by go_num, HD3.out⟩
            case measure => simp [intOf]; omega
           ·as_aux_lemma =>
            have ej : n = j := by omega
            subst ej
            have HIF := Lib.hid (HI.out.congr (R' := fun q => R (s.rep q)) (S' := fun q => S (s.rep q)) (fun q hq => by rw [if_pos hq]) (fun q hq => by rw [if_pos hq]))
            have HBX : Hid (Blk wr ab 31 [.slice (some ⟨rb, 0, none⟩) n n, .slice (some ⟨sb, 0, none⟩) n n, .int .i64 K]) := HIF.out.box
            have HRS := Lib.hid HIF.out.res
            obtain ⟨a, ha⟩ : ∃ a : AL, a = ⟨some ⟨rb, 0, none⟩, n, n, (List.range n).map (fun q => R (s.rep q)), some ⟨sb, 0, none⟩, n, n, (List.range n).map (fun q => S (s.rep q)), K⟩ := ⟨_, rfl⟩
            have HAL := Lib.hid (HALL.out a (by rw [ha]) (by rw [ha]) (by rw [ha]))
            have HAV : Hid (a.v = .agg #[.slice (some ⟨rb, 0, none⟩) n n, .slice (some ⟨sb, 0, none⟩) n n, .int .i64 K]) := by show _ = _; rw [ha]; rfl
            clear HI
            go_wp2_with (first | refine wpList_load_row rfl 31 _ rfl ab rfl _ #[.slice (some ⟨rb, 0, none⟩) n n, .slice (some ⟨sb, 0, none⟩) n n, .int .i64 K] _ _ HBX.out Tryz.underlying31 rfl HSZ.out ?_ | refine wpList_store_rowTo rfl 31 _ _ rfl rfl (pf + 1) #[.slice (some ⟨rb, 0, none⟩) n n, .slice (some ⟨sb, 0, none⟩) n n, .int .i64 K] rfl rfl _ _ HRS.out HSZ.out rfl (oneC _ _ _ _ _ _ _) ?_)
            have hr4 := setRowBlkC HRS.out [.slice (some ⟨rb, 0, none⟩) n n, .slice (some ⟨sb, 0, none⟩) n n, .int .i64 K]
            refine bodyPost_ret (results_row_oneC rfl _ _ (pf + 1) _ _ _ _ rfl hr4 Tryz.underlying31 rfl HSZ.out) rfl ⟨setRowBelowC HIF.out.be HPF.out _, .inr (.inr ⟨HZE.out, hkr, n, nb, a, HOK.out, ?_, ?_, by rw [ha], by rw [ha], ?_, ?_⟩)⟩
            ·rw [HAV.out]; rfl
            ·rw [ha]
             have hne1 := nrow_ne HIF.out.reg HIF.out.res (by decide)
             have hne2 := nrow_ne HIF.out.slot HIF.out.res (by decide)
             have h1 : NRow _ rb n (fun q => R (s.rep q)) := setRowOtherC HIF.out.reg (fun e => hne1 e.symm) #[.slice (some ⟨rb, 0, none⟩) n n, .slice (some ⟨sb, 0, none⟩) n n, .int .i64 K]
             have h2 : NRow _ sb n (fun q => S (s.rep q)) := setRowOtherC HIF.out.slot (fun e => hne2 e.symm) #[.slice (some ⟨rb, 0, none⟩) n n, .slice (some ⟨sb, 0, none⟩) n n, .int .i64 K]
             refine ⟨h1.came hn2.2, by show n * 8 ≤ _; omega, fun z hz => ?_, h2.came hn2.2, by show n * 8 ≤ _; omega, fun z hz => ?_, ?_⟩
             ·obtain ⟨q, _, rfl⟩ := List.mem_map.1 hz
              rcases HRR2.out.bd (s.rep q) with h | h <;> (unfold I64; omega)
             ·obtain ⟨q, _, rfl⟩ := List.mem_map.1 hz
              rcases HSB.out (s.rep q) with h | h <;> (unfold I64; omega)
             ·show I64 K
              unfold I64; omega
            ·exact HAL.out
            ·rw [ha]
             exact ⟨fun q hq => by (injection hq with hq; rw [← hq]; exact HIF.out.lo.2.1), fun q hq => by (injection hq with hq; rw [← hq]; exact HIF.out.lo.2.2.1)⟩
  ·as_aux_lemma =>
   have q1 : decide (k < 1) = true ∨ (decide (k < 1) = false ∧ decide (10 < k) = true) := by
    by_cases h : k < 1
    ·left; simp [h]
    ·right; simp; omega
   have HKR : Hid (¬ (1 ≤ k ∧ k ≤ 10)) := hkr
   clear hkr
   rcases q1 with q1 | ⟨q1, q2⟩
   all_goals
    go_wp2_with (refine wpList_store_rowTo rfl 31 _ _ rfl rfl (pf + 1) #[.slice none 0 0, .slice none 0 0, .int .i64 0] rfl rfl _ _ HBR2.out HSZ.out rfl zeroC ?_)
    have hr4 := setRowBlkC HBR2.out [.slice none 0 0, .slice none 0 0, .int .i64 0]
    exact bodyPost_ret (results_row_oneC rfl _ _ (pf + 1) _ _ _ _ rfl hr4 Tryz.underlying31 rfl HSZ.out) rfl ⟨setRowBelowC HB2.out HPF.out _, .inr (.inl ⟨HZ.out, HKR.out, rfl⟩)⟩
 ·as_aux_lemma =>
  obtain ⟨e0, he0⟩ : ∃ e, e = fnE f := ⟨_, rfl⟩
  rw [← he0] at hz ⊢
  have hne : (e0 == 0) = false := by simpa using hz
  have HE0 : Hid (fnE f ≠ 0) := by rw [← he0]; exact hz
  have HE1 := Lib.hid he0
  clear hz he0
  go_wp2_with (refine wpList_store_rowTo rfl 31 _ _ rfl rfl (pf + 1) #[.slice none 0 0, .slice none 0 0, .int .i64 0] rfl rfl _ _ HBR2.out HSZ.out rfl zeroC ?_)
  have hr4 := setRowBlkC HBR2.out [.slice none 0 0, .slice none 0 0, .int .i64 0]
  exact bodyPost_ret (results_row_oneC rfl _ _ (pf + 1) _ _ _ _ rfl hr4 Tryz.underlying31 rfl HSZ.out) rfl ⟨setRowBelowC HB2.out HPF.out _, .inl ⟨HE0.out, by rw [← HE1.out]; rfl⟩⟩

theorem allocate_any (w : World) (f : VF) (hf : f.Ok w) (k : Int) (hk : I64 k) : Calls Tryz.prog 8 #[f.v, .int .i64 k] w (AllocPost f k w) :=
 (allocate_new w f hf k hk).mono fun e w' ⟨hb, h⟩ => ⟨hb, h.imp id (Or.imp id fun ⟨h1, h2, n, nb, a, h3, h4, h5, h6, h7, h8, _⟩ => ⟨h1, h2, n, nb, a, h3, h4, h5, h6, h7, h8⟩)⟩
theorem ElimP.left {n k : Nat} {X : Nat → Nat → Bool} {left0 left : Nat → Bool} {l : List Nat} (h : ElimP n X k left0 l left) : ∀ q, left q = true ↔ left0 q = true ∧ q ∉ l := by
 induction h with
 | nil => exact fun q => ⟨fun h => ⟨h, by simp⟩, fun h => h.1⟩
 | snoc l left b _ hb hl _ ih =>
  intro q
  dsimp only
  by_cases e : q = b
  ·subst e
   rw [if_pos rfl]
   exact ⟨fun h => (by cases h), fun h => absurd (List.mem_append_right _ (List.mem_singleton.2 rfl)) h.2⟩
  ·rw [if_neg e, ih q]
   exact ⟨fun h => ⟨h.1, fun h2 => (List.mem_append.1 h2).elim h.2 fun h3 => e (List.mem_singleton.1 h3)⟩, fun h => ⟨h.1, fun h2 => h.2 (List.mem_append_left _ h2)⟩⟩
theorem ElimA.all {n k : Nat} {X : Nat → Nat → Bool} {left0 : Nat → Bool} {l : List Nat} (h : ElimA n X k left0 l) (q : Nat) (hq : q < n) : q ∈ l ↔ left0 q = true := by
 obtain ⟨left, h1, h2⟩ := h
 have h3 := h1.left q
 rw [h2 q hq] at h3
 constructor
 ·exact fun h => (h1.mem.1 q h).2
 ·intro h
  refine Decidable.byContradiction fun hno => ?_
  have := h3.2 ⟨h, hno⟩
  cases this
theorem RegRun.free {n k : Nat} {X : Nat → Nat → Bool} {l : List Nat} {R : Nat → Int} (h : RegRun n X k l R) (hk : 1 ≤ k) {r : Nat} (hx : ∀ s, s < n → X r s = false) (hr : r ∈ l) : R r = 1 := by
 induction h with
 | nil => cases hr
 | snoc l R r' m _ hr' hm ih =>
  dsimp only
  by_cases e : r = r'
  ·subst e
   have : m = 1 := hm.same ⟨Nat.le_refl _, fun s hs hxs => (by rw [hx s hs] at hxs; cases hxs), fun v h1 h2 => (by omega)⟩
   subst this
   rw [if_pos ⟨rfl, hk⟩]; rfl
  ·rw [if_neg (fun h => e h.1)]
   exact ih ((List.mem_append.1 hr).elim id fun h3 => absurd (List.mem_singleton.1 h3) e)
theorem SlotRun.none {n : Nat} {X : Nat → Nat → Bool} {TH : Nat → Bool} {R : Nat → Int} {j : Nat} {S : Nat → Int} {K : Int} (h : SlotRun n X TH R j S K) (hn : ∀ r, r < j → ¬ (TH r = true ∧ R r < 0)) : K = 0 := by
 induction h with
 | zero => rfl
 | skip r S K _ _ ih => exact ih fun q hq => hn q (by omega)
 | put r S K m _ h1 h2 _ ih => exact absurd ⟨h1, h2⟩ (hn r (by omega))
theorem f1V_law {p q n nb k : Nat} (hk : 1 ≤ k) {a : AL} (hok : FnOk (f1V p q) n nb) (h : AllocLaw (f1V p q) n nb k a) : n = 2 ∧ a.k = 0 ∧ a.reg[1]? = some 1 := by
 have hn : n = 2 := by
  have h1 : (2 : Int) = (n : Int) := hok.regs
  omega
 have hnb : nb = 1 := hok.nbl
 subst hn hnb
 obtain ⟨XL, hXL, reg, slot, h1, h2, ⟨l, R, S, h3, h4, h5, h6, h7⟩⟩ := h
 have hmv : (blksC 2 (f1V p q) (fun i => aftF ((f1V p q).blk i).e.to XL) 1).mv = [] := rfl
 rw [hmv] at h3 h4 h5 h6
 have hsz : SymZ (parX 2 ((f1V p q).params.map Int.toNat) (XL 0) (blksC 2 (f1V p q) (fun i => aftF ((f1V p q).blk i).e.to XL) 1).X (f1V p q).pn) := SymZ.par _ _ _ (SymZ.blks _ _ _ _) _
 have hth1 := (graph_TH (XL := XL) hok (r := 1) (by omega)).2 (.inl (by show ((1 : Nat) : Int) ∈ [(1 : Int)]; simp))
 have hsl1 : (blksC 2 (f1V p q) (fun i => aftF ((f1V p q).blk i).e.to XL) 1).SL 1 = false := by
  refine Bool.eq_false_iff.2 fun h8 => ?_
  obtain ⟨i, hi, k', x, h9, _⟩ := (blksC_SL hok hXL (r := 1) (by omega) 1 (Nat.le_refl _)).1 h8
  obtain rfl : i = 0 := by omega
  have : ([] : List VI)[k']? = some x := h9
  simp at this
 obtain ⟨X0, hX0⟩ : ∃ X, X = parX 2 ((f1V p q).params.map Int.toNat) (XL 0) (blksC 2 (f1V p q) (fun i => aftF ((f1V p q).blk i).e.to XL) 1).X (f1V p q).pn := ⟨_, rfl⟩
 obtain ⟨T0, hT0⟩ : ∃ T, T = fun r => if r = 0 then false else markL (blksC 2 (f1V p q) (fun i => aftF ((f1V p q).blk i).e.to XL) 1).TH ((f1V p q).params.map Int.toNat) r := ⟨_, rfl⟩
 have hT00 : T0 0 = false := by rw [hT0]; rfl
 rw [← hX0] at hsz
 rw [← hX0, ← hT0] at h3 h4 h5
 rw [← hT0] at hth1
 have hno : ∀ s, s < 2 → X0 1 s = false := fun s hs => by
  rcases Nat.lt_or_ge s 1 with h8 | h8
  ·obtain rfl : s = 0 := by omega
   exact hsz.zero 1
  ·obtain rfl : s = 1 := by omega
   exact hsz.diag 1
 have hml : 1 ∈ l := List.mem_reverse.1 ((h3.all 1 (by omega)).2 (by
  show (T0 1 && !(blksC 2 (f1V p q) (fun i => aftF ((f1V p q).blk i).e.to XL) 1).SL 1) = true
  rw [hth1, hsl1]; rfl))
 have hR : R 1 = 1 := RegRun.free h4 hk hno hml
 have hK : a.k = 0 := SlotRun.none h5 fun r hr => by
  rcases Nat.lt_or_ge r 1 with h8 | h8
  ·obtain rfl : r = 0 := by omega
   rintro ⟨h9, _⟩
   have : T0 0 = true := h9
   rw [hT00] at this; cases this
  ·obtain rfl : r = 1 := by omega
   rintro ⟨_, h9⟩
   omega
 have hr1 : reg 1 = 1 := (h6 1 (by omega)).trans hR
 exact ⟨rfl, hK, by rw [h1, List.getElem?_map, List.getElem?_range (by omega)]; simp [hr1]⟩
end Go.Proofs.YtdnpoomagjcpfaaGreat
