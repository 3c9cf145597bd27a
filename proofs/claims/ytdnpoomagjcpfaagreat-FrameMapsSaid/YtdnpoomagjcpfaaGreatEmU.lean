/- frame.Emit: the walk. -/
import Derived.Test.YtdnpoomagjcpfaaGreatEmFou
namespace Go.Proofs.YtdnpoomagjcpfaaGreat
open Go.RowKit
set_option linter.unusedVariables false
set_option linter.unusedSimpArgs false

theorem fc_at : ∀ (l : List (Nat × Int)) (k : Nat) (hk : k < l.length), (l.flatMap fcC)[k * 2]? = some (.int .i64 (l[k].1 : Int)) ∧ (l.flatMap fcC)[k * 2 + 1]? = some (.int .i64 l[k].2)
 | x :: l, 0, _ => ⟨rfl, rfl⟩
 | x :: l, k + 1, hk => by
  obtain ⟨h1, h2⟩ := fc_at l k (by simpa using hk)
  rw [List.flatMap_cons, List.getElem?_append_right (by rw [fcC_len]; omega), List.getElem?_append_right (by rw [fcC_len]; omega), fcC_len, show (k + 1) * 2 - 2 = k * 2 by omega, show (k + 1) * 2 + 1 - 2 = k * 2 + 1 by omega]
  exact ⟨h1, h2⟩
theorem blk_neE {w : World} {p q : Nat} {t t' : TypeId} {cs cs' : List Value} (h : Blk w p t cs) (k : Blk w q t' cs') (hne : t ≠ t') : p ≠ q := fun e => by
  subst e
  have h1 : w.heap[p]? = _ := h
  have h2 : w.heap[p]? = _ := k
  rw [h1] at h2
  injection h2 with h2
  injection h2 with _ h2 _
  exact hne h2
theorem results_row_oneE {P : Program} {fn : Func} {p u : Tmp} {ty : TypeId} (h : fn.results = #[.cell p ty, .tmp u]) (tmps : Array Value) (w : World) (g : Nat) (t : TypeId) (cs : Array Value) (fr : Nat × Nat) (d : TypeDesc)
  (hp : tmps.getD p undef = .pointer (some ⟨g, 0, none⟩)) (hg : w.heap[g]? = some (.cells cs t fr))
  (hu : P.underlying ty = some d) (hd : (match d with | .struct _ | .array _ _ => true | _ => false) = true) (hi : (P.info? ty).map (·.size) = some cs.size) :
  (results fn tmps).run P w = .ok (.tuple #[.agg cs, tmps.getD u undef]) w := by
 have hp' : tmps[p]?.getD undef = .pointer (some ⟨g, 0, none⟩) := by simpa using hp
 simp [results, h, hp', asAddr, run_loadVar_row w g t ty cs fr d hg hu hd hi]
theorem setRowBlkE {w : World} {g : Nat} {t : TypeId} {old : List Value} (h : Blk w g t old) (cs : List Value) : Blk (w.setRow g cs.toArray) g t cs := by
 unfold Blk at h ⊢
 simp [World.setRow, Array.getElem?_modify, h]
theorem setRowBelowE {B : Nat} {w w' : World} (h : Below B w w') {g : Nat} (hg : B ≤ g) (xs : Array Value) : Below B w (w'.setRow g xs) :=
 h.trans ⟨rfl, rfl, rfl, by simp [World.setRow], fun k hk => by simp only [World.setRow, Array.getElem?_modify]; rw [if_neg (by omega)]⟩
theorem zeroE : (#[.int .i64 0, .slice none 0 0, .slice none 0 0, .slice none 0 0, .int .i64 0] : Array Value).all (·.oneCell') = true := by kernel_rfl
theorem oneE (a b e : Option Addr) (n m c d o q : Nat) (y z : Int) : (#[.int .i64 y, .slice a n c, .slice b m d, .slice e o q, .int .i64 z] : Array Value).all (·.oneCell') = true := by simp [Value.oneCell']
theorem EmM.setRow {X : EmE} {w : World} {s : EmS} {v : EmV} (hX : X.Ok) (h : EmM X w s v) {g : Nat} {cs : List Value} (hg : Blk w g 39 cs) (hlo : X.w0.heap.size ≤ g) (xs : Array Value) : EmM X (w.setRow g xs) s v := by
 have hb : Below g w (w.setRow g xs) := setRowBelowE (Below.refl _ _) (Nat.le_refl _) xs
 have ho : ∀ q, q ≠ g → (w.setRow g xs).heap[q]? = w.heap[q]? := fun q hq => by simp only [World.setRow, Array.getElem?_modify]; rw [if_neg (fun e => hq e.symm)]
 refine h.kept (h.be.trans (hb.mono hlo)) (fun q hq => ho q fun e => ?_) fun x hx q hq => ho q fun e => ?_
 ·subst e
  rcases h.ty hg hq with e | e | e | e | e | e <;> exact absurd e (by decide)
 ·subst e
  exact own_noBox (h.sl x hx).1 hg (by decide) hq
/-- three blocks stay -/
def KeepF (a b c : Nat) (w w' : World) : Prop := w'.heap[a]? = w.heap[a]? ∧ w'.heap[b]? = w.heap[b]? ∧ w'.heap[c]? = w.heap[c]?
instance (a b c : Nat) : PreR (KeepF a b c) := ⟨fun w => ⟨rfl, rfl, rfl⟩, fun h k => ⟨k.1.trans h.1, k.2.1.trans h.2.1, k.2.2.trans h.2.2⟩⟩
def fnC (f : VF) : List Value := [.int .i64 f.name, .slice f.pa f.pn f.pc, .int .i64 f.regs, .slice f.sa f.sn f.sc]
def alCE (a : AL) : List Value := [.slice a.ra a.rn a.rc, .slice a.sa a.sn a.sc, .int .i64 a.k]
def lkC : List Value := [.int .i64 0, .slice none 0 0, .slice none 0 0, .slice none 0 0, .int .i64 0]
/-- Emit's own boxes -/
structure EmB (w wx : World) (f : VF) (a : AL) (pf pa pr : Nat) : Prop where
 be : Below w.heap.size w wx
 bf : Blk wx pf 25 (fnC f)
 ba : Blk wx pa 31 (alCE a)
 br : Blk wx pr 39 lkC
 lo : w.heap.size ≤ pr
theorem EmB.below {w wx wy : World} {f : VF} {a : AL} {bf ba br : Nat} (h : EmB w wx f a bf ba br) (hb : Below wx.heap.size wx wy) : EmB w wy f a bf ba br :=
 ⟨h.be.trans (hb.mono h.be.size), h.bf.below hb h.bf.lt, h.ba.below hb h.ba.lt, h.br.below hb h.br.lt, h.lo⟩
/-- the loop over the blocks -/
structure EmI (X : EmE) (wr : World) (pr nb : Nat) (XL : Nat → Nat → Bool) (ev : Value) (es : Nat → Nat) (k : Nat) (v : EmV) : Prop where
 m : EmM X wr (emitS X.f X.a X.n XL k) v
 br : Blk wr pr 39 lkC
 eo : wr.ownsRow X.w0.heap.size 51 1 ev nb ((List.range nb).map fun i => .slice (some ⟨es i, 0, none⟩) X.n X.n)
 row : ∀ i, k ≤ i → i < nb → BRow wr (es i) X.n (aftF (X.f.blk i).e.to XL)
theorem EmI.next {X : EmE} {wr wx : World} {br nb : Nat} {XL : Nat → Nat → Bool} {ev : Value} {es : Nat → Nat} {k : Nat} {v : EmV} {s' : EmS} (h : EmI X wr br nb XL ev es k v) (hk : k < nb) (hes : ∀ i j, i < nb → j < nb → es i = es j → i = j) (hT : EmT X (es k) v wr s' wx) (hs : s' = emitS X.f X.a X.n XL (k + 1)) : ∃ v', EmI X wx br nb XL ev es (k + 1) v' := by
 obtain ⟨v', hm, hr, _⟩ := hT
 subst hs
 refine ⟨v', hm, h.br.of_heap (hr.block br h.br.lt fun e => ?_), ownG_kept h.eo fun g hg => hr.block g (h.eo.lt g hg).2 fun e => ?_, fun i h1 h2 => Blk.of_heap (h.row i (by omega) h2) (hr.block _ (Blk.lt (h.row i (by omega) h2)) fun e => ?_)⟩
 ·rcases e with e | e
  ·rcases h.m.ty h.br e with e | e | e | e | e | e <;> exact absurd e (by decide)
  ·exact blk_neE h.br (h.row k (Nat.le_refl _) hk) (by decide) e
 ·rcases e with e | e
  ·obtain ⟨c, hc⟩ := own_blkTy h.eo hg
   rcases h.m.ty hc e with e | e | e | e | e | e <;> exact absurd e (by decide)
  ·exact own_noBox h.eo (h.row k (Nat.le_refl _) hk) (by decide) (by rw [← e]; exact hg)
 ·rcases e with e | e
  ·rcases h.m.ty (h.row i (by omega) h2) e with e | e | e | e | e | e <;> exact absurd e (by decide)
  ·have := hes i k h2 hk e; omega
def lkV (f : VF) (a : AL) (v : EmV) : Value := .agg #[.int .i64 f.name, v.i, v.c, v.m, .int .i64 (a.k + 1)]
def EmitPost (f : VF) (a : AL) (n nb : Nat) (w : World) (e : Ending) (w' : World) : Prop :=
 ∃ (XL : Nat → Nat → Bool) (v : EmV) (p : Nat), (∀ i, i < nb → ∀ r, r < n → (XL i r = true ↔ LiveI f i r)) ∧ e = .returned (.tuple #[lkV f a v, .int .i64 0]) ∧ Below w.heap.size w w' ∧ EmM ⟨w, w.heap.size, p, n, f, a⟩ w' { emitS f a n XL nb with items := (emitS f a n XL nb).done } v
set_option maxRecDepth 100000 in
set_option maxHeartbeats 8000000 in
theorem emit_any (w : World) (f : VF) (hf : f.Ok w) (a : AL) (ha : a.Ok w) {n nb : Nat} (hok : FnOk f n nb) (hfe : fnE f = 0) (hac : ∀ wx, Below w.heap.size w wx → Calls Tryz.prog 28 #[f.v, a.v] wx (IntPost 0 wx)) (hrn : a.rn = n) (hsn : a.sn = n) (hk : 0 ≤ a.k ∧ a.k ≤ 2048)
 (hpl : ∀ r : Nat, r < n → (-1 ≤ (ofP a r).1 ∧ (ofP a r).1 ≤ 13) ∧ -1 ≤ (ofP a r).2 ∧ (ofP a r).2 ≤ 2047) (hsk : ∀ r : Nat, r < n → (ofP a r).1 < 0 → (ofP a r).2 < a.k) (hw : emW f.blocks ≤ 8000000) :
 Calls Tryz.prog 10 #[f.v, a.v] w (EmitPost f a n nb w) := by
 have hb0 : EmB w (((w.alloc (.cells #[.int .i64 f.name, .slice f.pa f.pn f.pc, .int .i64 f.regs, .slice f.sa f.sn f.sc] 25)).alloc (.cells #[.slice a.ra a.rn a.rc, .slice a.sa a.sn a.sc, .int .i64 a.k] 31)).alloc (.cells #[.int .i64 0, .slice none 0 0, .slice none 0 0, .slice none 0 0, .int .i64 0] 39)) f a w.heap.size (w.heap.size + 1) (w.heap.size + 1 + 1) := by
  have h1 := (Blk.new w (fnC f) 25)
  have h2 := (Blk.new (w.alloc (.cells #[.int .i64 f.name, .slice f.pa f.pn f.pc, .int .i64 f.regs, .slice f.sa f.sn f.sc] 25)) (alCE a) 31)
  have h3 := (Blk.new ((w.alloc (.cells #[.int .i64 f.name, .slice f.pa f.pn f.pc, .int .i64 f.regs, .slice f.sa f.sn f.sc] 25)).alloc (.cells #[.slice a.ra a.rn a.rc, .slice a.sa a.sn a.sc, .int .i64 a.k] 31)) lkC 39)
  rw [World.size_alloc] at h2 h3
  rw [World.size_alloc] at h3
  exact ⟨(((Below.refl _ _).alloc (Nat.le_refl _) _).alloc (by simp) _).alloc (by simp; omega) _, (h1.alloc _).alloc _, h2.alloc _, h3, by omega⟩
 have HF := Lib.hid hf
 have HA := Lib.hid ha
 have HOK := Lib.hid hok
 have HFE := Lib.hid hfe
 have HAC := Lib.hid hac
 have HPL := Lib.hid hpl
 have HSK := Lib.hid hsk
 have HRN := Lib.hid hrn
 have HSN := Lib.hid hsn
 have HW := Lib.hid hw
 have HK := Lib.hid hk
 have hnb4 : nb ≤ 4096 := hok.nb2.2
 have hk1 := hk.1
 have hk2 := hk.2
 have HLV := Lib.hid fun wx (h : Below w.heap.size w wx) => liveD_any wx f (hf.below h) n fun _ => hok.regs
 unfold VF.v AL.v at HAC ⊢
 unfold VF.v at HLV
 have HB0 := Lib.hid hb0
 clear hf ha hok hfe hac hrn hsn hpl hsk hw hb0 hk
 go_enter Tryz.func10, Tryz.ntmps10
 go_upto_region 1 with fail
 change Code.wp _ _ _ _ (((w.alloc (.cells #[.int .i64 f.name, .slice f.pa f.pn f.pc, .int .i64 f.regs, .slice f.sa f.sn f.sc] 25)).alloc (.cells #[.slice a.ra a.rn a.rc, .slice a.sa a.sn a.sc, .int .i64 a.k] 31)).alloc (.cells #[.int .i64 0, .slice none 0 0, .slice none 0 0, .slice none 0 0, .int .i64 0] 39))
 generalize (((w.alloc (.cells #[.int .i64 f.name, .slice f.pa f.pn f.pc, .int .i64 f.regs, .slice f.sa f.sn f.sc] 25)).alloc (.cells #[.slice a.ra a.rn a.rc, .slice a.sa a.sn a.sc, .int .i64 a.k] 31)).alloc (.cells #[.int .i64 0, .slice none 0 0, .slice none 0 0, .slice none 0 0, .int .i64 0] 39)) = w1 at HB0 ⊢
 obtain ⟨bf, hbf⟩ : ∃ x, x = w.heap.size := ⟨_, rfl⟩
 rw [← hbf] at HB0 ⊢
 obtain ⟨ba, hba⟩ : ∃ x, x = bf + 1 := ⟨_, rfl⟩
 rw [← hba] at HB0 ⊢
 obtain ⟨br, hbr⟩ : ∃ x, x = ba + 1 := ⟨_, rfl⟩
 rw [← hbr] at HB0 ⊢
 have HB1 := HB0
 clear HB0 hbf hba hbr
 have c0 := HB1.out.bf.cell 0
 have c1 := HB1.out.bf.cell 1
 have c2 := HB1.out.bf.cell 2
 have c3 := HB1.out.bf.cell 3
 have a0 := HB1.out.ba.cell 0
 have a1 := HB1.out.ba.cell 1
 have a2 := HB1.out.ba.cell 2
 simp only [fnC, alCE, List.getElem?_cons_zero, List.getElem?_cons_succ] at c0 c1 c2 c3 a0 a1 a2
 go_wp2_with fail
 refine (HAC.out w1 HB1.out.be).mono ?_
 rintro e w2 ⟨rfl, hb2⟩
 have HB2 := Lib.hid (HB1.out.below hb2)
 clear hb2 HB1 HAC c0 c1 c2 c3 a0 a1 a2
 have c0 := HB2.out.bf.cell 0
 have c1 := HB2.out.bf.cell 1
 have c2 := HB2.out.bf.cell 2
 have c3 := HB2.out.bf.cell 3
 have a0 := HB2.out.ba.cell 0
 have a1 := HB2.out.ba.cell 1
 have a2 := HB2.out.ba.cell 2
 simp only [fnC, alCE, List.getElem?_cons_zero, List.getElem?_cons_succ] at c0 c1 c2 c3 a0 a1 a2
 go_upto_region 7 with fail
 have HX : Hid (EmE.Ok ⟨w, w.heap.size, w2.heap.size, n, f, a⟩) := ⟨HF.out, HA.out, Nat.le_refl _, HRN.out, HSN.out, HOK.out.n2.2, HK.out, HPL.out, HSK.out⟩
 have HBX := Lib.hid (Blk.new w2 (emC f a ⟨.slice none 0 0, .slice none 0 0, .slice none 0 0, .slice none 0 0, .slice none 0 0, []⟩) 81)
 have HB3 := Lib.hid (HB2.out.below ((Below.refl _ _).alloc (Nat.le_refl _) (.cells (emC f a ⟨.slice none 0 0, .slice none 0 0, .slice none 0 0, .slice none 0 0, .slice none 0 0, []⟩).toArray 81)))
 have hwz : w.heap.size ≤ w2.heap.size := HB2.out.be.size
 obtain ⟨p, hp⟩ : ∃ p, p = w2.heap.size := ⟨_, rfl⟩
 rw [← hp] at HX HBX hwz ⊢
 change Code.wp _ _ _ _ (w2.alloc (.cells (emC f a ⟨.slice none 0 0, .slice none 0 0, .slice none 0 0, .slice none 0 0, .slice none 0 0, []⟩).toArray 81))
 generalize w2.alloc (.cells (emC f a ⟨.slice none 0 0, .slice none 0 0, .slice none 0 0, .slice none 0 0, .slice none 0 0, []⟩).toArray 81) = w3 at HBX HB3 ⊢
 clear hp HB2 c0 c1 c2 c3 a0 a1 a2
 have c0 := HB3.out.bf.cell 0
 have c1 := HB3.out.bf.cell 1
 have c2 := HB3.out.bf.cell 2
 have c3 := HB3.out.bf.cell 3
 simp only [fnC, List.getElem?_cons_zero, List.getElem?_cons_succ] at c0 c1 c2 c3
 have HLV3 := Lib.hid (HLV.out w3 HB3.out.be)
 go_wp2_with fail
 refine HLV3.out.mono ?_
 rintro e w4 ⟨hb4, hlv⟩
 obtain ⟨Gl, bl, XL, ev, es, rfl, hbeg, hxl, hend, hein, heb, helo, hblo⟩ : ∃ G bs X v es, e = .returned (.tuple #[.slice (some ⟨G, 0, none⟩) f.sn f.sn, v, .int .i64 0]) ∧ BRows w4 G f.sn n X bs ∧ (∀ i, i < f.sn → ∀ r, r < n → (X i r = true ↔ LiveI f i r)) ∧ EndV w3 w4 v n ((List.range f.sn).map fun i => aftF (f.blk i).e.to X) es ∧
    (∀ i j, i < f.sn → j < f.sn → es i = es j → i = j) ∧ (∀ i j, i < f.sn → j < f.sn → es i ≠ bs j) ∧ (∀ i, i < f.sn → w3.heap.size ≤ es i) ∧ (∀ i, i < f.sn → w3.heap.size ≤ bs i) := by
  rcases hlv with ⟨h, _⟩ | ⟨_, h⟩
  ·exact absurd HFE.out h
  ·exact h
 have HNB : Hid (f.sn = nb) := HOK.out.sn
 rw [HNB.out] at hxl hend hein helo ⊢
 have HXL := Lib.hid hxl
 have HES := Lib.hid hein
 have HEL : Hid (∀ i, i < nb → w.heap.size ≤ es i) := fun i hi => Nat.le_trans HB3.out.be.size (helo i hi)
 have HB4 := Lib.hid (HB3.out.below hb4)
 have HLO := Lib.hid HB4.out.lo
 obtain ⟨Y, hY⟩ : ∃ Y : EmE, Y = ⟨w, w.heap.size, p, n, f, a⟩ := ⟨_, rfl⟩
 have HI0 : Hid (EmI ⟨w, w.heap.size, p, n, f, a⟩ w4 br nb XL ev es 0 ⟨.slice none 0 0, .slice none 0 0, .slice none 0 0, .slice none 0 0, .slice none 0 0, []⟩) := by
  refine ⟨⟨HBX.out.below hb4 HBX.out.lt, hwz, HB4.out.be, World.ownsRow_nil _ _ _ _, World.ownsRow_nil _ _ _ _, World.ownsRow_nil _ _ _ _, rfl, World.ownsRow_nil _ _ _ _, World.ownsRow_nil _ _ _ _, fun x hx => absurd hx List.not_mem_nil⟩, HB4.out.br, ?_, fun i h1 h2 => ?_⟩
  ·have h1 := ownG_base hend.own HB3.out.be.size
   have h2 : ((List.range nb).map fun i => aftF (f.blk i).e.to XL).length = nb := by simp
   rw [h2] at h1
   exact h1
  ·have := hend.row i (by simpa using h2)
   simpa using this
 rw [← hY] at HI0 HX
 have HY := Lib.hid hY
 have HBF4 := Lib.hid HB4.out.bf
 clear hb4 hlv hbeg hxl hend hein heb helo hblo HLV HLV3 HB3 HBX hY c0 c1 c2 c3 hwz HB4
 have c3 := HBF4.out.cell 3
 simp only [fnC, List.getElem?_cons_zero, List.getElem?_cons_succ] at c3
 rw [HNB.out] at c3
 obtain ⟨ea, ec, rfl⟩ := ownG_shape HI0.out.eo
 go_upto_block 0 with fail
 clear c3 HBF4
 go_cut [] from 54 (fun wx => ∃ v, EmI Y wx br nb XL (.slice ea nb ec) es nb v)
 case first => as_aux_lemma =>
  go_wp2_with fail
  go_loopw [44] (fun u wr => ∃ (k : Nat) (v : EmV), k ≤ nb ∧ u = .int .i64 (k : Int) ∧ EmI Y wr br nb XL (.slice ea nb ec) es k v) (fun u _ => nb - (intOf u).toNat)
  case atStart => exact ⟨0, _, Nat.zero_le _, rfl, HI0.out⟩
  case round =>
   clear HI0
   obtain ⟨k, v, hk, rfl, hi9⟩ := hrel
   have HI := Lib.hid hi9
   by_cases hlt : k < nb
   ·obtain ⟨ge, ce, hgv, _⟩ := ownG_has hi9.eo (by omega)
    injection hgv with e1 _ e3
    subst e1 e3
    have hce := (ownE_cellAt hi9.eo (j := k) (by omega)).1
    have hyn : Y.n = n := by rw [HY.out]
    have hyf : Y.f = f := by rw [HY.out]
    have hya : Y.a = a := by rw [HY.out]
    have hyp : Y.p = p := by rw [HY.out]
    have hyw : Y.w0 = w := by rw [HY.out]
    rw [List.getElem?_map, List.getElem?_range hlt, Option.map_some, hyn] at hce
    have hkb : k < Y.f.blocks.length := by rw [hyf]; have := HOK.out.nbl; omega
    have hro : BRow wr (es k) n (aftF (Y.f.blk k).e.to XL) := by have := hi9.row k (Nat.le_refl _) hlt; rw [hyn] at this; exact this
    have hrg : ∀ b, Y.f.blocks[k]? = some b → b.Rng n := fun b hb => by
     have h1 := (vb_rng HF.out HOK.out HFE.out (i := k) (by have := HOK.out.nbl; omega)).1
     rw [hyf, List.getElem?_eq_getElem] at hb
     injection hb with hb
     rw [← hb]; exact h1
    have htt : (emitS Y.f Y.a Y.n XL k).tot + 200 + 40 * (Y.f.blocks[k]).ins.length ≤ 9000000 := by
     have h1 := emitS_tot HF.out HOK.out HFE.out a XL k
     have h2 := emW_take f.blocks (k := k) (by have := HOK.out.nbl; omega)
     have h3 := HW.out
     have h4 : (Y.f.blocks[k]).ins.length = (f.blocks[k]'(by have := HOK.out.nbl; omega)).ins.length := by simp only [hyf]
     rw [h4, hyf, hya, hyn]
     omega
    have HBL := Lib.hid (block_any Y HX.out wr (emitS Y.f Y.a Y.n XL k) v hi9.m k hkb (by have := HOK.out.nb2.2; omega) n hyn.symm HOK.out.n2 (es k) _ hro (by rw [hyw]; exact HEL.out k hlt) hrg (fun r hr => by rw [hyf] at hr; rw [hyn]; have := HOK.out.par r hr; omega) (by rw [hyf]; exact HOK.out.pn) htt)
    have hss := (emitS_succ (a := Y.a) (n := Y.n) (XL := XL) hkb).symm
    rw [hss, hyp] at HBL
    clear hi9 hro hrg htt hss
    go_wp2_with fail
    refine HBL.out.mono ?_
    rintro e w5 ⟨rfl, hT⟩
    obtain ⟨v', hv'⟩ := HI.out.next hlt HES.out hT rfl
    have HI5 := Lib.hid hv'
    clear hT hv' HBL HI
    go_wp2_with fail
    go_roundw
    case rel => exact ⟨k + 1, v', by omega, by go_num, HI5.out⟩
    case measure => simp [intOf]; omega
   ·have ek : k = nb := by omega
    subst ek
    go_wp2_with fail
    go_meet
    exact ⟨v, HI.out⟩
 case rest => as_aux_lemma =>
  obtain ⟨v, hI⟩ := hcut
  clear HI0
  have hyn : Y.n = n := by rw [HY.out]
  have hyf : Y.f = f := by rw [HY.out]
  have hya : Y.a = a := by rw [HY.out]
  have hyp : Y.p = p := by rw [HY.out]
  obtain ⟨sf, hsf⟩ : ∃ s, s = emitS Y.f Y.a Y.n XL nb := ⟨_, rfl⟩
  have hm := hI.m
  rw [← hsf] at hm
  obtain ⟨hjo, hst⟩ := emitS_jok HF.out HOK.out HFE.out a XL nb (by have := HOK.out.nbl; omega)
  rw [← hyf, ← hya, ← hyn, ← hsf] at hjo hst
  have HJO := Lib.hid hjo
  have HST := Lib.hid hst
  have HBR := Lib.hid hI.br
  have HSF : Hid (sf = emitS f a n XL nb) := by rw [Hid, hsf, hyf, hya, hyn]
  have HM := Lib.hid hm
  obtain ⟨ai, ci, ac, cc, am, cm, az, cz, aj, cj, e1, e2, e3, e4, e5⟩ := hm.shapes
  obtain ⟨m, hmm⟩ : ∃ m, m = sf.jumps.length := ⟨_, rfl⟩
  have c4 : wc.cell? ⟨Y.p, 13, none⟩ = some v.j := hm.box.cell 13
  rw [e5, ← hmm, hyp] at c4
  have HMM := Lib.hid hmm
  clear hI hjo hst hsf hm hmm
  have HMP := Lib.hid (show EmM Y wc (patK sf 0) v from HM.out)
  go_upto_block 2 with fail
  go_cut [] from 81 (fun wx => EmM Y wx (patK sf m) v ∧ Blk wx br 39 lkC)
  case first => as_aux_lemma =>
   go_wp2_with fail
   go_loopw [60] (fun u wr => ∃ (k : Nat), k ≤ m ∧ u = .int .i64 (k : Int) ∧ EmM Y wr (patK sf k) v ∧ Blk wr br 39 lkC) (fun u _ => m - (intOf u).toNat)
   case atStart => exact ⟨0, Nat.zero_le _, rfl, HMP.out, HBR.out⟩
   case round =>
    clear HMP HBR c4
    obtain ⟨k, hk, rfl, hm9, hbr9⟩ := hrel
    have HM9 := Lib.hid hm9
    have HBR9 := Lib.hid hbr9
    have HM6 : Hid (m ≤ 8000000) := by
     have h1 := emitS_tot HF.out HOK.out HFE.out a XL nb
     have h2 : emW (f.blocks.take nb) = emW f.blocks := by rw [HOK.out.nbl, List.take_length]
     have h3 := HW.out
     have h4 : sf.jumps.length ≤ sf.tot := by unfold EmS.tot; omega
     rw [h2, ← HSF.out] at h1
     have := HMM.out
     show m ≤ 8000000
     omega
    have hm6 := HM6.out
    by_cases hlt : k < m
    ·have hkj : k < sf.jumps.length := by rw [← HMM.out]; exact hlt
     obtain ⟨j0, j1, hjj⟩ : ∃ j0 j1, sf.jumps[k] = (j0, j1) := ⟨_, _, rfl⟩
     obtain ⟨hj0, hj1, hj2⟩ := HJO.out _ (List.getElem_mem hkj)
     rw [hjj] at hj0 hj1 hj2
     obtain ⟨t1, ht1⟩ := Int.eq_ofNat_of_zero_le hj1
     subst ht1
     have ht1 : t1 < nb := by omega
     have oj := hm9.oj
     have oi := hm9.oi
     have os := hm9.os
     have hli : (patK sf k).items.length = sf.items.length := patL_len _ _ _
     rw [hli] at oi
     rw [show (patK sf k).jumps = sf.jumps from rfl, ← HMM.out, e5, ← HMM.out] at oj
     rw [show (patK sf k).starts = sf.starts from rfl, HST.out, e4, HST.out] at os
     rw [e1] at oi
     obtain ⟨gj, cj', hgj, _, hgjl, _⟩ := ownG_has oj (by omega)
     obtain ⟨gi, ci', hgi, _, hgil, hgic, hgim⟩ := ownG_has oi (by omega)
     obtain ⟨gs, cs', hgs, _, hgsl, _⟩ := ownG_has os (by omega)
     injection hgj with x1 _ x3
     subst x1 x3
     injection hgi with x1 _ x3
     subst x1 x3
     injection hgs with x1 _ x3
     subst x1 x3
     have d0 := (ownE_cellAt oj (j := k * 2) (by omega)).1
     have d1 := (ownE_cellAt oj (j := k * 2 + 1) (by omega)).1
     obtain ⟨f0, f1⟩ := fc_at sf.jumps k hkj
     rw [f0, hjj] at d0
     rw [f1, hjj] at d1
     dsimp only at d0 d1
     clear f0 f1
     have d2 := (ownE_cellAt os (j := t1) (by omega)).1
     rw [List.getElem?_map, List.getElem?_eq_getElem (by rw [HST.out]; exact ht1), Option.map_some] at d2
     obtain ⟨z, hz⟩ : ∃ z, z = sf.starts[t1]'(by rw [HST.out]; exact ht1) := ⟨_, rfl⟩
     rw [← hz] at d2
     have d3 := (ownE_cellAt oi (j := j0 * 6 + 5) (by omega)).2
     obtain ⟨u5, d4⟩ : ∃ u, wr.cell? ⟨gi, j0 * 6 + 5, none⟩ = some u := by
      have h1 := (ownE_cellAt oi (j := j0 * 6 + 5) (by omega)).1
      have h2 : ((patK sf k).items.flatMap miC).length = sf.items.length * 6 := by simpa using oi.1
      rw [List.getElem?_eq_getElem (by omega)] at h1
      exact ⟨_, h1⟩
     have HZ : Hid (sf.starts.getD t1 0 = z) := by show _ = _; rw [hz]; simp [List.getD_eq_getElem?_getD, HST.out, ht1]
     obtain ⟨il, hil⟩ : ∃ il, il = sf.items.length := ⟨_, rfl⟩
     have p0 : wr.cell? ⟨Y.p, 8, none⟩ = some v.i := hm9.box.cell 8
     have p1 : wr.cell? ⟨Y.p, 12, none⟩ = some v.s := hm9.box.cell 12
     rw [e1, ← hil, hyp] at p0
     rw [e4, HST.out, hyp] at p1
     rw [← hil] at hj0
     have hpl : p < wr.heap.size := by rw [← hyp]; exact hm9.box.lt
     have HIL := Lib.hid hil
     have HJJ := Lib.hid hjj
     clear oj oi os hm9 hbr9 hz hjj hil
     go_upto_region 16 with fail
     have hb5 : Below wr.heap.size wr (wr.alloc (.cells #[.int .i64 (j0 : Int), .int .i64 (t1 : Int)] 85)) := (Below.refl _ _).alloc (Nat.le_refl _) _
     have HM5 := Lib.hid (HM9.out.below hb5)
     have HBR5 := Lib.hid (HBR9.out.below hb5 HBR9.out.lt)
     have hbx := Blk.new wr [.int .i64 (j0 : Int), .int .i64 (t1 : Int)] 85
     have q0 := (hb5.cell (p := ⟨p, 8, none⟩) hpl).trans p0
     have q1 := (hb5.cell (p := ⟨p, 12, none⟩) hpl).trans p1
     have q2 := (hb5.cell (p := ⟨gs, t1, none⟩) hgsl).trans d2
     have q3 := (World.frozen?_of_block (a := ⟨gi, j0 * 6 + 5, none⟩) (hb5.block gi hgil)).trans d3
     have q4 := (hb5.cell (p := ⟨gi, j0 * 6 + 5, none⟩) hgil).trans d4
     obtain ⟨bx, hbxe⟩ : ∃ bx, bx = wr.heap.size := ⟨_, rfl⟩
     rw [← hbxe] at hbx ⊢
     change Code.wp _ _ _ _ (wr.alloc (.cells #[.int .i64 (j0 : Int), .int .i64 (t1 : Int)] 85))
     clear hb5 p0 p1 d0 d1 d2 d3 d4 hbxe HM9 HBR9 hpl hgil hgsl hgjl
     change Blk (wr.alloc (.cells #[.int .i64 (j0 : Int), .int .i64 (t1 : Int)] 85)) bx 85 _ at hbx
     generalize wr.alloc (.cells #[.int .i64 (j0 : Int), .int .i64 (t1 : Int)] 85) = w5 at HM5 HBR5 hbx q0 q1 q2 q3 q4 ⊢
     have b0 : w5.cell? ⟨bx, 0, none⟩ = some (.int .i64 (j0 : Int)) := hbx.cell 0
     have b1 : w5.cell? ⟨bx, 1, none⟩ = some (.int .i64 (t1 : Int)) := hbx.cell 1
     have r0 := fun x : AfterR (KeepF p bx gs) w5.drew => (World.cell?_of_block (a := ⟨p, 8, none⟩) x.rel.1).trans q0
     have r1 := fun x : AfterR (KeepF p bx gs) w5.drew => (World.cell?_of_block (a := ⟨p, 12, none⟩) x.rel.1).trans q1
     have r2 := fun x : AfterR (KeepF p bx gs) w5.drew => (World.cell?_of_block (a := ⟨bx, 0, none⟩) x.rel.2.1).trans b0
     have r3 := fun x : AfterR (KeepF p bx gs) w5.drew => (World.cell?_of_block (a := ⟨bx, 1, none⟩) x.rel.2.1).trans b1
     have r4 := fun x : AfterR (KeepF p bx gs) w5.drew => (World.cell?_of_block (a := ⟨gs, t1, none⟩) x.rel.2.2).trans q2
     clear hbx
     refine wp_region_eagerRT (KeepF p bx gs) [(0, true), (1, true), (2, true), (3, true), (4, true), (5, true), (6, true), (7, true), (8, true), (9, true), (10, true), (11, true), (12, true), (13, true), (14, true), (15, true), (16, true), (17, false)] (by kernel_rfl) (by kernel_rfl) ?_
     repeat (refine eagR_readT rfl ?_; go_big_quiet_step (fail); refine wpQuiet_nil ?_)
     clear r0 r1 r2 r3 r4
     refine eagR_freeT rfl rfl (by kernel_rfl) ?_
     intro K hK
     go_simp
     refine hK _ _ ?_
     clear hK K
     go_simp
     refine eagR_endT ?_
     have hpat := HM5.out.pat HX.out (g := gi) (ci := ci) (by rw [e1, show (patK sf k).items.length = sf.items.length from patL_len _ _ _]) (j := j0) (by rw [show (patK sf k).items.length = sf.items.length from patL_len _ _ _, ← HIL.out]; exact hj0) (z : Int)
     have hps : patK sf (k + 1) = { patK sf k with items := (patK sf k).items.modify j0 fun x => { x with lab := (z : Int) } } := by
      rw [patK_succ hkj, HJJ.out]
      dsimp only
      rw [Int.toNat_natCast, HZ.out]
     rw [← hps] at hpat
     have HM7 := Lib.hid (hpat.below (Below.refl _ _).drew)
     have HBR7 : Hid (Blk (w5.setCell ⟨gi, j0 * 6 + 5, none⟩ (.int .i64 (z : Int))).drew br 39 lkC) := by
      have h1 : v.i.ownBlock = some gi := by rw [e1]; simp [Value.ownBlock]
      refine Blk.drew (Blk.setOther HBR5.out (a := ⟨gi, j0 * 6 + 5, none⟩) (fun e => ?_) _)
      exact own_noBox HM5.out.oi HBR5.out (by decide) (h1.trans (by first | rw [e] | rw [← e]))
     clear hpat hps HM5 HBR5 q0 q1 q2 q3 q4 b0 b1
     go_wp2_with fail
     go_roundw
     case rel => exact ⟨k + 1, by omega, by go_num, HM7.out, HBR7.out⟩
     case measure => simp [intOf]; omega
    ·have ek : k = m := by omega
     subst ek
     go_wp2_with fail
     go_meet
     exact ⟨HM9.out, HBR9.out⟩
  case rest => as_aux_lemma =>
   obtain ⟨hm, hbr⟩ := hcut
   have HM7 := Lib.hid hm
   have k0 : wc.cell? ⟨Y.p, 7, none⟩ = some (.int .i64 Y.f.name) := hm.box.cell 7
   have k1 : wc.cell? ⟨Y.p, 8, none⟩ = some v.i := hm.box.cell 8
   have k2 : wc.cell? ⟨Y.p, 9, none⟩ = some v.c := hm.box.cell 9
   have k3 : wc.cell? ⟨Y.p, 10, none⟩ = some v.m := hm.box.cell 10
   have k4 : wc.cell? ⟨Y.p, 11, none⟩ = some (.int .i64 (Y.a.k + 1)) := hm.box.cell 11
   have hpl := hm.box.lt
   have HBR7 := Lib.hid hbr
   have HSZ : Hid ((Tryz.prog.info? 39).map (·.size) = some 5) := by unfold Hid; kernel_rfl
   rw [hyp] at k0 k1 k2 k3 k4 hpl
   rw [hyf] at k0
   rw [hya] at k4
   rw [e1] at k1
   rw [e2] at k2
   rw [e3] at k3
   obtain ⟨ni, hni⟩ : ∃ x, x = sf.items.length := ⟨_, rfl⟩
   obtain ⟨nc, hnc⟩ : ∃ x, x = sf.calls.length := ⟨_, rfl⟩
   obtain ⟨nm, hnm⟩ : ∃ x, x = sf.maps.length := ⟨_, rfl⟩
   rw [← hni] at k1 e1
   rw [← hnc] at k2 e2
   rw [← hnm] at k3 e3
   have HLE : Hid (w.heap.size ≤ br) := HLO.out
   clear hm hbr hni hnc hnm
   go_wp2_with (refine wpList_store_rowTo rfl 39 _ _ rfl rfl br #[.int .i64 f.name, .slice ai ni ci, .slice ac nc cc, .slice am nm cm, .int .i64 (a.k + 1)] rfl rfl _ _ HBR7.out HSZ.out rfl (oneE _ _ _ _ _ _ _ _ _ _ _) ?_)
   have hr4 := setRowBlkE HBR7.out [.int .i64 f.name, .slice ai ni ci, .slice ac nc cc, .slice am nm cm, .int .i64 (a.k + 1)]
   have hm8 := HM7.out.setRow HX.out HBR7.out (by rw [HY.out]; exact HLE.out) [.int .i64 f.name, .slice ai ni ci, .slice ac nc cc, .slice am nm cm, .int .i64 (a.k + 1)].toArray
   rw [patK_end (s := sf) (by rw [HMM.out]; exact Nat.le_refl _), HSF.out] at hm8
   refine bodyPost_ret (results_row_oneE rfl _ _ br _ _ _ _ rfl hr4 Tryz.underlying39 rfl HSZ.out) rfl ⟨XL, v, p, HXL.out, ?_, ?_, ?_⟩
   ·unfold lkV
    rw [e1, e2, e3]
    rfl
   ·have := hm8.be
    rw [HY.out] at this
    exact this
   ·rw [HY.out] at hm8
    exact hm8
end Go.Proofs.YtdnpoomagjcpfaaGreat
