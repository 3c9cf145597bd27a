/- The reference's virtual machine: Call, for a function without calls. -/
import Derived.Test.YtlcnbihfpjhffaaVmD
import Derived.Deep.LoopGhost
namespace Go.Proofs.Ytlcnbihfpjhffaa
open Go.RowKit
set_option linter.unusedVariables false
set_option linter.unusedSimpArgs false

theorem stepM_fu (x : VI) (s : VS) : (stepM x s).fu = s.fu - 1 := by
 unfold stepM
 split
 ·rfl
 ·unfold endS
  split
  ·rfl
  ·split <;> rfl
theorem stepM_st {x : VI} {s : VS} (h : (stepM x s).st = false) : 0 ≤ (stepM x s).fu := by
 rw [stepM_fu]
 unfold stepM at h
 split at h
 ·cases h
 ·omega
theorem inssV_fu : ∀ {l : List VI} {s : VS}, 0 ≤ s.fu → (inssV l s).fu ≤ s.fu ∧ -1 ≤ (inssV l s).fu ∧ ((inssV l s).st = false → 0 ≤ (inssV l s).fu)
 | [], s, h => ⟨Int.le_refl _, by show -1 ≤ s.fu; omega, fun _ => h⟩
 | x :: l, s, h => by
  have h1 := stepM_fu x s
  simp only [inssV]
  by_cases h2 : (stepM x s).st = true
  ·rw [if_pos h2]
   exact ⟨by omega, by omega, fun h9 => by rw [h2] at h9; cases h9⟩
  ·rw [if_neg h2]
   have h3 := stepM_st (by simpa using h2)
   obtain ⟨g1, g2, g3⟩ := inssV_fu (l := l) h3
   exact ⟨by omega, g2, g3⟩
/-- what a run asks of a function -/
structure VmF (f : VF) (n nb : Nat) : Prop where
 regs : f.regs = (n : Int)
 n2 : 0 < n ∧ n ≤ 10000
 nbl : nb = f.blocks.length
 sn : f.sn = nb
 nb2 : 0 < nb ∧ nb ≤ 4096
 pn : f.pn ≤ 6
 par : ∀ z ∈ f.params, 0 ≤ z ∧ z < n
 ops : ∀ i, i < nb → ∀ x ∈ (f.blk i).ins, OpV n x
 len : ∀ i, i < nb → (f.blk i).ins.length ≤ 4096
 ab : ∀ i, i < nb → (0 ≤ (f.blk i).e.a ∧ (f.blk i).e.a < n) ∧ 0 ≤ (f.blk i).e.b ∧ (f.blk i).e.b < n
 kind : ∀ i, i < nb → (f.blk i).e.kind = 0 ∨ (f.blk i).e.kind = 3 ∨ ((f.blk i).e.kind = 1 ∧ 1 ≤ (f.blk i).e.to.length) ∨ ((f.blk i).e.kind = 2 ∧ 2 ≤ (f.blk i).e.to.length ∧ ((f.blk i).e.op = 16 ∨ (f.blk i).e.op = 17 ∨ (f.blk i).e.op = 18))
 tos : ∀ i, i < nb → ∀ t ∈ (f.blk i).e.to, 0 ≤ t ∧ t < nb
theorem VmR.setAt {w0 w : World} {q fb : Nat} {f : VF} {gm mc : Nat} {oa : Option Addr} {oc : Nat} {dp : Int} {gr n : Nat} {s : VS} (h : VmR w0 w q fb f gm mc oa oc dp gr n s) {D : Nat} {v : Int} (hv : S32 v) {r : Nat → Int} (hr : ∀ i, r i = if i = D then v else s.rg i) : VmR w0 (w.setCell ⟨gr, D, none⟩ (.int .i64 v)) q fb f gm mc oa oc dp gr n ⟨r, s.m, s.p, s.fu, s.en, s.st, s.bad⟩ := by
 have h1 := h.qgr
 have h2 : RestV (fun k => k = gr) w (w.setCell ⟨gr, D, none⟩ (.int .i64 v)) := (RestV.refl (fun k => k = gr) w).set (p := ⟨gr, D, none⟩) rfl _
 have h3 := h.at_.rest h2 (fun k e => by rw [e]; exact h.lo) (fun e => h1 e.symm) (fun e => h.gne e.symm) (fun k e e2 => h.ono (by rw [← e2]; exact e)) (fun e => blk_tyV h.at_.fn h.rg (by decide) e)
 refine ⟨h3.regs _, ?_, fun i => ?_, h.gne, h.ono, h.lo⟩
 ·refine (h.rg.rowSet D (.int .i64 v)).rowCongr fun i _ => ?_
  show _ = Value.int .i64 (r i)
  rw [hr]
  split <;> rfl
 ·show S32 (r i)
  rw [hr]
  split
  ·exact hv
  ·exact h.rb i
/-- what stands while a call runs -/
structure CallI (w0 w wx : World) (q fb : Nat) (f : VF) (gm : Nat) (ov : Value) (gr fl n : Nat) (t : VS) : Prop where
 run : ∃ gm' mc' oa' oc', VmR w0 wx q fb f gm' mc' oa' oc' 1 gr n t ∧ (gm' = gm ∨ w.heap.size ≤ gm') ∧ (∀ k, (Value.slice oa' t.p.length oc').ownBlock = some k → ov.ownBlock = some k ∨ w.heap.size ≤ k)
 box : Blk wx fl 25 (fCV f)
 rest : RestV (fun k => k = q ∨ k = gm ∨ ov.ownBlock = some k) w wx
 grl : w.heap.size ≤ gr
theorem CallI.below {w0 w wx wy : World} {q fb : Nat} {f : VF} {gm : Nat} {ov : Value} {gr fl n : Nat} {t : VS} (h : CallI w0 w wx q fb f gm ov gr fl n t) (hb : Below wx.heap.size wx wy) : CallI w0 w wy q fb f gm ov gr fl n t := by
 obtain ⟨gm', mc', oa', oc', h1, h2, h3⟩ := h.run
 exact ⟨⟨gm', mc', oa', oc', h1.below hb, h2, h3⟩, h.box.below hb h.box.lt, h.rest.trans (RestV.ofBelow (S := fun _ => False) hb) fun _ _ e => e.elim, h.grl⟩
/-- the box of the run changes -/
theorem CallI.put {w0 w wx wy : World} {q fb : Nat} {f : VF} {gm : Nat} {ov : Value} {gr fl n : Nat} {t t' : VS} (h : CallI w0 w wx q fb f gm ov gr fl n t) (hw : ∀ gm' mc' oa' oc', VmAt w0 wx q fb f gm' mc' oa' oc' 1 t → VmAt w0 wy q fb f gm' mc' oa' oc' 1 t') (hr : RestV (fun k => k = q) wx wy) (hrg : t'.rg = t.rg) (hp : t'.p = t.p) : CallI w0 w wy q fb f gm ov gr fl n t' := by
 obtain ⟨gm', mc', oa', oc', h1, h2, h3⟩ := h.run
 refine ⟨⟨gm', mc', oa', oc', h1.keep (hw _ _ _ _ h1.at_) (hr.mono fun k e => .inl e) hrg (.inl rfl) (fun k e => .inl (by rw [hp] at e; exact e)), h2, fun k e => h3 k (by rw [hp] at e; exact e)⟩, h.box.of_heap (hr.block _ h.box.lt fun e => blk_tyV h.box h1.at_.box (by decide) e), h.rest.trans hr fun k _ e => .inl e, h.grl⟩
/-- a step -/
theorem CallI.step {w0 w wx wy : World} {q fb : Nat} {f : VF} {gm : Nat} {ov : Value} {gr fl n : Nat} {t t' : VS} {gm' mc' : Nat} {oa' : Option Addr} {oc' : Nat} (h : CallI w0 w wx q fb f gm ov gr fl n t) (h1 : VmR w0 wx q fb f gm' mc' oa' oc' 1 gr n t) (h2 : gm' = gm ∨ w.heap.size ≤ gm') (h3 : ∀ k, (Value.slice oa' t.p.length oc').ownBlock = some k → ov.ownBlock = some k ∨ w.heap.size ≤ k) (hs : StepQ w0 wx q fb f gm' (.slice oa' t.p.length oc') 1 gr n t' wy) : CallI w0 w wy q fb f gm ov gr fl n t' := by
 obtain ⟨g2, m2, oa2, oc2, k1, k2, k3, k4⟩ := hs
 have hsz := h.rest.size
 have hgr := h.grl
 refine ⟨⟨g2, m2, oa2, oc2, k1, ?_, fun k e => ?_⟩, h.box.of_heap (k4.block _ h.box.lt fun e => ?_), h.rest.trans k4 fun k hk e => ?_, h.grl⟩
 ·rcases k2 with e | e
  ·rw [e]; exact h2
  ·right; omega
 ·rcases k3 k e with e | e
  ·exact h3 k e
  ·right; omega
 ·rcases e with e | e | e | e
  ·exact blk_tyV h.box h1.at_.box (by decide) e
  ·exact own_tyV h1.at_.wo h.box (by decide) (by rw [e]; rfl)
  ·exact own_tyV h1.at_.oo h.box (by decide) e
  ·exact blk_tyV h.box h1.rg (by decide) e
 ·rcases e with e | e | e | e
  ·exact .inl e
  ·rcases h2 with h9 | h9
   ·exact .inr (.inl (e.trans h9))
   ·omega
  ·rcases h3 k e with h9 | h9
   ·exact .inr (.inr h9)
   ·omega
  ·omega
def CallQ (w0 w : World) (q fb : Nat) (f : VF) (gm : Nat) (ov : Value) (s0 : VS) (e : Ending) (w' : World) : Prop :=
 ∃ (v : Int) (s' : VS) (gm' mc' : Nat) (oa' : Option Addr) (oc' : Nat), e = .returned (.int .i64 v) ∧ RunV f 0 s0 s' v ∧ VmAt w0 w' q fb f gm' mc' oa' oc' 0 s' ∧ RestV (fun k => k = q ∨ k = gm ∨ ov.ownBlock = some k) w w' ∧ (gm' = gm ∨ w.heap.size ≤ gm') ∧ ∀ k, (Value.slice oa' s'.p.length oc').ownBlock = some k → ov.ownBlock = some k ∨ w.heap.size ≤ k
set_option maxRecDepth 100000 in
set_option maxHeartbeats 8000000 in
theorem call_any {w0 w : World} {q fb : Nat} {f : VF} {gm mc : Nat} {oa : Option Addr} {oc : Nat} {s : VS} (h : VmAt w0 w q fb f gm mc oa oc 0 s) (hst : s.st = false) (hfu : 0 ≤ s.fu) (hf : f.Ok w0) {n nb : Nat} (hok : VmF f n nb) (la : Option Addr) (lc : Nat) (l : List Int) (hl : Came w0 la f.pn lc 1 (l.map intCells)) (hlb : ∀ z ∈ l, S32 z) :
  Calls Try.prog 15 #[.pointer (some ⟨q, 0, none⟩), .int .i64 0, .slice la f.pn lc] w (CallQ w0 w q fb f gm (.slice oa s.p.length oc) ⟨startR f.params l f.pn, s.m, s.p, s.fu, s.en, false, s.bad⟩) := by
 have b0 := h.box.cell 0
 have b8 := h.box.cell 8
 have g8 := h.box.free 8
 simp only [vmC, List.getElem?_cons_zero, List.getElem?_cons_succ] at b0 b8
 have f0 := h.fn.cell 0
 have f1 := h.fn.cell 1
 have f2 := h.fn.cell 2
 have f3 := h.fn.cell 3
 simp only [fCV, List.getElem?_cons_zero, List.getElem?_cons_succ] at f0 f1 f2 f3
 have hpn := hok.pn
 have hn := hok.n2
 have hnb := hok.nb2
 have hql := h.box.lt
 have hfl := h.fn.lt
 have HOK := Lib.hid hok
 have HF := Lib.hid hf
 have H := Lib.hid h
 have HL := Lib.hid hl
 have HLB := Lib.hid hlb
 have HST := Lib.hid hst
 have HFU := Lib.hid hfu
 have HREG := Lib.hid hok.regs
 have HSN := Lib.hid hok.sn
 obtain ⟨pa, hpa⟩ : ∃ z, z = f.pa := ⟨_, rfl⟩
 obtain ⟨pn, hpnn⟩ : ∃ z, z = f.pn := ⟨_, rfl⟩
 obtain ⟨sa, hsa⟩ : ∃ z, z = f.sa := ⟨_, rfl⟩
 rw [← hpa, ← hpnn] at f1
 rw [← hpnn] at hpn
 rw [HREG.out] at f2
 rw [← hsa, HSN.out] at f3
 have HPA := Lib.hid hpa
 have HPN := Lib.hid hpnn
 have HSA := Lib.hid hsa
 rw [← hpnn]
 clear h hst hfu hf hok hl hlb hpa hpnn hsa
 obtain ⟨s0, hs0⟩ : ∃ z, z = (⟨startR f.params l pn, s.m, s.p, s.fu, s.en, false, s.bad⟩ : VS) := ⟨_, rfl⟩
 rw [← hs0]
 have HS0 := Lib.hid hs0
 clear hs0
 go_enter Try.func15, Try.ntmps15
 go_upto_region 6 with fail
 have hw5 : VmAt w0 (w.setCell ⟨q, 8, none⟩ (.int .i64 1)) q fb f gm mc oa oc 1 s := H.out.deep 1
 have hr5 : RestV (fun k => k = q ∨ k = gm ∨ (Value.slice oa s.p.length oc).ownBlock = some k) w (w.setCell ⟨q, 8, none⟩ (.int .i64 1)) := (RestV.refl _ w).set (p := ⟨q, 8, none⟩) (.inl rfl) _
 have hb6 : Below (w.setCell ⟨q, 8, none⟩ (.int .i64 1)).heap.size (w.setCell ⟨q, 8, none⟩ (.int .i64 1)) ((w.setCell ⟨q, 8, none⟩ (.int .i64 1)).alloc (.cells #[.int .i64 f.name, .slice pa pn f.pc, .int .i64 (n : Int), .slice sa nb f.sc] 25)) := (Below.refl _ _).alloc (Nat.le_refl _) _
 have HW6 := Lib.hid (hw5.below hb6)
 have HR6 : Hid (RestV (fun k => k = q ∨ k = gm ∨ (Value.slice oa s.p.length oc).ownBlock = some k) w ((w.setCell ⟨q, 8, none⟩ (.int .i64 1)).alloc (.cells #[.int .i64 f.name, .slice pa pn f.pc, .int .i64 (n : Int), .slice sa nb f.sc] 25))) := hr5.trans (RestV.ofBelow (S := fun _ => False) hb6) fun _ _ e => e.elim
 have HB6 : Hid (Blk ((w.setCell ⟨q, 8, none⟩ (.int .i64 1)).alloc (.cells #[.int .i64 f.name, .slice pa pn f.pc, .int .i64 (n : Int), .slice sa nb f.sc] 25)) w.heap.size 25 (fCV f)) := by
  have := Blk.new (w.setCell ⟨q, 8, none⟩ (.int .i64 1)) (fCV f) 25
  rw [show (w.setCell ⟨q, 8, none⟩ (.int .i64 1)).heap.size = w.heap.size by simp] at this
  rw [HPA.out, HPN.out, HSA.out, ← HREG.out, ← HSN.out]
  exact this
 have HSZ6 : Hid (((w.setCell ⟨q, 8, none⟩ (.int .i64 1)).alloc (.cells #[.int .i64 f.name, .slice pa pn f.pc, .int .i64 (n : Int), .slice sa nb f.sc] 25)).heap.size = w.heap.size + 1) := by simp [Hid]
 obtain ⟨fl, hfl2⟩ : ∃ z, z = w.heap.size := ⟨_, rfl⟩
 rw [← hfl2] at HB6 ⊢
 clear hw5 hr5 hb6 b0 b8 g8 f0 f1 f2 f3
 generalize (w.setCell ⟨q, 8, none⟩ (.int .i64 1)).alloc (.cells #[.int .i64 f.name, .slice pa pn f.pc, .int .i64 (n : Int), .slice sa nb f.sc] 25) = w6 at HW6 HR6 HB6 HSZ6 ⊢
 have HFL := Lib.hid hfl2
 clear hfl2
 have c2 : w6.cell? ⟨fl, 2, none⟩ = some (.int .i64 (n : Int)) := by rw [HB6.out.cell, ← HREG.out]; rfl
 have hfl3 := HB6.out.lt
 have hmk : ∀ w : World, (Instr.makeSlice 22 (.int .i64 (n : Int)) (.int .i64 (n : Int))).run Try.prog w = .ok (.slice (some ⟨w.heap.size, 0, none⟩) n n) (w.alloc (.cells (rowL n fun _ => .int .i64 0).toArray 3)) := fun w => run_make_rep (P := Try.prog) 22 3 (.int .i64 0) 8 Try.underlying22 Try.infoT3 rfl n (by omega) (by omega) w
 have HC0 : Hid (CallI w0 w (w6.alloc (.cells (rowL n fun _ => .int .i64 0).toArray 3)) q fb f gm (.slice oa s.p.length oc) w6.heap.size fl n ⟨startR f.params l 0, s.m, s.p, s.fu, s.en, false, s.bad⟩) := by
  have hb : Below w6.heap.size w6 (w6.alloc (.cells (rowL n fun _ => .int .i64 0).toArray 3)) := (Below.refl _ _).alloc (Nat.le_refl _) _
  have h1 := H.out.glo.2
  have h2 := HSZ6.out
  have h3 := (HW6.out.below hb).regs (startR f.params l 0)
  rw [HST.out] at h3
  have h4 := HW6.out.be.size
  refine ⟨⟨gm, mc, oa, oc, ⟨h3, Blk.new w6 (rowL n fun _ => .int .i64 0) 3, fun i => by show S32 0; unfold S32; omega, by omega, fun e => ?_, h4⟩, .inl rfl, fun k e => .inl e⟩, HB6.out.below hb HB6.out.lt, HR6.out.trans (RestV.ofBelow (S := fun _ => False) hb) fun _ _ e => e.elim, by omega⟩
  have := (H.out.oo.lt _ e).2
  omega
 go_upto_region 7 with fail
 obtain ⟨gr, hgr⟩ : ∃ z, z = w6.heap.size := ⟨_, rfl⟩
 rw [← hgr] at HC0 ⊢
 clear c2 hmk hgr
 generalize w6.alloc (.cells (rowL n fun _ => .int .i64 0).toArray 3) = w7 at HC0 ⊢
 clear HW6 HR6 HB6 HSZ6 hfl3
 have c1 : w7.cell? ⟨fl, 1, none⟩ = some (.slice pa pn f.pc) := by rw [HC0.out.box.cell, HPA.out, HPN.out]; rfl
 go_wp2_with fail
 clear c1
 go_loopw [72] (fun u wx => ∃ i : Nat, i ≤ pn ∧ u = .int .i64 (i : Int) ∧ CallI w0 w wx q fb f gm (.slice oa s.p.length oc) gr fl n ⟨startR f.params l i, s.m, s.p, s.fu, s.en, false, s.bad⟩) (fun u _ => pn - (intOf u).toNat)
 case atStart => exact ⟨0, Nat.zero_le _, rfl, HC0.out⟩
 case round =>
  clear HC0
  obtain ⟨i, hi, rfl, hc⟩ := hrel
  have HC := Lib.hid hc
  clear hc
  by_cases hlt : i < pn
  ·have hbe : Below w0.heap.size w0 wr := by obtain ⟨_, _, _, _, h1, _⟩ := HC.out.run; exact h1.at_.be
   obtain ⟨ga, oa1, hpa2, hga, hpc⟩ := HF.out.pcame.ints (by rw [← HPN.out]; omega)
   obtain ⟨gl, ol, hla2, hgl, hlc⟩ := HL.out.ints (by rw [← HPN.out]; omega)
   have hpl : f.params.length = f.pn := HF.out.plen
   have hll : l.length = f.pn := by simpa using HL.out.count
   have hmx := HF.out.pcame.max
   have hmy := HL.out.max
   have hle1 := HF.out.pcame.le
   have hle2 := HL.out.le
   rw [← HPN.out] at hpl hll hle1 hle2
   have k1 := (hbe.cell (p := ⟨ga, oa1 + i, none⟩) hga).trans (hpc i (by omega))
   have k2 := (hbe.cell (p := ⟨gl, ol + i, none⟩) hgl).trans (hlc i (by omega))
   have hpr := HOK.out.par (f.params[i]'(by omega)) (List.getElem_mem _)
   have hlr := HLB.out (l[i]'(by omega)) (List.getElem_mem _)
   obtain ⟨D, hD⟩ : ∃ D : Nat, f.params[i]'(by omega) = (D : Int) := ⟨(f.params[i]'(by omega)).toNat, by omega⟩
   obtain ⟨z, hz⟩ : ∃ z, z = l[i]'(by omega) := ⟨_, rfl⟩
   rw [hD] at k1 hpr
   rw [← hz] at k2 hlr
   have HST2 : Hid (∀ r, startR f.params l (i + 1) r = if r = D then z else startR f.params l i r) := fun r => by
    simp only [startR]
    rw [List.getD_eq_getElem?_getD, List.getElem?_eq_getElem (show i < f.params.length by omega), List.getD_eq_getElem?_getD, List.getElem?_eq_getElem (show i < l.length by omega)]
    simp only [Option.getD_some, hD, Int.toNat_natCast, ← hz]
   have hgw : ga < wr.heap.size := Nat.lt_of_lt_of_le hga hbe.size
   have hlw : gl < wr.heap.size := Nat.lt_of_lt_of_le hgl hbe.size
   rw [← HPA.out] at hpa2
   subst hpa2 hla2
   have HC2 : Hid (CallI w0 w (wr.setCell ⟨gr, D, none⟩ (.int .i64 z)) q fb f gm (.slice oa s.p.length oc) gr fl n ⟨startR f.params l (i + 1), s.m, s.p, s.fu, s.en, false, s.bad⟩) := by
    obtain ⟨gm', mc', oa', oc', h1, h2, h3⟩ := HC.out.run
    have h4 := h1.setAt (D := D) (r := startR f.params l (i + 1)) hlr HST2.out
    exact ⟨⟨gm', mc', oa', oc', h4, h2, h3⟩, HC.out.box.setOther (a := ⟨gr, D, none⟩) (blk_tyV HC.out.box h1.rg (by decide)) _, HC.out.rest.trans ((RestV.refl (fun k => k = gr) wr).set (p := ⟨gr, D, none⟩) rfl _) (fun k hk e => by have := HC.out.grl; omega), HC.out.grl⟩
   have hrd : ∃ v, wr.cell? ⟨gr, D, none⟩ = some (.int .i64 v) ∧ wr.frozen? ⟨gr, D, none⟩ = false ∧ gr < wr.heap.size := by
    obtain ⟨gm', mc', oa', oc', h1, h2, h3⟩ := HC.out.run
    exact ⟨_, h1.rg.row (by omega), h1.rg.free D, h1.rg.lt⟩
   obtain ⟨v9, k3, k4, k5⟩ := hrd
   clear hpc hlc hbe hpl hll hD hz HC HST2 hlr
   go_wp2_with fail
   go_roundw
   case rel => exact ⟨i + 1, by omega, by go_num, HC2.out⟩
   case measure => simp [intOf]; omega
  ·have ei : i = pn := by omega
   have HC2 : Hid (CallI w0 w wr q fb f gm (.slice oa s.p.length oc) gr fl n s0) := by
    show CallI _ _ _ _ _ _ _ _ _ _ _ _
    rw [HS0.out, ← ei]; exact HC.out
   have HS1 : Hid (s0.st = false ∧ s0.fu ≤ 500 ∧ 0 ≤ s0.fu) := by
    show s0.st = false ∧ s0.fu ≤ 500 ∧ 0 ≤ s0.fu
    rw [HS0.out]; exact ⟨rfl, H.out.fu.2, HFU.out⟩
   clear HC HS0 HST HFU H
   subst ei
   go_wp2_with fail
   go_loopg [11] 600 (fun gk v wx => ∃ (i : Nat) (t : VS), v = .int .i64 (i : Int) ∧ i < nb ∧ CallI w0 w wx q fb f gm (.slice oa s.p.length oc) gr fl n t ∧ (t.st = false → 0 ≤ t.fu ∧ ∀ s' v, RunV f i t s' v → RunV f 0 s0 s' v) ∧ (t.st = true → RunV f 0 s0 t 0) ∧ (t.fu + 3).toNat ≤ gk)
   case atStart =>
    exact ⟨0, s0, rfl, hnb.1, HC2.out, fun _ => ⟨HS1.out.2.2, fun s' v h => h⟩, fun e => (by have := HS1.out.1; rw [this] at e; cases e), by have := HS1.out.2; omega⟩
   case round =>
    clear HC2 HS1
    obtain ⟨i, t, rfl, hi, hc, hrun, hend, hgk⟩ := hrel
    have HC := Lib.hid hc
    have HRUN := Lib.hid hrun
    have HEND := Lib.hid hend
    have HGK := Lib.hid hgk
    have hbx : ∃ fu ov dp, wr.cell? ⟨q, 6, none⟩ = some (.bool t.st) ∧ wr.cell? ⟨q, 8, none⟩ = some (.int .i64 1) ∧ wr.frozen? ⟨q, 8, none⟩ = false ∧ q < wr.heap.size ∧ fu = (0 : Int) ∧ ov = (0 : Int) ∧ dp = (0 : Int) := by
     obtain ⟨gm', mc', oa', oc', h1, _, _⟩ := HC.out.run
     exact ⟨0, 0, 0, by rw [h1.at_.box.cell]; rfl, by rw [h1.at_.box.cell]; rfl, h1.at_.box.free 8, h1.at_.box.lt, rfl, rfl, rfl⟩
    obtain ⟨_, _, _, x6, x8, y8, hq8, _, _, _⟩ := hbx
    clear hc hrun hend hgk
    obtain ⟨st, hst⟩ : ∃ z, z = t.st := ⟨_, rfl⟩
    rw [← hst] at x6
    have HSTT := Lib.hid hst
    clear hst
    cases st with
    | true =>
     have HQ : Hid (CallQ w0 w q fb f gm (.slice oa s.p.length oc) s0 (.returned (.int .i64 0)) (wr.setCell ⟨q, 8, none⟩ (.int .i64 0))) := by
      obtain ⟨gm', mc', oa', oc', h1, h2, h3⟩ := HC.out.run
      exact ⟨0, t, gm', mc', oa', oc', rfl, HEND.out HSTT.out.symm, h1.at_.deep 0, HC.out.rest.set (p := ⟨q, 8, none⟩) (.inl rfl) _, h2, h3⟩
     go_wp2_with fail
     go_ret
     exact HQ.out
    | false =>
     have hib : i < f.blocks.length := by have := HOK.out.nbl; omega
     have hbe : Below w0.heap.size w0 wr := by obtain ⟨_, _, _, _, h1, _⟩ := HC.out.run; exact h1.at_.be
     obtain ⟨gb, ob, hsa2, hgb, d0, d1, d2, d3, d4, d5, d6⟩ := HF.out.cells hbe hib
     have hbo : f.blocks[i].Ok w0 := HF.out.blocks _ (List.getElem_mem _)
     rw [VF.blk_get f hib] at d0 d1 d2 d3 d4 d5 d6 hbo
     obtain ⟨bk, hbk⟩ : ∃ b, b = f.blk i := ⟨_, rfl⟩
     have hlen := HOK.out.len i hi
     rw [← hbk] at d0 d1 d2 d3 d4 d5 d6 hbo hlen
     have hbl := hbo.len
     have hcm := hbo.came.max
     have hcl := hbo.came.le
     have hfcm := HF.out.came.max
     have hfcl := HF.out.came.le
     rw [HSN.out] at hfcl
     have x3 : wr.cell? ⟨fl, 3, none⟩ = some (.slice sa nb f.sc) := by rw [HC.out.box.cell, HSA.out, ← HSN.out]; rfl
     rw [← HSA.out] at hsa2
     subst hsa2
     have HBO := Lib.hid hbo
     have HBK := Lib.hid hbk
     have hgbw : gb < wr.heap.size := Nat.lt_of_lt_of_le hgb hbe.size
     have hfl4 := HC.out.box.lt
     obtain ⟨sb, hsb⟩ : ∃ s, s = bk.sa := ⟨_, rfl⟩
     rw [← hsb] at d0
     have HSB := Lib.hid hsb
     have hrun := HRUN.out HSTT.out.symm
     have HRF := Lib.hid hrun.1
     have HRUN2 := Lib.hid hrun.2
     clear hbo hbk hsb hbe hrun HRUN HEND
     go_upto_block 4 with fail
     go_cut [13] from 97 to 109 (fun v wx => CallI w0 w wx q fb f gm (.slice oa s.p.length oc) gr fl n (inssV bk.ins t))
     case first => as_aux_lemma =>
      clear d1 d2 d3 d4 d5 d6 x6 x8 y8 x3 d0
      go_wp2_with fail
      go_loopw [13, 97] (fun v u wx => ∃ (k : Nat) (t1 : VS), k ≤ bk.sn ∧ u = .int .i64 (k : Int) ∧ CallI w0 w wx q fb f gm (.slice oa s.p.length oc) gr fl n t1 ∧ t1.st = false ∧ 0 ≤ t1.fu ∧ inssV bk.ins t = inssV (bk.ins.drop k) t1) (fun _ u _ => bk.sn - (intOf u).toNat)
      case atStart => exact ⟨0, t, Nat.zero_le _, rfl, HC.out, HSTT.out.symm, HRF.out, rfl⟩
      case round =>
       clear HC HSTT HRF
       obtain ⟨k, t1, hk, rfl, hc, hts, htf, heq⟩ := hrel
       have HC := Lib.hid hc
       have HTS := Lib.hid hts
       have HTF := Lib.hid htf
       have HEQ := Lib.hid heq
       clear hc hts htf heq
       by_cases hkl : k < bk.sn
       ·have hkb : k < bk.ins.length := by omega
        have hbe : Below w0.heap.size w0 wr := by obtain ⟨_, _, _, _, h1, _⟩ := HC.out.run; exact h1.at_.be
        obtain ⟨gi, oi, hsb2, hgi, e0, e1, e2, e3, e4, e5⟩ := HBO.out.cells hbe hkb
        obtain ⟨x, hx⟩ : ∃ z, z = bk.ins[k] := ⟨_, rfl⟩
        have hop := HOK.out.ops i hi x (by rw [hx, ← HBK.out]; exact List.getElem_mem _)
        have HOPX := Lib.hid hop
        have hdrop : bk.ins.drop k = x :: bk.ins.drop (k + 1) := by rw [hx]; exact (List.drop_eq_getElem_cons hkb)
        have HDROP := Lib.hid hdrop
        rw [← hx] at e0 e1 e2 e3 e4 e5
        rw [← HSB.out] at hsb2
        subst hsb2
        have hgiw : gi < wr.heap.size := Nat.lt_of_lt_of_le hgi hbe.size
        clear hop hdrop hx
        go_upto_region 17 with fail
        have hba : Below wr.heap.size wr (wr.alloc (.cells #[.int .i64 x.op, .int .i64 x.d, .int .i64 x.a, .int .i64 x.b, .int .i64 x.n, .slice x.sa x.sn x.sc] 47)) := (Below.refl _ _).alloc (Nat.le_refl _) _
        have HCA := Lib.hid (HC.out.below hba)
        have HXA : Hid (Blk (wr.alloc (.cells #[.int .i64 x.op, .int .i64 x.d, .int .i64 x.a, .int .i64 x.b, .int .i64 x.n, .slice x.sa x.sn x.sc] 47)) wr.heap.size 47 (viC x)) := Blk.new wr (viC x) _
        clear e0 e1 e2 e3 e4 e5 hba HC hbe
        generalize wr.alloc (.cells #[.int .i64 x.op, .int .i64 x.d, .int .i64 x.a, .int .i64 x.b, .int .i64 x.n, .slice x.sa x.sn x.sc] 47) = w8 at HCA HXA ⊢
        have y0 := HXA.out.cell 0
        have y1 := HXA.out.cell 1
        have y2 := HXA.out.cell 2
        have y3 := HXA.out.cell 3
        have y4 := HXA.out.cell 4
        have y5 := HXA.out.cell 5
        simp only [viC, List.getElem?_cons_zero, List.getElem?_cons_succ] at y0 y1 y2 y3 y4 y5
        obtain ⟨gm', mc', oa', oc', h1, h2, h3⟩ := HCA.out.run
        have HST9 := Lib.hid (step_any h1 HTS.out HTF.out hn.2 x HOPX.out)
        have HV1 := Lib.hid h1
        have HV2 := Lib.hid h2
        have HV3 := Lib.hid h3
        unfold viV at HST9
        clear h1 h2 h3
        go_wp2_with fail
        refine HST9.out.mono ?_
        rintro e w9 ⟨rfl, hq9⟩
        have HC9 := Lib.hid (HCA.out.step HV1.out HV2.out HV3.out hq9)
        clear hq9 y0 y1 y2 y3 y4 y5 HST9 HV1 HV2 HV3 HCA HXA
        have hb6 : ∃ z, z = (stepM x t1).st ∧ w9.cell? ⟨q, 6, none⟩ = some (.bool z) ∧ q < w9.heap.size := by
         obtain ⟨gm', mc', oa', oc', h1, _, _⟩ := HC9.out.run
         exact ⟨_, rfl, by rw [h1.at_.box.cell]; rfl, h1.at_.box.lt⟩
        obtain ⟨z, hz, z6, hq9⟩ := hb6
        have HZ := Lib.hid hz
        clear hz
        cases z with
        | true =>
         have HE : Hid (inssV bk.ins t = stepM x t1) := by
          show _ = _
          rw [HEQ.out, HDROP.out]
          simp only [inssV]
          rw [if_pos HZ.out.symm]
         go_wp2_with fail
         go_meet
         show CallI _ _ _ _ _ _ _ _ _ _ _ _
         rw [HE.out]
         exact HC9.out
        | false =>
         have HE : Hid (inssV bk.ins t = inssV (bk.ins.drop (k + 1)) (stepM x t1)) := by
          show _ = _
          rw [HEQ.out, HDROP.out]
          simp only [inssV]
          rw [if_neg (by rw [← HZ.out]; simp)]
         go_wp2_with fail
         go_roundw
         case rel => exact ⟨k + 1, _, by omega, by go_num, HC9.out, HZ.out.symm, stepM_st HZ.out.symm, HE.out⟩
         case measure => simp [intOf]; omega
       ·have ek : bk.sn = k := by omega
        have HE : Hid (inssV bk.ins t = t1) := by
         show _ = _
         rw [HEQ.out, List.drop_eq_nil_of_le (by omega)]
         rfl
        go_wp2_with fail
        go_meet
        show CallI _ _ _ _ _ _ _ _ _ _ _ _
        rw [HE.out]
        exact HC.out
     case rest => as_aux_lemma =>
      have HC1 := Lib.hid hcut
      clear hcut d0 d1 d2 d3 d4 d5 d6 x3 x6 x8 y8 HC
      obtain ⟨t1, ht1⟩ : ∃ z, z = inssV bk.ins t := ⟨_, rfl⟩
      rw [← ht1] at HC1
      have hfu := inssV_fu (l := bk.ins) (s := t) HRF.out
      rw [← ht1] at hfu
      obtain ⟨hf1, hf2, hf3⟩ := hfu
      have HF1 : Hid (t1.fu ≤ t.fu) := hf1
      have HBLK : Hid (blkV (f.blk i) t = tickV t1) := by show _ = _; unfold blkV; rw [← HBK.out, ht1]
      have hb3 : ∃ z, z = t1.fu ∧ z ≤ 500 ∧ wc.cell? ⟨q, 3, none⟩ = some (.int .i64 z) ∧ wc.frozen? ⟨q, 3, none⟩ = false ∧ q < wc.heap.size := by
       obtain ⟨gm', mc', oa', oc', h1, _, _⟩ := HC1.out.run
       exact ⟨_, rfl, h1.at_.fu.2, by rw [h1.at_.box.cell]; rfl, h1.at_.box.free 3, h1.at_.box.lt⟩
      obtain ⟨fu, hfq, hfm, x3, y3, hq3⟩ := hb3
      have HFQ := Lib.hid hfq
      rw [← hfq] at hf2
      have HC2 : Hid (CallI w0 w (wc.setCell ⟨q, 3, none⟩ (.int .i64 (fu - 1))) q fb f gm (.slice oa s.p.length oc) gr fl n t1.tick) := by
       refine HC1.out.put (fun _ _ _ _ h1 => ?_) ((RestV.refl (fun k => k = q) wc).set (p := ⟨q, 3, none⟩) rfl _) rfl rfl
       rw [hfq]
       exact h1.put 3 _ rfl rfl (by have := h1.fu; show -2 ≤ t1.fu - 1 ∧ t1.fu - 1 ≤ 500; omega) rfl
      have HF3 := Lib.hid hf3
      have HRF2 := HRF
      clear hf1 hf3 hfq ht1 HBK HRF
      go_upto_region 21 with fail
      generalize wc.setCell ⟨q, 3, none⟩ (.int .i64 (fu - 1)) = w2 at HC2 ⊢
      clear x3 y3 hq3 HC1
      have hb3 : w2.cell? ⟨q, 3, none⟩ = some (.int .i64 (fu - 1)) ∧ w2.cell? ⟨q, 6, none⟩ = some (.bool t1.st) ∧ w2.cell? ⟨q, 8, none⟩ = some (.int .i64 1) ∧ w2.frozen? ⟨q, 8, none⟩ = false ∧ q < w2.heap.size := by
       obtain ⟨gm', mc', oa', oc', h1, _, _⟩ := HC2.out.run
       exact ⟨by rw [h1.at_.box.cell, HFQ.out]; rfl, by rw [h1.at_.box.cell]; rfl, by rw [h1.at_.box.cell]; rfl, h1.at_.box.free 8, h1.at_.box.lt⟩
      obtain ⟨x3, x6, x8, y8, hq2⟩ := hb3
      by_cases hneg : fu - 1 < 0
      ·have HTV : Hid (tickV t1 = t1.tick.fail) := by show _ = _; unfold tickV; rw [if_pos (by rw [← HFQ.out]; exact hneg)]
       have HRU : Hid (RunV f 0 s0 t1.tick.fail 0) := by
        have := RunV.stop (f := f) (i := i) (s := t) (by rw [HBLK.out, HTV.out]; rfl)
        rw [HBLK.out, HTV.out] at this
        exact HRUN2.out _ _ this
       have hfa : Calls Try.prog 37 #[.pointer (some ⟨q, 0, none⟩)] w2 fun e w' => e = .returned (.tuple #[]) ∧ CallI w0 w w' q fb f gm (.slice oa s.p.length oc) gr fl n t1.tick.fail := by
        obtain ⟨gm', mc', oa', oc', h1, h2, h3⟩ := HC2.out.run
        refine (fail_any h1.at_).mono ?_
        rintro e w' ⟨he, hv, hr⟩
        refine ⟨he, ⟨⟨gm', mc', oa', oc', h1.keep hv (hr.mono fun k e => .inl e) rfl (.inl rfl) (fun k e => .inl e), h2, h3⟩, HC2.out.box.of_heap (hr.block _ HC2.out.box.lt fun e => blk_tyV HC2.out.box h1.at_.box (by decide) e), HC2.out.rest.trans hr fun k _ e => .inl e, HC2.out.grl⟩⟩
       have HFA := Lib.hid hfa
       clear hfa
       go_wp2_with fail
       refine HFA.out.mono ?_
       rintro e w3 ⟨rfl, hc3⟩
       have HC3 := Lib.hid hc3
       have hb3 : w3.cell? ⟨q, 6, none⟩ = some (.bool true) ∧ w3.cell? ⟨q, 8, none⟩ = some (.int .i64 1) ∧ w3.frozen? ⟨q, 8, none⟩ = false ∧ q < w3.heap.size := by
        obtain ⟨gm', mc', oa', oc', h1, _, _⟩ := hc3.run
        exact ⟨by rw [h1.at_.box.cell]; rfl, by rw [h1.at_.box.cell]; rfl, h1.at_.box.free 8, h1.at_.box.lt⟩
       obtain ⟨z6, z8, u8, hq3⟩ := hb3
       have HQ : Hid (CallQ w0 w q fb f gm (.slice oa s.p.length oc) s0 (.returned (.int .i64 0)) (w3.setCell ⟨q, 8, none⟩ (.int .i64 0))) := by
        obtain ⟨gm', mc', oa', oc', h1, h2, h3⟩ := HC3.out.run
        exact ⟨0, _, gm', mc', oa', oc', rfl, HRU.out, h1.at_.deep 0, HC3.out.rest.set (p := ⟨q, 8, none⟩) (.inl rfl) _, h2, h3⟩
       clear hc3 x3 x6 x8 y8 hq2 HFA
       go_wp2_with fail
       go_ret
       exact HQ.out
      ·have HTV : Hid (tickV t1 = t1.tick) := by show _ = _; unfold tickV; rw [if_neg (by rw [← HFQ.out]; exact hneg)]
       obtain ⟨st, hst⟩ : ∃ z, z = t1.st := ⟨_, rfl⟩
       rw [← hst] at x6
       have HST1 := Lib.hid hst
       clear hst
       cases st with
       | true =>
        have HRU : Hid (RunV f 0 s0 t1.tick 0) := by
         have := RunV.stop (f := f) (i := i) (s := t) (by rw [HBLK.out, HTV.out]; exact HST1.out.symm)
         rw [HBLK.out, HTV.out] at this
         exact HRUN2.out _ _ this
        have HQ : Hid (CallQ w0 w q fb f gm (.slice oa s.p.length oc) s0 (.returned (.int .i64 0)) (w2.setCell ⟨q, 8, none⟩ (.int .i64 0))) := by
         obtain ⟨gm', mc', oa', oc', h1, h2, h3⟩ := HC2.out.run
         exact ⟨0, _, gm', mc', oa', oc', rfl, HRU.out, h1.at_.deep 0, HC2.out.rest.set (p := ⟨q, 8, none⟩) (.inl rfl) _, h2, h3⟩
        go_wp2_with fail
        go_ret
        exact HQ.out
       | false =>
        have HB0 : Hid ((blkV (f.blk i) t).st = false) := by show _ = _; rw [HBLK.out, HTV.out]; exact HST1.out.symm
        have HBT : Hid (blkV (f.blk i) t = t1.tick) := HBLK.out.trans HTV.out
        have hbe2 : Below w0.heap.size w0 w2 := by obtain ⟨_, _, _, _, h1, _⟩ := HC2.out.run; exact h1.at_.be
        obtain ⟨gb', ob', hsa3, _, d0, d1, d2, d3, d4, d5, d6⟩ := HF.out.cells hbe2 hib
        rw [← HSA.out] at hsa3
        injection hsa3 with hsa3
        injection hsa3 with hq1 hq2' _
        subst hq1 hq2'
        rw [VF.blk_get f hib] at d0 d1 d2 d3 d4 d5 d6
        obtain ⟨ek, hek⟩ : ∃ z, z = (f.blk i).e := ⟨_, rfl⟩
        have heo : ek.Ok w0 := by rw [hek, ← VF.blk_get f hib]; exact (HF.out.blocks _ (List.getElem_mem _)).e
        have HAB := Lib.hid (HOK.out.ab i hi)
        have HKD := Lib.hid (HOK.out.kind i hi)
        have HTO := Lib.hid (HOK.out.tos i hi)
        have HEK := Lib.hid hek
        rw [← hek] at d1 d2 d3 d4 d5 d6 HAB HKD HTO
        have x3b : w2.cell? ⟨fl, 3, none⟩ = some (.slice (some ⟨gb, ob, none⟩) nb f.sc) := by rw [HC2.out.box.cell, HSA.out, ← HSN.out]; rfl
        have hfl5 := HC2.out.box.lt
        have hgb5 : gb < w2.heap.size := Nat.lt_of_lt_of_le hgb hbe2.size
        have HEO := Lib.hid heo
        clear hek heo hbe2 x8 y8 d0
        obtain ⟨esa, hesa⟩ : ∃ z, z = ek.sa := ⟨_, rfl⟩
        rw [← hesa] at d6
        have HESA := Lib.hid hesa
        clear hesa
        go_upto_region 25 with fail
        have hba : Below w2.heap.size w2 (w2.alloc (.cells #[.int .i64 ek.kind, .int .i64 ek.op, .int .i64 ek.a, .int .i64 ek.b, .int .i64 ek.n, .slice esa ek.sn ek.sc] 43)) := (Below.refl _ _).alloc (Nat.le_refl _) _
        have HC4 := Lib.hid (HC2.out.below hba)
        have HEB : Hid (Blk (w2.alloc (.cells #[.int .i64 ek.kind, .int .i64 ek.op, .int .i64 ek.a, .int .i64 ek.b, .int .i64 ek.n, .slice esa ek.sn ek.sc] 43)) w2.heap.size 43 [.int .i64 ek.kind, .int .i64 ek.op, .int .i64 ek.a, .int .i64 ek.b, .int .i64 ek.n, .slice esa ek.sn ek.sc]) := Blk.new w2 _ _
        obtain ⟨eb, heb⟩ : ∃ z, z = w2.heap.size := ⟨_, rfl⟩
        rw [← heb] at HEB ⊢
        clear hba heb d1 d2 d3 d4 d5 d6 x3 x6 x3b hfl5 hgb5
        generalize w2.alloc (.cells #[.int .i64 ek.kind, .int .i64 ek.op, .int .i64 ek.a, .int .i64 ek.b, .int .i64 ek.n, .slice esa ek.sn ek.sc] 43) = w3 at HC4 HEB ⊢
        clear HC2 hq2
        have e0 := HEB.out.cell 0
        have e1 := HEB.out.cell 1
        have e2 := HEB.out.cell 2
        have e3 := HEB.out.cell 3
        have e4 := HEB.out.cell 4
        have e5 := HEB.out.cell 5
        simp only [List.getElem?_cons_zero, List.getElem?_cons_succ] at e0 e1 e2 e3 e4 e5
        have hebl := HEB.out.lt
        have hbx : w3.cell? ⟨q, 8, none⟩ = some (.int .i64 1) ∧ w3.frozen? ⟨q, 8, none⟩ = false ∧ q < w3.heap.size ∧ gr < w3.heap.size ∧ (∀ A, A < n → w3.cell? ⟨gr, A, none⟩ = some (.int .i64 (t1.rg A))) ∧ Below w0.heap.size w0 w3 ∧ gr ≠ q ∧ eb ≠ q := by
         obtain ⟨gm', mc', oa', oc', h1, _, _⟩ := HC4.out.run
         exact ⟨by rw [h1.at_.box.cell]; rfl, h1.at_.box.free 8, h1.at_.box.lt, h1.rg.lt, fun A hA => h1.rg.row hA, h1.at_.be, h1.qgr, blk_tyV HEB.out h1.at_.box (by decide)⟩
        obtain ⟨x8, y8, hq3, hgr3, hrg, hbe3, hnq1, hnq2⟩ := hbx
        have HRG := Lib.hid hrg
        have HBE3 := Lib.hid hbe3
        clear hrg hbe3
        have hgkl : (t1.tick.fu + 3).toNat < gk := by
         have h1 := HGK.out
         have h2 := HF1.out
         have h3 := HRF2.out
         show (t1.fu - 1 + 3).toNat < gk
         omega
        have HGKL := Lib.hid hgkl
        clear hgkl
        obtain ⟨kd, hkd⟩ : ∃ z, z = ek.kind := ⟨_, rfl⟩
        rw [← hkd] at e0
        have HKQ : Hid (kd = (f.blk i).e.kind) := by show _ = _; rw [hkd, HEK.out]
        have hks : kd = 0 ∨ kd = 3 ∨ (kd = 1 ∧ 1 ≤ ek.to.length) ∨ (kd = 2 ∧ 2 ≤ ek.to.length ∧ (ek.op = 16 ∨ ek.op = 17 ∨ ek.op = 18)) := by rw [hkd]; exact HKD.out
        clear hkd HKD
        have htoc : 0 < ek.to.length → ∃ ge oe, esa = some ⟨ge, oe, none⟩ ∧ ge < w3.heap.size ∧ ek.sn ≤ ek.sc ∧ ek.sc ≤ maxLen ∧ ek.to.length = ek.sn ∧ ∀ j (hj : j < ek.to.length), w3.cell? ⟨ge, oe + j, none⟩ = some (.int .i64 ek.to[j]) := fun h0 => by
         have hl := HEO.out.len
         obtain ⟨ge, oe, h1, h2, h3⟩ := HEO.out.came.ints (by omega)
         exact ⟨ge, oe, by rw [HESA.out]; exact h1, Nat.lt_of_lt_of_le h2 HBE3.out.size, HEO.out.came.le, HEO.out.came.max, hl, fun j hj => (HBE3.out.cell (p := ⟨ge, oe + j, none⟩) h2).trans (h3 j hj)⟩
        have HTOC := Lib.hid htoc
        clear htoc
        rcases hks with rfl | rfl | ⟨rfl, hlen1⟩ | ⟨rfl, hlen2, hop⟩
        ·as_aux_lemma =>
         obtain ⟨A, hA⟩ : ∃ A : Nat, ek.a = (A : Int) := ⟨ek.a.toNat, by have := HAB.out.1; omega⟩
         have hAn : A < n := by have := HAB.out.1; omega
         have ra := HRG.out A hAn
         have HQ : Hid (CallQ w0 w q fb f gm (.slice oa s.p.length oc) s0 (.returned (.int .i64 (t1.rg A))) (w3.setCell ⟨q, 8, none⟩ (.int .i64 0))) := by
          obtain ⟨gm', mc', oa', oc', h1, h2, h3⟩ := HC4.out.run
          have hr := RunV.ret (f := f) (i := i) (s := t) HB0.out HKQ.out.symm
          rw [HBT.out, ← HEK.out, hA] at hr
          exact ⟨t1.rg A, _, gm', mc', oa', oc', rfl, HRUN2.out _ _ hr, h1.at_.deep 0, HC4.out.rest.set (p := ⟨q, 8, none⟩) (.inl rfl) _, h2, h3⟩
         rw [hA] at e2
         clear hA
         go_wp2_with fail
         go_ret
         exact HQ.out
        ·as_aux_lemma =>
         have htr : Calls Try.prog 39 #[.pointer (some ⟨q, 0, none⟩), .int .i64 ek.n] w3 fun e w' => e = .returned (.tuple #[]) ∧ CallI w0 w w' q fb f gm (.slice oa s.p.length oc) gr fl n (t1.tick.trap ek.n) := by
          obtain ⟨gm', mc', oa', oc', h1, h2, h3⟩ := HC4.out.run
          refine (trap_any h1.at_ HST1.out.symm ek.n).mono ?_
          rintro e w' ⟨he, hv, hr⟩
          refine ⟨he, ⟨⟨gm', mc', oa', oc', h1.keep hv (hr.mono fun k e => .inl e) rfl (.inl rfl) (fun k e => .inl e), h2, h3⟩, HC4.out.box.of_heap (hr.block _ HC4.out.box.lt fun e => blk_tyV HC4.out.box h1.at_.box (by decide) e), HC4.out.rest.trans hr fun k _ e => .inl e, HC4.out.grl⟩⟩
         have HTR := Lib.hid htr
         have HRU : Hid (RunV f 0 s0 (t1.tick.trap ek.n) 0) := by
          have hr := RunV.trap (f := f) (i := i) (s := t) HB0.out HKQ.out.symm
          rw [HBT.out, ← HEK.out] at hr
          exact HRUN2.out _ _ hr
         clear htr
         go_wp2_with fail
         refine HTR.out.mono ?_
         rintro e w5 ⟨rfl, hc5⟩
         have HC5 := Lib.hid hc5
         clear hc5 e0 e1 e2 e3 e4 e5 x8 y8 HTR
         go_wp2_with fail
         go_roundg (t1.tick.fu + 3).toNat
         case measure => exact HGKL.out
         case rel => exact ⟨i, t1.tick.trap ek.n, rfl, hi, HC5.out, fun e => (by cases e), fun _ => HRU.out, Nat.le_refl _⟩
        ·as_aux_lemma =>
         obtain ⟨ge, oe, he1, he2, he3, he4, he5, he6⟩ := HTOC.out (by omega)
         have t0 : w3.cell? ⟨ge, oe, none⟩ = some (.int .i64 (ek.to[0]'(by omega))) := he6 0 (by omega)
         have hz := HTO.out (ek.to[0]'(by omega)) (List.getElem_mem _)
         obtain ⟨Z, hZ⟩ : ∃ Z : Nat, ek.to[0]'(by omega) = (Z : Int) := ⟨(ek.to[0]'(by omega)).toNat, by omega⟩
         have HGO : Hid (goV (f.blk i).e t1.tick = Z) := by
          show _ = _
          unfold goV
          rw [if_pos HKQ.out.symm, ← HEK.out, List.getD_eq_getElem?_getD, List.getElem?_eq_getElem (by omega)]
          simp only [Option.getD_some, hZ, Int.toNat_natCast]
         have HRU : Hid (∀ s' v, RunV f Z t1.tick s' v → RunV f 0 s0 s' v) := fun s' v hr => by
          refine HRUN2.out _ _ (.go HB0.out (.inl HKQ.out.symm) ?_)
          rw [HBT.out, HGO.out]
          exact hr
         rw [hZ] at t0 hz
         subst he1
         unfold maxLen at he4
         have HZN : Hid (Z < nb) := by have := hz.2; show Z < nb; omega
         have hF : 0 ≤ t1.tick.fu := by have h9 := HFQ.out; show 0 ≤ t1.fu - 1; omega
         have HFN := Lib.hid hF
         clear hF hZ he6 HTOC
         go_wp2_with fail
         go_roundg (t1.tick.fu + 3).toNat
         case measure => exact HGKL.out
         case rel => exact ⟨Z, t1.tick, rfl, HZN.out, HC4.out, fun _ => ⟨HFN.out, HRU.out⟩, fun e => (by have h9 : t1.tick.st = false := HST1.out.symm; rw [h9] at e; cases e), Nat.le_refl _⟩
        ·as_aux_lemma =>
         obtain ⟨ge, oe, he1, he2, he3, he4, he5, he6⟩ := HTOC.out (by omega)
         have t0 : w3.cell? ⟨ge, oe, none⟩ = some (.int .i64 (ek.to[0]'(by omega))) := he6 0 (by omega)
         have t1c := he6 1 (by omega)
         have hz0 := HTO.out (ek.to[0]'(by omega)) (List.getElem_mem _)
         have hz1 := HTO.out (ek.to[1]'(by omega)) (List.getElem_mem _)
         obtain ⟨Z0, hZ0⟩ : ∃ Z : Nat, ek.to[0]'(by omega) = (Z : Int) := ⟨(ek.to[0]'(by omega)).toNat, by omega⟩
         obtain ⟨Z1, hZ1⟩ : ∃ Z : Nat, ek.to[1]'(by omega) = (Z : Int) := ⟨(ek.to[1]'(by omega)).toNat, by omega⟩
         obtain ⟨A, hA⟩ : ∃ A : Nat, ek.a = (A : Int) := ⟨ek.a.toNat, by have := HAB.out.1; omega⟩
         obtain ⟨B, hB⟩ : ∃ B : Nat, ek.b = (B : Int) := ⟨ek.b.toNat, by have := HAB.out.2; omega⟩
         have hAn : A < n := by have := HAB.out.1; omega
         have hBn : B < n := by have := HAB.out.2; omega
         have ra := HRG.out A hAn
         have rb := HRG.out B hBn
         obtain ⟨a, ha⟩ : ∃ z, z = t1.rg A := ⟨_, rfl⟩
         obtain ⟨b, hb⟩ : ∃ z, z = t1.rg B := ⟨_, rfl⟩
         rw [← ha] at ra
         rw [← hb] at rb
         have HGO : Hid (goV (f.blk i).e t1.tick = if yesV ek.op a b = true then Z0 else Z1) := by
          show _ = _
          unfold goV
          rw [if_neg (by rw [← HKQ.out]; decide), ← HEK.out, hA, hB]
          show (if yesV ek.op (t1.rg A) (t1.rg B) = true then (ek.to.getD 0 0).toNat else (ek.to.getD 1 0).toNat) = _
          rw [← ha, ← hb]
          rw [List.getD_eq_getElem?_getD, List.getElem?_eq_getElem (show 0 < ek.to.length by omega), List.getD_eq_getElem?_getD, List.getElem?_eq_getElem (show 1 < ek.to.length by omega)]
          simp only [Option.getD_some, hZ0, hZ1, Int.toNat_natCast]
         have HRU : Hid (∀ s' v, RunV f (if yesV ek.op a b = true then Z0 else Z1) t1.tick s' v → RunV f 0 s0 s' v) := fun s' v hr => by
          refine HRUN2.out _ _ (.go HB0.out (.inr HKQ.out.symm) ?_)
          rw [HBT.out, HGO.out]
          exact hr
         rw [hZ0] at t0 hz0
         rw [hZ1] at t1c hz1
         rw [hA] at e2
         rw [hB] at e3
         subst he1
         unfold maxLen at he4
         have HZ0N : Hid (Z0 < nb) := by have := hz0.2; show Z0 < nb; omega
         have HZ1N : Hid (Z1 < nb) := by have := hz1.2; show Z1 < nb; omega
         have hF : 0 ≤ t1.tick.fu := by have h9 := HFQ.out; show 0 ≤ t1.fu - 1; omega
         have HFN := Lib.hid hF
         obtain ⟨eop, heop⟩ : ∃ z, z = ek.op := ⟨_, rfl⟩
         rw [← heop] at e1 hop HRU
         clear hF hZ0 hZ1 he6 HTOC hA hB ha hb HGO heop
         go_upto_region 26 with fail
         go_quiet (fail)
         have HBD : Hid (Below w3.heap.size w3 (w3.drewN nq)) := below_drewN_self _ _ _
         have HC5 := Lib.hid (HC4.out.below HBD.out)
         have e1 : (w3.drewN nq).cell? ⟨eb, 1, none⟩ = some (.int .i64 eop) := e1
         have e5 : (w3.drewN nq).cell? ⟨eb, 5, none⟩ = some (.slice (some ⟨ge, oe, none⟩) ek.sn ek.sc) := e5
         have t0 : (w3.drewN nq).cell? ⟨ge, oe, none⟩ = some (.int .i64 (Z0 : Int)) := t0
         have t1c : (w3.drewN nq).cell? ⟨ge, oe + 1, none⟩ = some (.int .i64 (Z1 : Int)) := t1c
         have he2 : ge < (w3.drewN nq).heap.size := he2
         clear HC4 HBD
         generalize w3.drewN nq = w4 at HC5 e1 e5 t0 t1c he2 ⊢
         have key : ∀ y : Bool, yesV eop a b = y → True := fun _ _ => trivial
         have hcase : (eop = 16 ∧ a = b) ∨ (eop = 16 ∧ a ≠ b) ∨ (eop = 17 ∧ a = b) ∨ (eop = 17 ∧ a ≠ b) ∨ (eop = 18 ∧ a < b) ∨ (eop = 18 ∧ ¬ a < b) := by omega
         clear key hop
         rcases hcase with ⟨rfl, h⟩ | ⟨rfl, h⟩ | ⟨rfl, h⟩ | ⟨rfl, h⟩ | ⟨rfl, h⟩ | ⟨rfl, h⟩
         ·have hy : yesV 16 a b = true := by unfold yesV; simp [h]
          have hq : (a == b) = true := by simp [h]
          rw [hy, if_pos rfl] at HRU
          clear hy h
          go_wp2_with fail
          go_roundg (t1.tick.fu + 3).toNat
          case measure => exact HGKL.out
          case rel => exact ⟨Z0, t1.tick, rfl, HZ0N.out, HC5.out, fun _ => ⟨HFN.out, HRU.out⟩, fun e => (by have h9 : t1.tick.st = false := HST1.out.symm; rw [h9] at e; cases e), Nat.le_refl _⟩
         ·have hy : yesV 16 a b = false := by unfold yesV; simp [h]
          have hq : (a == b) = false := by simp [h]
          rw [hy, if_neg (by simp)] at HRU
          clear hy h
          go_wp2_with fail
          go_roundg (t1.tick.fu + 3).toNat
          case measure => exact HGKL.out
          case rel => exact ⟨Z1, t1.tick, rfl, HZ1N.out, HC5.out, fun _ => ⟨HFN.out, HRU.out⟩, fun e => (by have h9 : t1.tick.st = false := HST1.out.symm; rw [h9] at e; cases e), Nat.le_refl _⟩
         ·have hy : yesV 17 a b = false := by unfold yesV; simp [h]
          have hq : (a != b) = false := by simp [h]
          rw [hy, if_neg (by simp)] at HRU
          clear hy h
          go_wp2_with fail
          go_roundg (t1.tick.fu + 3).toNat
          case measure => exact HGKL.out
          case rel => exact ⟨Z1, t1.tick, rfl, HZ1N.out, HC5.out, fun _ => ⟨HFN.out, HRU.out⟩, fun e => (by have h9 : t1.tick.st = false := HST1.out.symm; rw [h9] at e; cases e), Nat.le_refl _⟩
         ·have hy : yesV 17 a b = true := by unfold yesV; simp [h]
          have hq : (a != b) = true := by simp [h]
          rw [hy, if_pos rfl] at HRU
          clear hy h
          go_wp2_with fail
          go_roundg (t1.tick.fu + 3).toNat
          case measure => exact HGKL.out
          case rel => exact ⟨Z0, t1.tick, rfl, HZ0N.out, HC5.out, fun _ => ⟨HFN.out, HRU.out⟩, fun e => (by have h9 : t1.tick.st = false := HST1.out.symm; rw [h9] at e; cases e), Nat.le_refl _⟩
         ·have hy : yesV 18 a b = true := by unfold yesV; simp [h]
          rw [hy, if_pos rfl] at HRU
          clear hy
          go_wp2_with fail
          go_roundg (t1.tick.fu + 3).toNat
          case measure => exact HGKL.out
          case rel => exact ⟨Z0, t1.tick, rfl, HZ0N.out, HC5.out, fun _ => ⟨HFN.out, HRU.out⟩, fun e => (by have h9 : t1.tick.st = false := HST1.out.symm; rw [h9] at e; cases e), Nat.le_refl _⟩
         ·have hy : yesV 18 a b = false := by unfold yesV; simp [h]
          rw [hy, if_neg (by simp)] at HRU
          clear hy
          go_wp2_with fail
          go_roundg (t1.tick.fu + 3).toNat
          case measure => exact HGKL.out
          case rel => exact ⟨Z1, t1.tick, rfl, HZ1N.out, HC5.out, fun _ => ⟨HFN.out, HRU.out⟩, fun e => (by have h9 : t1.tick.st = false := HST1.out.symm; rw [h9] at e; cases e), Nat.le_refl _⟩
end Go.Proofs.Ytlcnbihfpjhffaa
