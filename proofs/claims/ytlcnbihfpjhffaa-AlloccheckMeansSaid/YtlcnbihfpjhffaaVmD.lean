/- The reference's virtual machine: step. -/
import Derived.Test.YtlcnbihfpjhffaaVmK
namespace Go.Proofs.Ytlcnbihfpjhffaa
open Go.RowKit
set_option linter.unusedVariables false
set_option linter.unusedSimpArgs false

/-- a run and its registers in memory -/
structure VmR (w0 w : World) (q fb : Nat) (f : VF) (gm mc : Nat) (oa : Option Addr) (oc : Nat) (dp : Int) (gr n : Nat) (s : VS) : Prop where
 at_ : VmAt w0 w q fb f gm mc oa oc dp s
 rg : Blk w gr 3 (rowL n fun i => .int .i64 (s.rg i))
 rb : ∀ i, S32 (s.rg i)
 gne : gr ≠ gm
 ono : (Value.slice oa s.p.length oc).ownBlock ≠ some gr
 lo : w0.heap.size ≤ gr
/-- the blocks that a run may change -/
def VmS (q gm : Nat) (ov : Value) (gr k : Nat) : Prop := k = q ∨ k = gm ∨ ov.ownBlock = some k ∨ k = gr
section
variable {w0 w w' : World} {q fb : Nat} {f : VF} {gm mc : Nat} {oa : Option Addr} {oc : Nat} {dp : Int} {gr n : Nat} {s : VS}
theorem VmR.below (h : VmR w0 w q fb f gm mc oa oc dp gr n s) (hb : Below w.heap.size w w') : VmR w0 w' q fb f gm mc oa oc dp gr n s := ⟨h.at_.below hb, h.rg.below hb h.rg.lt, h.rb, h.gne, h.ono, h.lo⟩
theorem VmR.qgr (h : VmR w0 w q fb f gm mc oa oc dp gr n s) : gr ≠ q := blk_tyV h.rg h.at_.box (by decide)
/-- what changes the run but not its registers -/
theorem VmR.keep (h : VmR w0 w q fb f gm mc oa oc dp gr n s) {gm' mc' : Nat} {oa' : Option Addr} {oc' : Nat} {t : VS} (ha : VmAt w0 w' q fb f gm' mc' oa' oc' dp t) (hr : RestV (fun k => k = q ∨ k = gm ∨ (Value.slice oa s.p.length oc).ownBlock = some k) w w') (ht : t.rg = s.rg) (hg : gm' = gm ∨ w.heap.size ≤ gm') (ho : ∀ k, (Value.slice oa' t.p.length oc').ownBlock = some k → (Value.slice oa s.p.length oc).ownBlock = some k ∨ w.heap.size ≤ k) : VmR w0 w' q fb f gm' mc' oa' oc' dp gr n t := by
 have hl := h.rg.lt
 refine ⟨ha, ?_, by rw [ht]; exact h.rb, ?_, ?_, h.lo⟩
 ·rw [ht]
  exact h.rg.of_heap (hr.block gr hl fun e => by rcases e with e | e | e; exact h.qgr e; exact h.gne e; exact h.ono e)
 ·rcases hg with e | e
  ·rw [e]; exact h.gne
  ·omega
 ·intro e
  rcases ho gr e with e | e
  ·exact h.ono e
  ·omega
theorem VmR.set (h : VmR w0 w q fb f gm mc oa oc dp gr n s) {d v : Int} (hd : 0 ≤ d ∧ d < n) (h0 : d ≠ 0) (hv : S32 v) : VmR w0 (w.setCell ⟨gr, d.toNat, none⟩ (.int .i64 v)) q fb f gm mc oa oc dp gr n (s.put d v) := by
 have h1 := h.qgr
 have h2 : RestV (fun k => k = gr) w (w.setCell ⟨gr, d.toNat, none⟩ (.int .i64 v)) := (RestV.refl (fun k => k = gr) w).set (p := ⟨gr, d.toNat, none⟩) rfl _
 have h3 := h.at_.rest h2 (fun k e => by rw [e]; exact h.lo) (fun e => h1 e.symm) (fun e => h.gne e.symm) (fun k e e2 => h.ono (by rw [← e2]; exact e)) (fun e => blk_tyV h.at_.fn h.rg (by decide) e)
 refine ⟨h3.regs _, ?_, fun i => ?_, h.gne, h.ono, h.lo⟩
 ·refine (h.rg.rowSet d.toNat (.int .i64 v)).rowCongr fun i _ => ?_
  show _ = Value.int .i64 (updV s.rg d v i)
  unfold updV
  rw [if_neg h0]
  split <;> rfl
 ·show S32 (updV s.rg d v i)
  unfold updV
  rw [if_neg h0]
  show S32 (if i = d.toNat then v else s.rg i)
  split
  ·exact hv
  ·exact h.rb i
end
/-- an instruction that a run without calls may meet -/
structure OpV (n : Nat) (x : VI) : Prop where
 a : 0 ≤ x.a ∧ x.a < n
 b : 0 ≤ x.b ∧ x.b < n
 d : 0 ≤ x.d ∧ x.d < n
 op : (1 ≤ x.op ∧ x.op ≤ 15) ∨ x.op = 23 ∨ x.op = 100 ∨ x.op = 103
 n : S32 x.n
 al : x.op = 14 → 0 ≤ x.n ∧ x.n ≤ 4095
 ad : x.op = 103 → 0 ≤ x.n ∧ x.n ≤ 255
def StepQ (w0 w : World) (q fb : Nat) (f : VF) (gm : Nat) (ov : Value) (dp : Int) (gr n : Nat) (t : VS) (w' : World) : Prop :=
 ∃ gm' mc' oa' oc', VmR w0 w' q fb f gm' mc' oa' oc' dp gr n t ∧ (gm' = gm ∨ w.heap.size ≤ gm') ∧ (∀ k, (Value.slice oa' t.p.length oc').ownBlock = some k → ov.ownBlock = some k ∨ w.heap.size ≤ k) ∧ RestV (VmS q gm ov gr) w w'
def CutR (w0 w : World) (q fb : Nat) (f : VF) (gm : Nat) (oa : Option Addr) (oc : Nat) (dp : Int) (gr n : Nat) (s : VS) (x : VI) (xb : Nat) (v8 v9 : Value) (wx : World) : Prop :=
 ∃ (v : Int) (ok : Bool) (gm' mc' : Nat) (oa' : Option Addr) (oc' : Nat) (t : VS), v8 = .int .i64 v ∧ v9 = .bool ok ∧ S32 v ∧ VmR w0 wx q fb f gm' mc' oa' oc' dp gr n t ∧ t.st = false ∧ Blk wx xb 47 (viC x) ∧ (gm' = gm ∨ w.heap.size ≤ gm') ∧ (∀ k, (Value.slice oa' t.p.length oc').ownBlock = some k → (Value.slice oa s.p.length oc).ownBlock = some k ∨ w.heap.size ≤ k) ∧ RestV (VmS q gm (.slice oa s.p.length oc) gr) w wx ∧ stepM x s = if ok = true then t.put (defV x) v else t.fail
def KeepV (p : Nat) (w w' : World) : Prop := w'.heap[p]? = w.heap[p]?
instance (p : Nat) : PreR (KeepV p) := ⟨fun w => rfl, fun h k => k.trans h⟩
theorem shl_bd : ∀ (k : Nat) {a : Int}, S32 a → S32 (shlN k a)
 | 0, a, h => h
 | k + 1, a, _ => shl_bd k (wrap32_bd _)
theorem sar_bd : ∀ (k : Nat) {a : Int}, S32 a → S32 (sarN k a)
 | 0, a, h => h
 | k + 1, a, h => sar_bd k (by unfold S32 at h ⊢; omega)
theorem mathF_bd {op a b n v : Int} (ha : S32 a) (hn : S32 n) (h : mathF op a b n = some v) : S32 v := by
 unfold mathF at h
 repeat' split at h
 all_goals first
  | (injection h with h; subst h; first | exact wrap32_bd _ | exact hn | exact shl_bd _ ha | exact sar_bd _ ha | (unfold S32; omega))
  | cases h
  | (injection h with h; subst h; split <;> (unfold S32; omega))
set_option maxRecDepth 100000 in
set_option maxHeartbeats 8000000 in
theorem step_any {w0 w : World} {q fb : Nat} {f : VF} {gm mc : Nat} {oa : Option Addr} {oc : Nat} {dp : Int} {gr n : Nat} {s : VS} (h : VmR w0 w q fb f gm mc oa oc dp gr n s) (hst : s.st = false) (hfu : 0 ≤ s.fu) (hn : n ≤ 10000) (x : VI) (hx : OpV n x) :
  Calls Try.prog 38 #[.pointer (some ⟨q, 0, none⟩), .slice (some ⟨gr, 0, none⟩) n n, viV x] w fun e w' => e = .returned (.tuple #[]) ∧ StepQ w0 w q fb f gm (.slice oa s.p.length oc) dp gr n (stepM x s) w' := by
 have b3 := h.at_.box.cell 3
 have g3 := h.at_.box.free 3
 simp only [vmC, List.getElem?_cons_zero, List.getElem?_cons_succ] at b3
 have hfu2 := h.at_.fu.2
 have hql := h.at_.box.lt
 have HID := Lib.hid (insDef_any x)
 have HX := Lib.hid hx
 have hw1 : VmAt w0 (w.setCell ⟨q, 3, none⟩ (.int .i64 (s.fu - 1))) q fb f gm mc oa oc dp s.tick := h.at_.fuel hfu
 have hr1 : RestV (fun k => k = q ∨ k = gm ∨ (Value.slice oa s.p.length oc).ownBlock = some k) w (w.setCell ⟨q, 3, none⟩ (.int .i64 (s.fu - 1))) := (RestV.refl _ w).set (p := ⟨q, 3, none⟩) (.inl rfl) _
 have hv1 : VmR w0 (w.setCell ⟨q, 3, none⟩ (.int .i64 (s.fu - 1))) q fb f gm mc oa oc dp gr n s.tick := h.keep hw1 hr1 rfl (.inl rfl) fun k e => .inl e
 have HV1 : Hid (∀ o, VmR w0 ((w.setCell ⟨q, 3, none⟩ (.int .i64 (s.fu - 1))).alloc o) q fb f gm mc oa oc dp gr n s.tick) := fun o => hv1.below ((Below.refl _ _).alloc (Nat.le_refl _) o)
 have HR1 : Hid (∀ o, RestV (VmS q gm (.slice oa s.p.length oc) gr) w ((w.setCell ⟨q, 3, none⟩ (.int .i64 (s.fu - 1))).alloc o)) := fun o => (RestV.trans hr1 (RestV.ofBelow (S := fun _ => False) ((Below.refl _ _).alloc (Nat.le_refl _) o)) fun _ _ e => e.elim).mono fun k e => by rcases e with e | e | e; exact .inl e; exact .inr (.inl e); exact .inr (.inr (.inl e))
 obtain ⟨fu, hfq⟩ : ∃ z, z = s.fu := ⟨_, rfl⟩
 rw [← hfq] at b3 hfu hfu2 HV1 HR1
 have HFQ := Lib.hid hfq
 have HST := Lib.hid hst
 have H := Lib.hid h
 clear h hst hx hw1 hr1 hv1 hfq
 unfold viV
 go_enter Try.func38, Try.ntmps38
 go_upto_region 2 with fail
 have HV2 := Lib.hid (HV1.out (.cells #[.int .i64 x.op, .int .i64 x.d, .int .i64 x.a, .int .i64 x.b, .int .i64 x.n, .slice x.sa x.sn x.sc] 47))
 have HR2 := Lib.hid (HR1.out (.cells #[.int .i64 x.op, .int .i64 x.d, .int .i64 x.a, .int .i64 x.b, .int .i64 x.n, .slice x.sa x.sn x.sc] 47))
 have HB2 : Hid (Blk ((w.setCell ⟨q, 3, none⟩ (.int .i64 (fu - 1))).alloc (.cells #[.int .i64 x.op, .int .i64 x.d, .int .i64 x.a, .int .i64 x.b, .int .i64 x.n, .slice x.sa x.sn x.sc] 47)) (w.setCell ⟨q, 3, none⟩ (.int .i64 (fu - 1))).heap.size 47 (viC x)) := Blk.new _ (viC x) _
 rw [show (w.setCell ⟨q, 3, none⟩ (.int .i64 (fu - 1))).heap.size = w.heap.size by simp] at HB2
 generalize (w.setCell ⟨q, 3, none⟩ (.int .i64 (fu - 1))).alloc (.cells #[.int .i64 x.op, .int .i64 x.d, .int .i64 x.a, .int .i64 x.b, .int .i64 x.n, .slice x.sa x.sn x.sc] 47) = w2 at HV2 HR2 HB2 ⊢
 generalize Value.agg #[.int .i64 x.op, .int .i64 x.d, .int .i64 x.a, .int .i64 x.b, .int .i64 x.n, .slice x.sa x.sn x.sc] = xv
 have b3 := HV2.out.at_.box.cell 3
 simp only [vmC, List.getElem?_cons_zero, List.getElem?_cons_succ, VS.tick] at b3
 rw [← HFQ.out] at b3
 have HST2 : Hid (stepM x s = if fu - 1 < 0 then s.tick.fail else endS (effV x.op x.n (s.rg x.a.toNat) (s.rg x.b.toNat) s.m s.p) (defV x) s.tick) := by show _ = _; rw [HFQ.out]; rfl
 by_cases hneg : fu - 1 < 0
 ·have HN := Lib.hid hneg
  go_wp2_with fail
  refine (fail_any HV2.out.at_).mono ?_
  rintro e w3 ⟨rfl, hv, hr⟩
  have HQ : Hid (StepQ w0 w q fb f gm (.slice oa s.p.length oc) dp gr n (stepM x s) w3) := by
   show StepQ _ _ _ _ _ _ _ _ _ _ _ _
   rw [HST2.out, if_pos HN.out]
   exact ⟨gm, mc, oa, oc, HV2.out.keep hv (hr.mono fun k e => .inl e) rfl (.inl rfl) (fun k e => .inl e), .inl rfl, fun k e => .inl e, HR2.out.trans hr fun k _ e => .inl e⟩
  clear hv hr
  go_wp2_with fail
  refine bodyPost_ret (v := .tuple #[]) (by simp [results, Try.results38, go_sem]) rfl ?_
  exact ⟨rfl, HQ.out⟩
 ·have HN := Lib.hid hneg
  rw [HFQ.out] at HN
  have HST3 : Hid (stepM x s = endS (effV x.op x.n (s.rg x.a.toNat) (s.rg x.b.toNat) s.m s.p) (defV x) s.tick) := by show _ = _; rw [HST2.out, HFQ.out, if_neg HN.out]
  obtain ⟨A, hA⟩ : ∃ A : Nat, x.a = (A : Int) := ⟨x.a.toNat, by have := HX.out.a; omega⟩
  obtain ⟨B, hB⟩ : ∃ B : Nat, x.b = (B : Int) := ⟨x.b.toNat, by have := HX.out.b; omega⟩
  have hAn : A < n := by have := HX.out.a; omega
  have hBn : B < n := by have := HX.out.b; omega
  have x0 := HB2.out.cell 0
  have x2 := HB2.out.cell 2
  have x3 := HB2.out.cell 3
  have x4 := HB2.out.cell 4
  simp only [viC, List.getElem?_cons_zero, List.getElem?_cons_succ] at x0 x2 x3 x4
  rw [hA] at x2
  rw [hB] at x3
  have ra : w2.cell? ⟨gr, A, none⟩ = some (.int .i64 (s.rg A)) := HV2.out.rg.row hAn
  have rb : w2.cell? ⟨gr, B, none⟩ = some (.int .i64 (s.rg B)) := HV2.out.rg.row hBn
  have hsa := HV2.out.rb A
  have hsb := HV2.out.rb B
  have hgl := HV2.out.rg.lt
  obtain ⟨a, ha⟩ : ∃ a, a = s.rg A := ⟨_, rfl⟩
  obtain ⟨b, hb⟩ : ∃ b, b = s.rg B := ⟨_, rfl⟩
  have HST4 : Hid (stepM x s = endS (effV x.op x.n a b s.m s.p) (defV x) s.tick) := by show _ = _; rw [HST3.out, ha, hb, hA, hB]; rfl
  rw [← ha] at ra
  rw [← hb] at rb
  rw [show s.tick.rg A = s.rg A from rfl, ← ha] at hsa
  rw [show s.tick.rg B = s.rg B from rfl, ← hb] at hsb
  clear hA hB ha hb HST2 HST3
  go_upto_region 4 with fail
  go_quiet (fail)
  have HBD : Hid (Below w2.heap.size w2 (w2.drewN nq)) := below_drewN_self _ _ _
  have HV3 := Lib.hid (HV2.out.below HBD.out)
  have HR3 := Lib.hid (HR2.out.trans (RestV.ofBelow (S := fun _ => False) HBD.out) fun _ _ e => e.elim)
  have HB3 : Hid (Blk (w2.drewN nq) w.heap.size 47 (viC x)) := HB2.out
  have x0 : (w2.drewN nq).cell? ⟨w.heap.size, 0, none⟩ = some (.int .i64 x.op) := x0
  obtain ⟨xb, hxb⟩ : ∃ z, z = w.heap.size := ⟨_, rfl⟩
  rw [← hxb] at HB3 x0 ⊢
  generalize w2.drewN nq = w3 at HV3 HR3 HB3 x0 ⊢
  have HXB := Lib.hid hxb
  clear x2 x3 x4 ra rb hgl hxb HV2 HR2 HB2 HBD b3 g3
  obtain ⟨op, hop⟩ : ∃ o, o = x.op := ⟨_, rfl⟩
  rw [← hop] at x0
  have HOPR := HX.out.op
  rw [← hop] at HOPR
  have HOP := Lib.hid hop
  have HOPR := Lib.hid HOPR
  clear hop
  go_upto_block 0 with fail
  go_cut [8, 9] from 39 (fun v8 v9 wx => CutR w0 w q fb f gm oa oc dp gr n s x xb v8 v9 wx)
  case first => as_aux_lemma =>
   have hts : s.tick.st = false := HST.out
   have x4 := HB3.out.cell 4
   simp only [viC, List.getElem?_cons_zero, List.getElem?_cons_succ] at x4
   obtain ⟨nn, hnn⟩ : ∃ z, z = x.n := ⟨_, rfl⟩
   have hns := HX.out.n
   have hal := HX.out.al
   have had := HX.out.ad
   rw [← HOP.out, ← hnn] at hal had
   rw [← hnn] at x4 hns
   have HST5 : Hid (stepM x s = endS (effV op nn a b s.m s.p) (defV x) s.tick) := by show _ = _; rw [HST4.out, HOP.out, hnn]
   have HBASE : Hid (∀ (wz : World), Below w3.heap.size w3 wz → ∀ (v : Int) (ok : Bool), S32 v → (stepM x s = if ok = true then s.tick.put (defV x) v else s.tick.fail) → CutR w0 w q fb f gm oa oc dp gr n s x xb (.int .i64 v) (.bool ok) wz) := fun wz hz v ok hv hst => ⟨v, ok, gm, mc, oa, oc, s.tick, rfl, rfl, hv, HV3.out.below hz, HST.out, HB3.out.below hz HB3.out.lt, .inl rfl, fun k e => .inl e, HR3.out.trans (RestV.ofBelow (S := fun _ => False) hz) (fun _ _ e => e.elim), hst⟩
   have HTRAP : Hid (∀ (m : Int) (wz : World), VmAt w0 wz q fb f gm mc oa oc dp (s.tick.trap m) → RestV (fun k => k = q) w3 wz → stepM x s = s.tick.trap m → StepQ w0 w q fb f gm (.slice oa s.p.length oc) dp gr n (stepM x s) wz) := fun m wz hv hr hst => by
    rw [hst]
    exact ⟨gm, mc, oa, oc, HV3.out.keep hv (hr.mono fun k e => .inl e) rfl (.inl rfl) (fun k e => .inl e), .inl rfl, fun k e => .inl e, HR3.out.trans hr fun k _ e => .inl e⟩
   have HMV : Hid (VmAt w0 w3 q fb f gm mc oa oc dp s.tick) := HV3.out.at_
   have HNN := Lib.hid hnn
   have hs : op = 100 ∨ op = 103 ∨ op = 12 ∨ op = 13 ∨ op = 14 ∨ op = 15 ∨ op = 23 ∨ (1 ≤ op ∧ op ≤ 11) := by have := HOPR.out; omega
   clear HR1 HV1 b3 HST4 hts hnn
   rcases hs with rfl | rfl | rfl | rfl | rfl | rfl | rfl | hs
   ·as_aux_lemma =>
    have HS : Hid (stepM x s = s.tick.put (defV x) a) := HST5.out
    clear hal had
    go_wp2_with fail
    go_meet
    exact HBASE.out _ (Below.refl _ _) a true hsa (by rw [if_pos rfl]; exact HS.out)
   ·as_aux_lemma =>
    have HS : Hid (stepM x s = s.tick.put (defV x) (2 * nn + 1)) := HST5.out
    obtain ⟨h1, h2⟩ := had rfl
    clear hal had
    go_wp2_with fail
    go_meet
    exact HBASE.out _ (Below.refl _ _) (2 * nn + 1) true (by unfold S32; omega) (by rw [if_pos rfl]; exact HS.out)
   ·as_aux_lemma =>
    have HGET := fun m => memGet_any (w3.drewN m) w0.heap.size q gm mc s.m (a + nn) (HMV.out.below (below_drewN_self _ _ m)).memV (by have := HMV.out.ml.1; exact this) (by have : s.m.length ≤ 400 := HMV.out.ml.2; omega) (by unfold S32 at hsa hns; omega)
    have HSM : Hid (∀ v, getM s.m (a + nn) = some v → S32 v) := fun v hv => by
     unfold getM at hv
     split at hv
     ·rename_i hg
      injection hv with hv
      obtain ⟨g1, g2, g3⟩ := hg
      have hi : ((a + nn) / 2).toNat < s.m.length := by omega
      rw [List.getD_eq_getElem?_getD, List.getElem?_eq_getElem hi] at hv
      rw [← hv]
      exact HMV.out.sm _ (List.getElem_mem _)
     ·cases hv
    have hab : -8589934592 ≤ a + nn ∧ a + nn ≤ 8589934592 := by unfold S32 at hsa hns; omega
    clear hal had
    have HE : Hid (effV 12 nn a b s.m s.p = match getM s.m (a + nn) with | some v => ⟨s.m, s.p, 0, v⟩ | none => ⟨s.m, s.p, 1, 0⟩) := by
     show _ = _
     unfold effV
     rw [if_neg (by omega), if_neg (by omega), if_pos rfl]
     cases getM s.m (a + nn) <;> rfl
    rw [HE.out] at HST5
    unfold getR at HGET
    have hgl := HMV.out.box.lt
    cases hm : getM s.m (a + nn) with
    | none =>
     rw [hm] at HST5 HGET
     have HS : Hid (stepM x s = s.tick.fail) := HST5.out
     have HGET := Lib.hid HGET
     clear hm HE HSM
     go_upto_region 27 with fail
     go_quiet ((go_at_call 64; exact Calls.quiet_of_same (HGET.out _)))
     go_wp2_with fail
     go_meet
     exact HBASE.out _ (below_drewN_self _ _ _) 0 false (by unfold S32; omega) (by rw [if_neg (by simp)]; exact HS.out)
    | some v =>
     have HVB := Lib.hid (HSM.out v hm)
     rw [hm] at HST5 HGET
     have HS : Hid (stepM x s = s.tick.put (defV x) v) := HST5.out
     have HGET := Lib.hid HGET
     clear hm HE HSM
     go_upto_region 27 with fail
     go_quiet ((go_at_call 64; exact Calls.quiet_of_same (HGET.out _)))
     go_wp2_with fail
     go_meet
     exact HBASE.out _ (below_drewN_self _ _ _) v true HVB.out (by rw [if_pos rfl]; exact HS.out)
   ·as_aux_lemma =>
    have x4r := fun z : AfterR (KeepV xb) w3.drew => (World.cell?_of_block (a := ⟨xb, 4, none⟩) z.rel).trans x4
    have HMD : Hid (VmAt w0 w3.drew q fb f gm mc oa oc dp s.tick) := HMV.out.below (Below.refl w3.heap.size w3).drew
    have HVD : Hid (VmR w0 w3.drew q fb f gm mc oa oc dp gr n s.tick) := HV3.out.below (Below.refl w3.heap.size w3).drew
    have HXD : Hid (Blk w3.drew xb 47 (viC x)) := HB3.out
    have HRD : Hid (RestV (VmS q gm (.slice oa s.p.length oc) gr) w w3.drew) := HR3.out.trans (RestV.ofBelow (S := fun _ => False) (Below.refl w3.heap.size w3).drew) (fun _ _ e => e.elim)
    have HSET := Lib.hid (memSet_any w3.drew w0.heap.size q gm mc s.m (a + nn) b HMD.out.memV (by have := HMV.out.ml.1; exact this) (by have : s.m.length ≤ 400 := HMV.out.ml.2; omega) (by unfold S32 at hsa hns; omega))
    have hab : -8589934592 ≤ a + nn ∧ a + nn ≤ 8589934592 := by unfold S32 at hsa hns; omega
    have HSB := Lib.hid hsb
    clear hal had
    go_upto_region 29 with fail
    refine wp_region_eagerRT (KeepV xb) [(0, true), (1, true), (2, true), (3, true), (4, true), (5, true), (6, true), (7, true), (8, false), (9, true)] (by kernel_rfl) (by kernel_rfl) ?_
    repeat (refine eagR_readT rfl ?_; go_big_quiet_step (fail); refine wpQuiet_nil ?_)
    clear x4r
    refine eagR_doesT rfl rfl ?_
    intro K hK
    go_simp
    refine HSET.out.mono ?_
    rintro e wz hq
    unfold SetQ at hq
    rcases hq with ⟨hg, rfl, hwz⟩ | ⟨hg, rfl, hwz⟩
    ·have hi : ((a + nn) / 2).toNat < s.m.length := by obtain ⟨g1, g2, g3⟩ := hg; omega
     have hne := HMD.out.wo
     have hxg : xb ≠ gm := fun e => own_tyV hne HXD.out (by decide) (by rw [e]; rfl)
     have hw1 := HMD.out.setW (i := ((a + nn) / 2).toNat) hi HSB.out
     have hr1 : RestV (fun k => k = gm) w3.drew wz := by rw [hwz]; exact (RestV.refl (fun k => k = gm) w3.drew).set (p := ⟨gm, ((a + nn) / 2).toNat, none⟩) rfl _
     have hx1 : Blk wz xb 47 (viC x) := by rw [hwz]; exact HXD.out.setOther (a := ⟨gm, ((a + nn) / 2).toNat, none⟩) hxg _
     rw [← hwz] at hw1
     have hv1 := HVD.out.keep hw1 (hr1.mono fun k e => .inr (.inl e)) rfl (.inl rfl) fun k e => .inl e
     have HS : Hid (stepM x s = (s.tick.mem (s.m.set ((a + nn) / 2).toNat b) s.p).put (defV x) 0) := by
      show _ = _
      rw [HST5.out]
      unfold effV setM
      rw [if_neg (by omega), if_neg (by omega), if_neg (by omega), if_pos rfl, if_pos hg]
      rfl
     have HC : Hid (CutR w0 w q fb f gm oa oc dp gr n s x xb (.int .i64 0) (.bool true) wz) := ⟨0, true, gm, mc, oa, oc, _, rfl, rfl, by unfold S32; omega, hv1, HST.out, hx1, .inl rfl, fun k e => .inl e, HRD.out.trans hr1 fun k _ e => .inr (.inl e), by rw [if_pos rfl]; exact HS.out⟩
     refine hK _ _ (fun _ => hx1.trans (HXD.out : _ = _).symm) ?_
     clear hK K hg hi hne hxg hw1 hr1 hx1 hv1 hwz
     go_simp
     repeat (refine eagR_readT rfl ?_; go_big_quiet_step (fail); refine wpQuiet_nil ?_)
     refine eagR_endT ?_
     go_wp2_with fail
     go_meet
     exact HC.out
    ·have HS : Hid (stepM x s = s.tick.fail) := by
      show _ = _
      rw [HST5.out]
      unfold effV setM
      rw [if_neg (by omega), if_neg (by omega), if_neg (by omega), if_pos rfl, if_neg hg]
      rfl
     refine hK _ _ (fun _ => by rw [hwz]; rfl) ?_
     rw [hwz]
     clear hK K hg hwz wz
     go_simp
     repeat (refine eagR_readT rfl ?_; go_big_quiet_step (fail); refine wpQuiet_nil ?_)
     refine eagR_endT ?_
     go_wp2_with fail
     go_meet
     exact HBASE.out _ (Below.refl _ _).drew 0 false (by unfold S32; omega) (by rw [if_neg (by simp)]; exact HS.out)
   ·as_aux_lemma =>
    have x4r := fun z : AfterR (KeepV xb) w3.drew => (World.cell?_of_block (a := ⟨xb, 4, none⟩) z.rel).trans x4
    have HMD : Hid (VmAt w0 w3.drew q fb f gm mc oa oc dp s.tick) := HMV.out.below (Below.refl w3.heap.size w3).drew
    have HVD : Hid (VmR w0 w3.drew q fb f gm mc oa oc dp gr n s.tick) := HV3.out.below (Below.refl w3.heap.size w3).drew
    have HXD : Hid (Blk w3.drew xb 47 (viC x)) := HB3.out
    have HRD : Hid (RestV (VmS q gm (.slice oa s.p.length oc) gr) w w3.drew) := HR3.out.trans (RestV.ofBelow (S := fun _ => False) (Below.refl w3.heap.size w3).drew) (fun _ _ e => e.elim)
    obtain ⟨h1, h2⟩ := hal rfl
    have HMK := Lib.hid (make_any HMD.out b nn 1 hsb (by unfold S32; omega) (by omega))
    have HSIZE : Hid (w.heap.size ≤ w3.drew.heap.size) := HRD.out.size
    clear hal had
    go_upto_region 31 with fail
    refine wp_region_eagerRT (KeepV xb) [(0, true), (1, true), (2, true), (3, true), (4, true), (5, true), (6, false), (7, true), (8, true), (9, true), (10, true), (11, true)] (by kernel_rfl) (by kernel_rfl) ?_
    repeat (refine eagR_readT rfl ?_; go_big_quiet_step (fail); refine wpQuiet_nil ?_)
    clear x4r
    refine eagR_doesT rfl rfl ?_
    intro K hK
    go_simp
    refine HMK.out.mono ?_
    rintro e wz hq
    unfold MakeQ at hq
    rcases hq with ⟨hg, rfl, hwz⟩ | ⟨hg, rfl, gm', mc', hw1, hgm, hr1⟩
    ·have HS : Hid (stepM x s = s.tick.fail) := by
      show _ = _
      rw [HST5.out]
      unfold effV makeV
      rw [if_neg (by omega), if_neg (by omega), if_neg (by omega), if_neg (by omega), if_pos rfl, if_pos (show 400 < (s.m.length : Int) + nn + 1 from hg)]
      rfl
     have HWZ : Hid (Below w3.heap.size w3 wz) := (Below.refl w3.heap.size w3).drew.trans hwz
     refine hK _ _ (fun _ => hwz.block xb HXD.out.lt) ?_
     clear hK K hg hwz
     go_simp
     repeat (refine eagR_readT rfl ?_; go_big_quiet_step (fail); refine wpQuiet_nil ?_)
     refine eagR_endT ?_
     go_wp2_with fail
     go_meet
     exact HBASE.out _ HWZ.out 0 false (by unfold S32; omega) (by rw [if_neg (by simp)]; exact HS.out)
    ·have hml := HMD.out.ml
     have hxb : wz.heap[xb]? = w3.drew.heap[xb]? := hr1.block xb HXD.out.lt fun e => by
      rcases e with e | e
      ·exact blk_tyV HXD.out HMD.out.box (by decide) e
      ·exact own_tyV HMD.out.wo HXD.out (by decide) (by rw [e]; rfl)
     have hx1 : Blk wz xb 47 (viC x) := HXD.out.of_heap hxb
     have hv1 := HVD.out.keep hw1 (hr1.mono fun k e => by rcases e with e | e; exact .inl e; exact .inr (.inl e)) rfl hgm fun k e => .inl e
     have HS : Hid (stepM x s = (s.tick.mem (s.m ++ b :: List.replicate nn.toNat 1) s.p).put (defV x) (2 * (s.m.length : Int))) := by
      show _ = _
      rw [HST5.out]
      unfold effV makeV
      rw [if_neg (by omega), if_neg (by omega), if_neg (by omega), if_neg (by omega), if_pos rfl, if_neg (show ¬ 400 < (s.m.length : Int) + nn + 1 from hg)]
      rfl
     have HC : Hid (CutR w0 w q fb f gm oa oc dp gr n s x xb (.int .i64 (2 * (s.m.length : Int))) (.bool true) wz) := ⟨2 * (s.m.length : Int), true, gm', mc', oa, oc, _, rfl, rfl, (by have h9 : s.m.length ≤ 400 := hml.2; unfold S32; omega), hv1, HST.out, hx1, (by rcases hgm with h9 | h9; exact .inl h9; exact .inr (Nat.le_trans HSIZE.out h9)), fun k e => .inl e, HRD.out.trans hr1 fun k _ e => (by rcases e with e | e; exact .inl e; exact .inr (.inl e)), by rw [if_pos rfl]; exact HS.out⟩
     refine hK _ _ (fun _ => hxb) ?_
     obtain ⟨L, hL⟩ : ∃ L, L = 2 * (s.m.length : Int) := ⟨_, rfl⟩
     have hL2 : 2 * (s.tick.m.length : Int) = L := hL.symm
     rw [hL2]
     rw [← hL] at HC
     clear hK K hg hml hxb hx1 hv1 hw1 hgm hr1 hL hL2
     go_simp
     repeat (refine eagR_readT rfl ?_; go_big_quiet_step (fail); refine wpQuiet_nil ?_)
     refine eagR_endT ?_
     go_wp2_with fail
     go_meet
     exact HC.out
   ·as_aux_lemma =>
    clear hal had
    by_cases ht : a < 0 ∨ 1024 < a
    ·have HS : Hid (stepM x s = s.tick.trap 6) := by
      show _ = _
      rw [HST5.out]
      unfold effV
      rw [if_neg (by omega), if_neg (by omega), if_neg (by omega), if_neg (by omega), if_neg (by omega), if_pos rfl, if_pos ht]
      rfl
     rcases Int.lt_or_le a 0 with h0 | h0
     ·clear ht
      go_wp2_with fail
      refine (trap_any HMV.out HST.out 6).mono ?_
      rintro e w5 ⟨rfl, hv5, hr5⟩
      have HQ := Lib.hid (HTRAP.out _ _ hv5 hr5 HS.out)
      clear hv5 hr5
      go_wp2_with fail
      refine bodyPost_ret (v := .tuple #[]) (by simp [results, Try.results38, go_sem]) rfl ?_
      exact ⟨rfl, HQ.out⟩
     ·have h1 : 1024 < a := by omega
      clear ht
      go_wp2_with fail
      refine (trap_any HMV.out HST.out 6).mono ?_
      rintro e w5 ⟨rfl, hv5, hr5⟩
      have HQ := Lib.hid (HTRAP.out _ _ hv5 hr5 HS.out)
      clear hv5 hr5
      go_wp2_with fail
      refine bodyPost_ret (v := .tuple #[]) (by simp [results, Try.results38, go_sem]) rfl ?_
      exact ⟨rfl, HQ.out⟩
    ·have h0 : ¬ a < 0 := by omega
     have h1 : ¬ 1024 < a := by omega
     have hh1 : 0 ≤ a := by omega
     have HMK := Lib.hid (make_any HMV.out ((1052672 + a) * 2 + 1) a b (by unfold S32; omega) hsb (by omega))
     have HNT := Lib.hid ht
     have HSIZE : Hid (w.heap.size ≤ w3.heap.size) := HR3.out.size
     clear ht
     go_wp2_with fail
     refine HMK.out.mono ?_
     rintro e wz hq
     unfold MakeQ at hq
     rcases hq with ⟨hg, rfl, hwz⟩ | ⟨hg, rfl, gm', mc', hw1, hgm, hr1⟩
     ·have HS : Hid (stepM x s = s.tick.fail) := by
       show _ = _
       rw [HST5.out]
       unfold effV makeV
       rw [if_neg (by omega), if_neg (by omega), if_neg (by omega), if_neg (by omega), if_neg (by omega), if_pos rfl, if_neg HNT.out, if_pos (show 400 < (s.m.length : Int) + a + 1 from hg)]
       rfl
      have HWZ : Hid (Below w3.heap.size w3 wz) := hwz
      clear hg hwz
      go_wp2_with fail
      go_meet
      exact HBASE.out _ HWZ.out 0 false (by unfold S32; omega) (by rw [if_neg (by simp)]; exact HS.out)
     ·have hml := HMV.out.ml
      have hxb : wz.heap[xb]? = w3.heap[xb]? := hr1.block xb HB3.out.lt fun e => by
       rcases e with e | e
       ·exact blk_tyV HB3.out HMV.out.box (by decide) e
       ·exact own_tyV HMV.out.wo HB3.out (by decide) (by rw [e]; rfl)
      have hx1 : Blk wz xb 47 (viC x) := HB3.out.of_heap hxb
      have hv1 := HV3.out.keep hw1 (hr1.mono fun k e => by rcases e with e | e; exact .inl e; exact .inr (.inl e)) rfl hgm fun k e => .inl e
      have HS : Hid (stepM x s = (s.tick.mem (s.m ++ ((1052672 + a) * 2 + 1) :: List.replicate a.toNat b) s.p).put (defV x) (2 * (s.m.length : Int))) := by
       show _ = _
       rw [HST5.out]
       unfold effV makeV
       rw [if_neg (by omega), if_neg (by omega), if_neg (by omega), if_neg (by omega), if_neg (by omega), if_pos rfl, if_neg HNT.out, if_neg (show ¬ 400 < (s.m.length : Int) + a + 1 from hg)]
       rfl
      have HC : Hid (CutR w0 w q fb f gm oa oc dp gr n s x xb (.int .i64 (2 * (s.m.length : Int))) (.bool true) wz) := ⟨2 * (s.m.length : Int), true, gm', mc', oa, oc, _, rfl, rfl, (by have h9 : s.m.length ≤ 400 := hml.2; unfold S32; omega), hv1, HST.out, hx1, (by rcases hgm with h9 | h9; exact .inl h9; exact .inr (Nat.le_trans HSIZE.out h9)), fun k e => .inl e, HR3.out.trans hr1 fun k _ e => (by rcases e with e | e; exact .inl e; exact .inr (.inl e)), by rw [if_pos rfl]; exact HS.out⟩
      obtain ⟨L, hL⟩ : ∃ L, L = 2 * (s.m.length : Int) := ⟨_, rfl⟩
      have hL2 : 2 * (s.tick.m.length : Int) = L := hL.symm
      rw [hL2]
      rw [← hL] at HC
      clear hg hml hxb hx1 hv1 hw1 hgm hr1 hL hL2
      go_wp2_with fail
      go_meet
      exact HC.out
   ·as_aux_lemma =>
    clear hal had
    have hpl : s.p.length ≤ 1000 := HMV.out.pl
    have b4 : w3.cell? ⟨q, 4, none⟩ = some (.slice oa s.p.length oc) := by rw [HMV.out.box.cell]; rfl
    obtain ⟨P, hP⟩ : ∃ P, P = s.p.length := ⟨_, rfl⟩
    rw [← hP] at b4 hpl
    have HP := Lib.hid hP
    clear hP
    have hq3 := HMV.out.box.lt
    by_cases hbig : 1000 ≤ P
    ·have HS : Hid (stepM x s = s.tick.trap 6) := by
      show _ = _
      rw [HST5.out]
      unfold effV
      rw [if_neg (by omega), if_neg (by omega), if_neg (by omega), if_neg (by omega), if_neg (by omega), if_neg (by omega), if_pos rfl, if_pos (by rw [← HP.out]; exact hbig)]
      rfl
     have hbI : (1000 : Int) ≤ (P : Int) := by omega
     go_wp2_with fail
     refine (trap_any HMV.out HST.out 6).mono ?_
     rintro e w5 ⟨rfl, hv5, hr5⟩
     have HQ := Lib.hid (HTRAP.out _ _ hv5 hr5 HS.out)
     clear hv5 hr5
     go_wp2_with fail
     refine bodyPost_ret (v := .tuple #[]) (by simp [results, Try.results38, go_sem]) rfl ?_
     exact ⟨rfl, HQ.out⟩
    ·have HBIG := Lib.hid hbig
     have hbI : ¬ (1000 : Int) ≤ (P : Int) := by omega
     have HMO := Lib.hid fun wz => moduloV_any a 2 wz (by omega) (by omega)
     obtain ⟨z, hz⟩ : ∃ z, z = a % 2 := ⟨_, rfl⟩
     have hzb : 0 ≤ z ∧ z < 2 := by rw [hz]; exact ⟨Int.emod_nonneg _ (by omega), Int.emod_lt_of_pos _ (by omega)⟩
     obtain ⟨y, hy⟩ : ∃ y, y = (a - a % 2) / 2 := ⟨_, rfl⟩
     have hdv : (a - z).tdiv 2 = y := by
      rw [hz, hy]
      rcases Int.le_total 0 (a - a % 2) with h | h
      ·exact Int.tdiv_eq_ediv_of_nonneg h
      ·have hd : (2 : Int) ∣ (a - a % 2) := ⟨a / 2, by omega⟩
       exact Int.tdiv_eq_ediv_of_dvd hd
     have hyb : -2147483648 ≤ y ∧ y ≤ 2147483647 := by unfold S32 at hsa; rw [hy]; omega
     have HYB := Lib.hid hyb
     have hab : -2147483648 ≤ a ∧ a ≤ 2147483647 := hsa
     rw [← hz] at HMO
     have HS : Hid (stepM x s = if (z == 1) = true then (s.tick.mem s.m (s.p ++ [y])).put (defV x) 0 else (s.tick.mem s.m (s.p ++ [y])).fail) := by
      show _ = _
      rw [HST5.out]
      unfold effV
      rw [if_neg (by omega), if_neg (by omega), if_neg (by omega), if_neg (by omega), if_neg (by omega), if_neg (by omega), if_pos rfl, if_neg (by rw [← HP.out]; exact HBIG.out), ← hz, hz, ← hy, ← hz]
      by_cases h1 : z = 1
      ·rw [if_pos h1, if_pos (by simp [h1])]; rfl
      ·rw [if_neg h1, if_neg (by simp [h1])]; rfl
     clear hz hy hbig
     have q4r := fun u : AfterR (KeepV q) w3.drew => (World.cell?_of_block (a := ⟨q, 4, none⟩) u.rel).trans b4
     have HMD : Hid (VmAt w0 w3.drew q fb f gm mc oa oc dp s.tick) := HMV.out.below (Below.refl w3.heap.size w3).drew
     have HVD : Hid (VmR w0 w3.drew q fb f gm mc oa oc dp gr n s.tick) := HV3.out.below (Below.refl w3.heap.size w3).drew
     have HXD : Hid (Blk w3.drew xb 47 (viC x)) := HB3.out
     have HRD : Hid (RestV (VmS q gm (.slice oa s.p.length oc) gr) w w3.drew) := HR3.out.trans (RestV.ofBelow (S := fun _ => False) (Below.refl w3.heap.size w3).drew) (fun _ _ e => e.elim)
     have HSIZE : Hid (w.heap.size ≤ w3.drew.heap.size) := HRD.out.size
     obtain ⟨i0, hi0, hz0, hz1, hz2⟩ : ∃ i, Try.prog.info? 3 = some i ∧ i.zero = some (.int .i64 0) ∧ i.size = 1 ∧ i.bytes = 8 := info_partsV (by kernel_rfl)
     go_upto_region 39 with fail
     refine wp_region_eagerRT (KeepV q) [(0, true), (1, true), (2, true), (3, true), (4, true), (5, true), (6, true), (7, false), (8, true), (9, true), (10, false), (11, false), (12, true), (13, true), (14, false)] (by kernel_rfl) (by kernel_rfl) ?_
     repeat (refine eagR_readT rfl ?_; go_big_quiet_step (fail); refine wpQuiet_nil ?_)
     clear q4r
     refine eagR_doesT rfl rfl ?_
     intro K hK
     go_simp
     refine (HMO.out _).mono ?_
     rintro e wz ⟨rfl, hwz⟩
     refine hK _ _ (fun _ => by rw [← hwz]; rfl) ?_
     rw [← hwz]
     clear hK K hwz wz
     go_simp
     repeat (refine eagR_readT rfl ?_; go_big_quiet_step (fail); refine wpQuiet_nil ?_)
     generalize w3.drew = wd at HMD HVD HXD HRD HSIZE ⊢
     have hqd := HMD.out.box.lt
     refine eagR_doesT rfl rfl ?_
     intro K hK
     go_simp
     refine hK _ _ (fun _ => Below.heap_alloc _ _ _ hqd) ?_
     clear hK K
     have hbz : Below wd.heap.size wd (wd.alloc (.cells #[.int .i64 y] 3)) := (Below.refl _ _).alloc (Nat.le_refl _) _
     have HME := Lib.hid (HMD.out.below hbz)
     have HVE := Lib.hid (HVD.out.below hbz)
     have HXE := Lib.hid (HXD.out.below hbz HXD.out.lt)
     have HRE : Hid (RestV (VmS q gm (.slice oa s.p.length oc) gr) w (wd.alloc (.cells #[.int .i64 y] 3))) := HRD.out.trans (RestV.ofBelow (S := fun _ => False) hbz) (fun _ _ e => e.elim)
     have HNEW : Hid (Blk (wd.alloc (.cells #[.int .i64 y] 3)) wd.heap.size 3 [.int .i64 y]) := Blk.new wd _ _
     have HSZ : Hid (w.heap.size ≤ (wd.alloc (.cells #[.int .i64 y] 3)).heap.size) := Nat.le_trans HSIZE.out hbz.size
     go_simp
     generalize wd.alloc (.cells #[.int .i64 y] 3) = we at HME HVE HXE HRE HNEW HSZ ⊢
     clear hbz HMD HVD HXD HRD
     refine eagR_doesT rfl rfl ?_
     intro K hK
     have hrow := HME.out.oo
     rw [show s.tick.p.length = P from HP.out.symm] at hrow
     refine wp_append_lies _ _ _ 22 rfl w0.heap.size 3 i0 (.int .i64 0) 1 8 Try.underlying22 hi0 hz0 hz1 hz2 rfl (by decide) (Value.slice oa P oc) P _ rfl hrow ⟨wd.heap.size, 0, none⟩ 1 1 [.int .i64 y] rfl rfl ?_ ?_ (by decide) ?_ ?_ HME.out.be.size _ rfl ?_
     ·intro j u hj
      rw [Addr.add_lit, Nat.zero_add, HNEW.out.cell]
      exact hj
     ·intro u hu; simp at hu; subst hu; rfl
     ·unfold maxLen; omega
     ·omega
     intro g' cap' w9 hown' hgrow hat hlt9
     have hqk : w9.heap[q]? = we.heap[q]? := hgrow.block q HME.out.box.lt (fun e => own_tyV hrow HME.out.box (by decide) e.symm)
     refine hK _ _ (fun _ => hqk) ?_
     clear hK K
     have hbox := HME.out.box.of_heap hqk
     have f4 := hbox.free 4
     have f4c : w9.cell? ⟨q, 4, none⟩ = some (.slice oa s.p.length oc) := by rw [hbox.cell]; rfl
     rw [HP.out] at hown' hgrow hat
     have hw1 := HME.out.print (v := y) HYB.out (by have := HP.out; have := HBIG.out; show s.p.length + 1 ≤ 1000; omega) hown' hgrow (by rcases hat with h9 | h9; exact .inl h9; exact .inr (by omega))
     have hr1 : RestV (fun k => k = q ∨ k = gm ∨ (Value.slice oa s.p.length oc).ownBlock = some k) we (w9.setCell ⟨q, 4, none⟩ (.slice (some ⟨g', 0, none⟩) (s.p.length + 1) cap')) := (RestV.trans (RestV.refl _ we) (⟨hgrow.os, hgrow.tape, hgrow.output, hgrow.size, fun k hk hs => hgrow.block k hk (fun e => hs e.symm)⟩ : RestV (fun k => (Value.slice oa s.p.length oc).ownBlock = some k) we w9) fun k _ e => .inr (.inr e)).set (p := ⟨q, 4, none⟩) (.inl rfl) _
     have hxb : (w9.setCell ⟨q, 4, none⟩ (.slice (some ⟨g', 0, none⟩) (s.p.length + 1) cap')).heap[xb]? = we.heap[xb]? := hr1.block xb HXE.out.lt fun e => by
      rcases e with e | e | e
      ·exact blk_tyV HXE.out HME.out.box (by decide) e
      ·exact own_tyV HME.out.wo HXE.out (by decide) (by rw [e]; rfl)
      ·exact own_tyV HME.out.oo HXE.out (by decide) e
     have hv1 := HVE.out.keep hw1 hr1 rfl (.inl rfl) (fun k e => by
      have e2 : g' = k := by simpa [Value.ownBlock] using e
      rw [← e2]
      rcases hat with h9 | h9
      ·exact .inl h9
      ·right; omega)
     have HC : Hid (CutR w0 w q fb f gm oa oc dp gr n s x xb (.int .i64 0) (.bool (z == 1)) (w9.setCell ⟨q, 4, none⟩ (.slice (some ⟨g', 0, none⟩) (P + 1) cap'))) := by
      rw [HP.out]
      refine ⟨0, (z == 1), gm, mc, _, _, _, rfl, rfl, by unfold S32; omega, hv1, HST.out, HXE.out.of_heap hxb, .inl rfl, fun k e => ?_, HRE.out.trans hr1 fun k _ e => (by rcases e with e | e | e; exact .inl e; exact .inr (.inl e); exact .inr (.inr (.inl e))), HS.out⟩
      have e2 : g' = k := by simpa [Value.ownBlock] using e
      rw [← e2]
      rcases hat with h9 | h9
      ·exact .inl h9
      ·right; have := HSZ.out; omega
     have hql9 := hbox.lt
     clear hown' hgrow hat hbox hw1 hr1 hxb hv1 hrow hqk HME HVE HXE HRE HNEW
     go_simp
     repeat (refine eagR_readT rfl ?_; go_big_quiet_step (fail); refine wpQuiet_nil ?_)
     refine eagR_freeT rfl rfl (by kernel_rfl) ?_
     intro K hK
     go_simp
     refine hK _ _ ?_
     clear hK K f4 f4c
     go_simp
     refine eagR_endT ?_
     go_wp2_with fail
     refine (HMO.out _).mono ?_
     rintro e wz ⟨rfl, hwz⟩
     rw [← hwz]
     clear hwz wz
     go_wp2_with fail
     go_meet
     exact HC.out
   ·as_aux_lemma =>
    have e1 : (op == 100) = false := by simp; omega
    have e2 : (op == 103) = false := by simp; omega
    have e3 : (op == 101) = false := by simp; omega
    have e4 : (op == 102) = false := by simp; omega
    have e5 : (op == 12) = false := by simp; omega
    have e6 : (op == 13) = false := by simp; omega
    have e7 : (op == 14) = false := by simp; omega
    have e8 : (op == 15) = false := by simp; omega
    have e9 : (op == 23) = false := by simp; omega
    have HM := Lib.hid fun wz => math_any op a b nn wz hs hsa hsb hns
    have HE : Hid (effV op nn a b s.m s.p = match mathF op a b nn with | some v => ⟨s.m, s.p, 0, v⟩ | none => ⟨s.m, s.p, 2, 1⟩) := by
     show _ = _
     unfold effV
     rw [if_neg (by omega), if_neg (by omega), if_neg (by omega), if_neg (by omega), if_neg (by omega), if_neg (by omega), if_neg (by omega)]
     cases mathF op a b nn <;> rfl
    rw [HE.out] at HST5
    unfold mathR at HM
    cases hm : mathF op a b nn with
    | none =>
     rw [hm] at HST5 HM
     have HS : Hid (stepM x s = s.tick.trap 1) := HST5.out
     clear hm HE hal had hs
     go_wp2_with fail
     refine (HM.out _).mono ?_
     rintro e wz ⟨rfl, hwz⟩
     rw [hwz]
     clear hwz wz
     go_wp2_with fail
     refine (trap_any HMV.out HST.out 1).mono ?_
     rintro e w5 ⟨rfl, hv5, hr5⟩
     have HQ := Lib.hid (HTRAP.out _ _ hv5 hr5 HS.out)
     clear hv5 hr5
     go_wp2_with fail
     refine bodyPost_ret (v := .tuple #[]) (by simp [results, Try.results38, go_sem]) rfl ?_
     exact ⟨rfl, HQ.out⟩
    | some v =>
     have HVB := Lib.hid (mathF_bd hsa hns hm)
     rw [hm] at HST5 HM
     have HS : Hid (stepM x s = s.tick.put (defV x) v) := HST5.out
     clear hm HE hal had hs
     go_wp2_with fail
     refine (HM.out _).mono ?_
     rintro e wz ⟨rfl, hwz⟩
     rw [hwz]
     clear hwz wz
     go_wp2_with fail
     go_meet
     exact HBASE.out _ (Below.refl _ _) v true HVB.out (by rw [if_pos rfl]; exact HS.out)
  case rest => as_aux_lemma =>
   obtain ⟨v, ok, gm', mc', oa', oc', t, rfl, rfl, hv, hvm, hts, hxb2, hg, ho, hr, hstep⟩ := hcut
   have HV := Lib.hid hv
   have HVM := Lib.hid hvm
   have HXB2 := Lib.hid hxb2
   have HG := Lib.hid hg
   have HO := Lib.hid ho
   have HR := Lib.hid hr
   have HSTEP := Lib.hid hstep
   clear hv hvm hxb2 hg ho hr hstep x0 HOP HOPR HR1 HV1 HR3 HV3 HB3 b3 hts HST4
   cases ok with
   | false =>
    go_wp2_with fail
    refine (fail_any HVM.out.at_).mono ?_
    rintro e w5 ⟨rfl, hv5, hr5⟩
    have HQ : Hid (StepQ w0 w q fb f gm (.slice oa s.p.length oc) dp gr n (stepM x s) w5) := by
     show StepQ _ _ _ _ _ _ _ _ _ _ _ _
     rw [HSTEP.out]
     exact ⟨gm', mc', oa', oc', HVM.out.keep hv5 (hr5.mono fun k e => .inl e) rfl (.inl rfl) (fun k e => .inl e), HG.out, HO.out, HR.out.trans hr5 fun k _ e => .inl e⟩
    clear hv5 hr5
    go_wp2_with fail
    refine bodyPost_ret (v := .tuple #[]) (by simp [results, Try.results38, go_sem]) rfl ?_
    exact ⟨rfl, HQ.out⟩
   | true =>
    have HSTEP := Lib.hid (HSTEP.out.trans (if_pos rfl))
    have y0 := HXB2.out.cell 0
    have y1 := HXB2.out.cell 1
    have y2 := HXB2.out.cell 2
    have y3 := HXB2.out.cell 3
    have y4 := HXB2.out.cell 4
    have y5 := HXB2.out.cell 5
    simp only [viC, List.getElem?_cons_zero, List.getElem?_cons_succ] at y0 y1 y2 y3 y4 y5
    have HID2 := HID.out
    unfold viV at HID2
    have HID3 := Lib.hid HID2
    clear HID2
    go_wp2_with fail
    refine (HID3.out _).mono ?_
    rintro e w5 ⟨rfl, hb5⟩
    have HV5 := Lib.hid (HVM.out.below hb5)
    have HR5 := Lib.hid (HR.out.trans (RestV.ofBelow (S := fun _ => False) hb5) fun _ _ e => e.elim)
    clear hb5 y0 y1 y2 y3 y4 y5 HID3 HVM HR HXB2
    obtain ⟨d, hd⟩ : ∃ d, d = defV x := ⟨_, rfl⟩
    have hdb : 0 ≤ d ∧ d < n := by
     rw [hd]; unfold defV
     have := HX.out.d
     split <;> omega
    rw [← hd] at HSTEP ⊢
    clear hd
    by_cases h0 : d = 0
    ·have h0' : (d != 0) = false := by simp [h0]
     have HQ : Hid (StepQ w0 w q fb f gm (.slice oa s.p.length oc) dp gr n (stepM x s) w5) := by
      show StepQ _ _ _ _ _ _ _ _ _ _ _ _
      rw [HSTEP.out]
      refine ⟨gm', mc', oa', oc', ?_, HG.out, HO.out, HR5.out⟩
      rw [h0]
      exact HV5.out
     clear h0
     go_wp2_with fail
     refine bodyPost_end (results_none rfl _ _ _) rfl ?_
     exact ⟨rfl, HQ.out⟩
    ·have h0' : (d != 0) = true := by simp [h0]
     obtain ⟨D, hD⟩ : ∃ D : Nat, d = (D : Int) := ⟨d.toNat, by omega⟩
     have HQ : Hid (StepQ w0 w q fb f gm (.slice oa s.p.length oc) dp gr n (stepM x s) (w5.setCell ⟨gr, D, none⟩ (.int .i64 v))) := by
      show StepQ _ _ _ _ _ _ _ _ _ _ _ _
      rw [HSTEP.out]
      refine ⟨gm', mc', oa', oc', ?_, HG.out, HO.out, HR5.out.set (p := ⟨gr, D, none⟩) (.inr (.inr (.inr rfl))) _⟩
      have := HV5.out.set hdb h0 HV.out
      rw [hD] at this ⊢
      exact this
     have hgl := HV5.out.rg.lt
     have rd : w5.cell? ⟨gr, D, none⟩ = some (.int .i64 (t.rg D)) := HV5.out.rg.row (by omega)
     have rf := HV5.out.rg.free D
     subst hD
     clear h0
     go_wp2_with fail
     refine bodyPost_end (results_none rfl _ _ _) rfl ?_
     exact ⟨rfl, HQ.out⟩
end Go.Proofs.Ytlcnbihfpjhffaa
