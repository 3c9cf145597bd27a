/- The reference's Kept. -/
import Derived.Test.YtlcnbihfpjhffaaAllocP
import Derived.Test.YtlcnbihfpjhffaaPlc
import Derived.Test.YtlcnbihfpjhffaaVAlive
import Derived.Test.YtlcnbihfpjhffaaVCheck
namespace Go.Proofs.Ytlcnbihfpjhffaa
open Go.RowKit
set_option linter.unusedVariables false
set_option linter.unusedSimpArgs false

def OccPost (P : Prop) (w : World) (e : Ending) (w' : World) : Prop := ∃ t : Bool, e = .returned (.bool t) ∧ (t = true ↔ P) ∧ Below w.heap.size w w'
set_option maxRecDepth 100000 in
set_option maxHeartbeats 8000000 in
theorem kept_any (w : World) (f : VF) (hf : f.Ok w) (n nb : Nat) (hok : FnOk f n nb) (r : Nat) (hr : 1 ≤ r ∧ r < n) :
  Calls Try.prog 9 #[f.v, .int .i64 (r : Int)] w (OccPost (KeptP f nb r) w) := by
 have HF := Lib.hid hf
 have hlen := hf.len
 have hsn := hok.sn
 have hn2 := hok.n2
 have hnb2 := hok.nb2
 have hb0 : BoxV f w (w.alloc (.cells #[.int .i64 f.name, .slice f.pa f.pn f.pc, .int .i64 f.regs, .slice f.sa f.sn f.sc] 25)) f.pa f.sa := ⟨(Below.refl _ _).alloc (Nat.le_refl _) _, Blk.new w [.int .i64 f.name, .slice f.pa f.pn f.pc, .int .i64 f.regs, .slice f.sa f.sn f.sc] 25⟩
 have htos : TosV f nb := by rw [hok.nbl]; exact hok.fits.tos
 have HAL := fun wx (h : Below w.heap.size w wx) (i q r : Nat) (hi : i < nb) (hq : q ≤ 10000) (hr : r ≠ 0) (hr2 : r ≤ 10000) => alive_any wx f (hf.below h) nb hok.nbl hnb2.2 htos hok.ins i q r hi hq hr hr2
 have HAM := fun wx (h : Below w.heap.size w wx) (r : Int) => among_any wx f.pa f.pn f.pc f.params (hf.pcame.below h) r
 have HOK := Lib.hid hok
 unfold VF.v at HAL ⊢
 obtain ⟨pa, hpa⟩ : ∃ s, s = f.pa := ⟨_, rfl⟩
 obtain ⟨sa, hsa⟩ : ∃ s, s = f.sa := ⟨_, rfl⟩
 rw [← hpa, ← hsa] at hb0 HAL ⊢
 rw [← hpa] at HAM
 rw [hsn] at hb0 HAL ⊢
 have HB0 := Lib.hid hb0
 have HSA := Lib.hid hsa
 have HAL := Lib.hid HAL
 have HAM := Lib.hid HAM
 have HSN := Lib.hid hsn
 clear hf hok htos hb0 hpa hsa hsn
 go_enter Try.func9, Try.ntmps9
 go_upto_region 1 with fail
 generalize w.alloc (.cells #[.int .i64 f.name, .slice pa f.pn f.pc, .int .i64 f.regs, .slice sa nb f.sc] 25) = w1 at HB0 ⊢
 have c3 := HB0.out.box.cell 3
 simp only [List.getElem?_cons_zero, List.getElem?_cons_succ] at c3
 rw [HSN.out] at c3
 have HB1 := HB0
 clear HB0 HAM
 go_wp2_with fail
 clear c3
 go_loopw [12] (fun u wr => ∃ i : Nat, i ≤ nb ∧ u = .int .i64 (i : Int) ∧ BoxV f w wr pa sa ∧ ¬ KeptP f i r) (fun u _ => nb - (intOf u).toNat)
 case atStart => exact ⟨0, Nat.zero_le _, rfl, HB1.out, fun ⟨i, hi, _⟩ => absurd hi (Nat.not_lt_zero _)⟩
 case round =>
  clear HB1
  obtain ⟨i, hi, rfl, hbx, hno⟩ := hrel
  have HBX := Lib.hid hbx
  have HNO := Lib.hid hno
  clear hbx hno
  by_cases hlt : i < nb
  ·have hib : i < f.blocks.length := by have := HOK.out.nbl; omega
   obtain ⟨gb, ob, hsa, hgb, d0, d1, d2, d3, d4, d5, d6⟩ := HF.out.cells HBX.out.be hib
   have hbo : f.blocks[i].Ok w := HF.out.blocks _ (List.getElem_mem _)
   rw [VF.blk_get f hib] at d0 d1 d2 d3 d4 d5 d6 hbo
   have hins := HOK.out.ins i hlt
   obtain ⟨bk, hbk⟩ : ∃ b, b = f.blk i := ⟨_, rfl⟩
   rw [← hbk] at d0 d1 d2 d3 d4 d5 d6 hbo hins
   rw [← HSA.out] at hsa
   subst hsa
   have hbl := hbo.len
   have HBO := Lib.hid hbo
   have HBK := Lib.hid hbk
   obtain ⟨sb, hsb⟩ : ∃ s, s = bk.sa := ⟨_, rfl⟩
   rw [← hsb] at d0
   have HSB := Lib.hid hsb
   have hb4 : Below wr.heap.size wr (wr.alloc (.cells #[.slice sb bk.sn bk.sc, .int .i64 bk.e.kind, .int .i64 bk.e.op, .int .i64 bk.e.a, .int .i64 bk.e.b, .int .i64 bk.e.n, .slice bk.e.sa bk.e.sn bk.e.sc] 45)) := (Below.refl _ _).alloc (Nat.le_refl _) _
   have hbv : Blk (wr.alloc (.cells #[.slice sb bk.sn bk.sc, .int .i64 bk.e.kind, .int .i64 bk.e.op, .int .i64 bk.e.a, .int .i64 bk.e.b, .int .i64 bk.e.n, .slice bk.e.sa bk.e.sn bk.e.sc] 45)) wr.heap.size 45 [.slice sb bk.sn bk.sc, .int .i64 bk.e.kind, .int .i64 bk.e.op, .int .i64 bk.e.a, .int .i64 bk.e.b, .int .i64 bk.e.n, .slice bk.e.sa bk.e.sn bk.e.sc] := Blk.new wr _ _
   have HBX4 := Lib.hid (HBX.out.below hb4)
   have HBV := Lib.hid hbv
   clear hbk hsb hb4 hbv hbo
   go_upto_region 4 with fail
   obtain ⟨vb, hvb⟩ : ∃ x, x = wr.heap.size := ⟨_, rfl⟩
   rw [← hvb] at HBV ⊢
   clear hvb d0 d1 d2 d3 d4 d5 d6 HBX
   generalize wr.alloc (.cells #[.slice sb bk.sn bk.sc, .int .i64 bk.e.kind, .int .i64 bk.e.op, .int .i64 bk.e.a, .int .i64 bk.e.b, .int .i64 bk.e.n, .slice bk.e.sa bk.e.sn bk.e.sc] 45) = w4 at HBX4 HBV ⊢
   have v0 := HBV.out.cell 0
   simp only [List.getElem?_cons_zero] at v0
   have hvl := HBV.out.lt
   have HB4 : Hid (∀ wx, Below w4.heap.size w4 wx → Blk wx vb 45 [.slice sb bk.sn bk.sc, .int .i64 bk.e.kind, .int .i64 bk.e.op, .int .i64 bk.e.a, .int .i64 bk.e.b, .int .i64 bk.e.n, .slice bk.e.sa bk.e.sn bk.e.sc]) := fun wx h => HBV.out.below h hvl
   go_wp2_with fail
   clear v0
   go_loopw [20] (fun u wx => ∃ k : Nat, k ≤ bk.sn ∧ u = .int .i64 (k : Int) ∧ BoxV f w wx pa (some ⟨gb, ob, none⟩) ∧ Below w4.heap.size w4 wx ∧ ¬ ∃ (k' : Nat) (x : VI), k' < k ∧ bk.ins[k']? = some x ∧ (callB x.op = true ∧ (r : Int) ≠ defV x ∧ AliveP f i (k' + 1) r)) (fun u _ => bk.sn - (intOf u).toNat)
   case atStart => exact ⟨0, Nat.zero_le _, rfl, HBX4.out, Below.refl _ _, fun ⟨k, x, hk, _⟩ => absurd hk (Nat.not_lt_zero _)⟩
   case round =>
    clear HBX4 HBV
    obtain ⟨k, hk, rfl, hbx, hbe4, hnk⟩ := hrel
    have HBX := Lib.hid hbx
    have HNK := Lib.hid hnk
    have HBE := Lib.hid hbe4
    clear hbx hnk hbe4
    by_cases hkl : k < bk.sn
    ·
     have hkb : k < bk.ins.length := by omega
     obtain ⟨z, hz⟩ : ∃ z, z = bk.ins[k] := ⟨_, rfl⟩
     obtain ⟨gi, oi, hsb2, hgi, d0, d1, d2, d3, d4, d5⟩ := HBO.out.cells HBX.out.be hkb
     rw [← hz] at d0 d1 d2 d3 d4 d5
     rw [← HSB.out] at hsb2
     subst hsb2
     have HID := insDef_any z
     unfold viV at HID
     have HZQ0 : bk.ins[k]? = some z := by rw [hz]; exact List.getElem?_eq_getElem hkb
     have HZQ : Hid ((f.blk i).ins[k]? = some z) := by rw [← HBK.out]; exact HZQ0
     have hfz := HOK.out.fits.ins i hib z (by rw [← HBK.out]; exact List.mem_of_getElem? HZQ0)
     have HNX : Hid (¬ (callB z.op = true ∧ (r : Int) ≠ defV z ∧ AliveP f i (k + 1) r) → ¬ ∃ (k' : Nat) (x : VI), k' < k + 1 ∧ bk.ins[k']? = some x ∧ (callB x.op = true ∧ (r : Int) ≠ defV x ∧ AliveP f i (k' + 1) r)) := fun hn ⟨k', x, h1, h2, h3⟩ => by
      by_cases e : k' = k
      ·subst e
       rw [HZQ0] at h2
       injection h2 with h2
       subst h2
       exact hn h3
      ·exact HNK.out ⟨k', x, by omega, h2, h3⟩
     have hb5 : Below wr.heap.size wr (wr.alloc (.cells #[.int .i64 z.op, .int .i64 z.d, .int .i64 z.a, .int .i64 z.b, .int .i64 z.n, .slice z.sa z.sn z.sc] 47)) := (Below.refl _ _).alloc (Nat.le_refl _) _
     have hxb : Blk (wr.alloc (.cells #[.int .i64 z.op, .int .i64 z.d, .int .i64 z.a, .int .i64 z.b, .int .i64 z.n, .slice z.sa z.sn z.sc] 47)) wr.heap.size 47 (viC z) := Blk.new wr _ _
     have HBV5 := Lib.hid (And.intro (HBX.out.below hb5) hxb)
     have HBE5 := Lib.hid (HBE.out.trans (hb5.mono HBE.out.size))
     have hdz := hfz.d
     clear hz HZQ0 hfz hb5 hxb HBX HNK HBE
     go_upto_region 7 with fail
     obtain ⟨xb, hxb⟩ : ∃ x, x = wr.heap.size := ⟨_, rfl⟩
     rw [← hxb] at HBV5 ⊢
     clear hxb d0 d1 d2 d3 d4 d5
     generalize wr.alloc (.cells #[.int .i64 z.op, .int .i64 z.d, .int .i64 z.a, .int .i64 z.b, .int .i64 z.n, .slice z.sa z.sn z.sc] 47) = w5 at HBV5 HBE5 ⊢
     have d0 := HBV5.out.2.cell 0
     have d1 := HBV5.out.2.cell 1
     have d2 := HBV5.out.2.cell 2
     have d3 := HBV5.out.2.cell 3
     have d4 := HBV5.out.2.cell 4
     have d5 := HBV5.out.2.cell 5
     simp only [viC, List.getElem?_cons_zero, List.getElem?_cons_succ] at d0 d1 d2 d3 d4 d5
     have HID := Lib.hid HID
     have hcb : callB z.op = ((z.op == 101) || (z.op == 102)) := rfl
     have hcs : callB z.op = false ∨ (callB z.op = true ∧ defV z = (r : Int)) ∨ (callB z.op = true ∧ defV z ≠ (r : Int)) := by
      cases callB z.op
      ·exact .inl rfl
      ·by_cases h : defV z = (r : Int)
       ·exact .inr (.inl ⟨rfl, h⟩)
       ·exact .inr (.inr ⟨rfl, h⟩)
     have hk1 : callB z.op = true → (z.op == 101) = true ∨ ((z.op == 101) = false ∧ (z.op == 102) = true) := fun h => by
      rw [hcb] at h
      cases h1 : (z.op == 101)
      ·right; rw [h1] at h; exact ⟨rfl, by simpa using h⟩
      ·left; rfl
     rcases hcs with hc | ⟨hc, hdp⟩ | ⟨hc, hdp⟩
     ·have h1 : (z.op == 101) = false := by rw [hcb] at hc; simp at hc; simp; exact hc.1
      have h2 : (z.op == 102) = false := by rw [hcb] at hc; simp at hc; simp; exact hc.2
      have HN : Hid (¬ (callB z.op = true ∧ (r : Int) ≠ defV z ∧ AliveP f i (k + 1) r)) := fun h => by have := h.1; rw [hc] at this; cases this
      clear hcb hk1 hc
      go_wp2_with fail
      go_roundw
      case rel => exact ⟨k + 1, by omega, by go_num, HBV5.out.1, HBE5.out, HNX.out HN.out⟩
      case measure => simp [intOf]; omega
     ·have HN : Hid (¬ (callB z.op = true ∧ (r : Int) ≠ defV z ∧ AliveP f i (k + 1) r)) := fun h => h.2.1 hdp.symm
      have hq1 : (defV z != (r : Int)) = false := by simp [hdp]
      have hk2 := hk1 hc
      clear hcb hk1 hc hdp
      rcases hk2 with h1 | ⟨h1, h2⟩
      all_goals
       go_wp2_with fail
       refine (HID.out _).mono ?_
       rintro e w8 ⟨rfl, hb8⟩
       have HB8 := Lib.hid (HBV5.out.1.below hb8)
       have HBE8 := Lib.hid (HBE5.out.trans (hb8.mono HBE5.out.size))
       clear hb8 d0 d1 d2 d3 d4 d5
       go_wp2_with fail
       go_roundw
       case rel => exact ⟨k + 1, by omega, by go_num, HB8.out, HBE8.out, HNX.out HN.out⟩
       case measure => simp [intOf]; omega
     ·have HC : Hid (callB z.op = true ∧ (r : Int) ≠ defV z) := ⟨hc, fun h => hdp h.symm⟩
      have hq1 : (defV z != (r : Int)) = true := by simp [hdp]
      have hk2 := hk1 hc
      clear hcb hk1 hc hdp
      rcases hk2 with h1 | ⟨h1, h2⟩
      all_goals
       go_wp2_with fail
       refine (HID.out _).mono ?_
       rintro e w8 ⟨rfl, hb8⟩
       have HB8 := Lib.hid (HBV5.out.1.below hb8)
       have HBE8 := Lib.hid (HBE5.out.trans (hb8.mono HBE5.out.size))
       have c0 := HB8.out.box.cell 0
       have c1 := HB8.out.box.cell 1
       have c2 := HB8.out.box.cell 2
       have c3 := HB8.out.box.cell 3
       simp only [List.getElem?_cons_zero, List.getElem?_cons_succ] at c0 c1 c2 c3
       rw [HSN.out] at c3
       have HA20 := Lib.hid (HAL.out w8 HB8.out.be i (k + 1) r hlt (by omega) (by omega) (by omega))
       have ek1 : ((k + 1 : Nat) : Int) = (k : Int) + 1 := by omega
       rw [ek1] at HA20
       clear hb8 d0 d1 d2 d3 d4 d5 ek1
       go_wp2_with fail
       refine HA20.out.mono ?_
       rintro e w9 ⟨t, rfl, ht, hb9⟩
       have HB9 := Lib.hid (HB8.out.below hb9)
       have HBE9 := Lib.hid (HBE8.out.trans (hb9.mono HBE8.out.size))
       cases t with
       | true =>
        have HCY := Lib.hid (ht.1 rfl)
        clear ht hb9 c0 c1 c2 c3
        go_wp2_with fail
        go_ret
        exact ⟨true, rfl, ⟨fun _ => ⟨i, hlt, k, z, HZQ.out, HC.out.1, HC.out.2, HCY.out⟩, fun _ => rfl⟩, HB9.out.be⟩
       | false =>
        have HN : Hid (¬ (callB z.op = true ∧ (r : Int) ≠ defV z ∧ AliveP f i (k + 1) r)) := fun h => by have := ht.2 h.2.2; cases this
        clear ht hb9 c0 c1 c2 c3
        go_wp2_with fail
        go_roundw
        case rel => exact ⟨k + 1, by omega, by go_num, HB9.out, HBE9.out, HNX.out HN.out⟩
        case measure => simp [intOf]; omega
    ·
     have HN : Hid (¬ KeptP f (i + 1) r) := fun ⟨i', h2, k', x, h4, h5⟩ => by
      by_cases e : i' = i
      ·subst e
       rw [← HBK.out] at h4
       exact HNK.out ⟨k', x, by have := (List.getElem?_eq_some_iff.1 h4).1; omega, h4, h5⟩
      ·exact HNO.out ⟨i', by omega, k', x, h4, h5⟩
     go_wp2_with fail
     go_roundw
     case rel => exact ⟨i + 1, by omega, by go_num, HBX.out, HN.out⟩
     case measure => simp [intOf]; omega
  ·have ei : nb = i := by omega
   subst ei
   go_wp2_with fail
   go_ret
   exact ⟨false, rfl, ⟨fun h => (by cases h), fun h => (HNO.out h).elim⟩, HBX.out.be⟩
end Go.Proofs.Ytlcnbihfpjhffaa
