/- tile's Check. -/
import Derived.Test.YtdnpoomagjcpfaaGreatVCheckM
import Derived.Test.YtdnpoomagjcpfaaGreatVLive
import Derived.Test.YtdnpoomagjcpfaaGreatVBad
import Derived.Test.YtdnpoomagjcpfaaGreatVEnd
namespace Go.Proofs.YtdnpoomagjcpfaaGreat
open Go.RowKit
set_option linter.unusedVariables false
set_option linter.unusedSimpArgs false

theorem came_takeV {w : World} {a : Option Addr} {len cap s : Nat} {vs : List (List Value)} (h : Came w a len cap s vs) (n : Nat) (hn : n ≤ len) : Came w a n cap s (vs.take n) := by
 refine ⟨by rw [List.length_take, h.count]; omega, Nat.le_trans hn h.le, h.max, fun e => by have := h.nil e; omega, fun v hv => h.size v (List.mem_of_mem_take hv), fun h0 h1 => ?_⟩
 obtain ⟨b, off, ha, hlt, hc⟩ := h.cells (by omega) h1
 refine ⟨b, off, ha, hlt, fun i v hv j hj => hc i v ?_ j hj⟩
 rw [List.getElem?_take] at hv
 split at hv
 ·exact hv
 ·cases hv
/-- the function's box stands -/
structure BoxV (f : VF) (w wr : World) (pa sa : Option Addr) : Prop where
 be : Below w.heap.size w wr
 box : Blk wr w.heap.size 25 [.int .i64 f.name, .slice pa f.pn f.pc, .int .i64 f.regs, .slice sa f.sn f.sc]
theorem BoxV.below {f : VF} {w wr w' : World} {pa sa : Option Addr} (h : BoxV f w wr pa sa) (hb : Below wr.heap.size wr w') : BoxV f w w' pa sa := ⟨h.be.trans (hb.mono h.be.size), h.box.below hb h.box.lt⟩

set_option maxRecDepth 100000 in
set_option maxHeartbeats 8000000 in
theorem vcheck_any (w : World) (f : VF) (hf : f.Ok w) : Calls Tryz.prog 21 #[f.v] w (IntPost (fnE f) w) := by
 have HF := Lib.hid hf
 have hplen := hf.plen
 have hlen := hf.len
 have hpr := hf.preach
 have hsr := hf.reach
 have hb0 : BoxV f w (w.alloc (.cells #[.int .i64 f.name, .slice f.pa f.pn f.pc, .int .i64 f.regs, .slice f.sa f.sn f.sc] 25)) f.pa f.sa := ⟨(Below.refl _ _).alloc (Nat.le_refl _) _, Blk.new w [.int .i64 f.name, .slice f.pa f.pn f.pc, .int .i64 f.regs, .slice f.sa f.sn f.sc] 25⟩
 obtain ⟨pa, hpa⟩ : ∃ s, s = f.pa := ⟨_, rfl⟩
 obtain ⟨sa, hsa⟩ : ∃ s, s = f.sa := ⟨_, rfl⟩
 have HC : Hid (Came w pa f.pn f.pc 1 (f.params.map intCells)) := by rw [hpa]; exact hf.pcame
 unfold VF.v
 rw [← hpa, ← hsa] at hb0 ⊢
 have HB0 := Lib.hid hb0
 have HPA := Lib.hid hpa
 have HSA := Lib.hid hsa
 clear hf hb0 hpa hsa
 by_cases hbig : bigV f = true
 ·have HE : Hid (fnE f = 2) := by unfold Hid fnE; rw [if_pos hbig]
  by_cases h1 : 6 < (f.pn : Int)
  ·go_enter Tryz.func21, Tryz.ntmps21
   go_wp2_with fail
   go_ret
   exact ⟨ret_int HE.out.symm, HB0.out.be⟩
  ·by_cases h2 : 4096 < (f.sn : Int)
   ·clear hbig
    go_enter Tryz.func21, Tryz.ntmps21
    go_wp2_with fail
    go_ret
    exact ⟨ret_int HE.out.symm, HB0.out.be⟩
   ·have h3 : inB f.regs 1 8192 = false := by simpa [bigV, h1, h2] using hbig
    clear hbig
    go_enter Tryz.func21, Tryz.ntmps21
    go_wp2_with (go_at_call 36; refine (tin_any _ _ _ _).mono ?_; rw [h3]; rintro e w' ⟨rfl, rfl⟩)
    go_ret
    exact ⟨ret_int HE.out.symm, HB0.out.be⟩
 ·have hb9 : bigV f = false := by simpa using hbig
  have hb9' := hb9
  simp only [bigV, Bool.or_eq_false_iff, decide_eq_false_iff_not, Bool.not_eq_false'] at hb9'
  obtain ⟨⟨h1, h2⟩, h3⟩ := hb9'
  have h1' : (f.pn : Int) ≤ 6 := by omega
  have h2' : (f.sn : Int) ≤ 4096 := by omega
  obtain ⟨n, hn⟩ := Int.eq_ofNat_of_zero_le (show 0 ≤ f.regs by have := inB_true.1 h3; omega)
  have hn2 : 0 < n ∧ n ≤ 8192 := by have := inB_true.1 h3; omega
  have HN := Lib.hid hn
  clear hn
  have hrg1 : 1 ≤ f.regs := (inB_true.1 h3).1
  have hrg2 : f.regs ≤ 8192 := (inB_true.1 h3).2
  by_cases hs0 : f.sn = 0
  ·have HE : Hid (fnE f = 3) := by unfold Hid fnE; rw [if_neg hbig, if_pos hs0]
   have hs0' : ((f.sn : Int) == 0) = true := by simp [hs0]
   clear hbig hb9 hs0
   go_enter Tryz.func21, Tryz.ntmps21
   go_wp2_with (go_at_call 36; refine (tin_any _ _ _ _).mono ?_; rw [h3]; rintro e w' ⟨rfl, rfl⟩)
   go_ret
   exact ⟨ret_int HE.out.symm, HB0.out.be⟩
  ·have hs0' : ((f.sn : Int) == 0) = false := by simp [hs0]
   have HE : Hid (fnE f = if parE f.regs [] f.params ≠ 0 then parE f.regs [] f.params else if blkE f.regs f.sn 0 f.blocks ≠ 0 then blkE f.regs f.sn 0 f.blocks else liveE f) := by unfold Hid fnE; rw [if_neg hbig, if_neg hs0]
   have hsp : 0 < f.sn := by omega
   clear hbig hb9 h1 h2 hs0
   go_enter Tryz.func21, Tryz.ntmps21
   go_wp2_with (go_at_call 36; refine (tin_any _ _ _ _).mono ?_; rw [h3]; rintro e w' ⟨rfl, rfl⟩)
   generalize w.alloc (.cells #[.int .i64 f.name, .slice pa f.pn f.pc, .int .i64 f.regs, .slice sa f.sn f.sc] 25) = w1 at HB0 ⊢
   clear hs0'
   go_loopw [2, 3, 4, 37] (fun _ _ _ u wr => ∃ k : Nat, k ≤ f.pn ∧ u = .int .i64 (k : Int) ∧ BoxV f w wr pa sa ∧ parE f.regs [] f.params = parE f.regs (f.params.take k) (f.params.drop k)) (fun _ _ _ u _ => f.pn - (intOf u).toNat)
   case atStart => exact ⟨0, Nat.zero_le _, rfl, HB0.out, by simp⟩
   case round =>
    clear HB0
    obtain ⟨k, hk, rfl, hbx, hpe⟩ := hrel
    obtain ⟨w2, hw2⟩ : ∃ w2, w2 = wr := ⟨_, rfl⟩
    rw [← hw2] at hbx ⊢
    clear hw2
    have HBX := Lib.hid hbx
    have HPE := Lib.hid hpe
    have c1 := hbx.box.cell 1
    have c2 := hbx.box.cell 2
    have c3 := hbx.box.cell 3
    simp only [List.getElem?_cons_zero, List.getElem?_cons_succ] at c1 c2 c3
    clear hbx hpe
    by_cases hlt : k < f.pn
    ·obtain ⟨gp, op, rfl, hgp, hcp⟩ := HC.out.ints (by omega)
     have hpc : k ≤ f.pc := by have := HC.out.le; omega
     have ck := (HBX.out.be.cell (p := ⟨gp, op + k, none⟩) hgp).trans (hcp k (by omega))
     obtain ⟨r, hr⟩ : ∃ r, r = f.params[k]'(by omega) := ⟨_, rfl⟩
     rw [← hr] at ck
     have HT : Hid (f.params.take (k + 1) = f.params.take k ++ [r]) := by rw [hr]; exact List.take_succ_eq_append_getElem _
     have HD : Hid (f.params.drop k = r :: f.params.drop (k + 1)) := by rw [hr]; exact List.drop_eq_getElem_cons (by omega)
     have HPE2 : Hid (parE f.regs [] f.params = if inB r 1 (f.regs - 1) = false then 6 else if r ∈ f.params.take k then 7 else parE f.regs (f.params.take (k + 1)) (f.params.drop (k + 1))) := by
      show _ = _
      rw [HPE.out, HD.out, HT.out]; rfl
     clear hr hcp
     cases hin : inB r 1 (f.regs - 1)
     ·have HF : Hid (fnE f = 6) := by
       have h9 := HPE2.out
       rw [if_pos hin] at h9
       show _ = _
       rw [HE.out, h9]; rfl
      go_wp2_with (go_at_call 36; refine (tin_any _ _ _ _).mono ?_; rw [hin]; rintro e w' ⟨rfl, rfl⟩)
      go_ret
      exact ⟨ret_int HF.out.symm, HBX.out.be⟩
     ·have hct := hcontains_ints w2 (some ⟨gp, op, none⟩) k f.pc (f.params.take k) r (by have := came_takeV (HC.out.below HBX.out.be) k hk; rwa [← List.map_take] at this)
      obtain ⟨cb, hcb⟩ : ∃ cb, cb = (f.params.take k).contains r := ⟨_, rfl⟩
      rw [← hcb] at hct
      have HCT := Lib.hid hct
      have HCB := Lib.hid hcb
      clear hct hcb
      go_wp2_with (go_at_call 36; refine (tin_any _ _ _ _).mono ?_; rw [hin]; rintro e w' ⟨rfl, rfl⟩)
      refine HCT.out.mono ?_
      rintro e w3 ⟨rfl, rfl⟩
      have HIN := Lib.hid hin
      clear hin
      by_cases hmem : r ∈ f.params.take k
      ·obtain rfl : cb = true := by rw [HCB.out, List.contains_iff_mem]; exact hmem
       have HF : Hid (fnE f = 7) := by
        have h9 := HPE2.out
        rw [if_neg (by rw [HIN.out]; simp), if_pos hmem] at h9
        show _ = _
        rw [HE.out, h9]; rfl
       clear hmem
       go_wp2_with fail
       go_ret
       exact ⟨ret_int HF.out.symm, HBX.out.be⟩
      ·obtain rfl : cb = false := by rw [HCB.out, ← Bool.not_eq_true, List.contains_iff_mem]; exact hmem
       have HPE3 : Hid (parE f.regs [] f.params = parE f.regs (f.params.take (k + 1)) (f.params.drop (k + 1))) := by
        show _ = _
        rw [HPE2.out, if_neg (by rw [HIN.out]; simp), if_neg hmem]
       clear hmem
       go_wp2_with fail
       go_roundw
       case rel => exact ⟨k + 1, by omega, by go_num, HBX.out, HPE3.out⟩
       case measure => simp [intOf]; omega
    ·have HPZ : Hid (parE f.regs [] f.params = 0) := by
      show _ = _
      rw [HPE.out, List.drop_of_length_le (by omega)]; rfl
     have HE2 : Hid (fnE f = if blkE f.regs f.sn 0 f.blocks ≠ 0 then blkE f.regs f.sn 0 f.blocks else liveE f) := by
      show _ = _
      rw [HE.out, HPZ.out]; rfl
     clear HE HPE HPZ
     go_wp2_with fail
     clear c1 c2 c3
     go_loopw [2, 5, 7, 58] (fun _ u5 _ u58 wr => ∃ (k many : Nat), k ≤ f.sn ∧ u58 = .int .i64 (k : Int) ∧ u5 = .int .i64 (many : Int) ∧ many ≤ 4096 ∧ BoxV f w wr pa sa ∧ blkE f.regs f.sn 0 f.blocks = blkE f.regs f.sn many (f.blocks.drop k)) (fun _ _ _ u _ => f.sn - (intOf u).toNat)
     case atStart => exact ⟨0, 0, Nat.zero_le _, rfl, rfl, by omega, HBX.out, by simp⟩
     case round =>
      clear HBX
      obtain ⟨k, many, hk, rfl, rfl, hmany, hbx, hbe⟩ := hrel
      obtain ⟨w3, hw3⟩ : ∃ w3, w3 = wr := ⟨_, rfl⟩
      rw [← hw3] at hbx ⊢
      clear hw3
      have HBX := Lib.hid hbx
      have HBE := Lib.hid hbe
      have c2 := hbx.box.cell 2
      have c3 := hbx.box.cell 3
      simp only [List.getElem?_cons_zero, List.getElem?_cons_succ] at c2 c3
      clear hbx hbe
      by_cases hlt : k < f.sn
      ·have hkb : k < f.blocks.length := by omega
       obtain ⟨gb, ob, hsa, hgb, d0, d1, d2, d3, d4, d5, d6⟩ := HF.out.cells HBX.out.be hkb
       obtain ⟨b, hb⟩ : ∃ b, b = f.blocks[k] := ⟨_, rfl⟩
       rw [← hb] at d0 d1 d2 d3 d4 d5 d6
       rw [← HSA.out] at hsa
       subst hsa
       have HBO : Hid (b.Ok w) := by rw [hb]; exact HF.out.blocks _ (List.getElem_mem _)
       have HD : Hid (f.blocks.drop k = b :: f.blocks.drop (k + 1)) := by rw [hb]; exact List.drop_eq_getElem_cons hkb
       have hbl := HBO.out.len
       have hbr := HBO.out.reach
       obtain ⟨sb, hsb⟩ : ∃ s, s = b.sa := ⟨_, rfl⟩
       rw [← hsb] at d0
       have HSB := Lib.hid hsb
       have HBE2 : Hid (blkE f.regs f.sn 0 f.blocks = if 4096 < many + b.ins.length then 2 else if insE f.regs b.ins ≠ 0 then insE f.regs b.ins else if badE b.e f.regs f.sn ≠ 0 then badE b.e f.regs f.sn else blkE f.regs f.sn (many + b.ins.length) (f.blocks.drop (k + 1))) := by
        show _ = _
        rw [HBE.out, HD.out]; rfl
       clear hb hsb
       by_cases hbig : 4096 < many + b.ins.length
       ·have hbigI : (4096 : Int) < (many : Int) + (b.sn : Int) := by omega
        have HF2 : Hid (fnE f = 2) := by
         have h9 := HBE2.out
         rw [if_pos hbig] at h9
         show _ = _
         rw [HE2.out, h9]; rfl
        clear hbig
        go_wp2_with fail
        go_ret
        exact ⟨ret_int HF2.out.symm, HBX.out.be.trans (((Below.refl _ _).alloc (Nat.le_refl _) _).mono HBX.out.be.size)⟩
       ·have hbigI : (many : Int) + (b.sn : Int) ≤ 4096 := by omega
        have HBE3 : Hid (blkE f.regs f.sn 0 f.blocks = if insE f.regs b.ins ≠ 0 then insE f.regs b.ins else if badE b.e f.regs f.sn ≠ 0 then badE b.e f.regs f.sn else blkE f.regs f.sn (many + b.ins.length) (f.blocks.drop (k + 1))) := by
         show _ = _
         rw [HBE2.out, if_neg hbig]
        clear HBE2 hbig
        have hb4 : Below w3.heap.size w3 (w3.alloc (.cells #[.slice sb b.sn b.sc, .int .i64 b.e.kind, .int .i64 b.e.op, .int .i64 b.e.a, .int .i64 b.e.b, .int .i64 b.e.n, .slice b.e.sa b.e.sn b.e.sc] 46)) := (Below.refl _ _).alloc (Nat.le_refl _) _
        have HBX4 := Lib.hid (HBX.out.below hb4)
        have HV4 := Lib.hid (Blk.new w3 [.slice sb b.sn b.sc, .int .i64 b.e.kind, .int .i64 b.e.op, .int .i64 b.e.a, .int .i64 b.e.b, .int .i64 b.e.n, .slice b.e.sa b.e.sn b.e.sc] 46)
        go_wp2_with fail
        clear hb4 d0 d1 d2 d3 d4 d5 d6 c2 c3
        obtain ⟨V, hV⟩ : ∃ V, V = w3.heap.size := ⟨_, rfl⟩
        rw [← hV] at HV4 ⊢
        clear hV
        generalize w3.alloc (.cells #[.slice sb b.sn b.sc, .int .i64 b.e.kind, .int .i64 b.e.op, .int .i64 b.e.a, .int .i64 b.e.b, .int .i64 b.e.n, .slice b.e.sa b.e.sn b.e.sc] 46) = w4 at HBX4 HV4 ⊢
        clear HBX
        go_loopw [2, 9, 10, 72] (fun _ _ _ u wr => ∃ j : Nat, j ≤ b.sn ∧ u = .int .i64 (j : Int) ∧ Below w4.heap.size w4 wr ∧ insE f.regs b.ins = insE f.regs (b.ins.drop j)) (fun _ _ _ u _ => b.sn - (intOf u).toNat)
        case atStart => exact ⟨0, Nat.zero_le _, rfl, Below.refl _ _, by simp⟩
        case round =>
         obtain ⟨j, hj, rfl, hb5, hie⟩ := hrel
         obtain ⟨w5, hw5⟩ : ∃ w5, w5 = wr := ⟨_, rfl⟩
         rw [← hw5] at hb5 ⊢
         clear hw5
         have HB5 := Lib.hid hb5
         have HIE := Lib.hid hie
         have HBX5 := Lib.hid (HBX4.out.below hb5)
         have HV5 := Lib.hid (HV4.out.below hb5 HV4.out.lt)
         clear hb5 hie
         by_cases hjl : j < b.sn
         ·have hjb : j < b.ins.length := by omega
          obtain ⟨x, hx⟩ : ∃ x, x = b.ins[j] := ⟨_, rfl⟩
          obtain ⟨gi, oi, hsb2, hgi, d0, d1, d2, d3, d4, d5⟩ := HBO.out.cells HBX5.out.be hjb
          rw [← hx] at d0 d1 d2 d3 d4 d5
          rw [← HSB.out] at hsb2
          subst hsb2
          have hxo : x.Ok w := by rw [hx]; exact HBO.out.ins _ (List.getElem_mem _)
          have HD2 : Hid (b.ins.drop j = x :: b.ins.drop (j + 1)) := by rw [hx]; exact List.drop_eq_getElem_cons hjb
          have hb6 : Below w5.heap.size w5 (w5.alloc (.cells #[.int .i64 x.op, .int .i64 x.d, .int .i64 x.a, .int .i64 x.b, .int .i64 x.n, .slice x.sa x.sn x.sc] 48)) := (Below.refl _ _).alloc (Nat.le_refl _) _
          have HBX6 := Lib.hid (HBX5.out.below hb6)
          have c2 := HBX6.out.box.cell 2
          simp only [List.getElem?_cons_zero, List.getElem?_cons_succ] at c2
          have hBI := badIns_any x f.regs _ (hxo.below HBX6.out.be) (inB_true.1 h3)
          unfold viV at hBI
          have HBI := Lib.hid hBI
          have HB6 := Lib.hid (HB5.out.trans (hb6.mono HB5.out.size))
          clear hx hxo hb6 hBI
          obtain ⟨e9, he9⟩ : ∃ e9, e9 = badI x f.regs := ⟨_, rfl⟩
          rw [← he9] at HBI
          have HIE2 : Hid (insE f.regs b.ins = if e9 ≠ 0 then e9 else insE f.regs (b.ins.drop (j + 1))) := by
           show _ = _
           rw [HIE.out, HD2.out, he9]; rfl
          clear he9
          go_wp2_with fail
          refine HBI.out.mono ?_
          rintro e w7 ⟨rfl, hb7⟩
          have HB7 := Lib.hid (HB6.out.trans (hb7.mono HB6.out.size))
          have HBX7 := Lib.hid (HBX6.out.below hb7)
          clear hb7 c2 d0 d1 d2 d3 d4 d5
          by_cases he : e9 = 0
          ·have he' : (e9 == 0) = true := by simp [he]
           have HIE3 : Hid (insE f.regs b.ins = insE f.regs (b.ins.drop (j + 1))) := by
            show _ = _
            rw [HIE2.out, if_neg (by simp [he])]
           clear he
           go_wp2_with fail
           go_roundw
           case rel => exact ⟨j + 1, by omega, by go_num, HB7.out, HIE3.out⟩
           case measure => simp [intOf]; omega
          ·have he' : (e9 == 0) = false := by simp [he]
           have HF2 : Hid (fnE f = e9) := by
            have h8 : insE f.regs b.ins = e9 := by rw [HIE2.out, if_pos he]
            have h9 := HBE3.out
            rw [h8, if_pos he] at h9
            show _ = _
            rw [HE2.out, h9, if_pos he]
           clear he
           go_wp2_with fail
           go_ret
           exact ⟨ret_int HF2.out.symm, HBX7.out.be⟩
         ·have HIZ : Hid (insE f.regs b.ins = 0) := by
           show _ = _
           rw [HIE.out, List.drop_of_length_le (by omega)]; rfl
          have hBE := badEnd_any b.e f.regs f.sn w5 (HBO.out.e.below HBX5.out.be) (inB_true.1 h3) (by omega)
          unfold veV at hBE
          obtain ⟨e9, he9⟩ : ∃ e9, e9 = badE b.e f.regs f.sn := ⟨_, rfl⟩
          rw [← he9] at hBE HBE3
          have HBD := Lib.hid hBE
          have c2 := HBX5.out.box.cell 2
          have c3 := HBX5.out.box.cell 3
          have v1 := HV5.out.cell 1
          have v2 := HV5.out.cell 2
          have v3 := HV5.out.cell 3
          have v4 := HV5.out.cell 4
          have v5 := HV5.out.cell 5
          have v6 := HV5.out.cell 6
          simp only [List.getElem?_cons_zero, List.getElem?_cons_succ] at c2 c3 v1 v2 v3 v4 v5 v6
          have HBE4 : Hid (blkE f.regs f.sn 0 f.blocks = if e9 ≠ 0 then e9 else blkE f.regs f.sn (many + b.ins.length) (f.blocks.drop (k + 1))) := by
           show _ = _
           rw [HBE3.out, HIZ.out]; rfl
          clear he9 hBE HBE3
          go_wp2_with fail
          refine HBD.out.mono ?_
          rintro e w7 ⟨rfl, hb7⟩
          have HBX7 := Lib.hid (HBX5.out.below hb7)
          clear hb7 c2 c3 v1 v2 v3 v4 v5 v6
          by_cases he : e9 = 0
          ·have he' : (e9 == 0) = true := by simp [he]
           have HBE5 : Hid (blkE f.regs f.sn 0 f.blocks = blkE f.regs f.sn (many + b.ins.length) (f.blocks.drop (k + 1))) := by
            show _ = _
            rw [HBE4.out, if_neg (by simp [he])]
           rw [hbl] at HBE5
           clear he
           go_wp2_with fail
           go_roundw
           case rel => exact ⟨k + 1, many + b.sn, by omega, by go_num, by go_num, by omega, HBX7.out, HBE5.out⟩
           case measure => simp [intOf]; omega
          ·have he' : (e9 == 0) = false := by simp [he]
           have HF2 : Hid (fnE f = e9) := by
            have h9 := HBE4.out
            rw [if_pos he] at h9
            show _ = _
            rw [HE2.out, h9, if_pos he]
           clear he
           go_wp2_with fail
           go_ret
           exact ⟨ret_int HF2.out.symm, HBX7.out.be⟩
      ·have HBZ : Hid (blkE f.regs f.sn 0 f.blocks = 0) := by
        show _ = _
        rw [HBE.out, List.drop_of_length_le (by omega)]; rfl
       have HE3 : Hid (fnE f = liveE f) := by
        show _ = _
        rw [HE2.out, HBZ.out]; rfl
       obtain ⟨hfit, htos, hins⟩ := fits_of (m := f.sn) hlen.symm rfl HN.out hn2.1 HBZ.out
       have hLV := live_any w3 f (HF.out.below HBX.out.be) f.sn n hlen.symm (by omega) HN.out hn2 hfit htos
       unfold VF.v at hLV
       rw [← HSA.out, ← HPA.out] at hLV
       have HLV := Lib.hid hLV
       have c0 := HBX.out.box.cell 0
       have c1 := HBX.out.box.cell 1
       simp only [List.getElem?_cons_zero, List.getElem?_cons_succ] at c0 c1
       clear hfit htos hins hLV HE2 HBE HBZ
       go_wp2_with fail
       refine HLV.out.mono ?_
       rintro e w4 ⟨G, bs, X, rfl, hR, hb4, hX, _⟩
       have HR4 := Lib.hid hR
       have HX := Lib.hid hX
       have HBX4 := Lib.hid (HBX.out.below hb4)
       clear hR hb4 hX c0 c1 c2 c3
       go_wp2_with fail
       go_loopw [2, 13] (fun _ u wr => ∃ r : Nat, 1 ≤ r ∧ r ≤ n ∧ u = .int .i64 (r : Int) ∧ wr = w4 ∧ ∀ q, q < r → ¬ (LiveI f 0 q ∧ (q : Int) ∉ f.params)) (fun _ u _ => n - (intOf u).toNat)
       case atStart => exact ⟨1, Nat.le_refl _, hn2.1, rfl, rfl, fun q hq h => by have := h.1.pos; omega⟩
       case round =>
        obtain ⟨r, hr1, hr2, rfl, rfl, hno⟩ := hrel
        have HNO := Lib.hid hno
        clear hno
        have c1 := HBX4.out.box.cell 1
        have c2 := HBX4.out.box.cell 2
        simp only [List.getElem?_cons_zero, List.getElem?_cons_succ] at c1 c2
        by_cases hrn : r < n
        ·have hrI : (r : Int) < f.regs := by rw [HN.out]; omega
         have cG := Blk.row HR4.out.blk hsp
         have cr := (HR4.out.row 0 hsp).cell hrn
         have hxr := HX.out 0 hsp r hrn
         obtain ⟨xr, hxe⟩ : ∃ xr, xr = X 0 r := ⟨_, rfl⟩
         rw [← hxe] at cr hxr
         have HXR := Lib.hid hxr
         clear hxr hxe
         cases xr
         ·go_wp2_with fail
          go_roundw
          case rel =>
           refine ⟨r + 1, by omega, by omega, by go_num, trivial, fun q hq h => ?_⟩
           by_cases e : q = r
           ·subst e
            have := HXR.out.2 h.1
            cases this
           ·exact HNO.out q (by omega) h
          case measure => simp [intOf]; omega
         ·have hct := hcontains_ints _ pa f.pn f.pc f.params (r : Int) (HC.out.below HBX4.out.be)
          obtain ⟨cb, hcb⟩ : ∃ cb, cb = f.params.contains (r : Int) := ⟨_, rfl⟩
          rw [← hcb] at hct
          have HCT := Lib.hid hct
          have HCB := Lib.hid hcb
          clear hct hcb
          go_wp2_with fail
          refine HCT.out.mono ?_
          rintro e w5 ⟨rfl, rfl⟩
          cases cb
          ·have HF2 : Hid (fnE f = 12) := by
            show _ = _
            rw [HE3.out]
            unfold liveE
            rw [if_pos]
            refine ⟨r, hrI, HXR.out.1 (by simp), fun hm => ?_⟩
            have := HCB.out
            rw [List.contains_iff_mem.2 hm] at this
            cases this
           go_wp2_with fail
           go_ret
           exact ⟨ret_int HF2.out.symm, HBX4.out.be⟩
          ·go_wp2_with fail
           go_roundw
           case rel =>
            refine ⟨r + 1, by omega, by omega, by go_num, trivial, fun q hq h => ?_⟩
            by_cases e : q = r
            ·subst e
             exact h.2 (List.contains_iff_mem.1 HCB.out.symm)
            ·exact HNO.out q (by omega) h
           case measure => simp [intOf]; omega
        ·have hrI : ¬ (r : Int) < f.regs := by rw [HN.out]; omega
         have HF2 : Hid (fnE f = 0) := by
          show _ = _
          rw [HE3.out]
          unfold liveE
          rw [if_neg]
          rintro ⟨q, h1, h2⟩
          exact HNO.out q (by have := HN.out; omega) h2
         go_wp2_with fail
         go_ret
         exact ⟨ret_int HF2.out.symm, HBX4.out.be⟩
end Go.Proofs.YtdnpoomagjcpfaaGreat
