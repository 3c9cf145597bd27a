/- The form of an allocation: alloccheck's Check. -/
import Derived.Test.YtdnpoomagjcpfaaGreatVCheck
import Derived.Test.YtdnpoomagjcpfaaGreatBase
import Derived.Deep.QuietTactic
import Derived.BigQuiet
namespace Go.Proofs.YtdnpoomagjcpfaaGreat
open Go.RowKit
set_option linter.unusedVariables false
set_option linter.unusedSimpArgs false

/-- an allocation that came in -/
structure AL where
 (ra : Option Addr) (rn rc : Nat) (reg : List Int) (sa : Option Addr) (sn sc : Nat) (slot : List Int) (k : Int)
def AL.v (a : AL) : Value := .agg #[.slice a.ra a.rn a.rc, .slice a.sa a.sn a.sc, .int .i64 a.k]
structure AL.Ok (w : World) (a : AL) : Prop where
 rcame : Came w a.ra a.rn a.rc 1 (a.reg.map intCells)
 rreach : a.rn * 8 ≤ 140737488351232
 reg : ∀ z ∈ a.reg, I64 z
 scame : Came w a.sa a.sn a.sc 1 (a.slot.map intCells)
 sreach : a.sn * 8 ≤ 140737488351232
 slot : ∀ z ∈ a.slot, I64 z
 k : I64 a.k
theorem AL.Ok.below {w w' : World} {a : AL} (h : a.Ok w) (hb : Below w.heap.size w w') : a.Ok w' := ⟨h.rcame.below hb, h.rreach, h.reg, h.scame.below hb, h.sreach, h.slot, h.k⟩
def pairsE (k : Int) : List Int → List Int → Int
 | r :: rs, s :: ss => if (r < -1 ∨ r = 0 ∨ 10 < r) ∨ s < -1 ∨ k ≤ s then 4 else if 0 < r ∧ 0 ≤ s then 7 else pairsE k rs ss
 | _, _ => 0
noncomputable def allocE (f : VF) (a : AL) : Int :=
 if fnE f ≠ 0 then fnE f else if (a.rn : Int) ≠ f.regs ∨ (a.sn : Int) ≠ f.regs then 3 else if a.k < 0 ∨ 8192 < a.k then 2 else pairsE a.k a.reg a.slot

set_option maxRecDepth 100000 in
set_option maxHeartbeats 8000000 in
theorem allocCheck_any (w : World) (f : VF) (hf : f.Ok w) (a : AL) (ha : a.Ok w) : Calls Tryz.prog 51 #[f.v, a.v] w (IntPost (allocE f a) w) := by
 have hb0 : Below w.heap.size w ((w.alloc (.cells #[.int .i64 f.name, .slice f.pa f.pn f.pc, .int .i64 f.regs, .slice f.sa f.sn f.sc] 25)).alloc (.cells #[.slice a.ra a.rn a.rc, .slice a.sa a.sn a.sc, .int .i64 a.k] 31)) := ((Below.refl _ _).alloc (Nat.le_refl _) _).alloc (by simp) _
 have hbf := (Blk.new w [.int .i64 f.name, .slice f.pa f.pn f.pc, .int .i64 f.regs, .slice f.sa f.sn f.sc] 25).alloc (.cells #[.slice a.ra a.rn a.rc, .slice a.sa a.sn a.sc, .int .i64 a.k] 31)
 have hba := Blk.new (w.alloc (.cells #[.int .i64 f.name, .slice f.pa f.pn f.pc, .int .i64 f.regs, .slice f.sa f.sn f.sc] 25)) [.slice a.ra a.rn a.rc, .slice a.sa a.sn a.sc, .int .i64 a.k] 31
 rw [World.size_alloc] at hba
 have hck := vcheck_any _ f (hf.below hb0)
 unfold VF.v at hck ⊢
 unfold AL.v
 have HCR : Hid (Came w a.ra a.rn a.rc 1 (a.reg.map intCells)) := ha.rcame
 have HCS : Hid (Came w a.sa a.sn a.sc 1 (a.slot.map intCells)) := ha.scame
 have hrl : a.reg.length = a.rn := by simpa using ha.rcame.count
 have hsl : a.slot.length = a.sn := by simpa using ha.scame.count
 have hrr := ha.rreach
 have hsr := ha.sreach
 clear ha
 generalize a.ra = ra at hb0 hbf hba hck HCR ⊢
 generalize a.sa = sa at hb0 hbf hba hck HCS ⊢
 obtain ⟨fe, hfe⟩ : ∃ fe, fe = fnE f := ⟨_, rfl⟩
 rw [← hfe] at hck
 have HFE := Lib.hid hfe
 have HCK := Lib.hid hck
 have HB0 := Lib.hid hb0
 have HBF := Lib.hid hbf
 have HBA := Lib.hid hba
 clear hck hfe hb0 hbf hba
 go_enter Tryz.func51, Tryz.ntmps51
 go_wp2_with fail
 generalize (w.alloc (.cells #[.int .i64 f.name, .slice f.pa f.pn f.pc, .int .i64 f.regs, .slice f.sa f.sn f.sc] 25)).alloc (.cells #[.slice ra a.rn a.rc, .slice sa a.sn a.sc, .int .i64 a.k] 31) = w1 at HCK HB0 HBF HBA ⊢
 refine HCK.out.mono ?_
 rintro e w2 ⟨rfl, hb2⟩
 have HB2 := Lib.hid (HB0.out.trans (hb2.mono HB0.out.size))
 have HBF2 := Lib.hid (HBF.out.below hb2 HBF.out.lt)
 have HBA2 := Lib.hid (HBA.out.below hb2 HBA.out.lt)
 clear hb2 HCK HB0 HBF HBA
 by_cases he : fe = 0
 ·have he' : (fe == 0) = true := by simp [he]
  have HE : Hid (allocE f a = if (a.rn : Int) ≠ f.regs ∨ (a.sn : Int) ≠ f.regs then 3 else if a.k < 0 ∨ 8192 < a.k then 2 else pairsE a.k a.reg a.slot) := by
   show _ = _
   unfold allocE
   rw [if_neg (by rw [← HFE.out]; simp [he])]
  have b0 := HBA2.out.cell 0
  have b1 := HBA2.out.cell 1
  have b2 := HBA2.out.cell 2
  have c2 := HBF2.out.cell 2
  simp only [List.getElem?_cons_zero, List.getElem?_cons_succ] at b0 b1 b2 c2
  clear he
  by_cases h1 : (a.rn : Int) = f.regs
  ·have h1' : ((a.rn : Int) != f.regs) = false := by simp [h1]
   by_cases h2 : (a.sn : Int) = f.regs
   ·have h2' : ((a.sn : Int) != f.regs) = false := by simp [h2]
    have HE2 : Hid (allocE f a = if a.k < 0 ∨ 8192 < a.k then 2 else pairsE a.k a.reg a.slot) := by
     show _ = _
     rw [HE.out, if_neg (by rintro (h | h) <;> contradiction)]
    have hrs : a.rn = a.sn := by omega
    clear HE h1 h2
    by_cases h3 : a.k < 0
    ·have HF : Hid (allocE f a = 2) := by show _ = _; rw [HE2.out, if_pos (.inl h3)]
     go_wp2_with fail
     go_ret
     exact ⟨ret_int HF.out.symm, HB2.out⟩
    ·by_cases h4 : 8192 < a.k
     ·have HF : Hid (allocE f a = 2) := by show _ = _; rw [HE2.out, if_pos (.inr h4)]
      go_wp2_with fail
      go_ret
      exact ⟨ret_int HF.out.symm, HB2.out⟩
     ·have HE3 : Hid (allocE f a = pairsE a.k a.reg a.slot) := by show _ = _; rw [HE2.out, if_neg (by omega)]
      clear HE2
      have hHRS := Lib.hid hrs
      clear hrs
      go_wp2_with fail
      clear b0 b1 b2 c2
      go_loopw [4, 6, 37] (fun _ _ u wr => ∃ i q : Nat, i ≤ a.rn ∧ u = .int .i64 (i : Int) ∧ wr = w2.drewN q ∧ pairsE a.k a.reg a.slot = pairsE a.k (a.reg.drop i) (a.slot.drop i)) (fun _ _ u _ => a.rn - (intOf u).toNat)
      case atStart => exact ⟨0, 0, Nat.zero_le _, rfl, rfl, by simp⟩
      case round =>
       obtain ⟨i, q, hi, rfl, rfl, hpe⟩ := hrel
       have HPE := Lib.hid hpe
       clear hpe
       have HBQ : Hid (Below w.heap.size w (w2.drewN q)) := HB2.out.trans (below_drewN_self _ _ _)
       have b0 := (HBA2.out.drewN q).cell 0
       have b1 := (HBA2.out.drewN q).cell 1
       have b2 := (HBA2.out.drewN q).cell 2
       simp only [List.getElem?_cons_zero, List.getElem?_cons_succ] at b0 b1 b2
       by_cases hlt : i < a.rn
       ·have his : i < a.sn := by have := hHRS.out; omega
        obtain ⟨gr, or_, rfl, hgr, hcr⟩ := HCR.out.ints (by omega)
        obtain ⟨gs, os_, rfl, hgs, hcs⟩ := HCS.out.ints (by omega)
        have cr := (HBQ.out.cell (p := ⟨gr, or_ + i, none⟩) hgr).trans (hcr i (by omega))
        have cs := (HBQ.out.cell (p := ⟨gs, os_ + i, none⟩) hgs).trans (hcs i (by omega))
        obtain ⟨r, hr⟩ : ∃ r, r = a.reg[i]'(by omega) := ⟨_, rfl⟩
        obtain ⟨s, hs⟩ : ∃ s, s = a.slot[i]'(by omega) := ⟨_, rfl⟩
        rw [← hr] at cr
        rw [← hs] at cs
        have HD : Hid (pairsE a.k a.reg a.slot = if (r < -1 ∨ r = 0 ∨ 10 < r) ∨ s < -1 ∨ a.k ≤ s then 4 else if 0 < r ∧ 0 ≤ s then 7 else pairsE a.k (a.reg.drop (i + 1)) (a.slot.drop (i + 1))) := by
         show _ = _
         rw [HPE.out, List.drop_eq_getElem_cons (show i < a.reg.length by omega), List.drop_eq_getElem_cons (show i < a.slot.length by omega), ← hr, ← hs]
         rfl
        have hisI : (i : Int) < (a.sn : Int) := by omega
        have hirI : (i : Int) < (a.rn : Int) := by omega
        clear hr hs hcr hcs
        obtain ⟨w3, hw3⟩ : ∃ w3, w3 = w2.drewN q := ⟨_, rfl⟩
        rw [← hw3] at b0 b1 b2 cr cs HBQ ⊢
        have HW3 := Lib.hid hw3
        have hwl : w.heap.size + 1 < w3.heap.size := by rw [hw3]; exact HBA2.out.lt
        have hgr3 : gr < w3.heap.size := Nat.lt_of_lt_of_le hgr HBQ.out.size
        have hgs3 : gs < w3.heap.size := Nat.lt_of_lt_of_le hgs HBQ.out.size
        have q0 := fun z : After w3.heap.size w3.drew => (z.below.cell (p := ⟨w.heap.size + 1, 0, none⟩) hwl).trans b0
        have q1 := fun z : After w3.heap.size w3.drew => (z.below.cell (p := ⟨w.heap.size + 1, 1, none⟩) hwl).trans b1
        have q2 := fun z : After w3.heap.size w3.drew => (z.below.cell (p := ⟨w.heap.size + 1, 2, none⟩) hwl).trans b2
        have q3 := fun z : After w3.heap.size w3.drew => (z.below.cell (p := ⟨gr, or_ + i, none⟩) hgr3).trans cr
        have q4 := fun z : After w3.heap.size w3.drew => (z.below.cell (p := ⟨gs, os_ + i, none⟩) hgs3).trans cs
        clear hw3
        by_cases hc : r < -1
        ·have z1 : r < -1 := hc
         have z1d : decide (r < -1) = true := decide_eq_true hc
         have HF : Hid (allocE f a = 4) := by show _ = _; rw [HE3.out, HD.out, if_pos (by omega)]
         go_wp2_with fail
         refine wp_region_eager w3.heap.size [(0, true), (1, true), (2, true), (3, true), (4, true), (5, true), (6, true), (7, true), (8, true), (9, true), (10, true), (11, true), (12, true), (13, true), (14, true), (15, true), (16, true), (17, true), (18, true), (19, true), (20, true), (21, true), (22, true), (23, true), (24, true), (25, true), (26, true), (27, true), (28, true), (29, true), (30, true), (31, true), (32, true), (33, true), (34, true), (35, true), (36, true), (37, true), (38, true), (39, true)] (by kernel_rfl) (by kernel_rfl) ?_
         repeat (refine eag_read rfl ?_; go_big_quiet_step (fail); refine wpQuiet_nil ?_)
         refine eag_end ?_
         go_wp2_with fail
         go_ret
         exact ⟨ret_int HF.out.symm, HBQ.out.drew⟩
        ·have z1 : ¬ r < -1 := hc
         have z1d : decide (r < -1) = false := decide_eq_false hc
         clear hc
         by_cases hc : r = 0
         ·have z2 : (r == 0) = true := by simp [hc]
          have HF : Hid (allocE f a = 4) := by show _ = _; rw [HE3.out, HD.out, if_pos (by omega)]
          go_wp2_with fail
          refine wp_region_eager w3.heap.size [(0, true), (1, true), (2, true), (3, true), (4, true), (5, true), (6, true), (7, true), (8, true), (9, true), (10, true), (11, true), (12, true), (13, true), (14, true), (15, true), (16, true), (17, true), (18, true), (19, true), (20, true), (21, true), (22, true), (23, true), (24, true), (25, true), (26, true), (27, true), (28, true), (29, true), (30, true), (31, true), (32, true), (33, true), (34, true), (35, true), (36, true), (37, true), (38, true), (39, true)] (by kernel_rfl) (by kernel_rfl) ?_
          repeat (refine eag_read rfl ?_; go_big_quiet_step (fail); refine wpQuiet_nil ?_)
          refine eag_end ?_
          go_wp2_with fail
          go_ret
          exact ⟨ret_int HF.out.symm, HBQ.out.drew⟩
         ·have z2 : (r == 0) = false := by simp [hc]
          have z2' : r ≠ 0 := hc
          have HZ2 := Lib.hid z2'
          clear hc z2'
          by_cases hc : 10 < r
          ·have z3 : 10 < r := hc
           have z3d : decide (10 < r) = true := decide_eq_true hc
           have HF : Hid (allocE f a = 4) := by show _ = _; rw [HE3.out, HD.out, if_pos (by omega)]
           go_wp2_with fail
           refine wp_region_eager w3.heap.size [(0, true), (1, true), (2, true), (3, true), (4, true), (5, true), (6, true), (7, true), (8, true), (9, true), (10, true), (11, true), (12, true), (13, true), (14, true), (15, true), (16, true), (17, true), (18, true), (19, true), (20, true), (21, true), (22, true), (23, true), (24, true), (25, true), (26, true), (27, true), (28, true), (29, true), (30, true), (31, true), (32, true), (33, true), (34, true), (35, true), (36, true), (37, true), (38, true), (39, true)] (by kernel_rfl) (by kernel_rfl) ?_
           repeat (refine eag_read rfl ?_; go_big_quiet_step (fail); refine wpQuiet_nil ?_)
           refine eag_end ?_
           go_wp2_with fail
           go_ret
           exact ⟨ret_int HF.out.symm, HBQ.out.drew⟩
          ·have z3 : ¬ 10 < r := hc
           have z3d : decide (10 < r) = false := decide_eq_false hc
           clear hc
           by_cases hc : s < -1
           ·have z4 : s < -1 := hc
            have z4d : decide (s < -1) = true := decide_eq_true hc
            have HF : Hid (allocE f a = 4) := by show _ = _; rw [HE3.out, HD.out, if_pos (by omega)]
            go_wp2_with fail
            refine wp_region_eager w3.heap.size [(0, true), (1, true), (2, true), (3, true), (4, true), (5, true), (6, true), (7, true), (8, true), (9, true), (10, true), (11, true), (12, true), (13, true), (14, true), (15, true), (16, true), (17, true), (18, true), (19, true), (20, true), (21, true), (22, true), (23, true), (24, true), (25, true), (26, true), (27, true), (28, true), (29, true), (30, true), (31, true), (32, true), (33, true), (34, true), (35, true), (36, true), (37, true), (38, true), (39, true)] (by kernel_rfl) (by kernel_rfl) ?_
            repeat (refine eag_read rfl ?_; go_big_quiet_step (fail); refine wpQuiet_nil ?_)
            refine eag_end ?_
            go_wp2_with fail
            go_ret
            exact ⟨ret_int HF.out.symm, HBQ.out.drew⟩
           ·have z4 : ¬ s < -1 := hc
            have z4d : decide (s < -1) = false := decide_eq_false hc
            clear hc
            by_cases hc : a.k ≤ s
            ·have z5 : a.k ≤ s := hc
             have z5d : decide (a.k ≤ s) = true := decide_eq_true hc
             have HF : Hid (allocE f a = 4) := by show _ = _; rw [HE3.out, HD.out, if_pos (by omega)]
             go_wp2_with fail
             refine wp_region_eager w3.heap.size [(0, true), (1, true), (2, true), (3, true), (4, true), (5, true), (6, true), (7, true), (8, true), (9, true), (10, true), (11, true), (12, true), (13, true), (14, true), (15, true), (16, true), (17, true), (18, true), (19, true), (20, true), (21, true), (22, true), (23, true), (24, true), (25, true), (26, true), (27, true), (28, true), (29, true), (30, true), (31, true), (32, true), (33, true), (34, true), (35, true), (36, true), (37, true), (38, true), (39, true)] (by kernel_rfl) (by kernel_rfl) ?_
             repeat (refine eag_read rfl ?_; go_big_quiet_step (fail); refine wpQuiet_nil ?_)
             refine eag_end ?_
             go_wp2_with fail
             go_ret
             exact ⟨ret_int HF.out.symm, HBQ.out.drew⟩
            ·have z5 : ¬ a.k ≤ s := hc
             have z5d : decide (a.k ≤ s) = false := decide_eq_false hc
             clear hc
             have HD2 : Hid (allocE f a = if 0 < r ∧ 0 ≤ s then 7 else pairsE a.k (a.reg.drop (i + 1)) (a.slot.drop (i + 1))) := by show _ = _; rw [HE3.out, HD.out, if_neg (by have := HZ2.out; omega)]
             by_cases y1 : 0 < r
             ·by_cases y2 : 0 ≤ s
              ·have HF : Hid (allocE f a = 7) := by show _ = _; rw [HD2.out, if_pos ⟨y1, y2⟩]
               go_wp2_with fail
               refine wp_region_eager w3.heap.size [(0, true), (1, true), (2, true), (3, true), (4, true), (5, true), (6, true), (7, true), (8, true), (9, true), (10, true), (11, true), (12, true), (13, true), (14, true), (15, true), (16, true), (17, true), (18, true), (19, true), (20, true), (21, true), (22, true), (23, true), (24, true), (25, true), (26, true), (27, true), (28, true), (29, true), (30, true), (31, true), (32, true), (33, true), (34, true), (35, true), (36, true), (37, true), (38, true), (39, true)] (by kernel_rfl) (by kernel_rfl) ?_
               repeat (refine eag_read rfl ?_; go_big_quiet_step (fail); refine wpQuiet_nil ?_)
               refine eag_end ?_
               go_wp2_with fail
               go_ret
               exact ⟨ret_int HF.out.symm, HBQ.out.drew⟩
              ·have HN : Hid (allocE f a = pairsE a.k (a.reg.drop (i + 1)) (a.slot.drop (i + 1))) := by show _ = _; rw [HD2.out, if_neg (by omega)]
               go_wp2_with fail
               refine wp_region_eager w3.heap.size [(0, true), (1, true), (2, true), (3, true), (4, true), (5, true), (6, true), (7, true), (8, true), (9, true), (10, true), (11, true), (12, true), (13, true), (14, true), (15, true), (16, true), (17, true), (18, true), (19, true), (20, true), (21, true), (22, true), (23, true), (24, true), (25, true), (26, true), (27, true), (28, true), (29, true), (30, true), (31, true), (32, true), (33, true), (34, true), (35, true), (36, true), (37, true), (38, true), (39, true)] (by kernel_rfl) (by kernel_rfl) ?_
               repeat (refine eag_read rfl ?_; go_big_quiet_step (fail); refine wpQuiet_nil ?_)
               refine eag_end ?_
               go_wp2_with fail
               go_roundw
               case rel =>
                refine ⟨i + 1, q + 1, by omega, by go_num, by rw [HW3.out]; rfl, ?_⟩
                rw [← HE3.out]; exact HN.out
               case measure => simp [intOf]; omega
             ·have HN : Hid (allocE f a = pairsE a.k (a.reg.drop (i + 1)) (a.slot.drop (i + 1))) := by show _ = _; rw [HD2.out, if_neg (by omega)]
              go_wp2_with fail
              refine wp_region_eager w3.heap.size [(0, true), (1, true), (2, true), (3, true), (4, true), (5, true), (6, true), (7, true), (8, true), (9, true), (10, true), (11, true), (12, true), (13, true), (14, true), (15, true), (16, true), (17, true), (18, true), (19, true), (20, true), (21, true), (22, true), (23, true), (24, true), (25, true), (26, true), (27, true), (28, true), (29, true), (30, true), (31, true), (32, true), (33, true), (34, true), (35, true), (36, true), (37, true), (38, true), (39, true)] (by kernel_rfl) (by kernel_rfl) ?_
              repeat (refine eag_read rfl ?_; go_big_quiet_step (fail); refine wpQuiet_nil ?_)
              refine eag_end ?_
              go_wp2_with fail
              go_roundw
              case rel =>
               refine ⟨i + 1, q + 1, by omega, by go_num, by rw [HW3.out]; rfl, ?_⟩
               rw [← HE3.out]; exact HN.out
              case measure => simp [intOf]; omega
       ·have HF : Hid (allocE f a = 0) := by
         show _ = _
         rw [HE3.out, HPE.out, List.drop_of_length_le (show a.reg.length ≤ i by omega)]
         rfl
        go_wp2_with fail
        go_ret
        exact ⟨ret_int HF.out.symm, HBQ.out⟩
   ·have h2' : ((a.sn : Int) != f.regs) = true := by simp [h2]
    have HF : Hid (allocE f a = 3) := by show _ = _; rw [HE.out, if_pos (.inr h2)]
    go_wp2_with fail
    go_ret
    exact ⟨ret_int HF.out.symm, HB2.out⟩
  ·have h1' : ((a.rn : Int) != f.regs) = true := by simp [h1]
   have HF : Hid (allocE f a = 3) := by show _ = _; rw [HE.out, if_pos (.inl h1)]
   go_wp2_with fail
   go_ret
   exact ⟨ret_int HF.out.symm, HB2.out⟩
 ·have he' : (fe == 0) = false := by simp [he]
  have HE : Hid (allocE f a = fe) := by
   show _ = _
   unfold allocE
   rw [if_pos (by rw [← HFE.out]; exact he), HFE.out]
  clear he
  go_wp2_with fail
  go_ret
  exact ⟨ret_int HE.out.symm, HB2.out⟩
end Go.Proofs.YtdnpoomagjcpfaaGreat
