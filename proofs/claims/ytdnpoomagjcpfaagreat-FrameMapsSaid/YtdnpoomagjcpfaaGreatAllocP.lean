/- The place of a register in an allocation: alloccheck's place and the reference's Spot. Printed by wip/allocp.py. -/
import Derived.Test.YtdnpoomagjcpfaaGreatAllocC
namespace Go.Proofs.YtdnpoomagjcpfaaGreat
open Go.RowKit
set_option linter.unusedVariables false
set_option linter.unusedSimpArgs false

def plc (base : Int) (a : AL) (r : Nat) : Int := if r = 0 then 0 else if 0 < a.reg.getD r 0 then a.reg.getD r 0 else if 0 ≤ a.slot.getD r (-1) then base + a.slot.getD r (-1) else 0

set_option maxRecDepth 100000 in
set_option maxHeartbeats 4000000 in
theorem place_any (w : World) (a : AL) (ha : a.Ok w) (r : Nat) (hr : r < a.rn) (hs : r < a.sn) (hb : ∀ z ∈ a.slot, z ≤ 8192) : Calls Tryz.prog 54 #[a.v, .int .i64 (r : Int)] w (IntPost (plc 11 a r) w) := by
 have hb0 : Below w.heap.size w (w.alloc (.cells #[.slice a.ra a.rn a.rc, .slice a.sa a.sn a.sc, .int .i64 a.k] 31)) := (Below.refl _ _).alloc (Nat.le_refl _) _
 have hba := Blk.new w [.slice a.ra a.rn a.rc, .slice a.sa a.sn a.sc, .int .i64 a.k] 31
 unfold AL.v
 have hrl : a.reg.length = a.rn := by simpa using ha.rcame.count
 have hsl : a.slot.length = a.sn := by simpa using ha.scame.count
 obtain ⟨gr, or_, hra, hgr, hcr⟩ := ha.rcame.ints (by omega)
 obtain ⟨gs, os_, hsa, hgs, hcs⟩ := ha.scame.ints (by omega)
 have cr := (hb0.cell (p := ⟨gr, or_ + r, none⟩) hgr).trans (hcr r (by omega))
 have cs := (hb0.cell (p := ⟨gs, os_ + r, none⟩) hgs).trans (hcs r (by omega))
 obtain ⟨x, hx⟩ : ∃ x, x = a.reg[r]'(by omega) := ⟨_, rfl⟩
 obtain ⟨y, hy⟩ : ∃ y, y = a.slot[r]'(by omega) := ⟨_, rfl⟩
 have hyb : y ≤ 8192 := hb y (by rw [hy]; exact List.getElem_mem _)
 have HP : Hid (plc 11 a r = if r = 0 then 0 else if 0 < x then x else if 0 ≤ y then 11 + y else 0) := by
  show _ = _
  unfold plc
  rw [show a.reg.getD r 0 = x by rw [hx]; simp [List.getD, show r < a.reg.length by omega], show a.slot.getD r (-1) = y by rw [hy]; simp [List.getD, show r < a.slot.length by omega]]
 have hrn : a.rn ≤ a.rc := ha.rcame.le
 have hsn : a.sn ≤ a.sc := ha.scame.le
 have hrm := ha.rcame.max
 have hsm := ha.scame.max
 rw [← hx] at cr
 rw [← hy] at cs
 obtain ⟨res, hres⟩ : ∃ res, res = plc 11 a r := ⟨_, rfl⟩
 rw [← hres] at HP ⊢
 rw [hra] at hb0 hba cr cs ⊢
 rw [hsa] at hb0 hba cr cs ⊢
 have HB0 := Lib.hid hb0
 have b0 := hba.cell 0
 have b1 := hba.cell 1
 have b2 := hba.cell 2
 simp only [List.getElem?_cons_zero, List.getElem?_cons_succ] at b0 b1 b2
 clear hres hx hy ha hb hcr hcs hrl hsl hra hsa hb0 hba
 by_cases h0 : r = 0
 ·have q : ((r : Int) == 0) = true := by simp [h0]
  have HF : Hid (res = 0) := by show _ = _; rw [HP.out, if_pos h0]
  clear h0
  go_enter Tryz.func54, Tryz.ntmps54
  go_wp2_with fail
  go_ret
  exact ⟨ret_int HF.out.symm, HB0.out⟩
 ·have q : ((r : Int) == 0) = false := by simp [h0]
  by_cases h1 : 0 < x
  ·have q1 : decide (0 < x) = true := decide_eq_true h1
   have HF : Hid (res = x) := by show _ = _; rw [HP.out, if_neg h0, if_pos h1]
   clear h0
   go_enter Tryz.func54, Tryz.ntmps54
   go_wp2_with fail
   go_ret
   exact ⟨ret_int HF.out.symm, HB0.out⟩
  ·have q1 : decide (0 < x) = false := decide_eq_false h1
   by_cases h2 : 0 ≤ y
   ·have q2 : decide (0 ≤ y) = true := decide_eq_true h2
    have HF : Hid (res = 11 + y) := by show _ = _; rw [HP.out, if_neg h0, if_neg h1, if_pos h2]
    clear h0
    go_enter Tryz.func54, Tryz.ntmps54
    go_wp2_with fail
    go_ret
    exact ⟨ret_int HF.out.symm, HB0.out⟩
   ·have q2 : decide (0 ≤ y) = false := decide_eq_false h2
    have HF : Hid (res = 0) := by show _ = _; rw [HP.out, if_neg h0, if_neg h1, if_neg h2]
    clear h0
    go_enter Tryz.func54, Tryz.ntmps54
    go_wp2_with fail
    go_ret
    exact ⟨ret_int HF.out.symm, HB0.out⟩

end Go.Proofs.YtdnpoomagjcpfaaGreat
