/- tile's Check and the reference's FnError: the law. slices.Contains at rows of integers. -/
import Derived.Test.YtdnpoomagjcpfaaGreatVLv
namespace Go.Proofs.YtdnpoomagjcpfaaGreat
open Go.RowKit
set_option linter.unusedVariables false
set_option linter.unusedSimpArgs false

def IxPH (zs : List Int) (x : Int) (w : World) (e : Ending) (w' : World) : Prop := ∃ r : Int, e = .returned (.int .i64 r) ∧ w' = w ∧ decide (0 ≤ r) = zs.contains x
set_option maxHeartbeats 1000000 in
theorem hindex_ints (w : World) (a : Option Addr) (n c : Nat) (zs : List Int) (x : Int) (h : Came w a n c 1 (zs.map intCells)) :
  Calls Tryz.prog 71 #[.slice a n c, .int .i64 x] w (IxPH zs x w) := by
 have hzl : zs.length = n := by simpa using h.count
 have HZ := Lib.hid hzl
 have hle := h.le
 have hmx := h.max
 have HC := Lib.hid h
 clear h hzl
 go_enter Tryz.func71, Tryz.ntmps71
 go_wp2
 go_loop [5, 8] (fun _ u => ∃ k : Nat, k ≤ n ∧ u = .int .i64 (k : Int) ∧ ∀ j, j < k → zs.getD j 0 ≠ x) (fun _ u => n - (intOf u).toNat)
 case atStart => exact ⟨0, Nat.zero_le _, rfl, fun j hj => absurd hj (Nat.not_lt_zero _)⟩
 case round =>
  obtain ⟨k, hk, rfl, hno⟩ := hrel
  have HNO := Lib.hid hno
  clear hno
  by_cases hlt : k < n
  ·obtain ⟨b, off, ea, _, hcell⟩ := HC.out.ints (by omega)
   subst ea
   have hkl : k < zs.length := by have := HZ.out; omega
   have cl := hcell k hkl
   obtain ⟨z, hz⟩ : ∃ z, z = zs[k] := ⟨_, rfl⟩
   rw [← hz] at cl
   have HZK : Hid (zs.getD k 0 = z) := by unfold Hid; rw [hz]; simp [List.getD, hkl]
   have HMEM : Hid (z ∈ zs) := by unfold Hid; rw [hz]; exact List.getElem_mem hkl
   clear hcell hz
   by_cases hxz : x = z
   ·have q : (x == z) = true := by simp [hxz]
    have HXZ := Lib.hid hxz
    clear hxz
    go_wp2
    go_ret
    refine ⟨_, rfl, rfl, ?_⟩
    rw [decide_eq_true (by omega)]
    symm
    rw [List.contains_iff_mem, HXZ.out]
    exact HMEM.out
   ·have q : (x == z) = false := by simp [hxz]
    go_wp2
    go_round
    case rel =>
     refine ⟨k + 1, by omega, by go_num, fun j hj => ?_⟩
     by_cases e : j = k
     ·subst e; rw [HZK.out]; exact fun e => hxz e.symm
     ·exact HNO.out j (by omega)
    case measure => simp [intOf]; omega
  ·have ek : k = n := by omega
   subst ek
   go_wp2
   go_ret
   refine ⟨_, rfl, rfl, ?_⟩
   rw [decide_eq_false (by omega)]
   symm
   rw [← Bool.not_eq_true, List.contains_iff_mem]
   intro hm
   obtain ⟨j, hj, e⟩ := List.getElem_of_mem hm
   exact HNO.out j (by have := HZ.out; omega) (by simp [List.getD, hj, e])

theorem hcontains_ints (w : World) (a : Option Addr) (n c : Nat) (zs : List Int) (x : Int) (h : Came w a n c 1 (zs.map intCells)) :
  Calls Tryz.prog 37 #[.slice a n c, .int .i64 x] w fun e w' => e = .returned (.bool (zs.contains x)) ∧ w = w' := by
 have HI := fun w h => hindex_ints w a n c zs x h
 have HC := Lib.hid h
 obtain ⟨r, hr⟩ : ∃ r, r = zs.contains x := ⟨_, rfl⟩
 have HR := Lib.hid hr
 rw [← hr]
 clear h hr
 go_enter Tryz.func37, Tryz.ntmps37
 go_wp2_with fail
 refine (HI _ HC.out).mono ?_
 rintro e w' ⟨q, rfl, rfl, hq⟩
 have HQ := Lib.hid hq
 clear hq
 go_wp2
 go_ret
 exact ⟨ret_bool (by rw [HR.out, ← HQ.out]), rfl⟩



/-- the error of the parameters -/
def parE (regs : Int) : List Int → List Int → Int
 | _, [] => 0
 | pre, r :: rest => if inB r 1 (regs - 1) = false then 6 else if r ∈ pre then 7 else parE regs (pre ++ [r]) rest
def insE (regs : Int) : List VI → Int
 | [] => 0
 | x :: xs => if badI x regs ≠ 0 then badI x regs else insE regs xs
def blkE (regs nb : Int) : Nat → List VB → Int
 | _, [] => 0
 | many, b :: bs => if 4096 < many + b.ins.length then 2 else if insE regs b.ins ≠ 0 then insE regs b.ins else if badE b.e regs nb ≠ 0 then badE b.e regs nb else blkE regs nb (many + b.ins.length) bs
open Classical in
noncomputable def liveE (f : VF) : Int := if ∃ r : Nat, (r : Int) < f.regs ∧ LiveI f 0 r ∧ (r : Int) ∉ f.params then 12 else 0
def bigV (f : VF) : Bool := decide (6 < (f.pn : Int)) || decide (4096 < (f.sn : Int)) || !inB f.regs 1 8192
/-- the error of a function -/
noncomputable def fnE (f : VF) : Int :=
 if bigV f = true then 2 else if f.sn = 0 then 3 else if parE f.regs [] f.params ≠ 0 then parE f.regs [] f.params else if blkE f.regs f.sn 0 f.blocks ≠ 0 then blkE f.regs f.sn 0 f.blocks else liveE f

theorem insE_ok {regs : Int} : ∀ {l : List VI}, insE regs l = 0 → ∀ x ∈ l, badI x regs = 0
 | [], _, x, hx => by cases hx
 | y :: l, h, x, hx => by
  unfold insE at h
  by_cases h1 : badI y regs ≠ 0
  ·rw [if_pos h1] at h; exact absurd h h1
  ·rw [if_neg h1] at h
   rcases List.mem_cons.1 hx with rfl | hx
   ·exact Classical.not_not.1 h1
   ·exact insE_ok h x hx
theorem blkE_ok {regs nb : Int} : ∀ {l : List VB} {many : Nat}, blkE regs nb many l = 0 → ∀ b ∈ l, insE regs b.ins = 0 ∧ badE b.e regs nb = 0 ∧ b.ins.length ≤ 4096
 | [], _, _, b, hb => by cases hb
 | y :: l, many, h, b, hb => by
  unfold blkE at h
  by_cases h0 : 4096 < many + y.ins.length
  ·rw [if_pos h0] at h; cases h
  ·rw [if_neg h0] at h
   by_cases h1 : insE regs y.ins ≠ 0
   ·rw [if_pos h1] at h; exact absurd h h1
   ·rw [if_neg h1] at h
    by_cases h2 : badE y.e regs nb ≠ 0
    ·rw [if_pos h2] at h; exact absurd h h2
    ·rw [if_neg h2] at h
     rcases List.mem_cons.1 hb with rfl | hb
     ·exact ⟨Classical.not_not.1 h1, Classical.not_not.1 h2, by omega⟩
     ·exact blkE_ok h b hb
theorem badI_names {x : VI} {regs : Int} (h : badI x regs = 0) : namesV regs (x.d :: x.a :: x.b :: x.args) = true := by
 unfold badI at h
 split at h
 ·cases h
 ·split at h
  ·cases h
  ·split at h
   ·cases h
   ·split at h
    ·cases h
    ·rename_i h4; simpa using h4
theorem badE_ok {x : VE} {regs nb : Int} (h : badE x regs nb = 0) : (0 ≤ x.a ∧ x.a < regs) ∧ (0 ≤ x.b ∧ x.b < regs) ∧ ∀ t ∈ x.to, 1 ≤ t ∧ t < nb := by
 unfold badE at h
 split at h
 ·cases h
 ·split at h
  ·cases h
  ·split at h
   ·cases h
   ·rename_i h3
    split at h
    ·cases h
    ·rename_i h4
     have h5 : toV nb x.to = true := by simpa using h4
     have ha : inB x.a 0 (regs - 1) = true := by
      cases h9 : inB x.a 0 (regs - 1)
      ·exact absurd (.inl h9) h3
      ·rfl
     have hb : inB x.b 0 (regs - 1) = true := by
      cases h9 : inB x.b 0 (regs - 1)
      ·exact absurd (.inr h9) h3
      ·rfl
     have h6 := inB_true.1 ha
     have h7 := inB_true.1 hb
     refine ⟨by omega, by omega, fun t ht => ?_⟩
     have := inB_true.1 (List.all_eq_true.1 h5 t ht)
     omega
theorem fit_of {b : VB} {regs nb : Int} {n : Nat} (hn : regs = (n : Int)) (hn0 : 0 < n) (h1 : insE regs b.ins = 0) (h2 : badE b.e regs nb = 0) : b.Fit n := by
 have hnm := fun x hx => badI_names (insE_ok h1 x hx)
 obtain ⟨ha, hb, _⟩ := badE_ok h2
 refine ⟨fun x hx => ?_, fun x hx r hr => ?_, fun r hr => ?_⟩
 ·unfold defV
  split
  ·omega
  ·have := inB_true.1 (List.all_eq_true.1 (hnm x hx) x.d (by simp)); omega
 ·unfold usesV nz at hr
  rw [List.mem_filter] at hr
  have h3 := inB_true.1 (List.all_eq_true.1 (hnm x hx) r (List.mem_cons_of_mem _ hr.1))
  have h4 : r ≠ 0 := by simpa using hr.2
  omega
 ·unfold endV nz at hr
  rw [List.mem_filter] at hr
  have h4 : r ≠ 0 := by simpa using hr.2
  have h5 := hr.1
  simp only [List.mem_cons, List.not_mem_nil, or_false] at h5
  rcases h5 with rfl | rfl <;> omega
theorem fits_of {f : VF} {n m : Nat} (hm : m = f.blocks.length) (hs : f.sn = m) (hn : f.regs = (n : Int)) (hn0 : 0 < n) (h : blkE f.regs f.sn 0 f.blocks = 0) : (∀ i, i < m → (f.blk i).Fit n) ∧ TosV f m ∧ ∀ i, i < m → (f.blk i).ins.length ≤ 4096 := by
 have hin : ∀ i, i < m → f.blk i ∈ f.blocks := fun i hi => by rw [← VF.blk_get f (by omega)]; exact List.getElem_mem _
 refine ⟨fun i hi => ?_, fun i hi t ht => ?_, fun i hi => (blkE_ok h _ (hin i hi)).2.2⟩
 ·obtain ⟨h1, h2, _⟩ := blkE_ok h _ (hin i hi)
  exact fit_of hn hn0 h1 h2
 ·obtain ⟨_, h2, _⟩ := blkE_ok h _ (hin i hi)
  have := (badE_ok h2).2.2 t ht
  rw [hs] at this
  omega
end Go.Proofs.YtdnpoomagjcpfaaGreat
