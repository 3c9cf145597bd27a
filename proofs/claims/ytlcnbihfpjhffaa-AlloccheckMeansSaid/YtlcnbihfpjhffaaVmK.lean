/- The reference's virtual machine: its memory and what only computes. The reference's virtual machine: its state in memory; fail, trap and Make. The reference's virtual machine: Make. -/
import Derived.Test.YtlcnbihfpjhffaaVmP
import Derived.LoopTactic
import Derived.Deep.AppendLies
import Derived.BigQuiet
import Derived.Deep.Cut
import Derived.Deep.CutRange
import Derived.Deep.CutBlock
import Derived.Deep.DeepCutAuto
namespace Go.Proofs.Ytlcnbihfpjhffaa
open Go.RowKit
set_option linter.unusedVariables false
set_option linter.unusedSimpArgs false

section
set_option maxHeartbeats 400000 in
theorem moduloV_any (n m : Int) (w : World) (hm : 0 < m) (hm2 : m ≤ 1000000) :
  Calls Try.prog 67 #[.int .i64 n, .int .i64 m] w fun e w' => e = .returned (.int .i64 (n % m)) ∧ w = w' := by
 have h0 : (m == 0) = false := by simp; omega
 have h1 := tmod_bd n m hm
 have h2 := modulo_emod n m hm
 have H2 := Lib.hid h2; clear h2
 go_enter Try.func67, Try.ntmps67
 go_wp2
 ·go_ret
  exact ⟨ret_int (by rw [H2.out, if_pos (by assumption)]), rfl⟩
 ·go_ret
  exact ⟨ret_int (by rw [H2.out, if_neg (by omega)]), rfl⟩
theorem mul_bd {a b : Int} (ha : S32 a) (hb : S32 b) : -4611686018427387904 ≤ a * b ∧ a * b ≤ 4611686018427387904 := by
 unfold S32 at ha hb
 have h1 : a.natAbs ≤ 2147483648 := by omega
 have h2 : b.natAbs ≤ 2147483648 := by omega
 have h3 : (a * b).natAbs ≤ 2147483648 * 2147483648 := by rw [Int.natAbs_mul]; exact Nat.mul_le_mul h1 h2
 omega
theorem quo_bd {a b : Int} (ha : S32 a) : -2147483648 ≤ a.tdiv b ∧ a.tdiv b ≤ 2147483648 := by
 unfold S32 at ha
 have h1 : (a.tdiv b).natAbs ≤ a.natAbs := by rw [Int.natAbs_tdiv]; exact Nat.div_le_self _ _
 omega
theorem quo_mul_bd {a b : Int} (ha : S32 a) : -2147483648 ≤ a.tdiv b * b ∧ a.tdiv b * b ≤ 2147483648 := by
 unfold S32 at ha
 have h1 : (a.tdiv b * b).natAbs ≤ a.natAbs := by rw [Int.natAbs_mul, Int.natAbs_tdiv]; exact Nat.div_mul_le_self _ _
 omega
def mathR (op a b n : Int) : Value := match mathF op a b n with | some v => .tuple #[.int .i64 v, .bool true] | none => .tuple #[.int .i64 0, .bool false]
set_option maxRecDepth 100000 in
set_option maxHeartbeats 4000000 in
theorem math_any (op a b n : Int) (w : World) (h : 1 ≤ op ∧ op ≤ 11) (ha : S32 a) (hb : S32 b) (hn : S32 n) :
  Calls Try.prog 68 #[.int .i64 op, .int .i64 a, .int .i64 b, .int .i64 n] w fun e w' => e = .returned (mathR op a b n) ∧ w' = w := by
 have HSM := fun x w => Lib.hid (small_any x w)
 obtain ⟨a1, a2⟩ := ha
 obtain ⟨b1, b2⟩ := hb
 obtain ⟨n1, n2⟩ := hn
 have hs : op = 1 ∨ op = 2 ∨ op = 6 ∨ op = 7 ∨ op = 8 ∨ op = 11 ∨ op = 3 ∨ op = 4 ∨ op = 5 ∨ op = 9 ∨ op = 10 := by omega
 rcases hs with rfl | rfl | rfl | rfl | rfl | rfl | hs
 ·go_enter Try.func68, Try.ntmps68
  go_wp2_with fail
  refine (HSM _ _).out.mono ?_
  rintro e w' ⟨rfl, rfl⟩
  go_wp2
  go_ret2
  exact ⟨rfl, rfl⟩
 ·go_enter Try.func68, Try.ntmps68
  go_wp2_with fail
  refine (HSM _ _).out.mono ?_
  rintro e w' ⟨rfl, rfl⟩
  go_wp2
  go_ret2
  exact ⟨rfl, rfl⟩
 ·by_cases h1 : a < b
  ·have d1 : decide (a < b) = true := decide_eq_true h1
   have hr : mathR 6 a b n = .tuple #[.int .i64 1, .bool true] := by unfold mathR mathF; simp [h1]
   rw [hr]
   clear hr
   go_enter Try.func68, Try.ntmps68
   go_wp2
   go_ret2
   exact ⟨rfl, rfl⟩
  ·have d1 : decide (a < b) = false := decide_eq_false h1
   have hr : mathR 6 a b n = .tuple #[.int .i64 0, .bool true] := by unfold mathR mathF; simp [h1]
   rw [hr]
   clear hr
   go_enter Try.func68, Try.ntmps68
   go_wp2
   go_ret2
   exact ⟨rfl, rfl⟩
 ·by_cases h1 : a = b
  ·have d1 : (a == b) = true := by simp [h1]
   have hr : mathR 7 a b n = .tuple #[.int .i64 1, .bool true] := by unfold mathR mathF; simp [h1]
   rw [hr]
   have H1 := Lib.hid h1
   clear hr h1
   go_enter Try.func68, Try.ntmps68
   go_wp2
   go_ret2
   exact ⟨rfl, rfl⟩
  ·have d1 : (a == b) = false := by simp [h1]
   have hr : mathR 7 a b n = .tuple #[.int .i64 0, .bool true] := by unfold mathR mathF; simp [h1]
   rw [hr]
   clear hr h1
   go_enter Try.func68, Try.ntmps68
   go_wp2
   go_ret2
   exact ⟨rfl, rfl⟩
 ·go_enter Try.func68, Try.ntmps68
  go_wp2_with fail
  refine (HSM _ _).out.mono ?_
  rintro e w' ⟨rfl, rfl⟩
  go_wp2
  go_ret2
  exact ⟨rfl, rfl⟩
 ·go_enter Try.func68, Try.ntmps68
  go_wp2
  go_ret2
  exact ⟨rfl, rfl⟩
 ·rcases hs with rfl | rfl | rfl | rfl | rfl
  ·have hm := mul_bd ⟨a1, a2⟩ ⟨b1, b2⟩
   have hr : mathR 3 a b n = .tuple #[.int .i64 (wrap32 (a * b)), .bool true] := rfl
   rw [hr]
   clear hr
   go_enter Try.func68, Try.ntmps68
   go_wp2_with fail
   refine (HSM _ _).out.mono ?_
   rintro e w' ⟨rfl, rfl⟩
   go_wp2
   go_ret2
   exact ⟨rfl, rfl⟩
  ·by_cases h0 : b = 0
   ·have hr : mathR 4 a b n = .tuple #[.int .i64 0, .bool false] := by unfold mathR mathF; simp [h0]
    have d1 : (b == 0) = true := by simp [h0]
    rw [hr]
    clear hr h0
    go_enter Try.func68, Try.ntmps68
    go_wp2
    go_ret2
    exact ⟨rfl, rfl⟩
   ·have hr : mathR 4 a b n = .tuple #[.int .i64 (wrap32 (a.tdiv b)), .bool true] := by unfold mathR mathF; simp [h0]
    have d1 : (b == 0) = false := by simp [h0]
    have hq := quo_bd (b := b) ⟨a1, a2⟩
    rw [hr]
    clear hr
    go_enter Try.func68, Try.ntmps68
    go_wp2_with fail
    refine (HSM _ _).out.mono ?_
    rintro e w' ⟨rfl, rfl⟩
    go_wp2
    go_ret2
    exact ⟨rfl, rfl⟩
  ·by_cases h0 : b = 0
   ·have hr : mathR 5 a b n = .tuple #[.int .i64 0, .bool false] := by unfold mathR mathF; simp [h0]
    have d1 : (b == 0) = true := by simp [h0]
    rw [hr]
    clear hr h0
    go_enter Try.func68, Try.ntmps68
    go_wp2
    go_ret2
    exact ⟨rfl, rfl⟩
   ·have hr : mathR 5 a b n = .tuple #[.int .i64 (wrap32 (a - a.tdiv b * b)), .bool true] := by unfold mathR mathF; simp [h0]
    have d1 : (b == 0) = false := by simp [h0]
    have hq := quo_bd (b := b) ⟨a1, a2⟩
    have hm := quo_mul_bd (b := b) ⟨a1, a2⟩
    rw [hr]
    clear hr
    go_enter Try.func68, Try.ntmps68
    go_wp2_with fail
    refine (HSM _ _).out.mono ?_
    rintro e w' ⟨rfl, rfl⟩
    go_wp2
    go_ret2
    exact ⟨rfl, rfl⟩
  ·have HR : Hid (mathR 9 a b n = .tuple #[.int .i64 (shlN n.toNat a), .bool true]) := rfl
   go_enter Try.func68, Try.ntmps68
   go_wp2_with fail
   go_loop [1, 67] (fun x u => ∃ (j : Nat) (y : Int), u = .int .i64 (j : Int) ∧ x = .int .i64 y ∧ S32 y ∧ j ≤ n.toNat ∧ shlN n.toNat a = shlN (n.toNat - j) y) (fun _ u => n.toNat - (intOf u).toNat)
   case atStart => exact ⟨0, a, rfl, rfl, ⟨a1, a2⟩, Nat.zero_le _, by simp⟩
   case round =>
    obtain ⟨j, y, rfl, rfl, ⟨y1, y2⟩, hj, hs⟩ := hrel
    have HS := Lib.hid hs
    clear hs
    by_cases hlt : j < n.toNat
    ·have hltI : (j : Int) < n := by omega
     go_wp2_with fail
     refine (HSM _ _).out.mono ?_
     rintro e w' ⟨rfl, rfl⟩
     go_wp2_with fail
     go_round
     case rel =>
      refine ⟨j + 1, wrap32 (y + y), by go_num, rfl, wrap32_bd _, hlt, ?_⟩
      rw [HS.out, show n.toNat - j = (n.toNat - (j + 1)) + 1 by omega]
      rfl
     case measure => simp [intOf]; omega
    ·have hltI : ¬ (j : Int) < n := by omega
     have ej : n.toNat - j = 0 := by omega
     have hv : shlN n.toNat a = y := by rw [HS.out, ej]; rfl
     have HV := Lib.hid (HR.out.trans (by rw [hv]))
     clear hv HS HR ej
     go_wp2_with fail
     go_ret2
     exact ⟨by rw [HV.out]; rfl, rfl⟩
  ·have HR : Hid (mathR 10 a b n = .tuple #[.int .i64 (sarN n.toNat a), .bool true]) := rfl
   have HMO := fun x w => Lib.hid (moduloV_any x 2 w (by omega) (by omega))
   go_enter Try.func68, Try.ntmps68
   go_wp2_with fail
   go_loop [1, 78] (fun x u => ∃ (j : Nat) (y : Int), u = .int .i64 (j : Int) ∧ x = .int .i64 y ∧ S32 y ∧ j ≤ n.toNat ∧ sarN n.toNat a = sarN (n.toNat - j) y) (fun _ u => n.toNat - (intOf u).toNat)
   case atStart => exact ⟨0, a, rfl, rfl, ⟨a1, a2⟩, Nat.zero_le _, by simp⟩
   case round =>
    obtain ⟨j, y, rfl, rfl, ⟨y1, y2⟩, hj, hs⟩ := hrel
    have HS := Lib.hid hs
    clear hs
    by_cases hlt : j < n.toNat
    ·have hltI : (j : Int) < n := by omega
     obtain ⟨z, hz⟩ : ∃ z, z = y % 2 := ⟨_, rfl⟩
     have hzb : 0 ≤ z ∧ z < 2 := by rw [hz]; exact ⟨Int.emod_nonneg _ (by omega), Int.emod_lt_of_pos _ (by omega)⟩
     have hdv : (y - z).tdiv 2 = (y - y % 2) / 2 := by
      rw [hz]
      rcases Int.le_total 0 (y - y % 2) with h | h
      ·exact Int.tdiv_eq_ediv_of_nonneg h
      ·have hd : (2 : Int) ∣ (y - y % 2) := ⟨y / 2, by omega⟩
       exact Int.tdiv_eq_ediv_of_dvd hd
     have hbd : -2147483648 ≤ (y - y % 2) / 2 ∧ (y - y % 2) / 2 ≤ 2147483647 := by omega
     have HM2 := HMO y
     rw [← hz] at HM2
     have HDV := Lib.hid hdv
     have hqb : -2147483648 ≤ (y - z).tdiv 2 ∧ (y - z).tdiv 2 ≤ 2147483647 := by rw [hdv]; exact hbd
     have HBD := Lib.hid hbd
     clear hz hdv hbd
     go_wp2_with fail
     refine (HM2 _).out.mono ?_
     rintro e w' ⟨rfl, rfl⟩
     go_wp2_with fail
     go_round
     case rel =>
      refine ⟨j + 1, (y - y % 2) / 2, by go_num, by rw [HDV.out], HBD.out, hlt, ?_⟩
      rw [HS.out, show n.toNat - j = (n.toNat - (j + 1)) + 1 by omega]
      rfl
     case measure => simp [intOf]; omega
    ·have hltI : ¬ (j : Int) < n := by omega
     have ej : n.toNat - j = 0 := by omega
     have hv : sarN n.toNat a = y := by rw [HS.out, ej]; rfl
     have HV := Lib.hid (HR.out.trans (by rw [hv]))
     clear hv HS HR ej
     go_wp2_with fail
     go_ret2
     exact ⟨by rw [HV.out]; rfl, rfl⟩

theorem tmod2 (x : Int) : Int.tmod x 2 = 0 ↔ x % 2 = 0 := by
 rw [← Int.dvd_iff_tmod_eq_zero, Int.dvd_iff_emod_eq_zero]
/-- the words of a memory: a row of its own, named at an address -/
structure MemV (w : World) (B q gm mc : Nat) (m : List Int) : Prop where
 c : w.cell? ⟨q, 1, none⟩ = some (.slice (some ⟨gm, 0, none⟩) m.length mc)
 own : w.ownsRow B 3 1 (.slice (some ⟨gm, 0, none⟩) m.length mc) m.length (m.map (Value.int .i64))
theorem MemV.cell {w : World} {B q gm mc : Nat} {m : List Int} (h : MemV w B q gm mc m) {i : Nat} (hi : i < m.length) : w.cell? ⟨gm, i, none⟩ = some (.int .i64 m[i]) := by
 rw [h.own.cellAt i (by omega), List.getElem?_map, List.getElem?_eq_getElem hi]
 rfl
theorem MemV.lt {w : World} {B q gm mc : Nat} {m : List Int} (h : MemV w B q gm mc m) : gm < w.heap.size := (h.own.lt gm rfl).2
theorem MemV.cap {w : World} {B q gm mc : Nat} {m : List Int} (h : MemV w B q gm mc m) (h0 : 0 < m.length) : m.length ≤ mc ∧ mc ≤ 9223372036854775807 := by
 obtain ⟨g, cap, hv, _, _, h1, h2⟩ := ownG_has h.own h0
 injection hv with e1 _ e3
 subst e3
 unfold maxLen at h2
 omega
def getR (m : List Int) (x : Int) : Value := match getM m x with | some v => .tuple #[.int .i64 v, .bool true] | none => .tuple #[.int .i64 0, .bool false]

set_option maxRecDepth 100000 in
set_option maxHeartbeats 4000000 in
theorem memGet_any (w : World) (B q gm mc : Nat) (m : List Int) (x : Int) (h : MemV w B q gm mc m) (h0 : 0 < m.length) (hm : m.length ≤ 1000000) (hx : -8589934592 ≤ x ∧ x ≤ 8589934592) :
  Calls Try.prog 64 #[.pointer (some ⟨q, 1, none⟩), .int .i64 x] w fun e w' => e = .returned (getR m x) ∧ w' = w := by
 have q0 := h.c
 have hcap := h.cap h0
 obtain ⟨hcap1, hcap2⟩ := hcap
 have hgl := h.lt
 by_cases h1 : x % 2 = 0
 ·have ht : Int.tmod x 2 = 0 := (tmod2 x).2 h1
  by_cases h2 : 2 ≤ x
  ·have d2 : decide (x < 2) = false := decide_eq_false (by omega)
   have hq : x.tdiv 2 = x / 2 := Int.tdiv_eq_ediv_of_nonneg (by omega)
   by_cases h3 : x / 2 < (m.length : Int)
   ·obtain ⟨i, hi⟩ : ∃ i : Nat, x / 2 = (i : Int) := ⟨(x / 2).toNat, by omega⟩
    have hib : i ≤ 4294967296 := by omega
    have hil : i < m.length := by omega
    have cl := h.cell hil
    have hr : getR m x = .tuple #[.int .i64 m[i], .bool true] := by
     unfold getR getM
     rw [if_pos ⟨h1, h2, h3⟩, hi]
     simp [List.getD_eq_getElem?_getD, List.getElem?_eq_getElem hil]
    have d3 : decide ((m.length : Int) ≤ (i : Int)) = false := decide_eq_false (by omega)
    have d3' : decide (m.length ≤ i) = false := decide_eq_false (by omega)
    obtain ⟨z, hz⟩ : ∃ z, z = m[i] := ⟨_, rfl⟩
    rw [← hz] at cl hr
    rw [hr]
    rw [hi] at hq
    clear hr hz h3 h1 hi h
    go_enter Try.func64, Try.ntmps64
    go_wp2
    go_ret2
    exact ⟨rfl, rfl⟩
   ·have hr : getR m x = .tuple #[.int .i64 0, .bool false] := by
     unfold getR getM
     rw [if_neg (fun e => h3 e.2.2)]
    obtain ⟨i, hi⟩ : ∃ i : Nat, x / 2 = (i : Int) := ⟨(x / 2).toNat, by omega⟩
    have hib : i ≤ 4294967296 := by omega
    have d3 : decide ((m.length : Int) ≤ (i : Int)) = true := decide_eq_true (by omega)
    have d3' : decide (m.length ≤ i) = true := decide_eq_true (by omega)
    rw [hr]
    rw [hi] at hq
    clear hr h3 h1 hi h
    go_enter Try.func64, Try.ntmps64
    go_wp2
    go_ret2
    exact ⟨rfl, rfl⟩
  ·have hr : getR m x = .tuple #[.int .i64 0, .bool false] := by
    unfold getR getM
    rw [if_neg (fun e => h2 e.2.1)]
   have d2 : decide (x < 2) = true := decide_eq_true (by omega)
   rw [hr]
   clear hr h1 h
   go_enter Try.func64, Try.ntmps64
   go_wp2
   go_ret2
   exact ⟨rfl, rfl⟩
 ·have hr : getR m x = .tuple #[.int .i64 0, .bool false] := by
   unfold getR getM
   rw [if_neg (fun e => h1 e.1)]
  have ht : (Int.tmod x 2 != 0) = true := by
   rw [bne_iff_ne]
   intro e
   exact h1 ((tmod2 x).1 e)
  rw [hr]
  clear hr h1 h
  go_enter Try.func64, Try.ntmps64
  go_wp2
  go_ret2
  exact ⟨rfl, rfl⟩

def SetQ (w : World) (gm : Nat) (m : List Int) (x v : Int) (e : Ending) (w' : World) : Prop :=
 (goodAddr m x ∧ e = .returned (.bool true) ∧ w' = w.setCell ⟨gm, (x / 2).toNat, none⟩ (.int .i64 v)) ∨ (¬ goodAddr m x ∧ e = .returned (.bool false) ∧ w' = w)
set_option maxRecDepth 100000 in
set_option maxHeartbeats 4000000 in
theorem memSet_any (w : World) (B q gm mc : Nat) (m : List Int) (x v : Int) (h : MemV w B q gm mc m) (h0 : 0 < m.length) (hm : m.length ≤ 1000000) (hx : -8589934592 ≤ x ∧ x ≤ 8589934592) :
  Calls Try.prog 65 #[.pointer (some ⟨q, 1, none⟩), .int .i64 x, .int .i64 v] w (SetQ w gm m x v) := by
 have HG := Lib.hid (memGet_any w B q gm mc m x h h0 hm hx)
 have q0 := h.c
 have hcap := h.cap h0
 obtain ⟨hcap1, hcap2⟩ := hcap
 have hgl := h.lt
 by_cases h1 : goodAddr m x
 ·obtain ⟨h2, h3, h4⟩ := id h1
  have hq : x.tdiv 2 = x / 2 := Int.tdiv_eq_ediv_of_nonneg (by omega)
  have hgr : getR m x = .tuple #[.int .i64 (m.getD (x / 2).toNat 0), .bool true] := by
   unfold getR getM
   rw [if_pos h1]
  rw [hgr] at HG
  obtain ⟨i, hi⟩ : ∃ i : Nat, x / 2 = (i : Int) := ⟨(x / 2).toNat, by omega⟩
  have hib : i ≤ 4294967296 := by omega
  have hil : i < m.length := by omega
  have cl := h.cell hil
  have fr := h.own.frozenAt i
  obtain ⟨z, hz⟩ : ∃ z, z = m[i] := ⟨_, rfl⟩
  rw [← hz] at cl
  have HX := Lib.hid h1
  have HI : Hid ((x / 2).toNat = i) := by unfold Hid; omega
  rw [hi] at hq
  clear hgr hz h4 h1 h2 hi h
  go_enter Try.func65, Try.ntmps65
  go_wp2_with fail
  refine HG.out.mono ?_
  rintro e w' ⟨rfl, rfl⟩
  go_wp2
  go_ret
  exact .inl ⟨HX.out, rfl, by rw [HI.out]⟩
 ·have hgr : getR m x = .tuple #[.int .i64 0, .bool false] := by
   unfold getR getM
   rw [if_neg h1]
  rw [hgr] at HG
  have HX := Lib.hid h1
  clear hgr h1 h
  go_enter Try.func65, Try.ntmps65
  go_wp2_with fail
  refine HG.out.mono ?_
  rintro e w' ⟨rfl, rfl⟩
  go_wp2
  go_ret
  exact .inr ⟨HX.out, rfl, rfl⟩
end

section
def fCV (f : VF) : List Value := [.int .i64 f.name, .slice f.pa f.pn f.pc, .int .i64 f.regs, .slice f.sa f.sn f.sc]
/-- all but some blocks are as they were -/
structure RestV (S : Nat → Prop) (w w' : World) : Prop where
 os : w'.os = w.os
 tape : w'.tape = w.tape
 output : w'.output = w.output
 size : w.heap.size ≤ w'.heap.size
 block : ∀ k, k < w.heap.size → ¬ S k → w'.heap[k]? = w.heap[k]?
theorem RestV.refl (S : Nat → Prop) (w : World) : RestV S w w := ⟨rfl, rfl, rfl, Nat.le_refl _, fun _ _ _ => rfl⟩
theorem RestV.set {S : Nat → Prop} {w w' : World} (h : RestV S w w') {p : Addr} (hp : S p.block) (v : Value) : RestV S w (w'.setCell p v) :=
 ⟨h.os, h.tape, h.output, by simpa [World.setCell] using h.size, fun k hk hs => (Below.heap_setCell _ _ _ _ (fun e => hs (by rw [e]; exact hp))).trans (h.block k hk hs)⟩
/-- two changes one after the other, where the later one touches new blocks too -/
theorem RestV.trans {S T : Nat → Prop} {w w' w'' : World} (h : RestV S w w') (k : RestV T w' w'') (hT : ∀ b, b < w.heap.size → T b → S b) : RestV S w w'' :=
 ⟨k.os.trans h.os, k.tape.trans h.tape, k.output.trans h.output, Nat.le_trans h.size k.size, fun b hb hs => (k.block b (Nat.lt_of_lt_of_le hb h.size) fun ht => hs (hT b hb ht)).trans (h.block b hb hs)⟩
theorem RestV.ofBelow {S : Nat → Prop} {w w' : World} (h : Below w.heap.size w w') : RestV S w w' := ⟨h.os, h.tape, h.output, h.size, fun k hk _ => h.block k hk⟩
theorem RestV.toBelow {S : Nat → Prop} {w w' : World} {B : Nat} (h : RestV S w w') (hS : ∀ k, S k → B ≤ k) (hB : B ≤ w.heap.size) : Below B w w' :=
 ⟨h.os, h.tape, h.output, h.size, fun k hk => h.block k (Nat.lt_of_lt_of_le hk hB) fun hs => by have := hS k hs; omega⟩
theorem RestV.mono {S T : Nat → Prop} {w w' : World} (h : RestV S w w') (hs : ∀ k, S k → T k) : RestV T w w' := ⟨h.os, h.tape, h.output, h.size, fun k hk ht => h.block k hk fun hs' => ht (hs k hs')⟩
theorem own_tyV {w : World} {base : Nat} {e t : TypeId} {size : Nat} {v : Value} {n : Nat} {l : List Value} (h : w.ownsRow base e size v n l) {q : Nat} {cs : List Value} (hq : Blk w q t cs) (hne : e ≠ t) : v.ownBlock ≠ some q := by
 rcases h.2 with ⟨rfl, _⟩ | ⟨g, c, cur, rfl, _, hg, _⟩
 ·simp [Value.ownBlock]
 ·intro e1
  have e2 : g = q := by simpa [Value.ownBlock] using e1
  subst e2
  have h2 : w.heap[g]? = _ := hq
  rw [hg] at h2
  injection h2 with h2
  injection h2 with _ h2 _
  exact hne h2
theorem blk_tyV {w : World} {p q : Nat} {t t' : TypeId} {cs cs' : List Value} (h : Blk w p t cs) (k : Blk w q t' cs') (hne : t ≠ t') : p ≠ q := fun e => by
 subst e
 have h1 : w.heap[p]? = _ := h
 have h2 : w.heap[p]? = _ := k
 rw [h1] at h2
 injection h2 with h2
 injection h2 with _ h2 _
 exact hne h2
/-- the cells of a run's box -/
def vmC (fb gm mc : Nat) (oa : Option Addr) (oc : Nat) (dp : Int) (s : VS) : List Value :=
 [.slice (some ⟨fb, 0, none⟩) 1 1, .slice (some ⟨gm, 0, none⟩) s.m.length mc, .int .i64 400, .int .i64 s.fu, .slice oa s.p.length oc, .int .i64 s.en, .bool s.st, .bool s.bad, .int .i64 dp]
/-- the state of a run in memory -/
structure VmAt (w0 w : World) (q fb : Nat) (f : VF) (gm mc : Nat) (oa : Option Addr) (oc : Nat) (dp : Int) (s : VS) : Prop where
 be : Below w0.heap.size w0 w
 lo : w0.heap.size ≤ q
 box : Blk w q 54 (vmC fb gm mc oa oc dp s)
 wo : w.ownsRow w0.heap.size 3 1 (.slice (some ⟨gm, 0, none⟩) s.m.length mc) s.m.length (s.m.map (Value.int .i64))
 oo : w.ownsRow w0.heap.size 3 1 (.slice oa s.p.length oc) s.p.length (s.p.map (Value.int .i64))
 ne : (Value.slice oa s.p.length oc).ownBlock ≠ some gm
 fn : Blk w fb 25 (fCV f)
 ml : 1 ≤ s.m.length ∧ s.m.length ≤ 400
 pl : s.p.length ≤ 1000
 sm : ∀ x ∈ s.m, S32 x
 sp : ∀ x ∈ s.p, S32 x
 fu : -2 ≤ s.fu ∧ s.fu ≤ 500
section
variable {w0 w w' : World} {q fb : Nat} {f : VF} {gm mc : Nat} {oa : Option Addr} {oc : Nat} {dp : Int} {s : VS}
/-- the blocks of a run -/
def VmT (q gm : Nat) (oa : Option Addr) (k : Nat) : Prop := k = q ∨ k = gm ∨ ∃ o, oa = some ⟨k, o, none⟩
theorem VmAt.glo (h : VmAt w0 w q fb f gm mc oa oc dp s) : w0.heap.size ≤ gm ∧ gm < w.heap.size := h.wo.lt gm rfl
theorem VmAt.rest (h : VmAt w0 w q fb f gm mc oa oc dp s) {S : Nat → Prop} (hr : RestV S w w') (hlo : ∀ k, S k → w0.heap.size ≤ k) (hq : ¬ S q) (hg : ¬ S gm) (ho : ∀ k, (Value.slice oa s.p.length oc).ownBlock = some k → ¬ S k) (hf : ¬ S fb) : VmAt w0 w' q fb f gm mc oa oc dp s :=
 ⟨h.be.trans (hr.toBelow hlo h.be.size), h.lo, h.box.of_heap (hr.block _ h.box.lt hq), ownG_kept h.wo fun g hgg => (by obtain rfl : gm = g := (by simpa [Value.ownBlock] using hgg); exact hr.block _ h.glo.2 hg), ownG_kept h.oo fun g hgg => hr.block _ (h.oo.lt g hgg).2 (ho g hgg), h.ne, h.fn.of_heap (hr.block _ h.fn.lt hf), h.ml, h.pl, h.sm, h.sp, h.fu⟩
theorem VmAt.below (h : VmAt w0 w q fb f gm mc oa oc dp s) (hb : Below w.heap.size w w') : VmAt w0 w' q fb f gm mc oa oc dp s :=
 h.rest (S := fun _ => False) (RestV.ofBelow hb) (fun _ e => e.elim) id id (fun _ _ => id) id
theorem VmAt.memV (h : VmAt w0 w q fb f gm mc oa oc dp s) : MemV w w0.heap.size q gm mc s.m := ⟨by rw [h.box.cell]; rfl, h.wo⟩
theorem VmAt.qgm (h : VmAt w0 w q fb f gm mc oa oc dp s) : q ≠ gm := fun e => own_tyV h.wo h.box (by decide) (by rw [e]; rfl)
/-- a cell of the box is set -/
theorem VmAt.put (h : VmAt w0 w q fb f gm mc oa oc dp s) {t : VS} {dp' : Int} (i : Nat) (v : Value) (hm : t.m = s.m) (hp : t.p = s.p) (hfu : -2 ≤ t.fu ∧ t.fu ≤ 500) (hc : (vmC fb gm mc oa oc dp s).set i v = vmC fb gm mc oa oc dp' t) : VmAt w0 (w.setCell ⟨q, i, none⟩ v) q fb f gm mc oa oc dp' t := by
 have hlo := h.lo
 have h1 := own_tyV h.wo h.box (by decide)
 have h2 := own_tyV h.oo h.box (by decide)
 refine ⟨h.be.setCell (p := ⟨q, i, none⟩) hlo _, hlo, ?_, ?_, ?_, ?_, h.fn.setOther (a := ⟨q, i, none⟩) (blk_tyV h.fn h.box (by decide)) _, by rw [hm]; exact h.ml, by rw [hp]; exact h.pl, by rw [hm]; exact h.sm, by rw [hp]; exact h.sp, hfu⟩
 ·rw [← hc]; exact h.box.set i v
 ·rw [hm]; exact ownG_other h.wo h1 _
 ·rw [hp]; exact ownG_other h.oo h2 _
 ·rw [hp]; exact h.ne
theorem VmAt.fail (h : VmAt w0 w q fb f gm mc oa oc dp s) : VmAt w0 ((w.setCell ⟨q, 6, none⟩ (.bool true)).setCell ⟨q, 7, none⟩ (.bool true)) q fb f gm mc oa oc dp s.fail := by
 have h1 : VmAt w0 (w.setCell ⟨q, 6, none⟩ (.bool true)) q fb f gm mc oa oc dp ⟨s.rg, s.m, s.p, s.fu, s.en, true, s.bad⟩ := h.put 6 _ rfl rfl h.fu rfl
 exact h1.put 7 _ rfl rfl h.fu rfl
theorem VmAt.trap (h : VmAt w0 w q fb f gm mc oa oc dp s) (n : Int) : VmAt w0 ((w.setCell ⟨q, 6, none⟩ (.bool true)).setCell ⟨q, 5, none⟩ (.int .i64 n)) q fb f gm mc oa oc dp (s.trap n) := by
 have h1 : VmAt w0 (w.setCell ⟨q, 6, none⟩ (.bool true)) q fb f gm mc oa oc dp ⟨s.rg, s.m, s.p, s.fu, s.en, true, s.bad⟩ := h.put 6 _ rfl rfl h.fu rfl
 exact h1.put 5 _ rfl rfl h.fu rfl
theorem VmAt.fuel (h : VmAt w0 w q fb f gm mc oa oc dp s) (h0 : 0 ≤ s.fu) : VmAt w0 (w.setCell ⟨q, 3, none⟩ (.int .i64 (s.fu - 1))) q fb f gm mc oa oc dp s.tick :=
 h.put 3 _ rfl rfl (by have := h.fu; show -2 ≤ s.fu - 1 ∧ s.fu - 1 ≤ 500; omega) rfl
theorem VmAt.deep (h : VmAt w0 w q fb f gm mc oa oc dp s) (d : Int) : VmAt w0 (w.setCell ⟨q, 8, none⟩ (.int .i64 d)) q fb f gm mc oa oc d s := h.put 8 _ rfl rfl h.fu rfl
theorem VmAt.regs (h : VmAt w0 w q fb f gm mc oa oc dp s) (r : Nat → Int) : VmAt w0 w q fb f gm mc oa oc dp ⟨r, s.m, s.p, s.fu, s.en, s.st, s.bad⟩ := ⟨h.be, h.lo, h.box, h.wo, h.oo, h.ne, h.fn, h.ml, h.pl, h.sm, h.sp, h.fu⟩
/-- a word is set -/
theorem VmAt.setW (h : VmAt w0 w q fb f gm mc oa oc dp s) {i : Nat} (hi : i < s.m.length) {v : Int} (hv : S32 v) : VmAt w0 (w.setCell ⟨gm, i, none⟩ (.int .i64 v)) q fb f gm mc oa oc dp (s.mem (s.m.set i v) s.p) := by
 have h1 := h.qgm
 have hl : (s.m.set i v).length = s.m.length := List.length_set
 refine ⟨h.be.setCell (p := ⟨gm, i, none⟩) h.glo.1 _, h.lo, ?_, ?_, ownG_other h.oo h.ne _, h.ne, h.fn.setOther (a := ⟨gm, i, none⟩) (fun e => own_tyV h.wo h.fn (by decide) (by rw [e]; rfl)) _, by show 1 ≤ (s.m.set i v).length ∧ (s.m.set i v).length ≤ 400; rw [hl]; exact h.ml, h.pl, fun x hx => ?_, h.sp, h.fu⟩
 ·have := h.box.setOther (a := ⟨gm, i, none⟩) h1 (.int .i64 v)
  unfold vmC at this ⊢
  show Blk _ _ _ [_, .slice (some ⟨gm, 0, none⟩) (s.m.set i v).length mc, _, _, _, _, _, _, _]
  rw [hl]
  exact this
 ·show World.ownsRow _ _ _ 1 (.slice (some ⟨gm, 0, none⟩) (s.m.set i v).length mc) (s.m.set i v).length ((s.m.set i v).map (Value.int .i64))
  rw [hl, List.map_set]
  have hs := h.wo.stored i (.int .i64 v)
  exact hs.1
 ·rcases List.mem_or_eq_of_mem_set hx with h2 | h2
  ·exact h.sm x h2
  ·rw [h2]; exact hv
/-- the words grow -/
theorem VmAt.push (h : VmAt w0 w q fb f gm mc oa oc dp s) {w1 : World} {g cap : Nat} {v : Int} (hv : S32 v) (hl : s.m.length + 1 ≤ 400) (ho : w1.ownsRow w0.heap.size 3 1 (.slice (some ⟨g, 0, none⟩) (s.m.length + 1) cap) (s.m.length + 1) (s.m.map (Value.int .i64) ++ [.int .i64 v])) (hg : w.grownBy w1 (some gm)) (hat : gm = g ∨ w.heap.size ≤ g) :
  VmAt w0 (w1.setCell ⟨q, 1, none⟩ (.slice (some ⟨g, 0, none⟩) (s.m.length + 1) cap)) q fb f g cap oa oc dp (s.mem (s.m ++ [v]) s.p) := by
 have h1 := h.qgm
 have hlo := h.lo
 have hgl := h.glo
 have hbox : Blk w1 q 54 (vmC fb gm mc oa oc dp s) := h.box.of_heap (hg.block q h.box.lt (fun e => h1 (by injection e)))
 have hfn : Blk w1 fb 25 (fCV f) := h.fn.of_heap (hg.block fb h.fn.lt (fun e => own_tyV h.wo h.fn (by decide) e.symm))
 have hoo : w1.ownsRow w0.heap.size 3 1 (.slice oa s.p.length oc) s.p.length (s.p.map (Value.int .i64)) := ownG_kept h.oo fun k hk => hg.block k (h.oo.lt k hk).2 fun e => h.ne (by rw [hk]; exact e)
 have hlen : (s.m ++ [v]).length = s.m.length + 1 := by simp
 have hqg : q ≠ g := fun e => own_tyV ho hbox (by decide) (by rw [e]; rfl)
 have hbe : Below w0.heap.size w0 w1 := h.be.grown hg h.be.size (fun k hk => by injection hk with hk; rw [← hk]; exact hgl.1)
 refine ⟨hbe.setCell (p := ⟨q, 1, none⟩) hlo _, hlo, ?_, ?_, ?_, ?_, hfn.setOther (a := ⟨q, 1, none⟩) (blk_tyV hfn hbox (by decide)) _, by show 1 ≤ (s.m ++ [v]).length ∧ (s.m ++ [v]).length ≤ 400; rw [hlen]; omega, h.pl, fun x hx => ?_, h.sp, h.fu⟩
 ·have := hbox.set 1 (.slice (some ⟨g, 0, none⟩) (s.m.length + 1) cap)
  rw [← hlen] at this
  rw [← hlen]
  exact this
 ·show World.ownsRow _ _ _ 1 (.slice (some ⟨g, 0, none⟩) (s.m ++ [v]).length cap) (s.m ++ [v]).length ((s.m ++ [v]).map (Value.int .i64))
  rw [hlen, List.map_append]
  exact ownG_other ho (fun e => hqg (by simpa [Value.ownBlock] using e.symm)) _
 ·exact ownG_other hoo (own_tyV hoo hbox (by decide)) _
 ·intro e
  rcases hat with rfl | h2
  ·exact h.ne e
  ·have := (h.oo.lt g e).2
   omega
 ·rcases List.mem_append.1 hx with h2 | h2
  ·exact h.sm x h2
  ·rw [List.mem_singleton.1 h2]; exact hv
/-- what is printed grows -/
theorem VmAt.print (h : VmAt w0 w q fb f gm mc oa oc dp s) {w1 : World} {g cap : Nat} {v : Int} (hv : S32 v) (hl : s.p.length + 1 ≤ 1000) (ho : w1.ownsRow w0.heap.size 3 1 (.slice (some ⟨g, 0, none⟩) (s.p.length + 1) cap) (s.p.length + 1) (s.p.map (Value.int .i64) ++ [.int .i64 v])) (hg : w.grownBy w1 (Value.slice oa s.p.length oc).ownBlock) (hat : (Value.slice oa s.p.length oc).ownBlock = some g ∨ w.heap.size ≤ g) :
  VmAt w0 (w1.setCell ⟨q, 4, none⟩ (.slice (some ⟨g, 0, none⟩) (s.p.length + 1) cap)) q fb f gm mc (some ⟨g, 0, none⟩) cap dp (s.mem s.m (s.p ++ [v])) := by
 have h1 := own_tyV h.oo h.box (by decide)
 have hlo := h.lo
 have hgl := h.glo
 have hbox : Blk w1 q 54 (vmC fb gm mc oa oc dp s) := h.box.of_heap (hg.block q h.box.lt (fun e => h1 e.symm))
 have hfn : Blk w1 fb 25 (fCV f) := h.fn.of_heap (hg.block fb h.fn.lt (fun e => own_tyV h.oo h.fn (by decide) e.symm))
 have hwo : w1.ownsRow w0.heap.size 3 1 (.slice (some ⟨gm, 0, none⟩) s.m.length mc) s.m.length (s.m.map (Value.int .i64)) := ownG_kept h.wo fun k hk => hg.block k (h.wo.lt k hk).2 fun e => (by
  have hk' : k = gm := by simpa [Value.ownBlock] using hk.symm
  rw [hk'] at e
  exact h.ne e.symm)
 have hlen : (s.p ++ [v]).length = s.p.length + 1 := by simp
 have hqg : q ≠ g := fun e => own_tyV ho hbox (by decide) (by rw [e]; rfl)
 have hbe : Below w0.heap.size w0 w1 := h.be.grown hg h.be.size (fun k hk => (h.oo.lt k hk).1)
 refine ⟨hbe.setCell (p := ⟨q, 4, none⟩) hlo _, hlo, ?_, ?_, ?_, ?_, hfn.setOther (a := ⟨q, 4, none⟩) (blk_tyV hfn hbox (by decide)) _, h.ml, by show (s.p ++ [v]).length ≤ 1000; rw [hlen]; omega, h.sm, fun x hx => ?_, h.fu⟩
 ·have := hbox.set 4 (.slice (some ⟨g, 0, none⟩) (s.p.length + 1) cap)
  rw [← hlen] at this
  rw [← hlen]
  exact this
 ·exact ownG_other hwo (own_tyV hwo hbox (by decide)) _
 ·show World.ownsRow _ _ _ 1 (.slice (some ⟨g, 0, none⟩) (s.p ++ [v]).length cap) (s.p ++ [v]).length ((s.p ++ [v]).map (Value.int .i64))
  rw [hlen, List.map_append]
  exact ownG_other ho (fun e => hqg (by simpa [Value.ownBlock] using e.symm)) _
 ·intro e
  have e2 : g = gm := by simpa [Value.ownBlock] using e
  rcases hat with h2 | h2
  ·exact h.ne (by rw [h2, e2])
  ·omega
 ·rcases List.mem_append.1 hx with h2 | h2
  ·exact h.sp x h2
  ·rw [List.mem_singleton.1 h2]; exact hv
end
set_option maxHeartbeats 2000000 in
theorem fail_any {w0 w : World} {q fb : Nat} {f : VF} {gm mc : Nat} {oa : Option Addr} {oc : Nat} {dp : Int} {s : VS} (h : VmAt w0 w q fb f gm mc oa oc dp s) :
  Calls Try.prog 37 #[.pointer (some ⟨q, 0, none⟩)] w fun e w' => e = .returned (.tuple #[]) ∧ VmAt w0 w' q fb f gm mc oa oc dp s.fail ∧ RestV (fun k => k = q) w w' := by
 have HR := Lib.hid (h.fail)
 have HS : Hid (RestV (fun k => k = q) w ((w.setCell ⟨q, 6, none⟩ (.bool true)).setCell ⟨q, 7, none⟩ (.bool true))) := ((RestV.refl (fun k => k = q) w).set (p := ⟨q, 6, none⟩) rfl _).set (p := ⟨q, 7, none⟩) rfl _
 have b6 := h.box.cell 6
 have b7 := h.box.cell 7
 have g6 := h.box.free 6
 have g7 := h.box.free 7
 simp only [vmC, List.getElem?_cons_zero, List.getElem?_cons_succ] at b6 b7
 clear h
 go_enter Try.func37, Try.ntmps37
 go_wp2
 refine bodyPost_end (results_none rfl _ _ _) rfl ?_
 exact ⟨rfl, HR.out, HS.out⟩
set_option maxHeartbeats 2000000 in
theorem trap_any {w0 w : World} {q fb : Nat} {f : VF} {gm mc : Nat} {oa : Option Addr} {oc : Nat} {dp : Int} {s : VS} (h : VmAt w0 w q fb f gm mc oa oc dp s) (h0 : s.st = false) (n : Int) :
  Calls Try.prog 39 #[.pointer (some ⟨q, 0, none⟩), .int .i64 n] w fun e w' => e = .returned (.tuple #[]) ∧ VmAt w0 w' q fb f gm mc oa oc dp (s.trap n) ∧ RestV (fun k => k = q) w w' := by
 have HR := Lib.hid (h.trap n)
 have HS : Hid (RestV (fun k => k = q) w ((w.setCell ⟨q, 6, none⟩ (.bool true)).setCell ⟨q, 5, none⟩ (.int .i64 n))) := ((RestV.refl (fun k => k = q) w).set (p := ⟨q, 6, none⟩) rfl _).set (p := ⟨q, 5, none⟩) rfl _
 have b6 := h.box.cell 6
 have b5 := h.box.cell 5
 have g6 := h.box.free 6
 have g5 := h.box.free 5
 simp only [vmC, List.getElem?_cons_zero, List.getElem?_cons_succ] at b6 b5
 rw [h0] at b6
 clear h h0
 go_enter Try.func39, Try.ntmps39
 go_wp2
 refine bodyPost_end (results_none rfl _ _ _) rfl ?_
 exact ⟨rfl, HR.out, HS.out⟩
end

section
def MakeQ (w0 w : World) (q fb : Nat) (f : VF) (gm : Nat) (oa : Option Addr) (oc : Nat) (dp : Int) (s : VS) (hd sz fill : Int) (e : Ending) (w' : World) : Prop :=
 (400 < (s.m.length : Int) + sz + 1 ∧ e = .returned (.tuple #[.int .i64 0, .bool false]) ∧ Below w.heap.size w w') ∨
 (¬ 400 < (s.m.length : Int) + sz + 1 ∧ e = .returned (.tuple #[.int .i64 (2 * (s.m.length : Int)), .bool true]) ∧ ∃ gm' mc', VmAt w0 w' q fb f gm' mc' oa oc dp (s.mem (s.m ++ hd :: List.replicate sz.toNat fill) s.p) ∧ (gm' = gm ∨ w.heap.size ≤ gm') ∧ RestV (fun k => k = q ∨ k = gm) w w')
/-- the world behind an append and the store of the new slice -/
theorem VmAt.push2 {w0 w wr w1 : World} {q fb : Nat} {f : VF} {gm gm0 mc : Nat} {oa : Option Addr} {oc : Nat} {dp : Int} {s : VS} {o : Obj} (h : VmAt w0 wr q fb f gm mc oa oc dp s) (hr : RestV (fun k => k = q ∨ k = gm0) w wr) (hgm : gm = gm0 ∨ w.heap.size ≤ gm) {g cap : Nat} {v : Int} (hv : S32 v) (hl : s.m.length + 1 ≤ 400) (ho : w1.ownsRow w0.heap.size 3 1 (.slice (some ⟨g, 0, none⟩) (s.m.length + 1) cap) (s.m.length + 1) (s.m.map (Value.int .i64) ++ [.int .i64 v])) (hg : (wr.alloc o).grownBy w1 (some gm)) (hat : gm = g ∨ g = (wr.alloc o).heap.size) :
  VmAt w0 (w1.setCell ⟨q, 1, none⟩ (.slice (some ⟨g, 0, none⟩) (s.m.length + 1) cap)) q fb f g cap oa oc dp (s.mem (s.m ++ [v]) s.p) ∧ (g = gm0 ∨ w.heap.size ≤ g) ∧ RestV (fun k => k = q ∨ k = gm0) w (w1.setCell ⟨q, 1, none⟩ (.slice (some ⟨g, 0, none⟩) (s.m.length + 1) cap)) ∧ Blk w1 q 54 (vmC fb gm mc oa oc dp s) := by
 have hb : Below wr.heap.size wr (wr.alloc o) := (Below.refl _ _).alloc (Nat.le_refl _) _
 have h2 := h.below hb
 have hsz : (wr.alloc o).heap.size = wr.heap.size + 1 := by simp
 have hrs := hr.size
 refine ⟨h2.push hv hl ho hg (by rcases hat with e | e; exact .inl e; exact .inr (by omega)), ?_, ?_, h2.box.of_heap (hg.block q h2.box.lt (fun e => h2.qgm (by injection e)))⟩
 ·rcases hat with e | e
  ·rw [← e]; exact hgm
  ·right; omega
 ·have h3 : RestV (fun k => k = q ∨ k = gm0) w (wr.alloc o) := hr.trans (RestV.ofBelow (S := fun _ => False) hb) (fun _ _ e => e.elim)
  have h4 : RestV (fun k => k = gm) (wr.alloc o) w1 := ⟨hg.os, hg.tape, hg.output, hg.size, fun k hk hs => hg.block k hk (fun e => hs (by injection e))⟩
  exact (h3.trans h4 fun b hb2 e => by rcases hgm with h9 | h9; exact .inr (e.trans h9); omega).set (p := ⟨q, 1, none⟩) (.inl rfl) _
set_option maxRecDepth 100000 in
set_option maxHeartbeats 8000000 in
theorem make_any {w0 w : World} {q fb : Nat} {f : VF} {gm mc : Nat} {oa : Option Addr} {oc : Nat} {dp : Int} {s : VS} (h : VmAt w0 w q fb f gm mc oa oc dp s) (hd sz fill : Int) (hh : S32 hd) (hf : S32 fill) (hs : 0 ≤ sz ∧ sz ≤ 5000) :
  Calls Try.prog 66 #[.pointer (some ⟨q, 1, none⟩), .int .i64 hd, .int .i64 sz, .int .i64 fill] w (MakeQ w0 w q fb f gm oa oc dp s hd sz fill) := by
 have b1 := h.box.cell 1
 have b2 := h.box.cell 2
 simp only [vmC, List.getElem?_cons_zero, List.getElem?_cons_succ] at b1 b2
 obtain ⟨hm1, hm2⟩ := h.ml
 have hcap := h.memV.cap (by omega)
 obtain ⟨hc1, hc2⟩ := hcap
 obtain ⟨z, rfl⟩ : ∃ z : Nat, sz = (z : Int) := ⟨sz.toNat, by omega⟩
 obtain ⟨M, hM⟩ : ∃ M, M = s.m.length := ⟨_, rfl⟩
 rw [← hM] at b1 hm1 hm2 hc1
 have HM := Lib.hid hM
 have H := Lib.hid h
 have HH := Lib.hid hh
 have HF := Lib.hid hf
 have hM0 : ((M : Int) == 0) = false := by simp; omega
 have hM1 : (M == 0) = false := by simp; omega
 clear hM h hh hf
 go_enter Try.func66, Try.ntmps66
 go_upto_region 3 with fail
 go_quiet (fail)
 have HBD : Hid (Below w.heap.size w (w.drewN nq)) := below_drewN_self _ _ _
 have HD : Hid (VmAt w0 (w.drewN nq) q fb f gm mc oa oc dp s) := H.out.below HBD.out
 have b1 : (w.drewN nq).cell? ⟨q, 1, none⟩ = some (.slice (some ⟨gm, 0, none⟩) M mc) := b1
 have b2 : (w.drewN nq).cell? ⟨q, 2, none⟩ = some (.int .i64 400) := b2
 clear H
 generalize w.drewN nq = wd at HBD HD b1 b2 ⊢
 by_cases hb : 400 < (M : Int) + (z : Int) + 1
 ·have HB := Lib.hid hb
  go_wp2_with fail
  go_ret2
  exact .inl ⟨by rw [← HM.out]; exact HB.out, rfl, HBD.out⟩
 ·have HB := Lib.hid hb
  obtain ⟨i0, hi0, hz0, hz1, hz2⟩ : ∃ i, Try.prog.info? 3 = some i ∧ i.zero = some (.int .i64 0) ∧ i.size = 1 ∧ i.bytes = 8 := info_partsV (by kernel_rfl)
  have hown := HD.out.wo
  rw [← HM.out] at hown
  have hsz0 := HD.out.be.size
  have hql := HD.out.box.lt
  have hnew := (Blk.new wd [.int .i64 hd] 3).cell
  go_wp2_with (at_builtin; refine wpList_append_lies _ rfl _ _ 22 rfl w0.heap.size 3 i0 (.int .i64 0) 1 8 Try.underlying22 hi0 hz0 hz1 hz2 rfl (by decide) _ M _ rfl (hown.alloc _) ⟨wd.heap.size, 0, none⟩ 1 1 [.int .i64 hd] rfl rfl ?a2 ?a3 (by decide) ?a4 ?a5 ?a6 _ rfl ?_)
  case a3 => rfl
  case a4 => unfold maxLen; omega
  case a5 => omega
  case a6 => omega
  intro g cap w1 ho hg hat hlt
  rw [HM.out] at ho
  have hp := VmAt.push2 (w := w) (gm0 := gm) HD.out (RestV.ofBelow HBD.out) (.inl rfl) HH.out (by have := HM.out; omega) ho hg (by rcases hat with e | e; exact .inl (by simpa [Value.ownBlock] using e); exact .inr (by simpa using e))
  rw [← HM.out] at hp
  obtain ⟨hp1, hp2, hp3, hp4⟩ := hp
  have f1 := hp4.free 1
  have f1c := hp4.cell 1
  simp only [vmC, List.getElem?_cons_zero, List.getElem?_cons_succ] at f1c
  have HP1 := Lib.hid hp1
  have HP2 := Lib.hid hp2
  have HP3 := Lib.hid hp3
  clear hp1 hp2 hp3 hp4 ho hg hat hlt hown hnew hsz0 hql b1 b2
  go_wp2_with fail
  clear f1 f1c
  go_loopw [51] (fun u wx => ∃ (j gm' mc' : Nat), j ≤ z ∧ u = .int .i64 (j : Int) ∧ VmAt w0 wx q fb f gm' mc' oa oc dp (s.mem (s.m ++ hd :: List.replicate j fill) s.p) ∧ (gm' = gm ∨ w.heap.size ≤ gm') ∧ RestV (fun k => k = q ∨ k = gm) w wx) (fun u _ => z - (intOf u).toNat)
  case atStart => exact ⟨0, g, cap, Nat.zero_le _, rfl, HP1.out, HP2.out, HP3.out⟩
  case round =>
   clear HP1 HP2 HP3 HD HBD
   obtain ⟨j, gm', mc', hj, rfl, hv, hg', hr⟩ := hrel
   by_cases hlt : j < z
   ·have hlen : (s.mem (s.m ++ hd :: List.replicate j fill) s.p).m.length = M + j + 1 := by
     show (s.m ++ hd :: List.replicate j fill).length = _
     rw [List.length_append, List.length_cons, List.length_replicate, ← HM.out]; omega
    have hown := hv.wo
    rw [hlen] at hown
    have hsz0 := hv.be.size
    have hql := hv.box.lt
    have b1 := hv.box.cell 1
    have g1 := hv.box.free 1
    simp only [vmC, List.getElem?_cons_zero, List.getElem?_cons_succ] at b1
    rw [hlen] at b1
    have hnew := (Blk.new wr [.int .i64 fill] 3).cell
    have HV := Lib.hid hv
    have HG := Lib.hid hg'
    have HR := Lib.hid hr
    have HL := Lib.hid hlen
    have HB2 := HB.out
    clear hv hg' hr hlen
    go_wp2_with (at_builtin; refine wpList_append_lies _ rfl _ _ 22 rfl w0.heap.size 3 i0 (.int .i64 0) 1 8 Try.underlying22 hi0 hz0 hz1 hz2 rfl (by decide) _ (M + j + 1) _ rfl (hown.alloc _) ⟨wr.heap.size, 0, none⟩ 1 1 [.int .i64 fill] rfl rfl ?b2 ?b3 (by decide) ?b4 ?b5 ?b6 _ rfl ?_)
    case b2 => intro j u hj; rw [Addr.add_lit, Nat.zero_add]; exact (hnew j).trans hj
    case b3 => intro u hu; simp at hu; rw [hu]; rfl
    case b4 => unfold maxLen; omega
    case b5 => omega
    case b6 => rw [World.size_alloc]; omega
    intro g9 cap9 w9 ho hg hat hlt9
    rw [← HL.out] at ho
    have hp := VmAt.push2 (w := w) (gm0 := gm) HV.out HR.out HG.out HF.out (by have := HL.out; omega) ho hg (by rcases hat with e | e; exact .inl (by simpa [Value.ownBlock] using e); exact .inr (by simpa using e))
    rw [HL.out] at hp
    obtain ⟨hp1, hp2, hp3, hp4⟩ := hp
    have f1 := hp4.free 1
    have f1c := hp4.cell 1
    simp only [vmC, List.getElem?_cons_zero, List.getElem?_cons_succ] at f1c
    have hst : ((s.mem (s.m ++ hd :: List.replicate j fill) s.p).mem ((s.mem (s.m ++ hd :: List.replicate j fill) s.p).m ++ [fill]) (s.mem (s.m ++ hd :: List.replicate j fill) s.p).p) = s.mem (s.m ++ hd :: List.replicate (j + 1) fill) s.p := by
     show s.mem ((s.m ++ hd :: List.replicate j fill) ++ [fill]) s.p = _
     rw [List.replicate_succ', List.append_assoc]
     rfl
    rw [hst] at hp1
    have HP1 := Lib.hid hp1
    have HP2 := Lib.hid hp2
    have HP3 := Lib.hid hp3
    clear hp1 hp2 hp3 hp4 ho hg hat hlt9 hown hnew hsz0 hql b1 g1 hst HV HG HR HL HB2
    go_wp2_with fail
    go_roundw
    case rel => exact ⟨j + 1, g9, cap9, by omega, by go_num, HP1.out, HP2.out, HP3.out⟩
    case measure => simp [intOf]; omega
   ·obtain rfl : j = z := by omega
    have HV := Lib.hid hv
    have HG := Lib.hid hg'
    have HR := Lib.hid hr
    clear hv hg' hr
    go_wp2_with fail
    go_ret2
    exact .inr ⟨by rw [← HM.out]; have := HB.out; omega, by rw [← HM.out]; rfl, gm', mc', HV.out, HG.out, HR.out⟩
end
end Go.Proofs.Ytlcnbihfpjhffaa
