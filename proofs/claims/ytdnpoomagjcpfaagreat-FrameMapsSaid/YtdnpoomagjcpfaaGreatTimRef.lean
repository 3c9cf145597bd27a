/- The contracts of sched's barrier and memory, timing's Writes, Latency, Straight. The contract of timing's Reads. The contracts of the reference's has, members and in. The contracts of the reference's in and OpWrites. -/
import Derived.Test.YtdnpoomagjcpfaaGreatBase
import Derived.Deep.RegionHeld3
import Derived.Deep.RegionWith
import Derived.BigQuiet
import Derived.Deep.QuietTactic
namespace Go.Proofs.YtdnpoomagjcpfaaGreat
open Go.RowKit
set_option linter.unusedVariables false

section
def barrierB (op : Int) : Bool := op == 14 || op == 15 || op == 23 || op == 4 || op == 5
def memoryB (op : Int) : Bool := op == 12 || op == 13
/-- the register that an instruction writes -/
def wrOf (op d : Int) : Int := if op = 20 ∨ op = 21 then 15 else if op = 0 ∨ op = 13 ∨ op = 16 ∨ op = 17 ∨ op = 18 ∨ op = 19 ∨ op = 22 ∨ op = 23 ∨ op = 24 then 0 else d



theorem op_cases' {op : Int} (h : 0 ≤ op ∧ op ≤ 24) : op = 0 ∨ op = 1 ∨ op = 2 ∨ op = 3 ∨ op = 4 ∨ op = 5 ∨ op = 6 ∨ op = 7 ∨ op = 8 ∨ op = 9 ∨ op = 10 ∨ op = 11 ∨ op = 12 ∨ op = 13 ∨ op = 14 ∨ op = 15 ∨ op = 16 ∨ op = 17 ∨ op = 18 ∨ op = 19 ∨ op = 20 ∨ op = 21 ∨ op = 22 ∨ op = 23 ∨ op = 24 := by omega

set_option maxHeartbeats 4000000 in
theorem writes_any (op d a b n : Int) (w : World) :
  Calls Tryz.prog 16 #[.agg #[.int .i64 op, .int .i64 d, .int .i64 a, .int .i64 b, .int .i64 n]] w fun e w' => e = .returned (.int .i64 (wrOf op d)) ∧ w' = w.alloc (.cells #[.int .i64 op, .int .i64 d, .int .i64 a, .int .i64 b, .int .i64 n] 56) := by
 by_cases h : 0 ≤ op ∧ op ≤ 24
 ·rcases op_cases' h with rfl | rfl | rfl | rfl | rfl | rfl | rfl | rfl | rfl | rfl | rfl | rfl | rfl | rfl | rfl | rfl | rfl | rfl | rfl | rfl | rfl | rfl | rfl | rfl | rfl
  all_goals
   clear h
   go_enter Tryz.func16, Tryz.ntmps16
   go_wp2
   go_ret
   exact ⟨rfl, rfl⟩
 ·have H : Hid (wrOf op d = d) := by unfold Hid wrOf; rw [if_neg (by omega), if_neg (by omega)]
  have t0 : (op == 20) = false := beq_eq_false_iff_ne.2 (by omega)
  have t1 : (op == 21) = false := beq_eq_false_iff_ne.2 (by omega)
  have t2 : (op == 0) = false := beq_eq_false_iff_ne.2 (by omega)
  have t3 : (op == 13) = false := beq_eq_false_iff_ne.2 (by omega)
  have t4 : (op == 16) = false := beq_eq_false_iff_ne.2 (by omega)
  have t5 : (op == 17) = false := beq_eq_false_iff_ne.2 (by omega)
  have t6 : (op == 18) = false := beq_eq_false_iff_ne.2 (by omega)
  have t7 : (op == 19) = false := beq_eq_false_iff_ne.2 (by omega)
  have t8 : (op == 22) = false := beq_eq_false_iff_ne.2 (by omega)
  have t9 : (op == 23) = false := beq_eq_false_iff_ne.2 (by omega)
  have ta : (op == 24) = false := beq_eq_false_iff_ne.2 (by omega)
  clear h
  go_enter Tryz.func16, Tryz.ntmps16
  go_wp2
  go_ret
  exact ⟨by rw [H.out]; rfl, rfl⟩
end

section
theorem Tryz.infoT3 : (Tryz.prog.info? 3).map (fun i => (i.zero, i.size, i.bytes)) = some (some (.int .i64 0), 1, 8) := by kernel_rfl

def nz (l : List Int) : List Int := l.filter fun x => x != 0

def AddPost (Bo bl : Nat) (zs : List Int) (w : World) (e : Ending) (w' : World) : Prop :=
 e = .returned (.tuple #[]) ∧ ∃ v, Blk w' Bo 22 [v] ∧ w'.ownsRow w.heap.size 3 1 v (nz zs).length ((nz zs).map (Value.int .i64)) ∧ ∀ B, B ≤ Bo → Below B w w'

theorem nz_take_succ (l : List Int) (k : Nat) (h : k < l.length) : nz (l.take (k + 1)) = nz (l.take k) ++ (if l[k] = 0 then [] else [l[k]]) := by
 unfold nz
 rw [List.take_succ_eq_append_getElem h, List.filter_append]
 split
 ·rename_i h0; simp [h0]
 ·rename_i h0; simp [h0]

theorem owns_shape {w : World} {base : Nat} {e : TypeId} {size : Nat} {v : Value} {n : Nat} {l : List Value} (h : w.ownsRow base e size v n l) : ∃ a m cap, v = .slice a m cap := by
 rcases h.2 with ⟨rfl, _⟩ | ⟨g, c, cur, rfl, _⟩
 ·exact ⟨_, _, _, rfl⟩
 ·exact ⟨_, _, _, rfl⟩

theorem nz_len (l : List Int) (k : Nat) : (nz (l.take k)).length ≤ k := by
 unfold nz
 have h1 := List.length_filter_le (fun x : Int => x != 0) (l.take k)
 have h2 := List.length_take_le k l
 omega

end

section
/-- does the text hold the letter? -/
def hasB (l : List UInt8) (c : Nat) : Bool := l.any fun x => x.toNat == c

set_option maxHeartbeats 1000000 in
theorem has_any (s : ByteArray) (c : Nat) (w : World) (hs : s.size ≤ 1000) (hc : c < 256) :
  Calls Tryz.prog 35 #[.string s, .int .u8 (c : Int)] w fun e w' => e = .returned (.bool (hasB s.data.toList c)) ∧ w = w' := by
 go_enter Tryz.func35, Tryz.ntmps35
 go_wp2
 go_loop [8] (fun i => ∃ k : Nat, k ≤ s.size ∧ i = .int .i64 k ∧ hasB (s.data.toList.take k) c = false) (fun i => s.size - (intOf i).toNat)
 case atStart => exact ⟨0, Nat.zero_le _, rfl, rfl⟩
 case round =>
  obtain ⟨k, hk, rfl, hh⟩ := hrel
  have HH := Lib.hid hh
  clear hh
  by_cases hlt : k < s.size
  ·have HT := Lib.hid (List.take_succ_eq_append_getElem (l := s.data.toList) (i := k) (by simpa using hlt))
   have hel : s.data.toList[k]'(by simpa using hlt) = s[k] := rfl
   have HEL := Lib.hid hel
   clear hel
   cases hq : (((s[k].toNat : Nat) : Int) == (c : Int))
   ·go_wp2
    go_round
    case rel =>
     refine ⟨k + 1, by omega, by go_num, ?_⟩
     have h1 := HH.out
     have h2 : s[k].toNat ≠ c := fun h => by rw [h] at hq; simp at hq
     rw [HT.out, HEL.out]
     simp only [hasB, List.any_append, List.any_cons, List.any_nil, Bool.or_false, Bool.or_eq_false_iff] at h1 ⊢
     exact ⟨h1, beq_eq_false_iff_ne.2 h2⟩
    case measure => simp [intOf]; omega
   ·have HB : Hid (hasB s.data.toList c = true) := by
     have h2 : s[k].toNat = c := by have := beq_iff_eq.1 hq; omega
     unfold Hid hasB
     rw [List.any_eq_true]
     exact ⟨s.data.toList[k]'(by simpa using hlt), List.getElem_mem _, by rw [HEL.out, h2]; simp⟩
    go_wp2
    go_ret
    exact ⟨ret_bool HB.out.symm, rfl⟩
  ·go_wp2
   go_ret
   exact ⟨ret_bool (by have := HH.out; rw [List.take_of_length_le (by simp; omega)] at this; exact this.symm), rfl⟩

/-- the letters of the members that each operation uses -/
def memL : List (List UInt8) := [[], [68, 65, 66], [68, 65, 66], [68, 65, 66], [68, 65, 66], [68, 65, 66], [68, 65, 66], [68, 65, 66], [68, 65, 78], [68, 65, 78], [68, 65, 78], [68, 78], [68, 65, 78], [65, 66, 78], [68, 66, 78], [68, 65, 66], [65, 66, 78], [65, 66, 78], [65, 66, 78], [78], [78], [65], [], [65], [78]]
def memArr : Array Value := #[.string ⟨#[]⟩, .string ⟨#[68, 65, 66]⟩, .string ⟨#[68, 65, 66]⟩, .string ⟨#[68, 65, 66]⟩, .string ⟨#[68, 65, 66]⟩, .string ⟨#[68, 65, 66]⟩, .string ⟨#[68, 65, 66]⟩, .string ⟨#[68, 65, 66]⟩, .string ⟨#[68, 65, 78]⟩, .string ⟨#[68, 65, 78]⟩, .string ⟨#[68, 65, 78]⟩, .string ⟨#[68, 78]⟩, .string ⟨#[68, 65, 78]⟩, .string ⟨#[65, 66, 78]⟩, .string ⟨#[68, 66, 78]⟩, .string ⟨#[68, 65, 66]⟩, .string ⟨#[65, 66, 78]⟩, .string ⟨#[65, 66, 78]⟩, .string ⟨#[65, 66, 78]⟩, .string ⟨#[78]⟩, .string ⟨#[78]⟩, .string ⟨#[65]⟩, .string ⟨#[]⟩, .string ⟨#[65]⟩, .string ⟨#[78]⟩]
def MemPost (w : World) (e : Ending) (w' : World) : Prop := e = .returned (.slice (some ⟨w.heap.size, 0, none⟩) 25 25) ∧ w' = w.alloc (.cells memArr 9)
theorem members_any (w : World) : Calls Tryz.prog 70 #[] w (MemPost w) := by
 go_enter Tryz.func70, Tryz.ntmps70
 go_wp2
 go_ret
 exact ⟨rfl, rfl⟩
end

section

theorem inB_no {n l h : Int} (hn : ¬ (l ≤ n ∧ n ≤ h)) : inB n l h = false := by rw [← Bool.not_eq_true, inB_true]; exact hn


def IntPost (c : Int) (w : World) (e : Ending) (w' : World) : Prop := e = .returned (.int .i64 c) ∧ Below w.heap.size w w'

/-- the letters that operation op uses, as the table's cell -/
def memS (op : Nat) : ByteArray := ⟨(memL.getD op []).toArray⟩
theorem mem_cell (op : Nat) (h : op < 25) : memArr[op]? = some (.string (memS op)) := by
 rcases (show op = 0 ∨ op = 1 ∨ op = 2 ∨ op = 3 ∨ op = 4 ∨ op = 5 ∨ op = 6 ∨ op = 7 ∨ op = 8 ∨ op = 9 ∨ op = 10 ∨ op = 11 ∨ op = 12 ∨ op = 13 ∨ op = 14 ∨ op = 15 ∨ op = 16 ∨ op = 17 ∨ op = 18 ∨ op = 19 ∨ op = 20 ∨ op = 21 ∨ op = 22 ∨ op = 23 ∨ op = 24 by omega) with rfl | rfl | rfl | rfl | rfl | rfl | rfl | rfl | rfl | rfl | rfl | rfl | rfl | rfl | rfl | rfl | rfl | rfl | rfl | rfl | rfl | rfl | rfl | rfl | rfl <;> rfl
theorem memS_size (op : Nat) (h : op < 25) : (memS op).size ≤ 1000 := by
 have : ∀ k : Fin 25, (memL.getD k.val []).length ≤ 1000 := by decide
 exact this ⟨op, h⟩
/-- does operation op write its register D? -/
theorem wr_has (op : Nat) (h : op < 25) (d : Int) (h20 : op ≠ 20) (h21 : op ≠ 21) : wrOf op d = if hasB (memS op).data.toList 68 = true then d else 0 := by
 have : ∀ k : Fin 25, k.val ≠ 20 → k.val ≠ 21 → hasB (memS k.val).data.toList 68 = decide (¬ ((k.val : Int) = 0 ∨ (k.val : Int) = 13 ∨ (k.val : Int) = 16 ∨ (k.val : Int) = 17 ∨ (k.val : Int) = 18 ∨ (k.val : Int) = 19 ∨ (k.val : Int) = 22 ∨ (k.val : Int) = 23 ∨ (k.val : Int) = 24)) := by decide
 have h2 := this ⟨op, h⟩ h20 h21
 unfold wrOf
 rw [if_neg (by omega), h2]
 by_cases hc : ((op : Int) = 0 ∨ (op : Int) = 13 ∨ (op : Int) = 16 ∨ (op : Int) = 17 ∨ (op : Int) = 18 ∨ (op : Int) = 19 ∨ (op : Int) = 22 ∨ (op : Int) = 23 ∨ (op : Int) = 24)
 ·rw [if_pos hc, if_neg]; rw [decide_eq_true_iff]; exact fun h => h hc
 ·rw [if_neg hc, if_pos]; exact decide_eq_true hc

end
end Go.Proofs.YtdnpoomagjcpfaaGreat
