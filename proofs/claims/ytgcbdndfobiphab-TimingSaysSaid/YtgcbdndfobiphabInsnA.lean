/- The contracts of insn's in, used and Check. -/
import Derived.Test.YtgcbdndfobiphabHeadW
import Derived.Test.YtgcbdndfobiphabBlk
namespace Go.Proofs.Ytgcbdndfobiphab
open Go.RowKit
set_option linter.unusedVariables false

set_option maxHeartbeats 400000 in
theorem iin_any (n l h : Int) (w : World) :
    Calls Try.prog 31 #[.int .i64 n, .int .i64 l, .int .i64 h] w fun e w' => e = .returned (.bool (inB n l h)) ∧ w = w' := by
  by_cases h1 : l ≤ n
  · by_cases h2 : n ≤ h
    · have H : Hid (inB n l h = true) := inB_true.2 ⟨h1, h2⟩
      go_enter Try.func31, Try.ntmps31
      go_wp2
      go_ret
      exact ⟨ret_bool H.out.symm, rfl⟩
    · have H : Hid (inB n l h = false) := inB_false.2 (.inr (Int.not_le.1 h2))
      go_enter Try.func31, Try.ntmps31
      go_wp2
      go_ret
      exact ⟨ret_bool H.out.symm, rfl⟩
  · have H : Hid (inB n l h = false) := inB_false.2 (.inl (Int.not_le.1 h1))
    go_enter Try.func31, Try.ntmps31
    go_wp2
    go_ret
    exact ⟨ret_bool H.out.symm, rfl⟩

/-- which fields an operation uses -/
structure Uses where
  (d a b n : Bool)

def usesOf (op : Int) : Uses :=
  if op = 0 ∨ op = 22 then ⟨false, false, false, false⟩
  else if (1 ≤ op ∧ op ≤ 7) ∨ op = 15 then ⟨true, true, true, false⟩
  else if op = 8 ∨ op = 9 ∨ op = 10 ∨ op = 12 then ⟨true, true, false, true⟩
  else if op = 11 then ⟨true, false, false, true⟩
  else if op = 13 ∨ op = 16 ∨ op = 17 ∨ op = 18 then ⟨false, true, true, true⟩
  else if op = 14 then ⟨true, false, true, true⟩
  else if op = 19 ∨ op = 20 ∨ op = 24 then ⟨false, false, false, true⟩
  else ⟨false, true, false, false⟩

def Uses.cells (u : Uses) : Array Value := #[.bool u.d, .bool u.a, .bool u.b, .bool u.n]

theorem op_cases {op : Int} (h : 0 ≤ op ∧ op ≤ 24) : op = 0 ∨ op = 1 ∨ op = 2 ∨ op = 3 ∨ op = 4 ∨ op = 5 ∨ op = 6 ∨ op = 7 ∨ op = 8 ∨ op = 9 ∨ op = 10 ∨ op = 11 ∨ op = 12 ∨ op = 13 ∨ op = 14 ∨ op = 15 ∨ op = 16 ∨ op = 17 ∨ op = 18 ∨ op = 19 ∨ op = 20 ∨ op = 21 ∨ op = 22 ∨ op = 23 ∨ op = 24 := by omega

def UsedPost (op : Int) (w : World) (e : Ending) (w' : World) : Prop := e = .returned (.agg (usesOf op).cells) ∧ w' = w.alloc (.cells (usesOf op).cells 58)

set_option maxHeartbeats 2000000 in
theorem used_any (op : Int) (w : World) (h : 0 ≤ op ∧ op ≤ 24) : Calls Try.prog 32 #[.int .i64 op] w (UsedPost op w) := by
  rcases op_cases h with rfl | rfl | rfl | rfl | rfl | rfl | rfl | rfl | rfl | rfl | rfl | rfl | rfl | rfl | rfl | rfl | rfl | rfl | rfl | rfl | rfl | rfl | rfl | rfl | rfl
  all_goals
    clear h
    go_enter Try.func32, Try.ntmps32
    go_wp2
    exact bodyPost_ret (v := .agg (usesOf _).cells) (by simp [results, Try.results32, go_sem, usesOf, Uses.cells]) rfl ⟨rfl, rfl⟩
end Go.Proofs.Ytgcbdndfobiphab
