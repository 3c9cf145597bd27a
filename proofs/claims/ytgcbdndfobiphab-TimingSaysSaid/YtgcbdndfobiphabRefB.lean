/- The contracts of the reference's in and OpWrites. -/
import Derived.Test.YtgcbdndfobiphabRefA
import Derived.Test.YtgcbdndfobiphabTimingA
import Derived.Deep.RegionHeld3
import Derived.Deep.RegionWith
import Derived.BigQuiet
import Derived.Deep.QuietTactic
namespace Go.Proofs.Ytgcbdndfobiphab
open Go.RowKit
set_option linter.unusedVariables false

set_option maxHeartbeats 400000 in
theorem rin_any (n l h : Int) (w : World) :
    Calls Try.prog 21 #[.int .i64 n, .int .i64 l, .int .i64 h] w fun e w' => e = .returned (.bool (inB n l h)) ∧ w = w' := by
  by_cases h1 : l ≤ n
  · by_cases h2 : n ≤ h
    · have H : Hid (inB n l h = true) := inB_true.2 ⟨h1, h2⟩
      go_enter Try.func21, Try.ntmps21
      go_wp2
      go_ret
      exact ⟨ret_bool H.out.symm, rfl⟩
    · have H : Hid (inB n l h = false) := inB_false.2 (.inr (Int.not_le.1 h2))
      go_enter Try.func21, Try.ntmps21
      go_wp2
      go_ret
      exact ⟨ret_bool H.out.symm, rfl⟩
  · have H : Hid (inB n l h = false) := inB_false.2 (.inl (Int.not_le.1 h1))
    go_enter Try.func21, Try.ntmps21
    go_wp2
    go_ret
    exact ⟨ret_bool H.out.symm, rfl⟩

theorem inB_no {n l h : Int} (hn : ¬ (l ≤ n ∧ n ≤ h)) : inB n l h = false := by rw [← Bool.not_eq_true, inB_true]; exact hn

theorem rin_as (n l h : Int) (w : World) {c : Bool} (hc : inB n l h = c) :
    Calls Try.prog 21 #[.int .i64 n, .int .i64 l, .int .i64 h] w fun e w' => e = .returned (.bool c) ∧ w' = w := by
  refine (rin_any n l h w).mono ?_
  rintro e w' ⟨rfl, rfl⟩
  exact ⟨by rw [hc], rfl⟩

def IntPost (c : Int) (w : World) (e : Ending) (w' : World) : Prop := e = .returned (.int .i64 c) ∧ Below w.heap.size w w'

/-- the letters that operation op uses, as the table's cell -/
def memS (op : Nat) : ByteArray := ⟨(memL.getD op []).toArray⟩
theorem mem_cell (op : Nat) (h : op < 25) : memArr[op]? = some (.string (memS op)) := by
  rcases (show op = 0 ∨ op = 1 ∨ op = 2 ∨ op = 3 ∨ op = 4 ∨ op = 5 ∨ op = 6 ∨ op = 7 ∨ op = 8 ∨ op = 9 ∨ op = 10 ∨ op = 11 ∨ op = 12 ∨ op = 13 ∨ op = 14 ∨ op = 15 ∨ op = 16 ∨ op = 17 ∨ op = 18 ∨ op = 19 ∨ op = 20 ∨ op = 21 ∨ op = 22 ∨ op = 23 ∨ op = 24 by omega) with rfl | rfl | rfl | rfl | rfl | rfl | rfl | rfl | rfl | rfl | rfl | rfl | rfl | rfl | rfl | rfl | rfl | rfl | rfl | rfl | rfl | rfl | rfl | rfl | rfl <;> rfl
theorem memS_size (op : Nat) (h : op < 25) : (memS op).size ≤ 1000 := by
  have : ∀ k : Fin 25, (memL.getD k.val []).length ≤ 1000 := by decide
  exact this ⟨op, h⟩
/-- does operation op write its register D? -/
theorem wr_has (op : Nat) (h : op < 25) (d : Int) (h20 : op ≠ 20) (h21 : op ≠ 21) : wrOf op d = if hasB (memS op).data.toList 68 = true then d else 0 := by
  have : ∀ k : Fin 25, k.val ≠ 20 → k.val ≠ 21 → hasB (memS k.val).data.toList 68 = decide (¬ ((k.val : Int) = 0 ∨ (k.val : Int) = 13 ∨ (k.val : Int) = 16 ∨ (k.val : Int) = 17 ∨ (k.val : Int) = 18 ∨ (k.val : Int) = 19 ∨ (k.val : Int) = 22 ∨ (k.val : Int) = 23 ∨ (k.val : Int) = 24)) := by decide
  have h2 := this ⟨op, h⟩ h20 h21
  unfold wrOf
  rw [if_neg (by omega), h2]
  by_cases hc : ((op : Int) = 0 ∨ (op : Int) = 13 ∨ (op : Int) = 16 ∨ (op : Int) = 17 ∨ (op : Int) = 18 ∨ (op : Int) = 19 ∨ (op : Int) = 22 ∨ (op : Int) = 23 ∨ (op : Int) = 24)
  · rw [if_pos hc, if_neg]; rw [decide_eq_true_iff]; exact fun h => h hc
  · rw [if_neg hc, if_pos]; exact decide_eq_true hc

set_option maxHeartbeats 1000000 in
theorem opw_any (op d a b n : Int) (w : World) : Calls Try.prog 8 #[.agg #[.int .i64 op, .int .i64 d, .int .i64 a, .int .i64 b, .int .i64 n]] w (IntPost (wrOf op d) w) := by
  by_cases h20 : op = 20
  · subst h20
    go_enter Try.func8, Try.ntmps8
    go_wp2_with fail
    go_ret
    exact ⟨rfl, (Below.refl _ _).alloc (Nat.le_refl _) _⟩
  by_cases h21 : op = 21
  · subst h21
    go_enter Try.func8, Try.ntmps8
    go_wp2_with fail
    go_ret
    exact ⟨rfl, (Below.refl _ _).alloc (Nat.le_refl _) _⟩
  have g20 : (op == 20) = false := beq_eq_false_iff_ne.2 h20
  have g21 : (op == 21) = false := beq_eq_false_iff_ne.2 h21
  by_cases hr : 0 ≤ op ∧ op ≤ 24
  · obtain ⟨k, rfl⟩ := Int.eq_ofNat_of_zero_le hr.1
    have hk : k < 25 := by omega
    have hcell := mem_cell k hk
    have b0 : (0 : Int) ≤ (k : Int) := hr.1
    have b1 : (k : Int) < 25 := by omega
    have hin := inB_true.2 hr
    have HW := Lib.hid (wr_has k hk d (by omega) (by omega))
    have hms := memS_size k hk
    cases hh : hasB (memS k).data.toList 68
    all_goals
      clear h20 h21
      go_enter Try.func8, Try.ntmps8
      go_wp2_with fail
      go_region_with (first
        | (go_at_call 21; refine (rin_any _ _ _ _).mono ?_; rw [hin]; rintro e w' ⟨rfl, rfl⟩)
        | (go_at_call 23; refine (members_any _).mono ?_; rintro e w' ⟨rfl, rfl⟩)
        | (go_at_call 22; refine (has_any _ _ _ hms (by decide)).mono ?_; rw [hh]; rintro e w' ⟨rfl, rfl⟩))
      all_goals
        go_wp2_with (go_at_call 21; refine (rin_any _ _ _ _).mono ?_; rw [hin]; rintro e w' ⟨rfl, rfl⟩)
        go_ret
        exact ⟨ret_int (by rw [HW.out, hh]; simp), (((Below.refl _ _).alloc (Nat.le_refl _) _).alloc (by simp) _).drew⟩
  · have hin : inB op 0 24 = false := inB_no hr
    have HW : Hid (wrOf op d = d) := by unfold Hid wrOf; rw [if_neg (by omega), if_neg (by omega)]
    clear h20 h21 hr
    go_enter Try.func8, Try.ntmps8
    go_wp2_with fail
    go_quiet ((go_at_call 21; exact Calls.quiet_of_same (rin_as _ _ _ _ hin)))
    go_wp2_with (go_at_call 21; refine (rin_any _ _ _ _).mono ?_; rw [hin]; rintro e w' ⟨rfl, rfl⟩)
    go_ret
    exact ⟨ret_int HW.out.symm, ((Below.refl _ _).alloc (Nat.le_refl _) _).trans (below_drewN_self _ _ _)⟩
end Go.Proofs.Ytgcbdndfobiphab
