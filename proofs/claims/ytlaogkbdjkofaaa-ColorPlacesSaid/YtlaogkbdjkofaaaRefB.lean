/- The contracts of the reference's in and OpWrites. -/
import Derived.Test.YtlaogkbdjkofaaaRefA
import Derived.Test.YtlaogkbdjkofaaaTimingA
import Derived.Deep.RegionHeld3
import Derived.Deep.RegionWith
import Derived.BigQuiet
import Derived.Deep.QuietTactic
namespace Go.Proofs.Ytlaogkbdjkofaaa
open Go.RowKit
set_option linter.unusedVariables false


theorem inB_no {n l h : Int} (hn : ¬ (l ≤ n ∧ n ≤ h)) : inB n l h = false := by rw [← Bool.not_eq_true, inB_true]; exact hn


def IntPost (c : Int) (w : World) (e : Ending) (w' : World) : Prop := e = .returned (.int .i64 c) ∧ Below w.heap.size w w'

/-- the letters that operation op uses, as the table's cell -/
def memS (op : Nat) : ByteArray := ⟨(memL.getD op []).toArray⟩
theorem mem_cell (op : Nat) (h : op < 25) : memArr[op]? = some (.string (memS op)) := by
  rcases (show op = 0 ∨ op = 1 ∨ op = 2 ∨ op = 3 ∨ op = 4 ∨ op = 5 ∨ op = 6 ∨ op = 7 ∨ op = 8 ∨ op = 9 ∨ op = 10 ∨ op = 11 ∨ op = 12 ∨ op = 13 ∨ op = 14 ∨ op = 15 ∨ op = 16 ∨ op = 17 ∨ op = 18 ∨ op = 19 ∨ op = 20 ∨ op = 21 ∨ op = 22 ∨ op = 23 ∨ op = 24 by omega) with rfl | rfl | rfl | rfl | rfl | rfl | rfl | rfl | rfl | rfl | rfl | rfl | rfl | rfl | rfl | rfl | rfl | rfl | rfl | rfl | rfl | rfl | rfl | rfl | rfl <;> rfl
theorem memS_size (op : Nat) (h : op < 25) : (memS op).size ≤ 1000 := by
  have : ∀ k : Fin 25, (memL.getD k.val []).length ≤ 1000 := by decide
  exact this ⟨op, h⟩
/-- does operation op write its register D? -/
theorem wr_has (op : Nat) (h : op < 25) (d : Int) (h20 : op ≠ 20) (h21 : op ≠ 21) : wrOf op d = if hasB (memS op).data.toList 68 = true then d else 0 := by
  have : ∀ k : Fin 25, k.val ≠ 20 → k.val ≠ 21 → hasB (memS k.val).data.toList 68 = decide (¬ ((k.val : Int) = 0 ∨ (k.val : Int) = 13 ∨ (k.val : Int) = 16 ∨ (k.val : Int) = 17 ∨ (k.val : Int) = 18 ∨ (k.val : Int) = 19 ∨ (k.val : Int) = 22 ∨ (k.val : Int) = 23 ∨ (k.val : Int) = 24)) := by decide
  have h2 := this ⟨op, h⟩ h20 h21
  unfold wrOf
  rw [if_neg (by omega), h2]
  by_cases hc : ((op : Int) = 0 ∨ (op : Int) = 13 ∨ (op : Int) = 16 ∨ (op : Int) = 17 ∨ (op : Int) = 18 ∨ (op : Int) = 19 ∨ (op : Int) = 22 ∨ (op : Int) = 23 ∨ (op : Int) = 24)
  · rw [if_pos hc, if_neg]; rw [decide_eq_true_iff]; exact fun h => h hc
  · rw [if_neg hc, if_pos]; exact decide_eq_true hc

end Go.Proofs.Ytlaogkbdjkofaaa
