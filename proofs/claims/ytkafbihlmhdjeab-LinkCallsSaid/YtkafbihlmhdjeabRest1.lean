/- All but one block stays (for seats without virtual code; XVRows holds the same). No program. -/
import Derived.Test.YtkafbihlmhdjeabOwn
namespace Go.Proofs.Ytkafbihlmhdjeab
open Go.RowKit
set_option linter.unusedVariables false

theorem grownTrans {w w' w'' : World} {r : Option Nat} (h : w.grownBy w' r) (k : w'.grownBy w'' r) : w.grownBy w'' r :=
  ⟨k.os.trans h.os, k.tape.trans h.tape, k.output.trans h.output, Nat.le_trans h.size k.size, fun x hx hne => (k.block x (Nat.lt_of_lt_of_le hx h.size) hne).trans (h.block x hx hne)⟩
theorem belowOf {w w' : World} {base B : Nat} {r : Option Nat} (h : w.grownBy w' r) (hr : ∀ g, r = some g → B ≤ g) (hb : B ≤ w.heap.size) : Below B w w' :=
  ⟨h.os, h.tape, h.output, h.size, fun k hk => h.block k (Nat.lt_of_lt_of_le hk hb) fun e => by have := hr k e.symm; omega⟩
/-- all but block g stays -/
def Rest1 (g : Nat) (w w' : World) : Prop := w.grownBy w' (some g)
theorem Rest1.refl (g : Nat) (w : World) : Rest1 g w w := ⟨rfl, rfl, rfl, Nat.le_refl _, fun _ _ _ => rfl⟩
theorem Rest1.trans {g : Nat} {w w' w'' : World} (h : Rest1 g w w') (k : Rest1 g w' w'') : Rest1 g w w'' := grownTrans h k
theorem Rest1.ofBelow {g : Nat} {w w' : World} (h : Below w.heap.size w w') : Rest1 g w w' := ⟨h.os, h.tape, h.output, h.size, fun k hk _ => h.block k hk⟩
theorem Rest1.set (g j : Nat) (w : World) (v : Value) : Rest1 g w (w.setCell ⟨g, j, none⟩ v) := ⟨rfl, rfl, rfl, by simp [World.setCell], fun k _ hk => Below.heap_setCell _ _ _ _ (fun e => hk (by rw [e]))⟩
theorem Rest1.block {g : Nat} {w w' : World} (h : Rest1 g w w') (k : Nat) (hk : k < w.heap.size) (hne : k ≠ g) : w'.heap[k]? = w.heap[k]? := World.grownBy.block h k hk (fun e => hne (Option.some.inj e))
theorem Rest1.below {g B : Nat} {w w' : World} (h : Rest1 g w w') (hB : B ≤ g) (hw : B ≤ w.heap.size) : Below B w w' := belowOf (base := 0) h (fun q hq => by simp only [Option.some.injEq] at hq; omega) hw
end Go.Proofs.Ytkafbihlmhdjeab
