/- A region that draws its order, whose operations read what lies below block B, and whose calls leave all below B as it was and hand back values that do not hang on the order. After Derived/Deep/Quiet.lean's theorem, at another class of worlds. -/
import Derived.Test.YtlaogkbdjkofaaaHeadW
import Derived.Test.YtlaogkbdjkofaaaBlk
import Derived.BigQuiet
import Derived.Deep.QuietTactic
namespace Go.Proofs.Ytlaogkbdjkofaaa
open Go.RowKit

/-- a world in which all below block B is as it was in w -/
structure After (B : Nat) (w : World) where
  world : World
  below : Below B w world

instance (B : Nat) (w : World) : Nonempty (After B w) := ⟨⟨w, Below.refl _ _⟩⟩

theorem wp_region_after {P : Program} {id : Nat} {Q : Exit → Act → World → Prop} {a : Act} {w : World} {l : List Oper} (B : Nat) (hm : P.follows .mixedOrders = true) (hB : Region.lexB .any l.toArray = true)
    (h : wpQuiet P l.toArray (fun w' => ∃ x : After B w, w' = x.world) (fun a' => ∀ w', (∃ x : After B w, w' = x.world) → Q .normal a' w') l a) : (Code.region id l.toArray true).wp P Q a w :=
  wp_region_quiet (C := fun w' => ∃ x : After B w, w' = x.world) hm hB ⟨⟨w.drew, (Below.refl B w).drew⟩, rfl⟩ (by simpa using h)

/-- a contract met inside such a region -/
theorem After.call {P : Program} {f : FuncId} {args : Array Value} {B : Nat} {w : World} (x : After B w) {v : Value} (hB : B ≤ w.heap.size)
    (h : Calls P f args x.world fun e w' => e = .returned v ∧ Below x.world.heap.size x.world w') : Calls P f args x.world fun e w'' => e = .returned v ∧ ∃ y : After B w, w'' = y.world :=
  h.mono fun _ w' ⟨he, hb⟩ => ⟨he, ⟨w', x.below.trans (hb.mono (Nat.le_trans hB x.below.size))⟩, rfl⟩
end Go.Proofs.Ytlaogkbdjkofaaa
