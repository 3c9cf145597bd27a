/- The law's function that returns its parameter, and the law's fact. -/
import Derived.Test.YtdnpoomagjcpfaaGreatVLiveC
namespace Go.Proofs.YtdnpoomagjcpfaaGreat
open Go.RowKit
set_option linter.unusedVariables false
set_option linter.unusedSimpArgs false

def b1V : VB := ⟨none, 0, 0, [], ⟨0, 0, 1, 0, 0, none, 0, 0, []⟩⟩
def f1V (p q : Nat) : VF := ⟨0, 2, some ⟨p, 0, none⟩, 1, 1, [1], some ⟨q, 0, none⟩, 1, 1, [b1V]⟩
theorem came_nil (w : World) (sz : Nat) : Came w none 0 0 sz ([] : List (List Value)) := ⟨rfl, Nat.le_refl _, by omega, fun _ => ⟨rfl, rfl⟩, fun v hv => (by cases hv), fun h => by omega⟩
theorem f1V_ok {w : World} {p q : Nat} (hp : Blk w p 3 [.int .i64 1]) (hq : Blk w q 46 (vbC b1V)) : (f1V p q).Ok w := by
 have i0 : ∀ z : Int, 0 ≤ z ∧ z ≤ 5 → I64 z := fun z h => by unfold I64; omega
 refine ⟨⟨rfl, Nat.le_refl _, by show 1 ≤ _; omega, fun h => (by cases h), fun v hv => (by simp [f1V] at hv; subst hv; rfl), fun _ _ => ⟨p, 0, rfl, hp.lt, fun i v hv j hj => ?_⟩⟩, by show 1 * 8 ≤ _; omega, fun z hz => (by simp [f1V] at hz; rw [hz]; exact i0 1 (by omega)), i0 0 (by omega), i0 2 (by omega),
  ⟨rfl, Nat.le_refl _, by show 1 ≤ _; omega, fun h => (by cases h), fun v hv => (by simp [f1V] at hv; subst hv; rfl), fun _ _ => ⟨q, 0, rfl, hq.lt, fun i v hv j hj => ?_⟩⟩, by show 1 * 56 ≤ _; omega, fun z hz => ?_⟩
 ·have hi : i = 0 := by
   rcases i with _ | i
   ·rfl
   ·simp [f1V] at hv
  subst hi
  obtain rfl : j = 0 := by omega
  simp [f1V] at hv
  subst hv
  exact hp.cell 0
 ·have hi : i = 0 := by
   rcases i with _ | i
   ·rfl
   ·simp [f1V] at hv
  subst hi
  simp [f1V] at hv
  subst hv
  rw [show 0 + (0 * 7 + j) = j by omega]
  exact hq.cell j
 ·simp [f1V] at hz
  subst hz
  exact ⟨came_nil w 6, by show 0 ≤ _; omega, fun z hz => (by cases hz), ⟨came_nil w 1, by show 0 ≤ _; omega, i0 0 (by omega), i0 0 (by omega), i0 1 (by omega), i0 0 (by omega), i0 0 (by omega), fun z hz => by cases hz⟩⟩
theorem f1V_live (p q : Nat) : LiveI (f1V p q) 0 1 := .here _ _ (by show genV b1V 1 = true; decide)
theorem f1V_fn (p q : Nat) : fnE (f1V p q) = 0 := by
 have h1 : bigV (f1V p q) = false := by show (decide ((6 : Int) < 1) || decide ((4096 : Int) < 1) || !inB 2 1 8192) = false; decide
 have h2 : parE 2 [] [1] = 0 := by decide
 have h3 : blkE 2 1 0 [b1V] = 0 := by decide
 unfold fnE
 rw [h1]
 simp only [Bool.false_eq_true, if_false]
 rw [if_neg (by show ¬ (1 = 0); omega), show (f1V p q).regs = 2 from rfl, show (f1V p q).params = [1] from rfl, show (f1V p q).blocks = [b1V] from rfl, show (((f1V p q).sn : Nat) : Int) = 1 from rfl, h2, h3]
 simp only [ne_eq, not_true_eq_false, if_false]
 unfold liveE
 rw [if_neg]
 rintro ⟨r, hr, hl, hm⟩
 have h0 := hl.pos
 have hr2 : (r : Int) < 2 := hr
 obtain rfl : r = 1 := by omega
 exact hm (by show ((1 : Nat) : Int) ∈ [(1 : Int)]; simp)
set_option maxRecDepth 100000 in
set_option maxHeartbeats 2000000 in
theorem same1_ok (w : World) : Calls Tryz.prog 17 #[] w (fun e w' => ∃ p q, e = .returned (f1V p q).v ∧ (f1V p q).Ok w' ∧ Below w.heap.size w w') := by
 go_enter Tryz.func17, Tryz.ntmps17
 go_wp2
 refine bodyPost_ret (v := (f1V (w.heap.size + 1) (w.heap.size + 2)).v) (by simp [results, Tryz.results17, go_sem, VF.v, f1V]) rfl ⟨_, _, rfl, f1V_ok ?_ ?_, ?_⟩
 ·have := Blk.new (w.alloc (.cells #[.int .i64 0, .slice (some ⟨w.heap.size + 1, 0, none⟩) 1 1, .int .i64 2, .slice (some ⟨w.heap.size + 1 + 1, 0, none⟩) 1 1] 25)) [.int .i64 1] 3
  rw [World.size_alloc] at this
  exact this.alloc _
 ·have := Blk.new ((w.alloc (.cells #[.int .i64 0, .slice (some ⟨w.heap.size + 1, 0, none⟩) 1 1, .int .i64 2, .slice (some ⟨w.heap.size + 1 + 1, 0, none⟩) 1 1] 25)).alloc (.cells #[.int .i64 1] 3)) (vbC b1V) 46
  rwa [World.size_alloc, World.size_alloc] at this
 ·exact (((Below.refl _ _).alloc (Nat.le_refl _) _).alloc (by simp) _).alloc (by simp; omega) _
end Go.Proofs.YtdnpoomagjcpfaaGreat
