/- The contract of relax's starts. -/
import Derived.Test.YtkafbihlmhdjeabMade
import Derived.Test.YtkafbihlmhdjeabTimingB
namespace Go.Proofs.Ytkafbihlmhdjeab
open Go.RowKit
set_option linter.unusedVariables false

theorem Try.infoT4 : (Try.prog.info? 4).map (fun i => (i.zero, i.size, i.bytes)) = some (some (.bool false), 1, 1) := by kernel_rfl

/-- the address of item i -/
def posL (L : Nat → Bool) : Nat → Int
  | 0 => 0
  | i + 1 => posL L i + (if L i = true then 2 else 1)
theorem posL_bd (L : Nat → Bool) (i : Nat) : (i : Int) ≤ posL L i ∧ posL L i ≤ 2 * i := by
  induction i with
  | zero => simp [posL]
  | succ i ih => unfold posL; split <;> omega

/-- a slice of bools: element i is L i -/
def BoolsAt (w : World) (b off n : Nat) (L : Nat → Bool) : Prop := ∀ i, i < n → w.cell? ⟨b, off + i, none⟩ = some (.bool (L i))

def RowPost (n : Nat) (t : TypeId) (f : Nat → Value) (w : World) (e : Ending) (w' : World) : Prop :=
  ∃ g, e = .returned (.slice (some ⟨g, 0, none⟩) n n) ∧ Blk w' g t (rowL n f) ∧ w.heap.size ≤ g ∧ Below w.heap.size w w'

set_option maxRecDepth 100000 in
set_option maxHeartbeats 2000000 in
theorem starts_any (a : Option Addr) (len cap : Nat) (lb lo lcap : Nat) (L : Nat → Bool) (w : World) (hn : len ≤ 16384) (hL : BoolsAt w lb lo len L) (hlb : lb < w.heap.size) (hcap : len ≤ lcap ∧ lcap ≤ 9223372036854775807) :
    Calls Try.prog 69 #[.slice a len cap, .slice (some ⟨lb, lo, none⟩) len lcap] w (RowPost (len + 1) 3 (fun i => .int .i64 (posL L i)) w) := by
  have hmk := run_make_rep (P := Try.prog) 24 3 (.int .i64 0) 8 Try.underlying24 Try.infoT3 rfl (len + 1) (by omega) (by omega)
  have ec : ((len + 1 : Nat) : Int) = (len : Int) + 1 := by omega
  rw [ec] at hmk
  have HL := Lib.hid hL
  clear hL ec
  go_enter Try.func69, Try.ntmps69
  go_wp2_with fail
  go_loopw [14] (fun u wr => ∃ k : Nat, k ≤ len ∧ u = .int .i64 k ∧ Blk wr w.heap.size 3 (rowL (len + 1) (fun i => .int .i64 (if i ≤ k then posL L i else 0))) ∧ Below w.heap.size w wr) (fun u _ => len - (intOf u).toNat)
  case atStart =>
    refine ⟨0, Nat.zero_le _, rfl, ?_, (Below.refl _ _).alloc (Nat.le_refl _) _⟩
    refine (Blk.new w _ _).rowCongr fun i _ => ?_
    cases i <;> simp [posL]
  case round =>
    clear hmk
    obtain ⟨k, hk, rfl, hblk, hb⟩ := hrel
    by_cases hlt : k < len
    · have c0 := (hb.cell (p := ⟨lb, lo + k, none⟩) hlb).trans (HL.out k hlt)
      have c1 := hblk.row (i := k) (by omega)
      rw [if_pos (Nat.le_refl k)] at c1
      have c2 := hblk.row (i := k + 1) (by omega)
      have f2 := hblk.free (k + 1)
      have hps := posL_bd L k
      have HPS : Hid (posL L (k + 1) = posL L k + (if L k = true then 2 else 1)) := rfl
      have HBLK := Lib.hid hblk
      have HB := Lib.hid hb
      clear hblk hb
      obtain ⟨p, hp⟩ : ∃ p, p = posL L k := ⟨_, rfl⟩
      obtain ⟨y, hy⟩ : ∃ y : Int, y = if k + 1 ≤ k then posL L (k + 1) else 0 := ⟨_, rfl⟩
      rw [← hp] at c1 hps HPS
      rw [← hy] at c2
      clear hp hy
      cases hlk : L k
      all_goals
        rw [hlk] at c0 HPS
        go_wp2_with fail
        go_roundw
        case rel =>
          refine ⟨k + 1, by omega, by go_num, ?_, HB.out.setCell (p := ⟨w.heap.size, k + 1, none⟩) (Nat.le_refl _) _⟩
          refine (HBLK.out.rowSet (k + 1) _).rowCongr fun i _ => ?_
          by_cases e : i = k + 1
          · subst e; simp [HPS.out]
          · simp only [if_neg e]
            by_cases e2 : i ≤ k
            · rw [if_pos e2, if_pos (by omega)]
            · rw [if_neg e2, if_neg (by omega)]
        case measure => simp [intOf]; omega
    · have ek : k = len := by omega
      subst ek
      go_wp2_with fail
      go_ret
      exact ⟨_, rfl, hblk.rowCongr fun i hi => by rw [if_pos (by omega)], Nat.le_refl _, hb⟩
end Go.Proofs.Ytkafbihlmhdjeab
