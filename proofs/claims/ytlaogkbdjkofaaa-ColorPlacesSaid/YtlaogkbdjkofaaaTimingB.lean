/- The contract of timing's Reads. -/
import Derived.Test.YtlaogkbdjkofaaaTimingA
import Derived.Test.YtlaogkbdjkofaaaOpens
namespace Go.Proofs.Ytlaogkbdjkofaaa
open Go.RowKit
set_option linter.unusedVariables false

theorem Try.infoT3 : (Try.prog.info? 3).map (fun i => (i.zero, i.size, i.bytes)) = some (some (.int .i64 0), 1, 8) := by kernel_rfl

def nz (l : List Int) : List Int := l.filter fun x => x != 0

def AddPost (Bo bl : Nat) (zs : List Int) (w : World) (e : Ending) (w' : World) : Prop :=
  e = .returned (.tuple #[]) ∧ ∃ v, Blk w' Bo 22 [v] ∧ w'.ownsRow w.heap.size 3 1 v (nz zs).length ((nz zs).map (Value.int .i64)) ∧ ∀ B, B ≤ Bo → Below B w w'

theorem nz_take_succ (l : List Int) (k : Nat) (h : k < l.length) : nz (l.take (k + 1)) = nz (l.take k) ++ (if l[k] = 0 then [] else [l[k]]) := by
  unfold nz
  rw [List.take_succ_eq_append_getElem h, List.filter_append]
  split
  · rename_i h0; simp [h0]
  · rename_i h0; simp [h0]

theorem owns_shape {w : World} {base : Nat} {e : TypeId} {size : Nat} {v : Value} {n : Nat} {l : List Value} (h : w.ownsRow base e size v n l) : ∃ a m cap, v = .slice a m cap := by
  rcases h.2 with ⟨rfl, _⟩ | ⟨g, c, cur, rfl, _⟩
  · exact ⟨_, _, _, rfl⟩
  · exact ⟨_, _, _, rfl⟩

theorem nz_len (l : List Int) (k : Nat) : (nz (l.take k)).length ≤ k := by
  unfold nz
  have h1 := List.length_filter_le (fun x : Int => x != 0) (l.take k)
  have h2 := List.length_take_le k l
  omega

end Go.Proofs.Ytlaogkbdjkofaaa
