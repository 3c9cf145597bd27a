/- Rows that a call makes and writes: a block's cells as a function of the index. 'make' as an equation for every world. No function of the program. -/
import Derived.Test.YtlaogkbdjkofaaaBlk
import Derived.Test.YtlaogkbdjkofaaaOpens
import Derived.Deep.OwnRows
namespace Go.Proofs.Ytlaogkbdjkofaaa
open Go.RowKit Go.Deep
set_option linter.unusedVariables false

def rowL (n : Nat) (f : Nat → Value) : List Value := (List.range n).map f
theorem rowL_length (n : Nat) (f : Nat → Value) : (rowL n f).length = n := by simp [rowL]
theorem rowL_get {n : Nat} {f : Nat → Value} {i : Nat} (h : i < n) : (rowL n f)[i]? = some (f i) := by
  unfold rowL; rw [List.getElem?_map, List.getElem?_range h]; rfl
theorem rowL_congr {n : Nat} {f g : Nat → Value} (h : ∀ i, i < n → f i = g i) : rowL n f = rowL n g := by
  unfold rowL
  exact List.map_congr_left fun i hi => h i (List.mem_range.1 hi)
theorem rowL_set (n : Nat) (f : Nat → Value) (j : Nat) (v : Value) : (rowL n f).set j v = rowL n (fun i => if i = j then v else f i) := by
  apply List.ext_getElem?
  intro i
  rw [List.getElem?_set]
  by_cases hi : i < n
  · rw [rowL_get hi, rowL_get hi, rowL_length]
    by_cases e : j = i
    · subst e; simp [hi]
    · rw [if_neg e, if_neg (Ne.symm e)]
  · have h1 : (rowL n f)[i]? = none := List.getElem?_eq_none (by rw [rowL_length]; omega)
    have h2 : (rowL n (fun i => if i = j then v else f i))[i]? = none := List.getElem?_eq_none (by rw [rowL_length]; omega)
    rw [h1, h2, rowL_length]
    split
    · rw [if_neg (by omega)]
    · rfl
theorem rowL_rep (n : Nat) (z : Value) : List.replicate n z = rowL n (fun _ => z) := by
  unfold rowL
  apply List.ext_getElem?
  intro i
  by_cases hi : i < n
  · rw [List.getElem?_replicate, if_pos hi, List.getElem?_map, List.getElem?_range hi]; rfl
  · rw [List.getElem?_replicate, if_neg hi, List.getElem?_map, List.getElem?_eq_none (by simp; omega)]; rfl

theorem Blk.row {w : World} {b : Nat} {t : TypeId} {n : Nat} {f : Nat → Value} (h : Blk w b t (rowL n f)) {i : Nat} (hi : i < n) : w.cell? ⟨b, i, none⟩ = some (f i) := by
  rw [h.cell, rowL_get hi]
theorem Blk.rowSet {w : World} {b : Nat} {t : TypeId} {n : Nat} {f : Nat → Value} (h : Blk w b t (rowL n f)) (j : Nat) (v : Value) : Blk (w.setCell ⟨b, j, none⟩ v) b t (rowL n (fun i => if i = j then v else f i)) := by
  rw [← rowL_set]; exact h.set j v
theorem Blk.rowCongr {w : World} {b : Nat} {t : TypeId} {n : Nat} {f g : Nat → Value} (h : Blk w b t (rowL n f)) (e : ∀ i, i < n → f i = g i) : Blk w b t (rowL n g) := by
  rw [← rowL_congr e]; exact h

theorem madeCells_rep (z : Value) (n : Nat) : madeCells #[z] n = (List.replicate n z).toArray := by
  apply Array.ext
  · simp [size_madeCells]
  · intro i h1 h2
    simp [madeCells, Nat.mod_one]
theorem run_make_rep {P : Program} (t e : TypeId) (z : Value) (bytes : Nat) (ht : P.underlying t = some (.slice e)) (hinfo : (P.info? e).map (fun i => (i.zero, i.size, i.bytes)) = some (some z, 1, bytes)) (hz1 : z.cells = #[z])
    (n : Nat) (hbytes : bytes * n ≤ 281474976710656) (h63 : n ≤ 9223372036854775807) (w : World) :
    (Instr.makeSlice t (.int .i64 (n : Int)) (.int .i64 (n : Int))).run P w = .ok (.slice (some ⟨w.heap.size, 0, none⟩) n n) (w.alloc (.cells (rowL n (fun _ => z)).toArray e)) := by
  rw [run_make_row' t e z bytes ht hinfo hz1 .i64 .i64 n hbytes h63 w, madeCells_rep, rowL_rep]

/-- a made row, as a slice that is handed on -/
theorem came_of_row {w : World} {g : Nat} {t : TypeId} {n : Nat} {f : Nat → Value} (h : Blk w g t (rowL n f)) (hm : n ≤ 9223372036854775807) : Came w (some ⟨g, 0, none⟩) n n 1 ((rowL n f).map fun v => [v]) := by
  refine ⟨by simp [rowL_length], Nat.le_refl _, hm, fun h => by simp at h, ?_, fun _ _ => ⟨g, 0, rfl, h.lt, fun i v hv j hj => ?_⟩⟩
  · intro v hv
    obtain ⟨z, _, rfl⟩ := List.mem_map.1 hv
    rfl
  · obtain rfl : j = 0 := by omega
    rw [List.getElem?_map] at hv
    obtain ⟨z, hz, rfl⟩ := Option.map_eq_some_iff.1 hv
    rw [h.cell]
    simp [hz]
end Go.Proofs.Ytlaogkbdjkofaaa
