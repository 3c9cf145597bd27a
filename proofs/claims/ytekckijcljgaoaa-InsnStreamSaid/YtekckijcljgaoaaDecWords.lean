/- Plain laws: what an encoding, with whatever behind it, is decoded to; slices of elements of several cells that a call has gathered. -/
import Derived.Test.YtekckijcljgaoaaSmallRef
import Derived.Test.YtekckijcljgaoaaDecLaws
import Derived.Test.YtekckijcljgaoaaTimingB
namespace Go.Proofs.Ytekckijcljgaoaa
open Go.RowKit
set_option linter.unusedVariables false

theorem decode_words {op d a b n : Int} {l : Bool} (hc : checkE op d a b n = 0) (hs : l = false → shortB n = true) (rest : List Int) :
    decode (refWords op d a b n l ++ rest) = ⟨op, d, a, b, n, if l = true then 2 else 1, 0⟩ := by
  obtain ⟨h0, h1, h2, h3, h4, _, _⟩ := checkE_ok hc
  cases l with
  | true =>
    have hw : 0 ≤ wordOf op d a b + 67108864 ∧ wordOf op d a b + 67108864 ≤ 4294967295 := by unfold wordOf; omega
    have e1 : (wordOf op d a b + 67108864) / 256 % 64 = 0 := by unfold wordOf; omega
    have e2 : (wordOf op d a b + 67108864) / 67108864 % 2 = 1 := by unfold wordOf; omega
    have e3 : (wordOf op d a b + 67108864) % 256 = 0 := by unfold wordOf; omega
    have f1 : (wordOf op d a b + 67108864) / 134217728 = op := by unfold wordOf; omega
    have f2 : (wordOf op d a b + 67108864) / 4194304 % 16 = d := by unfold wordOf; omega
    have f3 : (wordOf op d a b + 67108864) / 262144 % 16 = a := by unfold wordOf; omega
    have f4 : (wordOf op d a b + 67108864) / 16384 % 16 = b := by unfold wordOf; omega
    have f5 : wrap32 (n % 4294967296) = n := by unfold wrap32; omega
    show decWord (wordOf op d a b + 67108864) (n % 4294967296 :: rest) = _
    unfold decWord
    rw [if_pos ⟨hw, e1⟩, if_pos e2, if_pos e3]
    show (if 0 ≤ n % 4294967296 ∧ n % 4294967296 ≤ 4294967295 then decFin (wordOf op d a b + 67108864) (wrap32 (n % 4294967296)) 2 else decBad 3) = _
    rw [if_pos (by omega), f5]
    unfold decFin
    rw [f1, f2, f3, f4, if_pos hc]
    rfl
  | false =>
    have hn := inB_true.1 (hs rfl)
    have hw : 0 ≤ wordOf op d a b + n % 256 ∧ wordOf op d a b + n % 256 ≤ 4294967295 := by unfold wordOf; omega
    have e1 : (wordOf op d a b + n % 256) / 256 % 64 = 0 := by unfold wordOf; omega
    have e2 : ¬ (wordOf op d a b + n % 256) / 67108864 % 2 = 1 := by unfold wordOf; omega
    have f1 : (wordOf op d a b + n % 256) / 134217728 = op := by unfold wordOf; omega
    have f2 : (wordOf op d a b + n % 256) / 4194304 % 16 = d := by unfold wordOf; omega
    have f3 : (wordOf op d a b + n % 256) / 262144 % 16 = a := by unfold wordOf; omega
    have f4 : (wordOf op d a b + n % 256) / 16384 % 16 = b := by unfold wordOf; omega
    have f6 : (wordOf op d a b + n % 256) % 256 = n % 256 := by unfold wordOf; omega
    have f5 : n8 (wordOf op d a b + n % 256) = n := by
      unfold n8; rw [f6]
      simp only [IntKind.wrap, IntKind.bits, IntKind.signed]; simp; omega
    show decWord (wordOf op d a b + n % 256) rest = _
    unfold decWord
    rw [if_pos ⟨hw, e1⟩, if_neg e2, f5]
    unfold decFin
    rw [f1, f2, f3, f4, if_pos hc]
    rfl

theorem flat_get {α : Type} (E : α → List Value) (sz : Nat) (hE : ∀ z, (E z).length = sz) (zs : List α) (i j : Nat) (hj : j < sz) : (zs.flatMap E)[i * sz + j]? = (zs[i]?).bind fun z => (E z)[j]? := by
  induction zs generalizing i with
  | nil => simp
  | cons x r ih =>
    rw [List.flatMap_cons]
    cases i with
    | zero =>
      rw [List.getElem?_append_left (by rw [hE]; omega)]
      simp
    | succ i =>
      rw [List.getElem?_append_right (by rw [hE, Nat.succ_mul]; omega), hE, show (i + 1) * sz + j - sz = i * sz + j by rw [Nat.succ_mul]; omega, ih i]
      simp

/-- what a call has gathered by append, elements of sz cells, as a slice that is handed on -/
theorem came_of_ownsG {w : World} {base : Nat} {e : TypeId} {v : Value} {n sz : Nat} {α : Type} {E : α → List Value} {zs : List α} (hsz : 0 < sz) (hE : ∀ z, (E z).length = sz) (hn : zs.length = n) (h : w.ownsRow base e sz v n (zs.flatMap E)) :
    ∃ a cap, v = .slice a n cap ∧ Came w a n cap sz (zs.map E) := by
  obtain ⟨hl, hr⟩ := h
  have hall : ∀ v ∈ zs.map E, v.length = sz := by
    intro v hv
    obtain ⟨z, _, rfl⟩ := List.mem_map.1 hv
    exact hE z
  rcases hr with ⟨rfl, hx⟩ | ⟨g, c, cur, rfl, hg, hgg, hnc, hcm, hcs, htake⟩
  · have h0 : n = 0 := by
      rw [hx] at hl
      simp at hl
      rcases Nat.eq_zero_or_pos n with h | h
      · exact h
      · have : 0 < n * sz := Nat.mul_pos h hsz
        omega
    subst h0
    exact ⟨none, 0, rfl, by simpa using hn, Nat.le_refl _, by omega, fun _ => ⟨rfl, rfl⟩, hall, fun h => by omega⟩
  · refine ⟨some ⟨g, 0, none⟩, c, rfl, by simpa using hn, hnc, by unfold maxLen at hcm; omega, fun h => by simp at h, hall, fun h0 _ => ⟨g, 0, rfl, lt_of_block hgg, fun i v hv j hj => ?_⟩⟩
    rw [List.getElem?_map] at hv
    obtain ⟨z, hz, rfl⟩ := Option.map_eq_some_iff.1 hv
    have hil : i < zs.length := (List.getElem?_eq_some_iff.1 hz).1
    have hlt : i * sz + j < n * sz := by
      have : (i + 1) * sz ≤ n * sz := Nat.mul_le_mul_right sz (by omega)
      rw [Nat.succ_mul] at this; omega
    have h2 : (cur.toList.take (n * sz))[i * sz + j]? = (E z)[j]? := by rw [htake, flat_get E sz hE zs i j hj, hz]; rfl
    rw [List.getElem?_take, if_pos hlt] at h2
    simp only [World.cell?, hgg, Nat.zero_add]
    simpa using h2
theorem came_of_blkG {w : World} {g : Nat} {t : TypeId} {sz : Nat} {α : Type} {E : α → List Value} {zs : List α} (hsz : 0 < sz) (hE : ∀ z, (E z).length = sz) (h : Blk w g t (zs.flatMap E)) (hm : zs.length ≤ 9223372036854775807) : Came w (some ⟨g, 0, none⟩) zs.length zs.length sz (zs.map E) := by
  refine ⟨by simp, Nat.le_refl _, hm, fun h => by simp at h, ?_, fun _ _ => ⟨g, 0, rfl, h.lt, fun i v hv j hj => ?_⟩⟩
  · intro v hv
    obtain ⟨z, _, rfl⟩ := List.mem_map.1 hv
    exact hE z
  · rw [List.getElem?_map] at hv
    obtain ⟨z, hz, rfl⟩ := Option.map_eq_some_iff.1 hv
    rw [h.cell, Nat.zero_add, flat_get E sz hE zs i j hj, hz]; rfl
end Go.Proofs.Ytekckijcljgaoaa
