/- tile's Live. -/
import Derived.Test.YtlcnbihfpjhffaaVCheck
namespace Go.Proofs.Ytlcnbihfpjhffaa
open Go.RowKit
set_option linter.unusedVariables false
set_option linter.unusedSimpArgs false

/-- an own row of rows of bools -/
structure EndV (w wr : World) (v : Value) (n : Nat) (Y : List (Nat → Bool)) (es : Nat → Nat) : Prop where
 own : wr.ownsRow w.heap.size 63 1 v Y.length ((List.range Y.length).map fun i => .slice (some ⟨es i, 0, none⟩) n n)
 row : ∀ i (hi : i < Y.length), BRow wr (es i) n Y[i]
theorem fnE_zero {f : VF} (h : fnE f = 0) : 0 < f.sn ∧ f.sn ≤ 4096 ∧ (1 ≤ f.regs ∧ f.regs ≤ 8192) ∧ blkE f.regs f.sn 0 f.blocks = 0 := by
 unfold fnE at h
 split at h
 ·cases h
 ·rename_i h1
  have hb9 : bigV f = false := by simpa using h1
  simp only [bigV, Bool.or_eq_false_iff, decide_eq_false_iff_not, Bool.not_eq_false'] at hb9
  have h9 := inB_true.1 hb9.2
  split at h
  ·cases h
  ·split at h
   ·rename_i h3; exact absurd h h3
   ·split at h
    ·rename_i h4; exact absurd h h4
    ·rename_i h2 _ h4
     exact ⟨by omega, by have := hb9.1.2; omega, h9, Classical.not_not.1 h4⟩
theorem Try.infoR263 : (Try.prog.info? 63).map (fun i => (i.zero, i.size, i.bytes)) = some (some (.slice none 0 0), 1, 24) := by kernel_rfl
theorem EndV.below {w wr w' : World} {v : Value} {n : Nat} {Y : List (Nat → Bool)} {es : Nat → Nat} (h : EndV w wr v n Y es) (hb : Below wr.heap.size wr w') : EndV w w' v n Y es :=
 ⟨ownG_below h.own hb, fun i hi => (h.row i hi).below hb (Blk.lt (h.row i hi))⟩
set_option maxRecDepth 100000 in
theorem EndV.push {w wr : World} {v : Value} {n g : Nat} {Y : List (Nat → Bool)} {es : Nat → Nat} {l : Nat → Bool} (h : EndV w wr v n Y es) (hg : BRow wr g n l) (hw : w.heap.size ≤ wr.heap.size) (hY : Y.length ≤ 100000) (ty : TypeId) :
  ∃ v' w', (Builtin.append_ #[62, 62] ty #[v, .slice (some ⟨wr.heap.size, 0, none⟩) 1 1]).run Try.prog (wr.alloc (.cells #[.slice (some ⟨g, 0, none⟩) n n] 63)) = .ok v' w' ∧ EndV w w' v' n (Y ++ [l]) (fun i => if i = Y.length then g else es i) ∧
   (wr.alloc (.cells #[.slice (some ⟨g, 0, none⟩) n n] 63)).grownBy w' v.ownBlock := by
 obtain ⟨i, hi, hz, hs, hby⟩ := info_partsV Try.infoR263
 have hbk := Blk.new wr [.slice (some ⟨g, 0, none⟩) n n] 63
 obtain ⟨v', w', e1, e2, e3, _⟩ := run_append_own (P := Try.prog) (wr.alloc (.cells #[.slice (some ⟨g, 0, none⟩) n n] 63)) w.heap.size 62 ty 63 i (.slice none 0 0) 1 24 Try.underlying62 hi hz hs hby rfl (by decide) v Y.length _ (h.own.alloc _) ⟨wr.heap.size, 0, none⟩ 1 1 [.slice (some ⟨g, 0, none⟩) n n] rfl (fun j u hu => by
  rw [Addr.add_lit, Nat.zero_add]
  exact (hbk.cell j).trans hu) (by intro u hu; simp at hu; rw [hu]; rfl) (by unfold maxLen; omega) (by omega) (by simp; omega)
 have key : ∀ b q (l' : Nat → Bool), BRow wr b q l' → BRow w' b q l' := fun b q l' hb => by
  have h1 : BRow (wr.alloc (.cells #[.slice (some ⟨g, 0, none⟩) n n] 63)) b q l' := Blk.alloc hb _
  refine Blk.of_heap h1 (e3.block b (Blk.lt h1) fun e => ?_)
  obtain ⟨_, h2⟩ := h.own
  rcases h2 with ⟨h0, _⟩ | ⟨g', cap', cur, hv, hg', hh, _⟩
  ·rw [h0] at e; cases e
  ·rw [hv] at e
   have : b = g' := by simpa [Value.ownBlock] using e
   subst this
   have h3 : wr.heap[b]? = _ := hb
   rw [hh] at h3
   injection h3 with h3
   injection h3 with _ h3 _
   exact absurd h3 (by decide)
 refine ⟨v', w', e1, ⟨?_, fun j hj => ?_⟩, e3⟩
 ·rw [List.length_append]
  have e4 : ((List.range (Y.length + [l].length)).map fun i => Value.slice (some ⟨(if i = Y.length then g else es i), 0, none⟩) n n) = ((List.range Y.length).map fun i => Value.slice (some ⟨es i, 0, none⟩) n n) ++ [.slice (some ⟨g, 0, none⟩) n n] := by
   simp only [List.length_cons, List.length_nil, Nat.zero_add]
   rw [List.range_succ, List.map_append]
   congr 1
   ·refine List.map_congr_left fun k hk => ?_
    have := List.mem_range.1 hk
    simp [show k ≠ Y.length by omega]
   ·simp
  rw [e4]
  exact e2
 ·by_cases e : j = Y.length
  ·subst e
   simp only [if_true, List.getElem_concat_length]
   exact key _ _ _ hg
  ·have hj2 : j < Y.length := by rw [List.length_append] at hj; simp at hj; omega
   simp only [e, if_false]
   rw [List.getElem_append_left hj2]
   exact key _ _ _ (h.row j hj2)

end Go.Proofs.Ytlcnbihfpjhffaa
