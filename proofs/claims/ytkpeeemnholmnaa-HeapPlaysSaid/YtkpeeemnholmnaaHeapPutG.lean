/- The general put and Store of the heap; any allocation with an odd fill keeps the heap's invariant. -/
import Derived.Test.YtkpeeemnholmnaaHeapPut
import Derived.Deep.AppendLies
namespace Go.Proofs.Ytkpeeemnholmnaa
open Go.RowKit
set_option linter.unusedVariables false

theorem contains_intL {l : List Nat} {j : Nat} : (intL l).contains (j : Int) = true ↔ j ∈ l := by
  rw [List.contains_iff_mem]
  unfold intL
  rw [List.mem_map]
  constructor
  · rintro ⟨x, hx, e⟩
    have : x = j := by omega
    rw [← this]; exact hx
  · exact fun h => ⟨j, h, rfl⟩
def PutPost (p mb : Nat) (rv : Value) (S : HS) (i : Nat) (v : Int) (w : World) (e : Ending) (w' : World) : Prop :=
  ∃ rv' rem', e = .returned (.tuple #[]) ∧ HeapSt w' p mb rv' { S with m := fun j => if j = i then v else S.m j, rem := rem' } ∧ HStep p mb rv rv' w w' ∧
    ((rem' = S.rem ∧ (inB (i : Int) S.from_ (S.from_ + S.half - 1) = false ∨ youngB S.nursery v = false ∨ i ∈ S.rem)) ∨ (rem' = S.rem ++ [i] ∧ i ∉ S.rem ∧ inB (i : Int) S.from_ (S.from_ + S.half - 1) = true))

set_option maxRecDepth 100000 in
set_option maxHeartbeats 4000000 in
theorem put_any (w : World) (p mb : Nat) (rv : Value) (S : HS) (h : HeapSt w p mb rv S) (ok : S.Ok) (hrl : S.rem.length ≤ 65536) (i : Nat) (v : Int) (hv : v ≤ 2147483647) (hi : i < S.n) :
    Calls Try.prog 26 #[.pointer (some ⟨p, 0, none⟩), .int .i64 (i : Int), .int .i64 v] w (PutPost p mb rv S i v w) := by
  by_cases hq : inB (i : Int) S.from_ (S.from_ + S.half - 1) = false ∨ youngB S.nursery v = false
  · refine (put_plain w p mb rv S h ok i v hv hi hq).mono ?_
    rintro e w' ⟨n, rfl, rfl⟩
    exact ⟨rv, S.rem, rfl, (h.setM i v).drewN n, (HStep.setM i (.int .i64 v)).trans (HStep.drewN n), .inl ⟨rfl, hq.imp id .inl⟩⟩
  have hin : inB (i : Int) S.from_ (S.from_ + S.half - 1) = true := by
    rcases Bool.eq_false_or_eq_true (inB (i : Int) S.from_ (S.from_ + S.half - 1)) with h | h
    · exact h
    · exact absurd (.inl h) hq
  have hyg : youngB S.nursery v = true := by
    rcases Bool.eq_false_or_eq_true (youngB S.nursery v) with h | h
    · exact h
    · exact absurd (.inr h) hq
  clear hq
  have hrr := h.rr
  obtain ⟨ra, rc, rfl⟩ := own_slice hrr
  have hcm := (came_of_remL hrr).2
  obtain ⟨i0, hi0, hz0, hz1, hz2⟩ := info_parts Try.infoH3
  obtain ⟨c0, c1, c2, c3, c4, c5, c6, c7⟩ := h.cells
  have cm := h.word hi
  have fm := h.mm.free i
  have hne := h.d1
  have HSET := Lib.hid (h.setM i v)
  have hpl := h.st.lt
  have hml := h.mm.lt
  obtain ⟨⟨o1, o2⟩, o3, o4, ⟨o5, o6⟩, o7, ⟨o8, o9⟩, o10, o11⟩ := ok
  obtain ⟨x, hx⟩ : ∃ x, x = S.m i := ⟨_, rfl⟩
  rw [← hx] at cm
  clear hx c1 c3 c6 h hrr
  have HQ := fun w => in_q (i : Int) (S.from_ : Int) ((S.from_ : Int) + S.half - 1) w
  rw [hin] at HQ
  have HY := fun w c2 => inYoung_any w p S.nursery v hv c2
  rw [hyg] at HY
  have HCN : ∀ wx, Came wx ra S.rem.length rc 1 ((intL S.rem).map intCells) → Calls Try.prog 36 #[.slice ra S.rem.length rc, .int .i64 (i : Int)] wx fun e w' => e = .returned (.bool ((intL S.rem).contains (i : Int))) ∧ w' = wx := fun wx hx => (hcontains_ints wx ra S.rem.length rc (intL S.rem) (i : Int) hx).mono fun _ _ ⟨he, hw⟩ => ⟨he, hw.symm⟩
  have HIN := Lib.hid hin
  clear hin hyg
  rcases Bool.eq_false_or_eq_true ((intL S.rem).contains (i : Int)) with hct | hct <;> rw [hct] at HCN
  · go_enter Try.func26, Try.ntmps26
    go_wp2_with fail
    have hd := HSET.out.cells
    have d0 := hd.c0
    have d2 : (w.setCell ⟨mb, i, none⟩ (.int .i64 v)).cell? ⟨p, 2, none⟩ = some (.int .i64 (S.nursery : Int)) := hd.c2
    have d4 : (w.setCell ⟨mb, i, none⟩ (.int .i64 v)).cell? ⟨p, 4, none⟩ = some (.int .i64 (S.half : Int)) := hd.c4
    have d5 : (w.setCell ⟨mb, i, none⟩ (.int .i64 v)).cell? ⟨p, 5, none⟩ = some (.int .i64 (S.from_ : Int)) := hd.c5
    have d7 : (w.setCell ⟨mb, i, none⟩ (.int .i64 v)).cell? ⟨p, 7, none⟩ = some (.slice ra S.rem.length rc) := hd.c7
    have HSM : Hid (HStep p mb (.slice ra S.rem.length rc) (.slice ra S.rem.length rc) w (w.setCell ⟨mb, i, none⟩ (.int .i64 v))) := HStep.setM i (.int .i64 v)
    have hsz : Hid ((w.setCell ⟨mb, i, none⟩ (.int .i64 v)).heap.size = w.heap.size) := by unfold Hid; simp [World.setCell]
    clear hd d0 c0 c2 c4 c5 c7 cm fm
    have HCW : Hid (Came (w.setCell ⟨mb, i, none⟩ (.int .i64 v)) ra S.rem.length rc 1 ((intL S.rem).map intCells)) := (came_of_remL HSET.out.rr).2
    generalize w.setCell ⟨mb, i, none⟩ (.int .i64 v) = w1 at HSET HSM HCW d2 d4 d5 d7 hsz ⊢
    go_quiet (first | (go_at_call 23; exact Calls.quiet_of_same (HQ _)) | (go_at_call 35; exact Calls.quiet_of_same (HY _ (by assumption))) | (go_at_call 36; exact Calls.quiet_of_same (HCN _ (HCW.out.below (below_drewN_self _ _ _)))))
    go_wp2_with fail
    go_end0
    exact ⟨_, S.rem, rfl, HSET.out.drewN _, HSM.out.trans (HStep.drewN _), .inl ⟨rfl, .inr (.inr (contains_intL.1 hct))⟩⟩
  · go_enter Try.func26, Try.ntmps26
    go_wp2_with fail
    have hd := HSET.out.cells
    have d0 := hd.c0
    have d2 : (w.setCell ⟨mb, i, none⟩ (.int .i64 v)).cell? ⟨p, 2, none⟩ = some (.int .i64 (S.nursery : Int)) := hd.c2
    have d4 : (w.setCell ⟨mb, i, none⟩ (.int .i64 v)).cell? ⟨p, 4, none⟩ = some (.int .i64 (S.half : Int)) := hd.c4
    have d5 : (w.setCell ⟨mb, i, none⟩ (.int .i64 v)).cell? ⟨p, 5, none⟩ = some (.int .i64 (S.from_ : Int)) := hd.c5
    have d7 : (w.setCell ⟨mb, i, none⟩ (.int .i64 v)).cell? ⟨p, 7, none⟩ = some (.slice ra S.rem.length rc) := hd.c7
    have HSM : Hid (HStep p mb (.slice ra S.rem.length rc) (.slice ra S.rem.length rc) w (w.setCell ⟨mb, i, none⟩ (.int .i64 v))) := HStep.setM i (.int .i64 v)
    have hsz : Hid ((w.setCell ⟨mb, i, none⟩ (.int .i64 v)).heap.size = w.heap.size) := by unfold Hid; simp [World.setCell]
    clear hd d0 c0 c2 c4 c5 c7 cm fm
    have HCW : Hid (Came (w.setCell ⟨mb, i, none⟩ (.int .i64 v)) ra S.rem.length rc 1 ((intL S.rem).map intCells)) := (came_of_remL HSET.out.rr).2
    generalize w.setCell ⟨mb, i, none⟩ (.int .i64 v) = w1 at HSET HSM HCW d2 d4 d5 d7 hsz ⊢
    go_quiet (first | (go_at_call 23; exact Calls.quiet_of_same (HQ _)) | (go_at_call 35; exact Calls.quiet_of_same (HY _ (by assumption))) | (go_at_call 36; exact Calls.quiet_of_same (HCN _ (HCW.out.below (below_drewN_self _ _ _)))))
    have HO := Lib.hid (HSET.out.drewN nq).rr
    have HA2 := Lib.hid (cell_one_new (w1.drewN nq) (.int .i64 (i : Int)) 3)
    have HA3 : Hid (∀ u ∈ [Value.int .i64 (i : Int)], u.oneCell' = true) := by intro u hu; simp at hu; subst hu; rfl
    go_wp2_with (at_builtin; go_loud (refine wpList_append_lies _ rfl _ _ 22 rfl 0 3 i0 (.int .i64 0) 1 8 Try.underlying22 hi0 hz0 hz1 hz2 rfl (by decide) _ S.rem.length (remL S.rem) rfl (HO.out.alloc _) ⟨w1.heap.size, 0, none⟩ 1 1 [.int .i64 (i : Int)] rfl rfl HA2.out HA3.out (by decide) (by unfold maxLen; omega) (by omega) (Nat.zero_le _) (w1.heap.size + 1) (by simp) ?_))
    intro g7 cap7 w7 hown' hgrow hwh hlt7
    have hs := hsz.out
    have hal : ∀ k, k < w1.heap.size → ((w1.drewN nq).alloc (.cells #[.int .i64 (i : Int)] 3)).heap[k]? = w1.heap[k]? := fun k hk => ((below_drewN_self w1.heap.size w1 nq).trans ((Below.refl w1.heap.size (w1.drewN nq)).alloc (Nat.le_refl _) (.cells #[.int .i64 (i : Int)] 3))).block k hk
    have hsz2 : ((w1.drewN nq).alloc (.cells #[.int .i64 (i : Int)] 3)).heap.size = w1.heap.size + 1 := by simp
    have hkk : ∀ k, k < w1.heap.size → (Value.slice ra S.rem.length rc).ownBlock ≠ some k → w7.heap[k]? = w1.heap[k]? := fun k hk hne => (hgrow.block k (by omega) (fun e => hne e.symm)).trans (hal k hk)
    have hsize7 : w1.heap.size ≤ w7.heap.size := by have := hgrow.size; omega
    have hgp : g7 ≠ p ∧ g7 ≠ mb ∧ ((Value.slice ra S.rem.length rc).ownBlock = some g7 ∨ w.heap.size ≤ g7) := by
      rcases hwh with h1 | h1
      · exact ⟨fun e => HSET.out.d2 (by rw [h1, e]), fun e => HSET.out.d3 (by rw [h1, e]), .inl h1⟩
      · exact ⟨by omega, by omega, .inr (by omega)⟩
    have hst7 : Blk w7 p 62 [.slice (some ⟨mb, 0, none⟩) S.n S.n, .int .i64 S.stack, .int .i64 S.nursery, .int .i64 S.young, .int .i64 S.half, .int .i64 S.from_, .int .i64 S.old, .slice ra S.rem.length rc] := HSET.out.st.of_heap (hkk p (by omega) HSET.out.d2)
    have hmm7 := HSET.out.mm.of_heap (hkk mb (by omega) HSET.out.d3)
    have e7 : w7.cell? ⟨p, 7, none⟩ = some (.slice ra S.rem.length rc) := by rw [hst7.cell]; rfl
    have f7 := hst7.free 7
    have hstep7 : Hid (HStep p mb (.slice ra S.rem.length rc) (.slice ra S.rem.length rc) w1 w7) := ⟨hgrow.os, hgrow.tape, hgrow.output, hsize7, fun k h1 h2 h3 h4 => hkk k h1 h4, fun g hg => .inl hg⟩
    have HS7 := Lib.hid hst7
    have HM7 := Lib.hid hmm7
    have HGP := Lib.hid hgp
    have HOW := Lib.hid hown'
    have HNM : Hid (i ∉ S.rem) := fun hm => by rw [contains_intL.2 hm] at hct; cases hct
    clear hst7 hmm7 hgp hown' hgrow hwh hal hsz2 hkk HO HA2 HA3 HQ HY HCN d2 d4 d5 d7 hct hs
    go_wp2_with fail
    go_end0
    have hv9 := HGP.out
    have hp9 : (Value.slice (some ⟨g7, 0, none⟩) (S.rem.length + 1) cap7).ownBlock ≠ some p := fun e => by simp [Value.ownBlock] at e; omega
    have hm9 : (Value.slice (some ⟨g7, 0, none⟩) (S.rem.length + 1) cap7).ownBlock ≠ some mb := fun e => by simp [Value.ownBlock] at e; omega
    refine ⟨_, S.rem ++ [i], rfl, ⟨?_, ?_, ?_, hne, hp9, hm9⟩, ?_, .inr ⟨rfl, HNM.out, HIN.out⟩⟩
    · exact HS7.out.set 7 _
    · exact HM7.out.setOther (a := ⟨p, 7, none⟩) (Ne.symm hne) _
    · have h9 := owns_other (a := ⟨p, 7, none⟩) HOW.out hp9 (Value.slice (some ⟨g7, 0, none⟩) (S.rem.length + 1) cap7)
      show World.ownsRow _ _ _ _ _ (S.rem ++ [i]).length (remL (S.rem ++ [i]))
      rw [List.length_append]
      unfold remL at h9 ⊢
      rw [List.map_append]
      exact h9
    · have h9 := HSM.out.trans hstep7.out
      refine ⟨h9.os, h9.tape, h9.output, by have := h9.size; simpa [World.setCell] using this, fun k h1 h2 h3 h4 => (Below.heap_setCell _ _ _ _ h2).trans (h9.block k h1 h2 h3 h4), fun g hg => ?_⟩
      have : g7 = g := by simpa [Value.ownBlock] using hg
      rw [← this]
      exact hv9.2.2
end Go.Proofs.Ytkpeeemnholmnaa
