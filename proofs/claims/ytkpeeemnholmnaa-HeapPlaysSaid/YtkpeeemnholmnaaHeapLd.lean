/- The contracts of the heap's index and Load. -/
import Derived.Test.YtkpeeemnholmnaaHeapB
import Derived.Test.YtkpeeemnholmnaaHeapC
import Derived.Test.YtkpeeemnholmnaaEager
namespace Go.Proofs.Ytkpeeemnholmnaa
open Go.RowKit
set_option linter.unusedVariables false

set_option maxRecDepth 100000 in
set_option maxHeartbeats 1000000 in
theorem hindex_ok (w : World) (p mb : Nat) (rv : Value) (S : HS) (h : HeapSt w p mb rv S) (ok : S.Ok) (i : Nat) (ii : Int) (e : ii = 2 * (i : Int)) (hi : 1 ≤ i ∧ i < S.n) :
    Calls Try.prog 27 #[.pointer (some ⟨p, 0, none⟩), .int .i64 ii] w fun e w' => e = .returned (.int .i64 (i : Int)) ∧ ∃ k, w' = w.drewN k := by
  obtain ⟨c0, c1, c2, c3, c4, c5, c6, c7⟩ := h.cells
  clear c1 c2 c3 c4 c5 c6 c7
  have hn := ok.n
  have e1 := and_1 ii
  have q2 : (ii % 2 != 0) = false := by simp; omega
  have q3 : ii / 2 = (i : Int) := by omega
  have hin : inB (ii / 2) 1 ((S.n : Int) - 1) = true := inB_true.2 (by omega)
  have HQ := fun w => in_q (ii / 2) 1 ((S.n : Int) - 1) w
  rw [hin] at HQ
  have hib : 2 ≤ ii ∧ ii ≤ 200000 := by omega
  have HE := Lib.hid q3
  clear e h hin q3
  go_enter Try.func27, Try.ntmps27
  go_wp2_with (go_at_call 23; refine (HQ _).mono ?_; rintro e w' ⟨rfl, hw'⟩; rw [hw']; clear hw' w')
  go_ret
  exact ⟨ret_int HE.out, 0, rfl⟩

def LoadPost (v : Int) (w : World) (e : Ending) (w' : World) : Prop := e = .returned (.tuple #[.int .i64 v, .int .i64 0]) ∧ ∃ k, w' = w.drewN k
set_option maxRecDepth 100000 in
set_option maxHeartbeats 1000000 in
theorem hload_ok (w : World) (p mb : Nat) (rv : Value) (S : HS) (h : HeapSt w p mb rv S) (ok : S.Ok) (i : Nat) (ii : Int) (e : ii = 2 * (i : Int)) (hi : 1 ≤ i ∧ i < S.n) :
    Calls Try.prog 20 #[.pointer (some ⟨p, 0, none⟩), .int .i64 ii] w (LoadPost (S.m i) w) := by
  have HX := fun wx hx => hindex_ok wx p mb rv S hx ok i ii e hi
  have HST := Lib.hid h
  have H2 : Hid (∀ k, (w.drewN k).cell? ⟨p, 0, none⟩ = some (.slice (some ⟨mb, 0, none⟩) S.n S.n)) := fun k => (h.drewN k).cells.c0
  have H3 : Hid (∀ k, (w.drewN k).cell? ⟨mb, i, none⟩ = some (.int .i64 (S.m i))) := fun k => (h.drewN k).word hi.2
  have hn := ok.n
  obtain ⟨x, hx⟩ : ∃ x, x = S.m i := ⟨_, rfl⟩
  rw [← hx] at H3 ⊢
  clear hx e h
  go_enter Try.func20, Try.ntmps20
  go_wp2_with (go_at_call 27; refine (HX _ HST.out).mono ?_; rintro e w' ⟨rfl, k, rfl⟩; have g1 := H2.out k; have g2 := H3.out k)
  go_ret2
  exact ⟨rfl, _, rfl⟩
end Go.Proofs.Ytkpeeemnholmnaa
