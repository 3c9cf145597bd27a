/- HeapPlays: the law's fact, and the heap as the reference sees it (shown.Look, shown.Read). -/
import Derived.Test.YtkpeeemnholmnaaHeapStG
namespace Go.Proofs.Ytkpeeemnholmnaa
open Go.RowKit
set_option linter.unusedVariables false

set_option maxHeartbeats 1000000 in
theorem heapFactL_ok (w : World) : Calls Try.prog 9 #[] w fun e w' => e = .returned (.bool true) ∧ Below w.heap.size w w' := by
  have HN : ∀ w, Calls Try.prog 7 #[.int .i64 64, .int .i64 8, .int .i64 16] w (HNewPost (HS.new 64 8 16) w) := fun w => hnew_ok 64 8 16 w (by omega) (by omega) (by omega)
  have hok := HS.new_ok 64 8 16 (by omega) (by omega) (by omega)
  have HA : ∀ w p mb, HeapSt w p mb (.slice none 0 0) (HS.new 64 8 16) → Calls Try.prog 10 #[.pointer (some ⟨p, 0, none⟩), .int .i64 3, .int .i64 2, .int .i64 5] w (AllocPost p mb (.slice none 0 0) (HS.new 64 8 16) 3 2 5 w) := fun w p mb h =>
    alloc_odd w p mb _ _ h hok 3 2 5 (by omega) (by omega) (by omega) (by omega) (by decide)
  have hi := (HInv.new 64 8 16 (by omega) (by omega) (by omega)).allocY (t := 3) (s := 2) (f := 5) (by omega) (by omega) (by decide) (by decide) (.inl ⟨by omega, by omega, by omega⟩) (by omega)
  have HT : ∀ wx p mb, HeapSt wx p mb (.slice none 0 0) ((HS.new 64 8 16).alloc 3 2 5) → Calls Try.prog 21 #[.pointer (some ⟨p, 0, none⟩), .int .i64 2] wx (TagPost 3 2 wx) := fun wx p mb hx =>
    tag_ok wx p mb _ _ hx hi.ok 1 (hi.objAt (by decide))
  have e1 : (HS.new 64 8 16).at_ 2 = 1 := by decide
  clear hok hi
  go_enter Try.func9, Try.ntmps9
  go_wp2_with fail
  refine (HN _).mono ?_
  rintro e w1 ⟨p, mb, rfl, hst, hp, hm, hb⟩
  have HST := Lib.hid hst
  have HB := Lib.hid hb
  clear hst hb
  go_wp2_with fail
  refine (HA _ _ _ HST.out).mono ?_
  rintro e w2 ⟨he, hst2, hstep⟩
  rw [e1] at he
  subst he
  have HST2 := Lib.hid hst2
  have HB2 := Lib.hid (HB.out.trans (hstep.below hp hm (fun g hg => by simp [Value.ownBlock] at hg) HB.out.size))
  clear hst2 hstep
  go_wp2_with fail
  refine (HT _ _ _ HST2.out).mono ?_
  rintro e w3 ⟨q, rfl, rfl⟩
  go_wp2_with fail
  go_ret
  exact ⟨rfl, HB2.out.trans (below_drewN_self _ _ _)⟩

def LookPost (t s : Int) (w : World) (e : Ending) (w' : World) : Prop := e = .returned (.tuple #[.int .i64 t, .int .i64 s, .bool true]) ∧ Below w.heap.size w w'
set_option maxHeartbeats 1000000 in
theorem look_ok (w : World) (p mb : Nat) (rv : Value) (S : HS) (h : HeapSt w p mb rv S) (ok : S.Ok) (i : Nat) (ii : Int) (e : ii = 2 * (i : Int)) (ho : ObjAt S i) :
    Calls Try.prog 57 #[.agg #[.pointer (some ⟨p, 0, none⟩)], .int .i64 ii] w (LookPost (S.m i / 8192) (hsize (S.m i) : Int) w) := by
  have HT : ∀ wx, HeapSt wx p mb rv S → Calls Try.prog 21 #[.pointer (some ⟨p, 0, none⟩), .int .i64 ii] wx (TagPost (S.m i / 8192) (hsize (S.m i) : Int) wx) := fun wx hx => by rw [e]; exact tag_ok wx p mb rv S hx ok i ho
  have HST := Lib.hid (h.later ((Below.refl w.heap.size w).alloc (Nat.le_refl _) (.cells #[.pointer (some ⟨p, 0, none⟩)] 48)))
  have HB := Lib.hid ((Below.refl w.heap.size w).alloc (Nat.le_refl _) (.cells #[.pointer (some ⟨p, 0, none⟩)] 48))
  obtain ⟨x, hx⟩ : ∃ x, x = S.m i / 8192 := ⟨_, rfl⟩
  obtain ⟨y, hy⟩ : ∃ y, y = ((hsize (S.m i) : Nat) : Int) := ⟨_, rfl⟩
  rw [← hx, ← hy] at HT ⊢
  clear hx hy e h
  go_enter Try.func57, Try.ntmps57
  go_wp2_with fail
  refine (HT _ HST.out).mono ?_
  rintro e w3 ⟨q, rfl, rfl⟩
  go_wp2_with fail
  go_ret3
  exact ⟨rfl, HB.out.trans (below_drewN_self _ _ _)⟩
def ReadPost (v : Int) (w : World) (e : Ending) (w' : World) : Prop := e = .returned (.tuple #[.int .i64 v, .bool true]) ∧ Below w.heap.size w w'
set_option maxHeartbeats 1000000 in
theorem read_ok (w : World) (p mb : Nat) (rv : Value) (S : HS) (h : HeapSt w p mb rv S) (ok : S.Ok) (i : Nat) (ii : Int) (e : ii = 2 * (i : Int)) (hi : 1 ≤ i ∧ i < S.n) :
    Calls Try.prog 58 #[.agg #[.pointer (some ⟨p, 0, none⟩)], .int .i64 ii] w (ReadPost (S.m i) w) := by
  have HT := fun wx hx => hload_ok wx p mb rv S hx ok i ii e hi
  have HST := Lib.hid (h.later ((Below.refl w.heap.size w).alloc (Nat.le_refl _) (.cells #[.pointer (some ⟨p, 0, none⟩)] 48)))
  have HB := Lib.hid ((Below.refl w.heap.size w).alloc (Nat.le_refl _) (.cells #[.pointer (some ⟨p, 0, none⟩)] 48))
  obtain ⟨x, hx⟩ : ∃ x, x = S.m i := ⟨_, rfl⟩
  rw [← hx] at HT ⊢
  clear hx e h
  go_enter Try.func58, Try.ntmps58
  go_wp2_with fail
  refine (HT _ HST.out).mono ?_
  rintro e w3 ⟨rfl, q, rfl⟩
  go_wp2_with fail
  go_ret2
  exact ⟨rfl, HB.out.trans (below_drewN_self _ _ _)⟩
end Go.Proofs.Ytkpeeemnholmnaa
