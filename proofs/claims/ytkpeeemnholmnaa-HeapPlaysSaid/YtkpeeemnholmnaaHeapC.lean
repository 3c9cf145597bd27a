/- The contracts of the heap's object, Tag and Used. -/
import Derived.Test.YtkpeeemnholmnaaHeapB
namespace Go.Proofs.Ytkpeeemnholmnaa
open Go.RowKit
set_option linter.unusedVariables false

/-- a pointer to the object that begins at word i of the used part -/
def ObjAt (S : HS) (i : Nat) : Prop := isHdr (S.m i) ∧ ((i < S.nursery ∧ 1 ≤ i ∧ i + hsize (S.m i) + 1 ≤ S.young) ∨ (S.from_ ≤ i ∧ i + hsize (S.m i) + 1 ≤ S.old))

set_option maxHeartbeats 1000000 in
theorem object_ok (w : World) (p mb : Nat) (rv : Value) (S : HS) (h : HeapSt w p mb rv S) (ok : S.Ok) (i : Nat) (ho : ObjAt S i) :
    Calls Try.prog 34 #[.pointer (some ⟨p, 0, none⟩), .int .i64 (2 * (i : Int))] w fun e w' => e = .returned (.int .i64 (hsize (S.m i) : Int)) ∧ ∃ n, w' = w.drewN n := by
  obtain ⟨ho1, ho2⟩ := ho
  have hsp := isHdr_split ho1
  have hbd := hsize_bd (S.m i)
  have hc := hsize_cast (S.m i)
  obtain ⟨c0, c1, c2, c3, c4, c5, c6, c7⟩ := h.cells
  obtain ⟨⟨o1, o2⟩, o3, o4, ⟨o5, o6⟩, o7, ⟨o8, o9⟩, o10, o11⟩ := ok
  have hin : i < S.n := by omega
  have hpos : 1 ≤ i := by omega
  have cm := h.word hin
  have HS := fun w => split_any (S.m i) w
  rw [hsp] at HS
  have e1 := and_1 (2 * (i : Int))
  have e2 : 2 * (i : Int) % 2 = 0 := by omega
  rw [e2] at e1
  have e3 : 2 * (i : Int) / 2 = (i : Int) := by omega
  clear h ho1 hsp e2 c1 c4 c7
  generalize S.m i = v at *
  rw [← hc] at HS
  have HC := Lib.hid hc
  clear hc
  generalize hsize v = s at *
  by_cases hn : i < S.nursery
  · have hle : i + s + 1 ≤ S.young := by omega
    clear ho2
    go_enter Try.func34, Try.ntmps34
    go_wp2_with fail
    go_quiet (fail)
    go_wp2_with (go_at_call 32; refine (HS _).mono ?_; rintro e w' ⟨rfl, rfl⟩)
    go_ret
    exact ⟨rfl, _, rfl⟩
  · have hle : i + s + 1 ≤ S.old := by omega
    have hfr : S.from_ ≤ i := by omega
    clear ho2
    go_enter Try.func34, Try.ntmps34
    go_wp2_with fail
    go_quiet (fail)
    go_wp2_with (go_at_call 32; refine (HS _).mono ?_; rintro e w' ⟨rfl, rfl⟩)
    go_ret
    exact ⟨rfl, _, rfl⟩

def TagPost (a b : Int) (w : World) (e : Ending) (w' : World) : Prop := ∃ n, e = .returned (.tuple #[.int .i64 a, .int .i64 b, .int .i64 0]) ∧ w' = w.drewN n

set_option maxHeartbeats 1000000 in
theorem tag_ok (w : World) (p mb : Nat) (rv : Value) (S : HS) (h : HeapSt w p mb rv S) (ok : S.Ok) (i : Nat) (ho : ObjAt S i) :
    Calls Try.prog 21 #[.pointer (some ⟨p, 0, none⟩), .int .i64 (2 * (i : Int))] w (TagPost (S.m i / 8192) (hsize (S.m i) : Int) w) := by
  have HO := fun w h => object_ok w p mb rv S h ok i ho
  have hc := hsize_cast (S.m i)
  have hbd := hsize_bd (S.m i)
  have HS := fun w => split_any (S.m i) w
  obtain ⟨c0, c1, c2, c3, c4, c5, c6, c7⟩ := h.cells
  have hin : i < S.n := by
    obtain ⟨⟨o1, o2⟩, o3, o4, ⟨o5, o6⟩, o7, ⟨o8, o9⟩, o10, o11⟩ := ok
    obtain ⟨ho1, ho2⟩ := ho
    omega
  have hn : S.n ≤ 65536 := ok.n.2
  have cm := h.word hin
  rw [← hc] at HS
  have e3 : 2 * (i : Int) / 2 = (i : Int) := by omega
  have HT := Lib.hid h
  clear hc h ho ok c1 c2 c3 c4 c5 c6 c7
  generalize hsize (S.m i) = s at *
  generalize S.m i = v at *
  go_enter Try.func21, Try.ntmps21
  go_wp2_with (first
    | (go_at_call 34; refine (HO _ HT.out).mono ?_; rintro e w' ⟨rfl, n, rfl⟩)
    | (go_at_call 32; refine (HS _).mono ?_; rintro e w' ⟨rfl, rfl⟩))
  go_ret3
  exact ⟨n, rfl, rfl⟩

def TwoN (a b : Int) (w : World) (e : Ending) (w' : World) : Prop := ∃ n, e = .returned (.tuple #[.int .i64 a, .int .i64 b]) ∧ w' = w.drewN n
theorem tup2 {a b c d : Int} (h : a = c) (k : b = d) : Ending.returned (.tuple #[.int .i64 a, .int .i64 b]) = .returned (.tuple #[.int .i64 c, .int .i64 d]) := by rw [h, k]

set_option maxHeartbeats 1000000 in
theorem used_any (w : World) (p mb : Nat) (rv : Value) (S : HS) (h : HeapSt w p mb rv S) (ok : S.Ok) :
    Calls Try.prog 19 #[.pointer (some ⟨p, 0, none⟩)] w (TwoN ((S.young : Int) - 1) ((S.old : Int) - S.from_) w) := by
  obtain ⟨c0, c1, c2, c3, c4, c5, c6, c7⟩ := h.cells
  obtain ⟨⟨o1, o2⟩, o3, o4, ⟨o5, o6⟩, o7, ⟨o8, o9⟩, o10, o11⟩ := ok
  clear h c0 c1 c2 c4 c7
  go_enter Try.func19, Try.ntmps19
  go_wp2_with fail
  go_quiet (fail)
  go_wp2_with fail
  go_ret2
  exact ⟨_, rfl, rfl⟩
end Go.Proofs.Ytkpeeemnholmnaa
