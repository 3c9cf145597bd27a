/- The contract of the heap's objects. -/
import Derived.Test.YtkpeeemnholmnaaHeapC
namespace Go.Proofs.Ytkpeeemnholmnaa
open Go.RowKit
set_option linter.unusedVariables false

def ObjsPost (l : List Nat) (w : World) (e : Ending) (w' : World) : Prop :=
  ∃ v, e = .returned (.tuple #[v, .bool true]) ∧ w'.ownsRow w.heap.size 3 1 v l.length (remL l) ∧ Below w.heap.size w w'

set_option maxRecDepth 100000 in
set_option maxHeartbeats 2000000 in
theorem objects_ok (w : World) (p mb : Nat) (rv : Value) (S : HS) (h : HeapSt w p mb rv S) (ok : S.Ok) (a b : Nat) (hb : b ≤ S.n) (l : List Nat) (hl : Tiles S.m a b l) :
    Calls Try.prog 31 #[.pointer (some ⟨p, 0, none⟩), .int .i64 (a : Int), .int .i64 (b : Int)] w (ObjsPost l w) := by
  have hn : S.n ≤ 65536 := ok.n.2
  have hab := hl.le
  have HT := Lib.hid h
  have HL := Lib.hid hl
  obtain ⟨i0, hi0, hz0, hz1, hz2⟩ := info_parts Try.infoH3
  clear h hl ok
  go_enter Try.func31, Try.ntmps31
  go_wp2_with fail
  go_loopw [8, 9] (fun v u wr => ∃ (i : Nat) (d r : List Nat), l = d ++ r ∧ u = .int .i64 (i : Int) ∧ i ≤ b ∧ d.length ≤ i ∧ Tiles S.m i b r ∧ wr.ownsRow w.heap.size 3 1 v d.length (remL d) ∧ Below w.heap.size w wr) (fun _ u _ => b - (intOf u).toNat)
  case atStart => exact ⟨a, [], l, rfl, rfl, by omega, Nat.zero_le _, HL.out, World.ownsRow_nil _ _ _ _, Below.refl _ _⟩
  case round =>
    obtain ⟨i, d, r, hdr, rfl, hib, hdl, hti, hown, hbe⟩ := hrel
    have HD := Lib.hid hdr
    clear hdr
    by_cases hlt : i < b
    · obtain ⟨r', er, hh, ht⟩ := hti.head hlt
      have hle2 := ht.le
      subst er
      have hst := HT.out.later hbe
      have c0 := hst.cells.c0
      have cm := hst.word (i := i) (by omega)
      have hc := hsize_cast (S.m i)
      have hsp := isHdr_split hh
      have HSP := fun w => split_any (S.m i) w
      rw [hsp, ← hc] at HSP
      have HT2 := Lib.hid ht
      have HOWN := Lib.hid hown
      have HBE := Lib.hid hbe
      have hwr : w.heap.size ≤ wr.heap.size := hbe.size
      clear hh ht hst hc hsp hown hbe hti
      generalize hsize (S.m i) = s at *
      generalize S.m i = x at *
      go_wp2_with (first
        | (go_at_call 32; refine (HSP _).mono ?_; rintro e w' ⟨rfl, rfl⟩)
        | (at_builtin; refine wpList_append_own _ rfl _ _ 22 rfl w.heap.size 3 i0 (.int .i64 0) 1 8 Try.underlying22 hi0 hz0 hz1 hz2 rfl (by decide) _ _ _ rfl (HOWN.out.alloc _) ⟨wr.heap.size, 0, none⟩ 1 1 [.int .i64 (i : Int)] rfl rfl ?a2 ?a3 ?a4 ?a5 ?a6 ?_))
      case a2 => exact cell_one_new wr (.int .i64 (i : Int)) 3
      case a3 => intro u hu; simp at hu; subst hu; rfl
      case a4 => unfold maxLen; omega
      case a5 => omega
      case a6 => simp; omega
      intro v' w7 hown' hgrow _
      have hb7 := (HBE.out.alloc hwr (.cells #[.int .i64 (i : Int)] 3)).grown hgrow (by simp; omega) (fun q hq => (HOWN.out.lt q hq).1)
      have hown7 : w7.ownsRow w.heap.size 3 1 v' (d ++ [i]).length (remL (d ++ [i])) := by
        rw [List.length_append]; unfold remL at hown' ⊢; rw [List.map_append]; exact hown'
      have HO7 := Lib.hid hown7
      have HB7 := Lib.hid hb7
      clear hown' hgrow hb7 hown7 c0 cm
      go_wp2_with fail
      go_roundw
      case rel => exact ⟨i + s + 1, d ++ [i], r', by rw [HD.out]; simp, by go_num, by omega, by simp; omega, HT2.out, HO7.out, HB7.out⟩
      case measure => simp [intOf]; omega
    · have ei : i = b := by omega
      subst ei
      have e2 := hti.none
      have HOWN := Lib.hid hown
      have HBE := Lib.hid hbe
      clear hti hown hbe
      go_wp2_with fail
      go_ret2
      have el : l = d := by rw [HD.out, e2]; simp
      subst el
      exact ⟨_, rfl, HOWN.out, HBE.out⟩
end Go.Proofs.Ytkpeeemnholmnaa
