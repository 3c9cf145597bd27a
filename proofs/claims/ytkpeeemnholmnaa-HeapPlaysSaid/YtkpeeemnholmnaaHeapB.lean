/- The contracts of the heap's inYoung, put (without a remembered word), Alloc, object, Tag and Used. -/
import Derived.Test.YtkpeeemnholmnaaHeapA
import Derived.Test.YtkpeeemnholmnaaHeapMath
namespace Go.Proofs.Ytkpeeemnholmnaa
open Go.RowKit
set_option linter.unusedVariables false

theorem quietB {P : Program} {f : FuncId} {args : Array Value} {w : World} {n : Nat} {b : Bool} (h : Calls P f args (w.drewN n) (BoolN b (w.drewN n))) : Calls P f args (w.drewN n) fun e w'' => e = .returned (.bool b) ∧ ∃ m, w'' = w.drewN m :=
  Calls.quiet_of (h.mono fun _ _ ⟨m, he, hw⟩ => ⟨he, m, hw⟩)
theorem in_q (n l h : Int) (w : World) : Calls Try.prog 23 #[.int .i64 n, .int .i64 l, .int .i64 h] w fun e w' => e = .returned (.bool (inB n l h)) ∧ w' = w :=
  (in_any n l h w).mono fun _ _ ⟨he, hw⟩ => ⟨he, hw.symm⟩
theorem header_q (t s : Int) (w : World) (ht : -1000000 ≤ t ∧ t ≤ 1000000) (hs : 0 ≤ s ∧ s ≤ 1000000) :
    Calls Try.prog 25 #[.int .i64 t, .int .i64 s] w fun e w' => e = .returned (.int .i64 ((t * 4096 + s) * 2 + 1)) ∧ w' = w :=
  (header_any t s w ht hs).mono fun _ _ ⟨he, hw⟩ => ⟨he, hw.symm⟩

/-- a pointer to the nursery -/
def youngB (u : Nat) (v : Int) : Bool := decide (0 < v) && decide (v % 2 = 0) && decide (v / 2 < (u : Int))
theorem youngB_true {u : Nat} {v : Int} : youngB u v = true ↔ 0 < v ∧ v % 2 = 0 ∧ v / 2 < (u : Int) := by simp [youngB, and_assoc]
theorem youngB_false {u : Nat} {v : Int} : youngB u v = false ↔ v ≤ 0 ∨ v % 2 = 1 ∨ (u : Int) ≤ v / 2 := by
  rw [← Bool.not_eq_true, youngB_true]; omega

set_option maxHeartbeats 400000 in
theorem inYoung_any (w : World) (p u : Nat) (v : Int) (hv : v ≤ 2147483647) (c2 : w.cell? ⟨p, 2, none⟩ = some (.int .i64 (u : Int))) :
    Calls Try.prog 35 #[.pointer (some ⟨p, 0, none⟩), .int .i64 v] w fun e w' => e = .returned (.bool (youngB u v)) ∧ w' = w := by
  have e1 := and_1 v
  by_cases h1 : 0 < v
  · by_cases h2 : v % 2 = 0
    · have q2 : (v % 2 == 0) = true := by simp [h2]
      have H : Hid (youngB u v = decide (v / 2 < (u : Int))) := by simp [Hid, youngB, h1, h2]
      clear h2
      go_enter Try.func35, Try.ntmps35
      go_wp2
      go_ret
      exact ⟨ret_bool H.out.symm, rfl⟩
    · have q2 : (v % 2 == 0) = false := by simp [h2]
      have H : Hid (youngB u v = false) := youngB_false.2 (by omega)
      clear h2
      go_enter Try.func35, Try.ntmps35
      go_wp2
      go_ret
      exact ⟨ret_bool H.out.symm, rfl⟩
  · have H : Hid (youngB u v = false) := youngB_false.2 (by omega)
    go_enter Try.func35, Try.ntmps35
    go_wp2
    go_ret
    exact ⟨ret_bool H.out.symm, rfl⟩

def SetN (p b i : Nat) (v : Value) (w : World) (e : Ending) (w' : World) : Prop := ∃ n, e = .returned (.tuple #[]) ∧ w' = (w.setCell ⟨b, i, none⟩ v).drewN n

set_option maxHeartbeats 1000000 in
theorem put_plain (w : World) (p mb : Nat) (rv : Value) (S : HS) (h : HeapSt w p mb rv S) (ok : S.Ok) (i : Nat) (v : Int) (hv : v ≤ 2147483647) (hi : i < S.n) (hy : inB (i : Int) S.from_ (S.from_ + S.half - 1) = false ∨ youngB S.nursery v = false) :
    Calls Try.prog 26 #[.pointer (some ⟨p, 0, none⟩), .int .i64 (i : Int), .int .i64 v] w (SetN p mb i (.int .i64 v) w) := by
  obtain ⟨c0, c1, c2, c3, c4, c5, c6, c7⟩ := h.cells
  have cm := h.word hi
  have fm := h.mm.free i
  have hne := h.d1
  obtain ⟨⟨o1, o2⟩, o3, o4, ⟨o5, o6⟩, o7, ⟨o8, o9⟩, o10, o11⟩ := ok
  clear h c1 c3 c6 c7
  obtain ⟨n, st, nu, yo, ha, fr, ol, m, rem⟩ := S
  simp only at *
  obtain ⟨x, hx⟩ : ∃ x, x = m i := ⟨_, rfl⟩
  rw [← hx] at cm
  clear hx
  have HQ := fun w => in_q (i : Int) (fr : Int) ((fr : Int) + ha - 1) w
  have HY := fun w c2 => inYoung_any w p nu v hv c2
  have d0 : (w.setCell ⟨mb, i, none⟩ (.int .i64 v)).cell? ⟨p, 0, none⟩ = w.cell? ⟨p, 0, none⟩ := World.cell?_of_block (a := ⟨p, 0, none⟩) (Below.heap_setCell _ _ _ _ hne)
  have d2 : (w.setCell ⟨mb, i, none⟩ (.int .i64 v)).cell? ⟨p, 2, none⟩ = w.cell? ⟨p, 2, none⟩ := World.cell?_of_block (a := ⟨p, 2, none⟩) (Below.heap_setCell _ _ _ _ hne)
  have d4 : (w.setCell ⟨mb, i, none⟩ (.int .i64 v)).cell? ⟨p, 4, none⟩ = w.cell? ⟨p, 4, none⟩ := World.cell?_of_block (a := ⟨p, 4, none⟩) (Below.heap_setCell _ _ _ _ hne)
  have d5 : (w.setCell ⟨mb, i, none⟩ (.int .i64 v)).cell? ⟨p, 5, none⟩ = w.cell? ⟨p, 5, none⟩ := World.cell?_of_block (a := ⟨p, 5, none⟩) (Below.heap_setCell _ _ _ _ hne)
  rw [c0] at d0
  rw [c2] at d2
  rw [c4] at d4
  rw [c5] at d5
  have H2 := Lib.hid d2
  have H4 := Lib.hid d4
  have H5 := Lib.hid d5
  clear d0 d2 d4 d5
  rcases Bool.eq_false_or_eq_true (inB (i : Int) fr ((fr : Int) + ha - 1)) with hr | hr
  · rcases hy with hy | hy
    · rw [hr] at hy; cases hy
    · rw [hr] at HQ
      rw [hy] at HY
      clear hr hy
      go_enter Try.func26, Try.ntmps26
      go_wp2_with fail
      have d2 := H2.out
      have d4 := H4.out
      have d5 := H5.out
      obtain ⟨w1, hw⟩ : ∃ w1, w1 = w.setCell ⟨mb, i, none⟩ (.int .i64 v) := ⟨_, rfl⟩
      rw [← hw] at d2 d4 d5 ⊢
      have HW := Lib.hid hw
      clear hw
      go_quiet (first | (go_at_call 23; exact Calls.quiet_of_same (HQ _)) | (go_at_call 35; exact Calls.quiet_of_same (HY _ (by assumption))))
      go_wp2
      go_end0
      exact ⟨_, rfl, by rw [HW.out]⟩
  · rw [hr] at HQ
    clear hr hy HY
    go_enter Try.func26, Try.ntmps26
    go_wp2_with fail
    have d2 := H2.out
    have d4 := H4.out
    have d5 := H5.out
    obtain ⟨w1, hw⟩ : ∃ w1, w1 = w.setCell ⟨mb, i, none⟩ (.int .i64 v) := ⟨_, rfl⟩
    rw [← hw] at d2 d4 d5 ⊢
    have HW := Lib.hid hw
    clear hw
    go_quiet (first | (go_at_call 23; exact Calls.quiet_of_same (HQ _)))
    go_wp2
    go_end0
    exact ⟨_, rfl, by rw [HW.out]⟩

theorem put_at (w : World) (p mb : Nat) (rv : Value) (S : HS) (h : HeapSt w p mb rv S) (ok : S.Ok) (i : Nat) (ii : Int) (e : ii = (i : Int)) (v : Int) (hv : v ≤ 2147483647) (hi : i < S.n) (hy : inB (i : Int) S.from_ (S.from_ + S.half - 1) = false ∨ youngB S.nursery v = false) :
    Calls Try.prog 26 #[.pointer (some ⟨p, 0, none⟩), .int .i64 ii, .int .i64 v] w (SetN p mb i (.int .i64 v) w) := by
  subst e
  exact put_plain w p mb rv S h ok i v hv hi hy

/-- an object is allocated -/
def HS.at_ (S : HS) (s : Nat) : Nat := if S.nursery - 1 < s + 1 then S.old else S.young
def HS.alloc (S : HS) (t s : Nat) (f : Int) : HS :=
  { S with young := if S.nursery - 1 < s + 1 then S.young else S.young + (s + 1), old := if S.nursery - 1 < s + 1 then S.old + (s + 1) else S.old,
           m := fun j => if j = S.at_ s then hdr t s else if S.at_ s < j ∧ j ≤ S.at_ s + s then f else S.m j }
def HS.part (S : HS) (t s : Nat) (f : Int) (k : Nat) : HS :=
  { S.alloc t s f with m := fun j => if j = S.at_ s then hdr t s else if S.at_ s < j ∧ j ≤ S.at_ s + k then f else S.m j }
theorem room_at {S : HS} (ok : S.Ok) {s : Nat} (h : RoomB S s = true) : 1 ≤ S.at_ s ∧ S.at_ s + s + 1 ≤ S.n := by
  obtain ⟨⟨o1, o2⟩, o3, o4, ⟨o5, o6⟩, o7, ⟨o8, o9⟩, o10, o11⟩ := ok
  unfold RoomB at h
  unfold HS.at_
  by_cases hb : S.nursery - 1 < s + 1
  · rw [if_pos hb] at h ⊢; simp only [decide_eq_true_eq] at h; omega
  · rw [if_neg hb] at h ⊢; simp only [decide_eq_true_eq] at h; omega
theorem HS.Ok.alloc {S : HS} (ok : S.Ok) {t s : Nat} {f : Int} (h : RoomB S s = true) : (S.alloc t s f).Ok := by
  obtain ⟨⟨o1, o2⟩, o3, o4, ⟨o5, o6⟩, o7, ⟨o8, o9⟩, o10, o11⟩ := ok
  unfold RoomB at h
  split at h <;> simp only [decide_eq_true_eq] at h <;> constructor <;> simp [HS.alloc, *] <;> omega

def AllocPost (p mb : Nat) (rv : Value) (S : HS) (t s : Nat) (f : Int) (w : World) (e : Ending) (w' : World) : Prop :=
  e = .returned (.tuple #[.int .i64 (2 * (S.at_ s : Nat) : Int), .int .i64 0]) ∧ HeapSt w' p mb rv (S.alloc t s f) ∧ HStep p mb rv rv w w'

set_option maxRecDepth 100000 in
set_option maxHeartbeats 2000000 in
theorem alloc_odd (w : World) (p mb : Nat) (rv : Value) (S : HS) (h : HeapSt w p mb rv S) (ok : S.Ok) (t s : Nat) (f : Int) (ht : t ≤ 258) (hs : s ≤ 4095) (hf : -2147483648 ≤ f ∧ f ≤ 2147483647) (hodd : f % 2 = 1) (hr : RoomB S s = true) :
    Calls Try.prog 10 #[.pointer (some ⟨p, 0, none⟩), .int .i64 (t : Int), .int .i64 (s : Int), .int .i64 f] w (AllocPost p mb rv S t s f w) := by
  have HR := fun w h => room_any w p mb rv S h ok s hs
  rw [hr] at HR
  have g1 : inB (t : Int) 0 258 = true := inB_true.2 (by omega)
  have g2 : inB (s : Int) 0 4095 = true := inB_true.2 (by omega)
  have g3 : inB f (-2147483648) 2147483647 = true := inB_true.2 (by omega)
  have HT := Lib.hid h
  obtain ⟨c0, c1, c2, c3, c4, c5, c6, c7⟩ := h.cells
  have f3 := h.st.free 3
  have f6 := h.st.free 6
  obtain ⟨k1, k2⟩ := room_at ok hr
  have HOK : Hid (∀ k, (S.part t s f k).Ok) := fun k => by have o := ok.alloc (t := t) (f := f) hr; exact ⟨o.n, o.st, o.nu, o.yo, o.fr, o.ol, o.to, o.two⟩
  obtain ⟨⟨o1, o2⟩, o3, o4, ⟨o5, o6⟩, o7, ⟨o8, o9⟩, o10, o11⟩ := ok
  have HAT : Hid (S.at_ s = if S.nursery - 1 < s + 1 then S.old else S.young) := rfl
  have HPM : Hid (∀ k, S.part t s f k = { S.alloc t s f with m := fun j => if j = S.at_ s then hdr t s else if S.at_ s < j ∧ j ≤ S.at_ s + k then f else S.m j }) := fun k => rfl
  have HFI : Hid (S.part t s f s = S.alloc t s f) := rfl
  clear c0 c1 c4 c5 c7 hr
  by_cases hb : S.nursery - 1 < s + 1
  case' pos =>
    have q1 : (S.nursery : Int) - 1 < (s : Int) + 1 := by omega
    have ea : S.at_ s = S.old := by rw [HAT.out, if_pos hb]
    obtain ⟨a, ha⟩ : ∃ a, a = S.old := ⟨_, rfl⟩
    have h1 := (h.drewN 0).setP 6 (.int .i64 ((a : Int) + ((s : Int) + 1))) (S' := { S.alloc t s f with m := S.m }) (by simp [HS.alloc, hb, ha]) rfl rfl rfl
    have hs1 : HStep p mb rv rv w (w.setCell ⟨p, 6, none⟩ (.int .i64 ((a : Int) + ((s : Int) + 1)))) := HStep.setP _ _
    rw [← ha] at ea c6 o8 o9
    clear ha
  case' neg =>
    have q1 : ¬ (S.nursery : Int) - 1 < (s : Int) + 1 := by omega
    have ea : S.at_ s = S.young := by rw [HAT.out, if_neg hb]
    obtain ⟨a, ha⟩ : ∃ a, a = S.young := ⟨_, rfl⟩
    have h1 := (h.drewN 0).setP 3 (.int .i64 ((a : Int) + ((s : Int) + 1))) (S' := { S.alloc t s f with m := S.m }) (by simp [HS.alloc, hb, ha]) rfl rfl rfl
    have hs1 : HStep p mb rv rv w (w.setCell ⟨p, 3, none⟩ (.int .i64 ((a : Int) + ((s : Int) + 1)))) := HStep.setP _ _
    rw [← ha] at ea c3 o5 o6
    clear ha
  all_goals
    have H1 := Lib.hid h1
    have HS1 := Lib.hid hs1
    have HEA := Lib.hid ea
    rw [ea] at k1 k2
    clear ea h h1 hs1
    go_enter Try.func10, Try.ntmps10
    go_wp2_with (first
      | (go_at_call 23; refine (in_any _ _ _ _).mono ?_; rintro e w' ⟨rfl, rfl⟩)
      | (go_at_call 12; refine (HR _ HT.out).mono ?_; rintro e w' ⟨nr, rfl, rfl⟩))
    have h1 := H1.out.drewN nr
    have hs1 := HS1.out.trans (HStep.drewN nr)
    clear H1 HS1 HT HR
    change HeapSt ((w.drewN nr).setCell _ _) p mb rv _ at h1
    change HStep p mb rv rv w ((w.drewN nr).setCell _ _) at hs1
    generalize (w.drewN nr).setCell _ _ = w1 at h1 hs1 ⊢
    have d0 := h1.cells.c0
    have d1 : w1.cell? ⟨mb, a, none⟩ = some (.int .i64 (S.m a)) := h1.word (by show a < S.n; omega)
    have d2 := h1.mm.free a
    have H2 := Lib.hid (h1.setM a (hdr t s))
    have HS2 := Lib.hid (hs1.trans (HStep.setM a (.int .i64 (hdr t s))))
    obtain ⟨x, hx⟩ : ∃ x, x = S.m a := ⟨_, rfl⟩
    change w1.cell? ⟨p, 0, none⟩ = some (.slice (some ⟨mb, 0, none⟩) S.n S.n) at d0
    rw [← hx] at d1
    clear hx
    have k4 : a < S.n := by omega
    go_still_tail 9, (by kernel_rfl)
    still_call (header_q _ _ _ (by omega) (by omega))
    still_step
    refine wpStill_nil ?_
    change wpList _ _ _ _ _ w1.drew
    go_wp2
    have HPP := fun (k : Nat) (ii : Int) (wx : World) (hx : HeapSt wx p mb rv (S.part t s f k)) (e : ii = ((a + k + 1 : Nat) : Int)) (hk : k < s) => put_at wx p mb rv (S.part t s f k) hx (HOK.out k) (a + k + 1) ii e f (by omega) (by show a + k + 1 < S.n; omega) (.inr (youngB_false.2 (.inr (.inl hodd))))
    have h2 : HeapSt (w1.setCell ⟨mb, a, none⟩ (.int .i64 (hdr t s))).drew p mb rv (S.part t s f 0) := by
      refine HeapSt.drewN (n := 1) ?_
      have e0 : S.part t s f 0 = { S.alloc t s f with m := fun j => if j = a then hdr t s else S.m j } := by
        rw [HPM.out, HEA.out]
        congr 1
        funext j
        by_cases e1 : j = a
        · simp [e1]
        · simp only [if_neg e1]; rw [if_neg (by omega)]
      rw [e0]
      exact H2.out
    have hs2 := HS2.out.trans (HStep.drewN (rv := rv) 1)
    change HStep p mb rv rv w (w1.setCell ⟨mb, a, none⟩ (.int .i64 (hdr t s))).drew at hs2
    have H3 := Lib.hid h2
    have HS3 := Lib.hid hs2
    clear h1 hs1 H2 HS2 h2 hs2 d0 d1 d2
    go_loopw [12] (fun u wr => ∃ k : Nat, k ≤ s ∧ u = .int .i64 ((k : Int) + 1) ∧ HeapSt wr p mb rv (S.part t s f k) ∧ HStep p mb rv rv w wr) (fun u _ => s + 1 - (intOf u).toNat)
    case atStart => exact ⟨0, Nat.zero_le _, rfl, H3.out, HS3.out⟩
    case round =>
      obtain ⟨k, hk, rfl, hst, hs4⟩ := hrel
      have HST := Lib.hid hst
      have HS4 := Lib.hid hs4
      clear hst hs4 H3 HS3
      by_cases hlt : k < s
      · go_wp2_with fail
        refine (HPP k _ _ HST.out (by omega) hlt).mono ?_
        rintro e w' ⟨n, rfl, rfl⟩
        have h5 := (HST.out.setM (a + k + 1) f).drewN n
        have h6 := (HS4.out.trans (HStep.setM (a + k + 1) (.int .i64 f))).trans (HStep.drewN (rv := rv) n)
        have e5 : S.part t s f (k + 1) = { S.part t s f k with m := fun j => if j = a + k + 1 then f else (S.part t s f k).m j } := by
          rw [HPM.out, HPM.out, HEA.out]
          congr 1
          funext j
          by_cases e1 : j = a
          · simp only [if_pos e1]; rw [if_neg (by omega)]
          · simp only [if_neg e1]
            by_cases e2 : j = a + k + 1
            · rw [if_pos e2, if_pos (by omega)]
            · rw [if_neg e2]
              by_cases e3 : a < j ∧ j ≤ a + k
              · rw [if_pos e3, if_pos (by omega)]
              · rw [if_neg e3, if_neg (by omega)]
        rw [← e5] at h5
        have H5 := Lib.hid h5
        have H6 := Lib.hid h6
        clear h5 h6 e5 HST HS4
        go_wp2_with fail
        go_roundw
        case rel => exact ⟨k + 1, by omega, by go_num, H5.out, H6.out⟩
        case measure => simp [intOf]; omega
      · have ek : k = s := by omega
        subst ek
        go_wp2_with fail
        go_ret2
        refine ⟨?_, ?_, HS4.out⟩
        · rw [HEA.out]; rfl
        · rw [← HFI.out]; exact HST.out

end Go.Proofs.Ytkpeeemnholmnaa
