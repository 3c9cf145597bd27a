/- Alloc in the nursery with any fill; a full heap; heapFact; what an allocation keeps. -/
import Derived.Test.YtkpeeemnholmnaaGcMa
namespace Go.Proofs.Ytkpeeemnholmnaa
open Go.RowKit
set_option linter.unusedVariables false

set_option maxHeartbeats 1000000 in
theorem alloc_full (w : World) (p mb : Nat) (rv : Value) (S : HS) (h : HeapSt w p mb rv S) (ok : S.Ok) (t s : Nat) (f : Int) (ht : t ≤ 258) (hs : s ≤ 4095) (hf : -2147483648 ≤ f ∧ f ≤ 2147483647) (hr : RoomB S s = false) :
    Calls Try.prog 10 #[.pointer (some ⟨p, 0, none⟩), .int .i64 (t : Int), .int .i64 (s : Int), .int .i64 f] w (TwoN 0 16 w) := by
  have HR := fun w h => room_any w p mb rv S h ok s hs
  rw [hr] at HR
  have g1 : inB (t : Int) 0 258 = true := inB_true.2 (by omega)
  have g2 : inB (s : Int) 0 4095 = true := inB_true.2 (by omega)
  have g3 : inB f (-2147483648) 2147483647 = true := inB_true.2 (by omega)
  have HT := Lib.hid h
  clear h
  go_enter Try.func10, Try.ntmps10
  go_wp2_with (first
    | (go_at_call 23; refine (in_any _ _ _ _).mono ?_; rintro e w' ⟨rfl, rfl⟩)
    | (go_at_call 12; refine (HR _ HT.out).mono ?_; rintro e w' ⟨nr, rfl, rfl⟩))
  go_ret2
  exact ⟨nr, rfl, rfl⟩

theorem alloc_hdr {S : HS} {t s : Nat} {f : Int} : (S.alloc t s f).m (S.at_ s) = hdr t s := by simp [HS.alloc]

set_option maxRecDepth 100000 in
set_option maxHeartbeats 2000000 in
theorem alloc_young (w : World) (p mb : Nat) (rv : Value) (S : HS) (h : HeapSt w p mb rv S) (ok : S.Ok) (t s : Nat) (f : Int) (ht : t ≤ 258) (hs : s ≤ 4095) (hf : -2147483648 ≤ f ∧ f ≤ 2147483647) (hb : ¬ (S.nursery - 1 < s + 1)) (hr : RoomB S s = true) :
    Calls Try.prog 10 #[.pointer (some ⟨p, 0, none⟩), .int .i64 (t : Int), .int .i64 (s : Int), .int .i64 f] w (AllocPost p mb rv S t s f w) := by
  have HR := fun w h => room_any w p mb rv S h ok s hs
  rw [hr] at HR
  have g1 : inB (t : Int) 0 258 = true := inB_true.2 (by omega)
  have g2 : inB (s : Int) 0 4095 = true := inB_true.2 (by omega)
  have g3 : inB f (-2147483648) 2147483647 = true := inB_true.2 (by omega)
  have HT := Lib.hid h
  obtain ⟨c0, c1, c2, c3, c4, c5, c6, c7⟩ := h.cells
  have f3 := h.st.free 3
  have f6 := h.st.free 6
  obtain ⟨k1, k2⟩ := room_at ok hr
  have HOK : Hid (∀ k, (S.part t s f k).Ok) := fun k => by have o := ok.alloc (t := t) (f := f) hr; exact ⟨o.n, o.st, o.nu, o.yo, o.fr, o.ol, o.to, o.two⟩
  obtain ⟨⟨o1, o2⟩, o3, o4, ⟨o5, o6⟩, o7, ⟨o8, o9⟩, o10, o11⟩ := ok
  have hrm : S.young + s + 1 ≤ S.nursery := by
    unfold RoomB at hr; rw [if_neg hb] at hr; simpa using hr
  have hnoy : ∀ i : Nat, i < S.nursery → inB (i : Int) S.from_ (S.from_ + S.half - 1) = false := fun i hi => by
    refine Bool.eq_false_iff.2 fun e => ?_
    have := inB_true.1 e
    omega
  have HAT : Hid (S.at_ s = if S.nursery - 1 < s + 1 then S.old else S.young) := rfl
  have HPM : Hid (∀ k, S.part t s f k = { S.alloc t s f with m := fun j => if j = S.at_ s then hdr t s else if S.at_ s < j ∧ j ≤ S.at_ s + k then f else S.m j }) := fun k => rfl
  have HFI : Hid (S.part t s f s = S.alloc t s f) := rfl
  clear c0 c1 c4 c5 c7 hr
  have q1 : ¬ (S.nursery : Int) - 1 < (s : Int) + 1 := by omega
  have ea : S.at_ s = S.young := by rw [HAT.out, if_neg hb]
  obtain ⟨a, ha⟩ : ∃ a, a = S.young := ⟨_, rfl⟩
  have h1 := (h.drewN 0).setP 3 (.int .i64 ((a : Int) + ((s : Int) + 1))) (S' := { S.alloc t s f with m := S.m }) (by simp [HS.alloc, hb, ha]) rfl rfl rfl
  have hs1 : HStep p mb rv rv w (w.setCell ⟨p, 3, none⟩ (.int .i64 ((a : Int) + ((s : Int) + 1)))) := HStep.setP _ _
  rw [← ha] at ea c3 o5 o6 hrm
  clear ha
  have H1 := Lib.hid h1
  have HS1 := Lib.hid hs1
  have HEA := Lib.hid ea
  rw [ea] at k1 k2
  clear ea h h1 hs1
  go_enter Try.func10, Try.ntmps10
  go_wp2_with (first
    | (go_at_call 23; refine (in_any _ _ _ _).mono ?_; rintro e w' ⟨rfl, rfl⟩)
    | (go_at_call 12; refine (HR _ HT.out).mono ?_; rintro e w' ⟨nr, rfl, rfl⟩))
  have h1 := H1.out.drewN nr
  have hs1 := HS1.out.trans (HStep.drewN nr)
  clear H1 HS1 HT HR
  change HeapSt ((w.drewN nr).setCell _ _) p mb rv _ at h1
  change HStep p mb rv rv w ((w.drewN nr).setCell _ _) at hs1
  generalize (w.drewN nr).setCell _ _ = w1 at h1 hs1 ⊢
  have d0 := h1.cells.c0
  have d1 : w1.cell? ⟨mb, a, none⟩ = some (.int .i64 (S.m a)) := h1.word (by show a < S.n; omega)
  have d2 := h1.mm.free a
  have H2 := Lib.hid (h1.setM a (hdr t s))
  have HS2 := Lib.hid (hs1.trans (HStep.setM a (.int .i64 (hdr t s))))
  obtain ⟨x, hx⟩ : ∃ x, x = S.m a := ⟨_, rfl⟩
  change w1.cell? ⟨p, 0, none⟩ = some (.slice (some ⟨mb, 0, none⟩) S.n S.n) at d0
  rw [← hx] at d1
  clear hx
  have k4 : a < S.n := by omega
  go_still_tail 9, (by kernel_rfl)
  still_call (header_q _ _ _ (by omega) (by omega))
  still_step
  refine wpStill_nil ?_
  change wpList _ _ _ _ _ w1.drew
  go_wp2
  have HPP := fun (k : Nat) (ii : Int) (wx : World) (hx : HeapSt wx p mb rv (S.part t s f k)) (e : ii = ((a + k + 1 : Nat) : Int)) (hk : k < s) => put_at wx p mb rv (S.part t s f k) hx (HOK.out k) (a + k + 1) ii e f (by omega) (by show a + k + 1 < S.n; omega) (.inl (hnoy (a + k + 1) (by omega)))
  have h2 : HeapSt (w1.setCell ⟨mb, a, none⟩ (.int .i64 (hdr t s))).drew p mb rv (S.part t s f 0) := by
    refine HeapSt.drewN (n := 1) ?_
    have e0 : S.part t s f 0 = { S.alloc t s f with m := fun j => if j = a then hdr t s else S.m j } := by
      rw [HPM.out, HEA.out]
      congr 1
      funext j
      by_cases e1 : j = a
      · simp [e1]
      · simp only [if_neg e1]; rw [if_neg (by omega)]
    rw [e0]
    exact H2.out
  have hs2 := HS2.out.trans (HStep.drewN (rv := rv) 1)
  change HStep p mb rv rv w (w1.setCell ⟨mb, a, none⟩ (.int .i64 (hdr t s))).drew at hs2
  have H3 := Lib.hid h2
  have HS3 := Lib.hid hs2
  clear h1 hs1 H2 HS2 h2 hs2 d0 d1 d2
  go_loopw [12] (fun u wr => ∃ k : Nat, k ≤ s ∧ u = .int .i64 ((k : Int) + 1) ∧ HeapSt wr p mb rv (S.part t s f k) ∧ HStep p mb rv rv w wr) (fun u _ => s + 1 - (intOf u).toNat)
  case atStart => exact ⟨0, Nat.zero_le _, rfl, H3.out, HS3.out⟩
  case round =>
    obtain ⟨k, hk, rfl, hst, hs4⟩ := hrel
    have HST := Lib.hid hst
    have HS4 := Lib.hid hs4
    clear hst hs4 H3 HS3
    by_cases hlt : k < s
    · go_wp2_with fail
      refine (HPP k _ _ HST.out (by omega) hlt).mono ?_
      rintro e w' ⟨n, rfl, rfl⟩
      have h5 := (HST.out.setM (a + k + 1) f).drewN n
      have h6 := (HS4.out.trans (HStep.setM (a + k + 1) (.int .i64 f))).trans (HStep.drewN (rv := rv) n)
      have e5 : S.part t s f (k + 1) = { S.part t s f k with m := fun j => if j = a + k + 1 then f else (S.part t s f k).m j } := by
        rw [HPM.out, HPM.out, HEA.out]
        congr 1
        funext j
        by_cases e1 : j = a
        · simp only [if_pos e1]; rw [if_neg (by omega)]
        · simp only [if_neg e1]
          by_cases e2 : j = a + k + 1
          · rw [if_pos e2, if_pos (by omega)]
          · rw [if_neg e2]
            by_cases e3 : a < j ∧ j ≤ a + k
            · rw [if_pos e3, if_pos (by omega)]
            · rw [if_neg e3, if_neg (by omega)]
      rw [← e5] at h5
      have H5 := Lib.hid h5
      have H6 := Lib.hid h6
      clear h5 h6 e5 HST HS4
      go_wp2_with fail
      go_roundw
      case rel => exact ⟨k + 1, by omega, by go_num, H5.out, H6.out⟩
      case measure => simp [intOf]; omega
    · have ek : k = s := by omega
      subst ek
      go_wp2_with fail
      go_ret2
      refine ⟨?_, ?_, HS4.out⟩
      · rw [HEA.out]; rfl
      · rw [← HFI.out]; exact HST.out

theorem WF.new (n s u : Nat) : WF (HS.new n s u) [] [] :=
  ⟨.nil _, .nil _, fun i hi => by cases hi⟩

set_option maxHeartbeats 1000000 in
theorem heapFactK_ok (w : World) : Calls Try.prog 18 #[] w fun e w' => e = .returned (.bool true) ∧ Below w.heap.size w w' := by
  have HN : ∀ w, Calls Try.prog 7 #[.int .i64 64, .int .i64 8, .int .i64 16] w (HNewPost (HS.new 64 8 16) w) := fun w => hnew_ok 64 8 16 w (by omega) (by omega) (by omega)
  have HA : ∀ w p mb, HeapSt w p mb (.slice none 0 0) (HS.new 64 8 16) → Calls Try.prog 10 #[.pointer (some ⟨p, 0, none⟩), .int .i64 1, .int .i64 1, .int .i64 1] w (AllocPost p mb (.slice none 0 0) (HS.new 64 8 16) 1 1 1 w) := fun w p mb h =>
    alloc_odd w p mb _ _ h (HS.new_ok 64 8 16 (by omega) (by omega) (by omega)) 1 1 1 (by omega) (by omega) (by omega) (by omega) (by decide)
  have e1 : (HS.new 64 8 16).at_ 1 = 1 := by decide
  go_enter Try.func18, Try.ntmps18
  go_wp2_with fail
  refine (HN _).mono ?_
  rintro e w1 ⟨p, mb, rfl, hst, hp, hm, hb⟩
  have HST := Lib.hid hst
  have HB := Lib.hid hb
  clear hst hb
  go_wp2_with fail
  refine (HA _ _ _ HST.out).mono ?_
  rintro e w2 ⟨he, hst2, hstep⟩
  rw [e1] at he
  subst he
  have HB2 := Lib.hid (HB.out.trans (hstep.below hp hm (fun g hg => by simp [Value.ownBlock] at hg) HB.out.size))
  clear hst2 hstep
  go_wp2_with fail
  go_ret
  exact ⟨rfl, HB2.out⟩


theorem HInv.new (n s u : Nat) (h1 : 32 ≤ n ∧ n ≤ 65536) (h2 : 4 ≤ s ∧ s ≤ n / 2) (h3 : 4 ≤ u ∧ u ≤ (n - s) / 2) : HInv (HS.new n s u) [] [] :=
  ⟨HS.new_ok n s u h1 h2 h3, WF.new n s u, .inl rfl, (fun k hk => by cases hk), List.nodup_nil, (fun o ho => by cases ho), fun o ho => by cases ho⟩

theorem alloc_other {S : HS} {t s : Nat} {f : Int} {j : Nat} (h : j < S.at_ s ∨ S.at_ s + s < j) : (S.alloc t s f).m j = S.m j := by
  show (if j = S.at_ s then hdr t s else if S.at_ s < j ∧ j ≤ S.at_ s + s then f else S.m j) = S.m j
  rw [if_neg (by omega), if_neg (by omega)]
theorem alloc_field {S : HS} {t s : Nat} {f : Int} {j : Nat} (h : S.at_ s < j ∧ j ≤ S.at_ s + s) : (S.alloc t s f).m j = f := by
  show (if j = S.at_ s then hdr t s else if S.at_ s < j ∧ j ≤ S.at_ s + s then f else S.m j) = f
  rw [if_neg (by omega), if_pos h]
theorem at_young {S : HS} {s : Nat} (hb : ¬ (S.nursery - 1 < s + 1)) : S.at_ s = S.young := by unfold HS.at_; rw [if_neg hb]
/-- where the objects lie, seen from the place of a new young one -/
theorem HInv.away {S : HS} {l1 l2 : List Nat} (hi : HInv S l1 l2) {s : Nat} (hb : ¬ (S.nursery - 1 < s + 1)) (hr : RoomB S s = true) {j : Nat} (hj : j ∈ l1 ++ l2) {k : Nat} (h1 : j ≤ k) (h2 : k ≤ j + hsize (S.m j)) : k < S.at_ s ∨ S.at_ s + s < k := by
  rw [at_young hb]
  have hroom : S.young + s + 1 ≤ S.nursery := by
    unfold RoomB at hr; rw [if_neg hb] at hr; simpa using hr
  rcases List.mem_append.1 hj with h | h
  · have := hi.wf.y.mem j h; omega
  · have := hi.wf.o.mem j h; have := hi.ok.fr; omega
theorem HInv.allocY {S : HS} {l1 l2 : List Nat} (hi : HInv S l1 l2) {t s : Nat} {f : Int} (ht : t ≤ 258) (hs : s ≤ 4095) (hb : ¬ (S.nursery - 1 < s + 1)) (hr : RoomB S s = true) (hf : WordV (l1 ++ l2) f) (hfb : -2147483648 ≤ f ∧ f ≤ 2147483647) :
    HInv (S.alloc t s f) (l1 ++ [S.young]) l2 := by
  have hst := (hi.ok.alloc (t := t) (f := f) hr)
  obtain ⟨hh1, hh2, hh3, hh4⟩ := hdr_is t s ht hs
  have hroom : S.young + s + 1 ≤ S.nursery := by
    unfold RoomB at hr; rw [if_neg hb] at hr; simpa using hr
  have ea := at_young hb
  have ey : (S.alloc t s f).young = S.young + (s + 1) := by show (if S.nursery - 1 < s + 1 then _ else _) = _; rw [if_neg hb]
  have eo : (S.alloc t s f).old = S.old := by show (if S.nursery - 1 < s + 1 then _ else _) = _; rw [if_neg hb]
  have h0 : (S.alloc t s f).m S.young = hdr t s := by rw [← ea]; exact alloc_hdr
  have hkeep : ∀ j ∈ l1 ++ l2, ∀ k, j ≤ k → k ≤ j + hsize (S.m j) → (S.alloc t s f).m k = S.m k := fun j hj k h1 h2 => alloc_other (hi.away hb hr hj h1 h2)
  have hfr := hi.ok.fr
  have hmem : ∀ i, i ∈ (l1 ++ [S.young]) ++ l2 → i ∈ l1 ++ l2 ∨ i = S.young := fun i h => by
    simp only [List.mem_append, List.mem_singleton] at h ⊢
    rcases h with (h | h) | h <;> simp [h]
  have hsub : ∀ i, i ∈ l1 ++ l2 → i ∈ (l1 ++ [S.young]) ++ l2 := fun i h => by
    simp only [List.mem_append, List.mem_singleton] at h ⊢
    rcases h with h | h <;> simp [h]
  refine ⟨hst, ⟨?_, ?_, ?_⟩, hi.half, ?_, hi.rnd, ?_, ?_⟩
  · have h2 := (hi.wf.y.congr (m' := (S.alloc t s f).m) fun i a b => alloc_other (.inl (by omega))).snoc (by rw [h0]; exact hh1)
    rw [h0, hh2] at h2
    rw [ey]; exact h2
  · rw [eo]; exact hi.wf.o.congr fun i a b => alloc_other (.inr (by have : S.from_ ≤ i := a; omega))
  · intro i hi2 k h1 h2
    rcases hmem i hi2 with h | rfl
    · have e := hkeep i h i (Nat.le_refl _) (by omega)
      rw [e] at h2
      rw [hkeep i h k (by omega) h2]
      rcases hi.wf.f i h k h1 h2 with h3 | ⟨j, h3, h4⟩
      · exact .inl h3
      · exact .inr ⟨j, h3.imp id (hsub j), h4⟩
    · rw [h0, hh2] at h2
      rw [alloc_field (by rw [ea]; exact ⟨h1, h2⟩)]
      rcases hf with h | h | ⟨j, h3, h4⟩
      · exact .inl h.1
      · exact .inr ⟨0, .inl rfl, by rw [h]; rfl⟩
      · exact .inr ⟨j, .inr (hsub j h3), h4⟩
  · intro k hk
    obtain ⟨o, h1, h2, h3⟩ := hi.rem k hk
    have e := hkeep o (List.mem_append_right _ h1) o (Nat.le_refl _) (by omega)
    exact ⟨o, h1, h2, by rw [e]; exact h3⟩
  · intro o ho k h1 h2 h3
    have hm := List.mem_append_right l1 ho
    rw [hkeep o hm o (Nat.le_refl _) (by omega)] at h2
    rw [hkeep o hm k (by omega) h2] at h3
    exact hi.yng o ho k h1 h2 h3
  · intro o ho k h1 h2
    rcases hmem o ho with h | rfl
    · rw [hkeep o h o (Nat.le_refl _) (by omega)] at h2
      rw [hkeep o h k (by omega) h2]
      exact hi.wd o h k h1 h2
    · rw [h0, hh2] at h2
      rw [alloc_field (by rw [ea]; exact ⟨h1, h2⟩)]
      exact hfb
end Go.Proofs.Ytkpeeemnholmnaa
