/- The walk of HeapRoom. -/
import Derived.Test.YtkblfoabfajciabHeapE
namespace Go.Proofs.Ytkblfoabfajciab
open Go.RowKit
set_option linter.unusedVariables false

set_option maxHeartbeats 1000000 in
theorem alloc_full (w : World) (p mb : Nat) (rv : Value) (S : HS) (h : HeapSt w p mb rv S) (ok : S.Ok) (t s : Nat) (f : Int) (ht : t ≤ 258) (hs : s ≤ 4095) (hf : -2147483648 ≤ f ∧ f ≤ 2147483647) (hr : RoomB S s = false) :
    Calls Try.prog 12 #[.pointer (some ⟨p, 0, none⟩), .int .i64 (t : Int), .int .i64 (s : Int), .int .i64 f] w (TwoN 0 16 w) := by
  have HR := fun w h => room_any w p mb rv S h ok s hs
  rw [hr] at HR
  have g1 : inB (t : Int) 0 258 = true := inB_true.2 (by omega)
  have g2 : inB (s : Int) 0 4095 = true := inB_true.2 (by omega)
  have g3 : inB f (-2147483648) 2147483647 = true := inB_true.2 (by omega)
  have HT := Lib.hid h
  clear h
  go_enter Try.func12, Try.ntmps12
  go_wp2_with (first
    | (go_at_call 24; refine (in_any _ _ _ _).mono ?_; rintro e w' ⟨rfl, rfl⟩)
    | (go_at_call 11; refine (HR _ HT.out).mono ?_; rintro e w' ⟨nr, rfl, rfl⟩))
  go_ret2
  exact ⟨nr, rfl, rfl⟩

theorem alloc_hdr {S : HS} {t s : Nat} {f : Int} : (S.alloc t s f).m (S.at_ s) = hdr t s := by simp [HS.alloc]

/-- an object more -/
theorem WF.alloc {S : HS} (ok : S.Ok) {l1 l2 : List Nat} (h : WF S l1 l2) {t s : Nat} {f : Int} (ht : t ≤ 258) (hs : s ≤ 4095) (hr : RoomB S s = true) (hodd : f % 2 = 1) :
    ∃ l1' l2', WF (S.alloc t s f) l1' l2' ∧ ObjAt (S.alloc t s f) (S.at_ s) := by
  have hst := (ok.alloc (t := t) (f := f) hr)
  obtain ⟨⟨o1, o2⟩, o3, o4, ⟨o5, o6⟩, o7, ⟨o8, o9⟩, o10, o11⟩ := ok
  obtain ⟨hh1, hh2, hh3, hh4⟩ := hdr_is t s ht hs
  have hm : ∀ j, j ≠ S.at_ s → (j < S.at_ s ∨ S.at_ s + s < j) → (S.alloc t s f).m j = S.m j := fun j h1 h2 => by
    show (if j = S.at_ s then hdr t s else if S.at_ s < j ∧ j ≤ S.at_ s + s then f else S.m j) = S.m j
    rw [if_neg h1, if_neg (by omega)]
  have hf : ∀ j, S.at_ s < j → j ≤ S.at_ s + s → (S.alloc t s f).m j = f := fun j h1 h2 => by
    show (if j = S.at_ s then hdr t s else if S.at_ s < j ∧ j ≤ S.at_ s + s then f else S.m j) = f
    rw [if_neg (by omega), if_pos ⟨h1, h2⟩]
  have h0 : (S.alloc t s f).m (S.at_ s) = hdr t s := alloc_hdr
  have hfld : ∀ (l l' : List Nat), (∀ j ∈ l, j ∈ l') → (∀ i ∈ l, i + hsize (S.m i) < S.at_ s ∨ S.at_ s + s < i) → (∀ i ∈ l, ∀ k, i < k → k ≤ i + hsize (S.m i) → S.m k % 2 = 1 ∨ ∃ j : Nat, (j = 0 ∨ j ∈ l) ∧ S.m k = 2 * (j : Int)) →
      ∀ i, (i ∈ l ∨ i = S.at_ s) → ∀ k, i < k → k ≤ i + hsize ((S.alloc t s f).m i) → (S.alloc t s f).m k % 2 = 1 ∨ ∃ j : Nat, (j = 0 ∨ j ∈ l') ∧ (S.alloc t s f).m k = 2 * (j : Int) := by
    intro l l' hsub hfar hold i hi k h1 h2
    rcases hi with hi | rfl
    · have hfi := hfar i hi
      have e1 : (S.alloc t s f).m i = S.m i := hm i (by omega) (by omega)
      rw [e1] at h2
      rw [hm k (by omega) (by omega)]
      rcases hold i hi k h1 h2 with h | ⟨j, hj, e⟩
      · exact .inl h
      · exact .inr ⟨j, hj.imp id (hsub j), e⟩
    · rw [h0, hh2] at h2
      rw [hf k h1 h2]
      exact .inl hodd
  by_cases hb : S.nursery - 1 < s + 1
  · have ea : S.at_ s = S.old := by unfold HS.at_; rw [if_pos hb]
    have ey : (S.alloc t s f).young = S.young := by show (if S.nursery - 1 < s + 1 then _ else _) = _; rw [if_pos hb]
    have eo : (S.alloc t s f).old = S.old + (s + 1) := by show (if S.nursery - 1 < s + 1 then _ else _) = _; rw [if_pos hb]
    refine ⟨l1, l2 ++ [S.old], ⟨?_, ?_, ?_⟩, ?_⟩
    · rw [ey]; exact h.y.congr fun i a b => hm i (by omega) (by omega)
    · have h2 := (h.o.congr (m' := (S.alloc t s f).m) fun i a b => hm i (by omega) (by omega)).snoc (by rw [← ea, h0]; exact hh1)
      rw [← ea, h0, hh2, ea] at h2
      rw [eo]; exact h2
    · intro i hi k h1 h2
      have hi2 : i ∈ l1 ++ l2 ∨ i = S.at_ s := by
        rw [ea]; simpa [or_assoc] using hi
      exact hfld (l1 ++ l2) _ (fun j hj => by simp at hj ⊢; rcases hj with h | h <;> simp [h]) (fun i hi => by
        rcases List.mem_append.1 hi with h9 | h9
        · have := h.y.mem i h9; omega
        · have := h.o.mem i h9; omega) h.f i hi2 k h1 h2
    · refine ⟨by rw [h0]; exact hh1, .inr ⟨?_, ?_⟩⟩
      · show S.from_ ≤ S.at_ s; omega
      · rw [h0, hh2, eo]; omega
  · have ea : S.at_ s = S.young := by unfold HS.at_; rw [if_neg hb]
    have ey : (S.alloc t s f).young = S.young + (s + 1) := by show (if S.nursery - 1 < s + 1 then _ else _) = _; rw [if_neg hb]
    have eo : (S.alloc t s f).old = S.old := by show (if S.nursery - 1 < s + 1 then _ else _) = _; rw [if_neg hb]
    have hroom : S.young + s + 1 ≤ S.nursery := by
      unfold RoomB at hr; rw [if_neg hb] at hr; simpa using hr
    refine ⟨l1 ++ [S.young], l2, ⟨?_, ?_, ?_⟩, ?_⟩
    · have h2 := (h.y.congr (m' := (S.alloc t s f).m) fun i a b => hm i (by omega) (by omega)).snoc (by rw [← ea, h0]; exact hh1)
      rw [← ea, h0, hh2, ea] at h2
      rw [ey]; exact h2
    · rw [eo]; exact h.o.congr fun i a b => hm i (by omega) (by omega)
    · intro i hi k h1 h2
      have hi2 : i ∈ l1 ++ l2 ∨ i = S.at_ s := by
        rw [ea]; simp at hi ⊢; rcases hi with h | h | h <;> simp [h]
      exact hfld (l1 ++ l2) _ (fun j hj => by simp at hj ⊢; rcases hj with h | h <;> simp [h]) (fun i hi => by
        rcases List.mem_append.1 hi with h9 | h9
        · have := h.y.mem i h9; omega
        · have := h.o.mem i h9; omega) h.f i hi2 k h1 h2
    · refine ⟨by rw [h0]; exact hh1, .inl ⟨?_, ?_, ?_⟩⟩
      · show S.at_ s < S.nursery; omega
      · omega
      · rw [h0, hh2, ey]; omega
theorem WF.new (n s u : Nat) : WF (HS.new n s u) [] [] :=
  ⟨.nil _, .nil _, fun i hi => by cases hi⟩

set_option maxHeartbeats 1000000 in
theorem heapFactK_ok (w : World) : Calls Try.prog 10 #[] w fun e w' => e = .returned (.bool true) ∧ Below w.heap.size w w' := by
  have HN : ∀ w, Calls Try.prog 8 #[.int .i64 64, .int .i64 8, .int .i64 16] w (HNewPost (HS.new 64 8 16) w) := fun w => hnew_ok 64 8 16 w (by omega) (by omega) (by omega)
  have HA : ∀ w p mb, HeapSt w p mb (.slice none 0 0) (HS.new 64 8 16) → Calls Try.prog 12 #[.pointer (some ⟨p, 0, none⟩), .int .i64 1, .int .i64 1, .int .i64 1] w (AllocPost p mb (.slice none 0 0) (HS.new 64 8 16) 1 1 1 w) := fun w p mb h =>
    alloc_odd w p mb _ _ h (HS.new_ok 64 8 16 (by omega) (by omega) (by omega)) 1 1 1 (by omega) (by omega) (by omega) (by omega) (by decide)
  have e1 : (HS.new 64 8 16).at_ 1 = 1 := by decide
  go_enter Try.func10, Try.ntmps10
  go_wp2_with fail
  refine (HN _).mono ?_
  rintro e w1 ⟨p, mb, rfl, hst, hp, hm, hb⟩
  have HST := Lib.hid hst
  have HB := Lib.hid hb
  clear hst hb
  go_wp2_with fail
  refine (HA _ _ _ HST.out).mono ?_
  rintro e w2 ⟨he, hst2, hstep⟩
  rw [e1] at he
  subst he
  have HB2 := Lib.hid (HB.out.trans (hstep.below hp hm (fun g hg => by simp [Value.ownBlock] at hg) HB.out.size))
  clear hst2 hstep
  go_wp2_with fail
  go_ret
  exact ⟨rfl, HB2.out⟩

def RoomInv (w : World) (p mb : Nat) (wds : Int) (wr : World) : Prop :=
  ∃ (S : HS) (l1 l2 : List Nat), HeapSt wr p mb (.slice none 0 0) S ∧ S.Ok ∧ WF S l1 l2 ∧ wds = (S.young : Int) - 1 + ((S.old : Int) - S.from_) ∧ Below w.heap.size w wr

theorem used_alloc {S : HS} (ok : S.Ok) (t s : Nat) (f : Int) : ((S.alloc t s f).young : Int) - 1 + (((S.alloc t s f).old : Int) - (S.alloc t s f).from_) = (S.young : Int) - 1 + ((S.old : Int) - S.from_) + (s + 1) := by
  show (((if S.nursery - 1 < s + 1 then S.young else S.young + (s + 1) : Nat)) : Int) - 1 + ((((if S.nursery - 1 < s + 1 then S.old + (s + 1) else S.old : Nat)) : Int) - (S.from_ : Int)) = _
  split <;> omega

set_option maxRecDepth 100000 in
set_option maxHeartbeats 4000000 in
theorem heapRoom_walk (m0 u0 : Int) (a : Option Addr) (len cap : Nat) (zs : List Int) (w : World) (_hm0 : -9223372036854775808 ≤ m0 ∧ m0 ≤ 9223372036854775807) (_hu0 : -9223372036854775808 ≤ u0 ∧ u0 ≤ 9223372036854775807) (h0 : Came w a len cap 1 (zs.map intCells) ∧ ∀ z ∈ zs, I64 z) :
    Calls Try.prog 3 #[.int .i64 m0, .int .i64 u0, .slice a len cap] w fun e w' => e = .returned (.bool true) ∧ Below w.heap.size w w' := by
  have h := h0.1
  clear h0
  have hzl : zs.length = len := by simpa using h.count
  have HZ := Lib.hid hzl
  have hle := h.le
  have hmx := h.max
  have HC := Lib.hid h
  obtain ⟨mm, hmm⟩ : ∃ mm : Nat, (mm : Int) = m0 % 300 := ⟨(m0 % 300).toNat, by omega⟩
  obtain ⟨uu, huu⟩ : ∃ uu : Nat, (uu : Int) = u0 % 20 := ⟨(u0 % 20).toNat, by omega⟩
  have hmb : mm < 300 := by omega
  have hub : uu < 20 := by omega
  have HR1 : ∀ w, Calls Try.prog 9 #[.int .i64 m0, .int .i64 300] w fun e w' => e = .returned (.int .i64 (mm : Int)) ∧ w = w' := fun w => by rw [hmm]; exact rest_any m0 300 w (by omega) (by omega)
  have HR2 : ∀ w, Calls Try.prog 9 #[.int .i64 u0, .int .i64 20] w fun e w' => e = .returned (.int .i64 (uu : Int)) ∧ w = w' := fun w => by rw [huu]; exact rest_any u0 20 w (by omega) (by omega)
  have HN : ∀ w, Calls Try.prog 8 #[.int .i64 (64 + (mm : Int)), .int .i64 8, .int .i64 (4 + (uu : Int))] w (HNewPost (HS.new (64 + mm) 8 (4 + uu)) w) := fun w => hnew_ok (64 + mm) 8 (4 + uu) w (by omega) (by omega) (by omega)
  have HOK : Hid (HS.new (64 + mm) 8 (4 + uu)).Ok := HS.new_ok _ _ _ (by omega) (by omega) (by omega)
  clear h hzl hmm huu
  have mx40 : max (40 : Int) 0 = 40 := by omega
  rcases Nat.lt_or_ge 40 len with hbig | hbig
  case' inl => have mn : min (len : Int) 40 = 40 := by omega
  case' inr => have mn : min (len : Int) 40 = (len : Int) := by omega
  all_goals
    go_enter Try.func3, Try.ntmps3
    go_wp2_with (first
      | (go_at_call 9; refine (HR1 _).mono ?_; rintro e w' ⟨rfl, rfl⟩)
      | (go_at_call 9; refine (HR2 _).mono ?_; rintro e w' ⟨rfl, rfl⟩))
    refine (HN _).mono ?_
    rintro e w1 ⟨p, mb, rfl, hst, hp, hm, hb⟩
    have HST := Lib.hid hst
    have HB := Lib.hid hb
    clear hst hb
    go_wp2_with fail
    refine (heapFactK_ok _).mono ?_
    rintro e w2 ⟨rfl, hb2⟩
    have HI : Hid (RoomInv w p mb 0 w2) := ⟨_, [], [], HST.out.later hb2, HOK.out, WF.new _ _ _, by show (0 : Int) = ((1 : Nat) : Int) - 1 + (((1 + (4 + uu) : Nat) : Int) - ((1 + (4 + uu) : Nat) : Int)); omega, HB.out.trans (hb2.mono HB.out.size)⟩
    clear hb2 HST HB HR1 HR2 HN
    go_wp2_with fail
    go_loopw [9, 46] (fun wd u wr => ∃ (k : Nat) (wds : Int), k ≤ 40 ∧ k ≤ len ∧ u = .int .i64 (k : Int) ∧ wd = .int .i64 wds ∧ RoomInv w p mb wds wr) (fun _ u _ => len - (intOf u).toNat)
    case atStart => exact ⟨0, 0, by omega, by omega, rfl, rfl, HI.out⟩
    case round =>
      clear HI
      obtain ⟨k, wds, hk1, hk2, rfl, rfl, S, l1, l2, hst, ok, hwf, hwd, hbe⟩ := hrel
      by_cases hlt : k < len ∧ k < 40
      · obtain ⟨hk3, hk4⟩ := hlt
        have hk5 : (k : Int) < 40 := by omega
        obtain ⟨b, off, ea, _, hcell⟩ := (HC.out.below hbe).ints (by omega)
        subst ea
        have hkl : k < zs.length := by have := HZ.out; omega
        have cl := hcell k hkl
        obtain ⟨z, hz⟩ : ∃ z, z = zs[k] := ⟨_, rfl⟩
        rw [← hz] at cl
        clear hcell hz
        obtain ⟨s, hs⟩ : ∃ s : Nat, (s : Int) = z % 60 := ⟨(z % 60).toNat, by omega⟩
        have hsb : s < 60 := by omega
        have HRZ : ∀ w, Calls Try.prog 9 #[.int .i64 z, .int .i64 60] w fun e w' => e = .returned (.int .i64 (s : Int)) ∧ w = w' := fun w => by rw [hs]; exact rest_any z 60 w (by omega) (by omega)
        have hwb : 0 ≤ wds ∧ wds ≤ 200000 := by
          obtain ⟨⟨o1, o2⟩, o3, o4, ⟨o5, o6⟩, o7, ⟨o8, o9⟩, o10, o11⟩ := ok
          omega
        have hwd' := used_alloc ok 1 s 1
        rw [← hwd] at hwd'
        have hus := fun wx hx => used_any wx p mb (.slice none 0 0) S hx ok
        have HRM := fun wx hx => room_any wx p mb (.slice none 0 0) S hx ok s (by omega)
        have HST := Lib.hid hst
        have HBE := Lib.hid hbe
        have HWF := Lib.hid hwf
        have HOKS := Lib.hid ok
        clear hst hbe hs
        cases hr : RoomB S s
        · have HAL : ∀ wx, HeapSt wx p mb (.slice none 0 0) S → Calls Try.prog 12 #[.pointer (some ⟨p, 0, none⟩), .int .i64 1, .int .i64 (s : Int), .int .i64 1] wx (TwoN 0 16 wx) := fun wx hx => alloc_full wx p mb _ S hx ok 1 s 1 (by omega) (by omega) (by omega) hr
          rw [hr] at HRM
          obtain ⟨x, hx⟩ : ∃ x, x = (S.young : Int) - 1 := ⟨_, rfl⟩
          obtain ⟨y, hy⟩ : ∃ y, y = (S.old : Int) - S.from_ := ⟨_, rfl⟩
          rw [← hx, ← hy] at hus hwd
          have hxb : 0 ≤ x ∧ x ≤ 65536 ∧ 0 ≤ y ∧ y ≤ 65536 := by
            obtain ⟨⟨o1, o2⟩, o3, o4, ⟨o5, o6⟩, o7, ⟨o8, o9⟩, o10, o11⟩ := ok
            omega
          have zx : (x + y != wds) = false := by rw [hwd]; simp
          have HWD : Hid (wds = (S.young : Int) - 1 + ((S.old : Int) - S.from_)) := by unfold Hid; rw [← hx, ← hy]; exact hwd
          clear hx hy hwd hwd' hwf ok hr
          go_wp2_with (first
            | (go_at_call 9; refine (HRZ _).mono ?_; rintro e w' ⟨rfl, rfl⟩)
            | (go_at_call 11; refine (HRM _ HST.out).mono ?_; rintro e w' ⟨q1, rfl, rfl⟩)
            | (go_at_call 12; refine (HAL _ (HST.out.drewN _)).mono ?_; rintro e w' ⟨q2, rfl, rfl⟩)
            | (go_at_call 14; refine (hus _ (HST.out.drewN _)).mono ?_; rintro e w' ⟨q3, rfl, rfl⟩))
          go_roundw
          case rel => exact ⟨k + 1, wds, by omega, by omega, by go_num, rfl, S, l1, l2, HST.out.drewN _, HOKS.out, HWF.out, HWD.out, HBE.out.trans (below_drewN_self _ _ _)⟩
          case measure => simp [intOf]; omega
        · have HAL : ∀ wx, HeapSt wx p mb (.slice none 0 0) S → Calls Try.prog 12 #[.pointer (some ⟨p, 0, none⟩), .int .i64 1, .int .i64 (s : Int), .int .i64 1] wx (AllocPost p mb (.slice none 0 0) S 1 s 1 wx) := fun wx hx => alloc_odd wx p mb _ S hx ok 1 s 1 (by omega) (by omega) (by omega) (by omega) hr
          obtain ⟨l1', l2', hwf2, hobj⟩ := hwf.alloc ok (t := 1) (s := s) (f := 1) (by omega) (by omega) hr (by omega)
          have ok2 := ok.alloc (t := 1) (s := s) (f := 1) hr
          obtain ⟨hr1, hr2⟩ := room_at ok hr
          have HTG := fun wx hx => tag_ok wx p mb (.slice none 0 0) (S.alloc 1 s 1) hx ok2 (S.at_ s) hobj
          obtain ⟨hh1, hh2, hh3, hh4⟩ := hdr_is 1 s (by omega) (by omega)
          have e8 : (S.alloc 1 s 1).m (S.at_ s) / 8192 = 1 := by rw [alloc_hdr, hh3]; rfl
          have e9 : ((hsize ((S.alloc 1 s 1).m (S.at_ s)) : Nat) : Int) = (s : Int) := by rw [alloc_hdr, hh2]
          rw [e8, e9] at HTG
          have hus := fun wx hx => used_any wx p mb (.slice none 0 0) (S.alloc 1 s 1) hx ok2
          rw [hr] at HRM
          obtain ⟨x, hx⟩ : ∃ x, x = ((S.alloc 1 s 1).young : Int) - 1 := ⟨_, rfl⟩
          obtain ⟨y, hy⟩ : ∃ y, y = ((S.alloc 1 s 1).old : Int) - (S.alloc 1 s 1).from_ := ⟨_, rfl⟩
          rw [← hx, ← hy] at hus hwd'
          have hxb : 0 ≤ x ∧ x ≤ 65536 ∧ 0 ≤ y ∧ y ≤ 65536 := by
            obtain ⟨⟨o1, o2⟩, o3, o4, ⟨o5, o6⟩, o7, ⟨o8, o9⟩, o10, o11⟩ := ok2
            omega
          have zx : (x + y != wds + ((s : Int) + 1)) = false := by rw [hwd']; simp
          have HWD : Hid (wds + ((s : Int) + 1) = ((S.alloc 1 s 1).young : Int) - 1 + (((S.alloc 1 s 1).old : Int) - (S.alloc 1 s 1).from_)) := by unfold Hid; rw [← hx, ← hy]; exact hwd'.symm
          have HWF2 := Lib.hid hwf2
          have HOK2 := Lib.hid ok2
          have hnb := ok.n
          obtain ⟨at_, hat⟩ : ∃ i, i = S.at_ s := ⟨_, rfl⟩
          have HAT := Lib.hid hat
          rw [← hat] at HTG hr1 hr2
          clear hx hy hwd hwd' hwf ok hr hwf2 ok2 hobj hh1 hh2 hh3 hh4 e8 e9 hat
          go_wp2_with (first
            | (go_at_call 9; refine (HRZ _).mono ?_; rintro e w' ⟨rfl, rfl⟩)
            | (go_at_call 11; refine (HRM _ HST.out).mono ?_; rintro e w' ⟨q1, rfl, rfl⟩))
          refine (HAL _ (HST.out.drewN _)).mono ?_
          rintro e w5 ⟨he, hst5, hstep5⟩
          rw [← HAT.out] at he
          subst he
          have HST5 := Lib.hid hst5
          have HBE5 := Lib.hid ((HBE.out.trans (below_drewN_self _ _ q1)).trans (hstep5.below hp hm (fun g hg => by simp [Value.ownBlock] at hg) (by show w.heap.size ≤ wr.heap.size; exact HBE.out.size)))
          clear hst5 hstep5 HAL HRM HST
          go_wp2_with (first
            | (go_at_call 13; refine (HTG _ HST5.out).mono ?_; rintro e w' ⟨q2, rfl, rfl⟩)
            | (go_at_call 14; refine (hus _ (HST5.out.drewN _)).mono ?_; rintro e w' ⟨q3, rfl, rfl⟩))
          go_roundw
          case rel => exact ⟨k + 1, wds + ((s : Int) + 1), by omega, by omega, by go_num, rfl, S.alloc 1 s 1, l1', l2', HST5.out.drewN _, HOK2.out, HWF2.out, HWD.out, HBE5.out.trans (below_drewN_self _ _ _)⟩
          case measure => simp [intOf]; omega
      · have hz2 : (¬ (k : Int) < 40 ∧ 40 < len) ∨ ¬ k < len := by omega
        first
          | (have hz3 : ¬ (k : Int) < 40 := by omega)
          | (have hz3 : ¬ k < len := by omega)
        have HST := Lib.hid hst
        have HBE := Lib.hid hbe
        have HCK := fun wx hx => check_ok wx p mb (.slice none 0 0) S hx ok l1 l2 hwf
        clear hst hbe hwf ok hwd hz2 hlt
        go_wp2_with (go_at_call 15; refine (HCK _ HST.out).mono ?_; rintro e w' ⟨rfl, hb9⟩)
        have HB9 := Lib.hid (HBE.out.trans (hb9.mono HBE.out.size))
        clear hb9
        go_ret
        exact ⟨rfl, HB9.out⟩
end Go.Proofs.Ytkblfoabfajciab
