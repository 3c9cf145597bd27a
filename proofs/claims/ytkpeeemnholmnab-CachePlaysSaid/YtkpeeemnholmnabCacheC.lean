/- The contract of the cache's Access and Misses. -/
import Derived.Test.YtkpeeemnholmnabCacheB
namespace Go.Proofs.Ytkpeeemnholmnab
open Go.RowKit
set_option linter.unusedVariables false
set_option linter.unusedSimpArgs false

/-- lines that words of the memory have -/
def LinesOk (c : Conf) (xs : Nat → List CLine) : Prop := ∀ i, ∀ x ∈ xs i, ∃ n : Nat, x.1 = (n : Int) ∧ n * c.words ≤ 65535
theorem LinesOk.nil (c : Conf) : LinesOk c (fun _ => []) := fun i x hx => by cases hx
theorem LinesOk.step {c : Conf} {xs : Nat → List CLine} (h : LinesOk c xs) {word : Nat} (hw : word ≤ 65535) (wr : Bool) : LinesOk c (stepL c word wr xs) := by
  intro i x hx
  unfold stepL at hx
  by_cases e : i = ixOf c word
  · subst e
    rw [upd_same] at hx
    rcases acc_mem hx with h1 | h1
    · exact ⟨lnOf c word, h1, Nat.le_trans (Nat.div_mul_le_self _ _) hw⟩
    · exact h _ x h1
  · rw [upd_other _ _ e] at hx
    exact h i x hx
theorem LinesOk.old {c : Conf} {xs : Nat → List CLine} (h : LinesOk c xs) (word : Nat) : ∃ n : Nat, (oldL c word xs).1 = (n : Int) ∧ n * c.words ≤ 65535 := by
  unfold oldL accOld
  split
  · exact ⟨0, rfl, by omega⟩
  · split
    · by_cases hl : xs (ixOf c word) = []
      · rw [hl]; exact ⟨0, rfl, by omega⟩
      · have : (xs (ixOf c word)).getLastD (0, false) ∈ xs (ixOf c word) := by
          rw [List.getLastD_eq_getLast?, List.getLast?_eq_some_getLast hl, Option.getD_some]
          exact List.getLast_mem hl
        exact h _ _ this
    · exact ⟨0, rfl, by omega⟩

def x2A (c1 c2 : Conf) (word : Nat) (x1 x2 : Nat → List CLine) : Nat → List CLine := if (oldL c1 word x1).2 = true then stepL c2 ((oldL c1 word x1).1.toNat * c1.words) true x2 else x2
def x2N (c1 c2 : Conf) (word : Nat) (x1 x2 : Nat → List CLine) : Nat → List CLine := if hitL c1 word x1 = true then x2 else stepL c2 word false (x2A c1 c2 word x1 x2)
def mN (c1 : Conf) (word : Nat) (x1 : Nat → List CLine) (m : Nat) : Nat := if hitL c1 word x1 = true then m else m + 1
def extraN (c1 c2 : Conf) (word : Nat) (x1 x2 : Nat → List CLine) : Nat := if hitL c1 word x1 = true then 0 else c1.miss + (if hitL c2 word (x2A c1 c2 word x1 x2) = true then 0 else c2.miss)

def AccCPost (q p1 sb1 p2 sb2 : Nat) (c1 c2 : Conf) (sv1 sv2 : Nat → Value) (x1 x2 : Nat → List CLine) (m word : Nat) (wr : Bool) (w : World) (e : Ending) (w' : World) : Prop :=
  ∃ sv1' sv2', e = .returned (.tuple #[.int .i64 (extraN c1 c2 word x1 x2 : Int), .int .i64 0]) ∧ CacheSt w' q p1 sb1 p2 sb2 c1 c2 sv1' sv2' (stepL c1 word wr x1) (x2N c1 c2 word x1 x2) (mN c1 word x1 m) ∧
    Fr (OwnC q p1 sb1 p2 sb2 c1.sets c2.sets sv1 sv2) (OwnC q p1 sb1 p2 sb2 c1.sets c2.sets sv1' sv2') w w'

section
variable {w w' : World} {q p1 sb1 p2 sb2 : Nat} {c1 c2 : Conf} {sv1 sv2 sv' : Nat → Value} {x1 x2 x' : Nat → List CLine} {m : Nat}
theorem CacheSt.first (h : CacheSt w q p1 sb1 p2 sb2 c1 c2 sv1 sv2 x1 x2 m) (hl : LevelSt w' p1 sb1 c1 sv' x') (hf : Fr (Own p1 sb1 c1.sets sv1) (Own p1 sb1 c1.sets sv') w w') :
    CacheSt w' q p1 sb1 p2 sb2 c1 c2 sv' sv2 x' x2 m ∧ Fr (OwnC q p1 sb1 p2 sb2 c1.sets c2.sets sv1 sv2) (OwnC q p1 sb1 p2 sb2 c1.sets c2.sets sv' sv2) w w' := by
  refine ⟨⟨h.st.of_heap (hf.block q h.st.lt h.q1), hl, h.l2.keep fun k hk => hf.block k (h.l2.lt hk) (fun e => h.dj k e hk), fun k h1 h2 => ?_, fun h1 => ?_, h.q2⟩, hf.wide (fun k hk => .inr (.inl hk)) (fun k hk => ?_)⟩
  · rcases hf.own k h1 with e | e
    · exact h.dj k e h2
    · have := h.l2.lt h2; omega
  · rcases hf.own q h1 with e | e
    · exact h.q1 e
    · have := h.st.lt; omega
  · rcases hk with e | e | e
    · exact .inr (.inl e)
    · exact .inl e
    · exact .inr (.inr (.inr e))
theorem CacheSt.second (h : CacheSt w q p1 sb1 p2 sb2 c1 c2 sv1 sv2 x1 x2 m) (hl : LevelSt w' p2 sb2 c2 sv' x') (hf : Fr (Own p2 sb2 c2.sets sv2) (Own p2 sb2 c2.sets sv') w w') :
    CacheSt w' q p1 sb1 p2 sb2 c1 c2 sv1 sv' x1 x' m ∧ Fr (OwnC q p1 sb1 p2 sb2 c1.sets c2.sets sv1 sv2) (OwnC q p1 sb1 p2 sb2 c1.sets c2.sets sv1 sv') w w' := by
  refine ⟨⟨h.st.of_heap (hf.block q h.st.lt h.q2), h.l1.keep fun k hk => hf.block k (h.l1.lt hk) (fun e => h.dj k hk e), hl, fun k h1 h2 => ?_, h.q1, fun h1 => ?_⟩, hf.wide (fun k hk => .inr (.inr hk)) (fun k hk => ?_)⟩
  · rcases hf.own k h2 with e | e
    · exact h.dj k h1 e
    · have := h.l1.lt h1; omega
  · rcases hf.own q h1 with e | e
    · exact h.q2 e
    · have := h.st.lt; omega
  · rcases hk with e | e | e
    · exact .inr (.inl e)
    · exact .inr (.inr (.inl e))
    · exact .inl e
theorem CacheSt.count (h : CacheSt w q p1 sb1 p2 sb2 c1 c2 sv1 sv2 x1 x2 m) : CacheSt (w.setCell ⟨q, 2, none⟩ (.int .i64 ((m : Int) + 1))) q p1 sb1 p2 sb2 c1 c2 sv1 sv2 x1 x2 (m + 1) ∧ Fr (OwnC q p1 sb1 p2 sb2 c1.sets c2.sets sv1 sv2) (OwnC q p1 sb1 p2 sb2 c1.sets c2.sets sv1 sv2) w (w.setCell ⟨q, 2, none⟩ (.int .i64 ((m : Int) + 1))) := by
  refine ⟨⟨h.st.set 2 (.int .i64 ((m : Int) + 1)), h.l1.keep fun k hk => Below.heap_setCell _ _ _ _ (fun e => h.q1 (by rw [← show k = q from e]; exact hk)), h.l2.keep fun k hk => Below.heap_setCell _ _ _ _ (fun e => h.q2 (by rw [← show k = q from e]; exact hk)), h.dj, h.q1, h.q2⟩, ⟨rfl, rfl, rfl, by simp [World.setCell], fun k hk hn => Below.heap_setCell _ _ _ _ (fun e => hn (.inl e)), fun k hk => .inl hk⟩⟩
end

set_option maxHeartbeats 400000 in
theorem caccess_bad (w : World) (q : Nat) (word : Int) (wr : Bool) (h : word < 0 ∨ 65535 < word) :
    Calls Try.prog 10 #[.pointer (some ⟨q, 0, none⟩), .int .i64 word, .bool wr] w fun e w' => e = .returned (.tuple #[.int .i64 0, .int .i64 4]) ∧ w = w' := by
  have g : inB word 0 65535 = false := inB_false.2 h
  clear h
  go_enter Try.func10, Try.ntmps10
  go_wp2_with (go_at_call 29; refine (cin_any _ _ _ _).mono ?_; rintro e w' ⟨rfl, rfl⟩)
  go_ret2
  exact ⟨rfl, rfl⟩

set_option maxRecDepth 100000 in
set_option maxHeartbeats 4000000 in
theorem caccess_ok (w : World) (q p1 sb1 p2 sb2 : Nat) (c1 c2 : Conf) (sv1 sv2 : Nat → Value) (x1 x2 : Nat → List CLine) (m : Nat) (h : CacheSt w q p1 sb1 p2 sb2 c1 c2 sv1 sv2 x1 x2 m) (ok1 : c1.Ok) (ok2 : c2.Ok) (hlo : LinesOk c1 x1) (hm : m ≤ 1000000)
    (word : Nat) (wr : Bool) (hw : word ≤ 65535) :
    Calls Try.prog 10 #[.pointer (some ⟨q, 0, none⟩), .int .i64 (word : Int), .bool wr] w (AccCPost q p1 sb1 p2 sb2 c1 c2 sv1 sv2 x1 x2 m word wr w) := by
  have g : inB (word : Int) 0 65535 = true := inB_true.2 (by omega)
  have HA1 := fun wx hx => level_access wx p1 sb1 c1 sv1 x1 hx ok1 word wr hw
  obtain ⟨on, hon, hob⟩ := hlo.old word
  have o7 := ok1.m
  have o8 := ok2.m
  have d0 := h.st.cell 0
  have d1 := h.st.cell 1
  have d2 := h.st.cell 2
  simp only [List.getElem?_cons_succ, List.getElem?_cons_zero] at d0 d1 d2
  have HC := Lib.hid h
  have HX : Hid (x2A c1 c2 word x1 x2 = if (oldL c1 word x1).2 = true then stepL c2 (on * c1.words) true x2 else x2) := by unfold Hid x2A; rw [hon]; rfl
  cases hh : hitL c1 word x1
  · have HXN : Hid (x2N c1 c2 word x1 x2 = stepL c2 word false (x2A c1 c2 word x1 x2)) := by unfold Hid x2N; rw [if_neg (by simp [hh])]
    have HMN : Hid (mN c1 word x1 m = m + 1) := by unfold Hid mN; rw [if_neg (by simp [hh])]
    have HEN : Hid (extraN c1 c2 word x1 x2 = c1.miss + (if hitL c2 word (x2A c1 c2 word x1 x2) = true then 0 else c2.miss)) := by unfold Hid extraN; rw [if_neg (by simp [hh])]
    have HHH := Lib.hid hh
    obtain ⟨W, hW⟩ : ∃ W, W = on * c1.words := ⟨_, rfl⟩
    have hWb : W ≤ 65535 := by rw [hW]; exact hob
    rw [← hW] at HX
    have hW2 : (on : Int) * (c1.words : Int) = (W : Int) := by rw [hW]; push_cast; rfl
    have hW1 : IntKind.i64.wrap ((on : Int) * (c1.words : Int)) = (W : Int) := by rw [hW2, IntKind.wrap_i64]; omega
    have HW1 := Lib.hid hW1
    have HW2 := Lib.hid hW2
    have HA2 := fun wx sv x wd wb (hwd : wd ≤ 65535) hx => level_access wx p2 sb2 c2 sv x hx ok2 wd wb hwd
    have hq1 : p1 ≠ q := fun e => h.q1 (.inl e.symm)
    have hq2 : p2 ≠ q := fun e => h.q2 (.inl e.symm)
    cases hd : (oldL c1 word x1).2
    · have HX2 : Hid (x2A c1 c2 word x1 x2 = x2) := by unfold Hid; rw [HX.out, if_neg (by simp [hd])]
      have HDD := Lib.hid hd
      clear hh h hW hW1 hW2 hob hd
      go_enter Try.func10, Try.ntmps10
      go_wp2_with (go_at_call 29; refine (cin_any _ _ _ _).mono ?_; rintro e w' ⟨rfl, rfl⟩)
      refine (HA1 _ HC.out.l1).mono ?_
      rintro e w2 ⟨sv1', rfl, hl1, hf1⟩
      obtain ⟨hc2, hfc⟩ := HC.out.first hl1 hf1
      obtain ⟨hc3, hfc3⟩ := hc2.count
      have e0 := hc2.st.cell 0
      have e1 := hc2.st.cell 1
      have e2 := hc2.st.cell 2
      have f2 := hc2.st.free 2
      have a3 := hc2.l1.st.cell 3
      simp only [List.getElem?_cons_succ, List.getElem?_cons_zero] at e0 e1 e2 a3
      rw [HHH.out, HDD.out]
      have HC3 := Lib.hid hc3
      have HF3 := Lib.hid (hfc.trans hfc3)
      clear hl1 hf1 hc2 hfc hc3 hfc3 d0 d1 d2
      go_wp2_with fail
      refine (HA2 _ _ _ word false hw HC3.out.l2).mono ?_
      rintro e w4 ⟨sv2', rfl, hl2, hf2⟩
      obtain ⟨hc4, hfc4⟩ := HC3.out.second hl2 hf2
      have e1a := hc4.st.cell 1
      have b3 := hc4.l2.st.cell 3
      simp only [List.getElem?_cons_succ, List.getElem?_cons_zero] at e1a b3
      have HC4 := Lib.hid hc4
      have HF4 := Lib.hid (HF3.out.trans hfc4)
      clear hl2 hf2 hc4 hfc4 HC3 HF3 e0 e1 e2 f2 a3
      cases ht : hitL c2 word x2
      all_goals
        have HTT := Lib.hid ht
        clear ht
        go_wp2_with fail
        go_ret2
        refine ⟨sv1', sv2', ?_, ?_, HF4.out⟩
        · rw [HEN.out, HX2.out, HTT.out]; rfl
        · rw [HXN.out, HMN.out, HX2.out]; exact HC4.out
    · have HX2 : Hid (x2A c1 c2 word x1 x2 = stepL c2 W true x2) := by unfold Hid; rw [HX.out, if_pos hd]
      have HDD := Lib.hid hd
      have HON := Lib.hid hon
      clear hh h hW hW1 hW2 hob hd hon
      go_enter Try.func10, Try.ntmps10
      go_wp2_with (go_at_call 29; refine (cin_any _ _ _ _).mono ?_; rintro e w' ⟨rfl, rfl⟩)
      refine (HA1 _ HC.out.l1).mono ?_
      rintro e w2 ⟨sv1', rfl, hl1, hf1⟩
      obtain ⟨hc2, hfc⟩ := HC.out.first hl1 hf1
      obtain ⟨hc3, hfc3⟩ := hc2.count
      have e0 := hc2.st.cell 0
      have e1 := hc2.st.cell 1
      have e2 := hc2.st.cell 2
      have f2 := hc2.st.free 2
      have a3 := hc2.l1.st.cell 3
      have a0 := hc2.l1.st.cell 0
      simp only [List.getElem?_cons_succ, List.getElem?_cons_zero] at e0 e1 e2 a3 a0
      rw [HHH.out, HDD.out, HON.out]
      have HC3 := Lib.hid hc3
      have HF3 := Lib.hid (hfc.trans hfc3)
      clear hl1 hf1 hc2 hfc hc3 hfc3 d0 d1 d2
      go_wp2_with fail
      obtain ⟨w3, hw3⟩ : ∃ w3, w3 = w2.setCell ⟨q, 2, none⟩ (.int .i64 ((m : Int) + 1)) := ⟨_, rfl⟩
      rw [← hw3] at HC3 HF3 ⊢
      have e0a := HC3.out.st.cell 0
      have e1a := HC3.out.st.cell 1
      have a0a := HC3.out.l1.st.cell 0
      simp only [List.getElem?_cons_succ, List.getElem?_cons_zero] at e0a e1a a0a
      clear hw3 e0 e1 e2 f2 a3 a0
      have r0 : ∀ x : AfterR (Keep2 q p1) w3.drew, x.world.cell? ⟨q, 0, none⟩ = some (.pointer (some ⟨p1, 0, none⟩)) := fun x => (Keep2.cell1 x.rel).trans e0a
      have r1 : ∀ x : AfterR (Keep2 q p1) w3.drew, x.world.cell? ⟨q, 1, none⟩ = some (.pointer (some ⟨p2, 0, none⟩)) := fun x => (Keep2.cell1 x.rel).trans e1a
      have r2 : ∀ x : AfterR (Keep2 q p1) w3.drew, x.world.cell? ⟨p1, 0, none⟩ = some (.int .i64 (c1.words : Int)) := fun x => (Keep2.cell2 x.rel).trans a0a
      have hW1 := HW1.out
      have hW2 := HW2.out
      refine wp_region_eagerRF (Keep2 q p1) [(0, true), (1, true), (2, true), (3, true), (4, true), (5, true), (6, true), (7, true), (8, true), (9, true), (10, true), (11, true), (12, true), (13, true), (14, false)] (by kernel_rfl) (by kernel_rfl) ?_
      repeat (refine eagR_readF rfl ?_; go_big_quiet_step (fail); refine wpQuiet_nil ?_)
      clear r0 r1 r2
      refine eagR_doesF rfl rfl ?_
      intro K hK
      go_simp
      clear hW1 hW2
      refine (HA2 _ _ _ W true hWb (HC3.out.l2.later ((Below.refl _ _).drew))).mono ?_
      rintro e w4 ⟨sv2', rfl, hl2, hf2⟩
      refine hK _ _ (fun _ => ⟨hf2.block q HC3.out.st.lt HC3.out.q2, hf2.block p1 HC3.out.l1.st.lt (HC3.out.dj p1 (.inl rfl))⟩) ?_
      clear hK K
      obtain ⟨hc4, hfc4⟩ := (HC3.out.later ((Below.refl _ _).drew)).second hl2 hf2
      have e1b := hc4.st.cell 1
      simp only [List.getElem?_cons_succ, List.getElem?_cons_zero] at e1b
      have HC4 := Lib.hid hc4
      have HF4 := Lib.hid ((HF3.out.trans (Fr.of_below (((Below.refl w3.heap.size w3).drew)))).trans hfc4)
      clear hl2 hf2 hc4 hfc4 HC3 HF3 e0a e1a a0a
      go_simp
      refine eagR_endF ?_
      go_wp2_with fail
      refine (HA2 _ _ _ word false hw HC4.out.l2).mono ?_
      rintro e w5 ⟨sv3', rfl, hl5, hf5⟩
      obtain ⟨hc5, hfc5⟩ := HC4.out.second hl5 hf5
      have e1c := hc5.st.cell 1
      have b3 := hc5.l2.st.cell 3
      simp only [List.getElem?_cons_succ, List.getElem?_cons_zero] at e1c b3
      have HC5 := Lib.hid hc5
      have HF5 := Lib.hid (HF4.out.trans hfc5)
      clear hl5 hf5 hc5 hfc5 HC4 HF4 e1b
      cases ht : hitL c2 word (stepL c2 W true x2)
      all_goals
        have HTT := Lib.hid ht
        clear ht
        go_wp2_with fail
        go_ret2
        refine ⟨sv1', sv3', ?_, ?_, HF5.out⟩
        · rw [HEN.out, HX2.out, HTT.out]; rfl
        · rw [HXN.out, HMN.out, HX2.out]; exact HC5.out
  · have HXN : Hid (x2N c1 c2 word x1 x2 = x2) := by unfold Hid x2N; rw [if_pos hh]
    have HMN : Hid (mN c1 word x1 m = m) := by unfold Hid mN; rw [if_pos hh]
    have HEN : Hid (extraN c1 c2 word x1 x2 = 0) := by unfold Hid extraN; rw [if_pos hh]
    have HHH := Lib.hid hh
    clear hh h
    go_enter Try.func10, Try.ntmps10
    go_wp2_with (go_at_call 29; refine (cin_any _ _ _ _).mono ?_; rintro e w' ⟨rfl, rfl⟩)
    refine (HA1 _ HC.out.l1).mono ?_
    rintro e w2 ⟨sv1', rfl, hl1, hf1⟩
    obtain ⟨hc2, hfc⟩ := HC.out.first hl1 hf1
    have HC2 := Lib.hid hc2
    have HF := Lib.hid hfc
    rw [HHH.out]
    clear hl1 hf1 hc2 hfc
    go_wp2_with fail
    go_ret2
    refine ⟨sv1', sv2, ?_, ?_, HF.out⟩
    · rw [HEN.out]; rfl
    · rw [HXN.out, HMN.out]; exact HC2.out
set_option maxHeartbeats 400000 in
theorem cmisses_ok (w : World) (q p1 sb1 p2 sb2 : Nat) (c1 c2 : Conf) (sv1 sv2 : Nat → Value) (x1 x2 : Nat → List CLine) (m : Nat) (h : CacheSt w q p1 sb1 p2 sb2 c1 c2 sv1 sv2 x1 x2 m) :
    Calls Try.prog 14 #[.pointer (some ⟨q, 0, none⟩)] w fun e w' => e = .returned (.int .i64 (m : Int)) ∧ w = w' := by
  have d2 := h.st.cell 2
  simp only [List.getElem?_cons_succ, List.getElem?_cons_zero] at d2
  go_enter Try.func14, Try.ntmps14
  go_wp2
  go_ret
  exact ⟨rfl, rfl⟩
end Go.Proofs.Ytkpeeemnholmnab
