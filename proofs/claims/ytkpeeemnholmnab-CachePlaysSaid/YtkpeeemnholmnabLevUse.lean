/- The contract of the reference's (*Level).Use. -/
import Derived.Test.YtkpeeemnholmnabCacheRef
import Derived.Test.YtkpeeemnholmnabOwn
import Derived.Test.YtkpeeemnholmnabCacheC
import Derived.Test.YtkpeeemnholmnabSlicesEq
import Derived.Test.YtkpeeemnholmnabEagerT
namespace Go.Proofs.Ytkpeeemnholmnab
open Go.RowKit
set_option linter.unusedVariables false
set_option linter.unusedSimpArgs false

theorem Try.infoU87 : (Try.prog.info? 87).map (fun i => (i.zero, i.size, i.bytes)) = some (some (.agg #[.int .i64 0, .int .i64 0, .bool false, .bool false]), 4, 24) := by kernel_rfl

def uC (u : UL) : List Value := [.int .i64 (u.line : Int), .int .i64 (u.tm : Int), .bool u.dirty, .bool u.gone]
theorem uC_len (u : UL) : (uC u).length = 4 := rfl
structure LevR (w : World) (p : Nat) (v : Value) (c : Conf) (now : Nat) (us : List UL) : Prop where
  st : Blk w p 35 [.int .i64 c.words, .int .i64 c.sets, .int .i64 c.ways, .int .i64 c.miss, .int .i64 (now : Int), v]
  row : w.ownsRow 0 87 4 v us.length (us.flatMap uC)
  ne : v.ownBlock ≠ some p
def OwnR (p : Nat) (v : Value) (k : Nat) : Prop := k = p ∨ v.ownBlock = some k
section
variable {w w' : World} {p : Nat} {v : Value} {c : Conf} {now : Nat} {us : List UL}
theorem LevR.lt (h : LevR w p v c now us) {k : Nat} (hk : OwnR p v k) : k < w.heap.size := by
  rcases hk with rfl | hk
  · exact h.st.lt
  · exact (h.row.lt k hk).2
theorem LevR.keep (h : LevR w p v c now us) (hb : ∀ k, OwnR p v k → w'.heap[k]? = w.heap[k]?) : LevR w' p v c now us :=
  ⟨h.st.of_heap (hb p (.inl rfl)), ownG_kept h.row fun g hg => hb g (.inr hg), h.ne⟩
theorem LevR.later (h : LevR w p v c now us) (hb : Below w.heap.size w w') : LevR w' p v c now us := h.keep fun k hk => hb.block k (h.lt hk)
theorem LevR.cells (h : LevR w p v c now us) (hn : 0 < us.length) : ∃ g cap, v = .slice (some ⟨g, 0, none⟩) us.length cap ∧ us.length ≤ cap ∧ cap ≤ maxLen ∧ g < w.heap.size ∧ g ≠ p ∧ ∀ k (hk : k < us.length), w.cell? ⟨g, k * 4, none⟩ = some (.int .i64 (us[k].line : Int)) ∧
    w.cell? ⟨g, k * 4 + 1, none⟩ = some (.int .i64 (us[k].tm : Int)) ∧ w.cell? ⟨g, k * 4 + 2, none⟩ = some (.bool us[k].dirty) ∧ w.cell? ⟨g, k * 4 + 3, none⟩ = some (.bool us[k].gone) := by
  obtain ⟨g, cap, rfl, h1, h2, h3, h4⟩ := ownG_has h.row hn
  have hc : ∀ k (hk : k < us.length) j, j < 4 → w.cell? ⟨g, k * 4 + j, none⟩ = (uC us[k])[j]? := fun k hk j hj => by
    rw [h.row.cellAt _ (by omega), flatN_get uC_len us k j hk hj]
  refine ⟨g, cap, rfl, h3, h4, h2, fun e => h.ne (by rw [e]; rfl), fun k hk => ⟨hc k hk 0 (by omega), hc k hk 1 (by omega), hc k hk 2 (by omega), hc k hk 3 (by omega)⟩⟩
end
def UsePost (p : Nat) (v : Value) (c : Conf) (now : Nat) (us : List UL) (line : Nat) (wr : Bool) (w : World) (e : Ending) (w' : World) : Prop :=
  ∃ us' v' hit out, e = .returned (.tuple #[.bool hit, .int .i64 out]) ∧ UseR c.sets c.ways now line wr us us' hit out ∧ LevR w' p v' c (now + 1) us' ∧ Fr (OwnR p v) (OwnR p v') w w'
def OldR (sets ix : Nat) (us : List UL) (k : Nat) (old : Int) : Prop :=
  (old = -1 ∧ ∀ j (h : j < us.length), j < k → liveU sets ix us[j] = false) ∨ ∃ b : Nat, ∃ h : b < us.length, b < k ∧ old = (b : Int) ∧ liveU sets ix us[b] = true ∧ ∀ j (h : j < us.length), j < k → liveU sets ix us[j] = true → us[b].tm ≤ us[j].tm
def liveN (sets ix : Nat) (us : List UL) (k : Nat) : Nat := ((us.take k).filter (liveU sets ix)).length
structure UsSt (us : List UL) (sets line k : Nat) (many old : Int) : Prop where
  no : ∀ j (h : j < us.length), j < k → us[j].gone = false → us[j].line ≠ line
  many : many = (liveN sets (line % sets) us k : Int)
  old : OldR sets (line % sets) us k old

theorem liveN_succ {sets ix : Nat} {us : List UL} {k : Nat} (hk : k < us.length) : liveN sets ix us (k + 1) = liveN sets ix us k + if liveU sets ix us[k] = true then 1 else 0 := by
  unfold liveN
  rw [List.take_succ_eq_append_getElem hk, List.filter_append, List.length_append]
  split
  · rename_i h; rw [List.filter_cons_of_pos h]; rfl
  · rename_i h; rw [List.filter_cons_of_neg h]; rfl
theorem liveN_le (sets ix : Nat) (us : List UL) (k : Nat) : liveN sets ix us k ≤ k := by
  unfold liveN
  exact Nat.le_trans (List.length_filter_le _ _) (List.length_take_le _ _)
section
variable {us : List UL} {sets line k : Nat} {m o : Int}
theorem UsSt.skip (h : UsSt us sets line k m o) (hk : k < us.length) (hl : liveU sets (line % sets) us[k] = false) : UsSt us sets line (k + 1) m o := by
  refine ⟨fun j hj hj2 hg e => ?_, ?_, ?_⟩
  · by_cases e2 : j = k
    · subst e2
      rw [← Bool.not_eq_true, liveU_iff] at hl
      exact hl ⟨hg, by rw [e]⟩
    · exact h.no j hj (by omega) hg e
  · rw [liveN_succ hk, if_neg (by simp [hl]), Nat.add_zero]; exact h.many
  · rcases h.old with ⟨e, h1⟩ | ⟨b, hb, h1, h2, h3, h4⟩
    · refine .inl ⟨e, fun j hj hj2 => ?_⟩
      by_cases e2 : j = k
      · subst e2; exact hl
      · exact h1 j hj (by omega)
    · refine .inr ⟨b, hb, by omega, h2, h3, fun j hj hj2 hl2 => ?_⟩
      by_cases e2 : j = k
      · subst e2; rw [hl] at hl2; cases hl2
      · exact h4 j hj (by omega) hl2
theorem UsSt.new (h : UsSt us sets line k m o) (hk : k < us.length) (hl : liveU sets (line % sets) us[k] = true) (hne : us[k].line ≠ line) (ho : o < 0 ∨ ∃ b : Nat, ∃ hb : b < us.length, o = (b : Int) ∧ us[k].tm < us[b].tm) : UsSt us sets line (k + 1) (m + 1) (k : Int) := by
  refine ⟨fun j hj hj2 hg e => ?_, ?_, .inr ⟨k, hk, by omega, rfl, hl, fun j hj hj2 hl2 => ?_⟩⟩
  · by_cases e2 : j = k
    · subst e2; exact hne e
    · exact h.no j hj (by omega) hg e
  · rw [liveN_succ hk, if_pos hl, h.many]; push_cast; rfl
  · by_cases e2 : j = k
    · subst e2; exact Nat.le_refl _
    · rcases h.old with ⟨e, h1⟩ | ⟨b, hb, h1, h2, h3, h4⟩
      · rw [h1 j hj (by omega)] at hl2; cases hl2
      · rcases ho with ho | ⟨b', hb', e3, h5⟩
        · omega
        · obtain rfl : b = b' := by omega
          have := h4 j hj (by omega) hl2
          omega
theorem UsSt.stay (h : UsSt us sets line k m o) (hk : k < us.length) (hl : liveU sets (line % sets) us[k] = true) (hne : us[k].line ≠ line) (b : Nat) (hb : b < us.length) (e : o = (b : Int)) (ht : us[b].tm ≤ us[k].tm) : UsSt us sets line (k + 1) (m + 1) o := by
  refine ⟨fun j hj hj2 hg e => ?_, ?_, ?_⟩
  · by_cases e2 : j = k
    · subst e2; exact hne e
    · exact h.no j hj (by omega) hg e
  · rw [liveN_succ hk, if_pos hl, h.many]; push_cast; rfl
  · rcases h.old with ⟨e, h1⟩ | ⟨b', hb', h1, h2, h3, h4⟩
    · omega
    · obtain rfl : b = b' := by omega
      refine .inr ⟨b, hb, by omega, h2, h3, fun j hj hj2 hl2 => ?_⟩
      by_cases e2 : j = k
      · subst e2; exact ht
      · exact h4 j hj (by omega) hl2
end

set_option maxRecDepth 100000 in
set_option maxHeartbeats 4000000 in
theorem use_ok (w : World) (p : Nat) (v : Value) (c : Conf) (now : Nat) (us : List UL) (h : LevR w p v c now us) (ok : c.Ok) (hn : us.length ≤ 1000) (hnow : now ≤ 1000) (hus : ∀ u ∈ us, u.line ≤ 65535 ∧ u.tm ≤ 1000) (word : Nat) (wr : Bool) (hw : word ≤ 65535) :
    Calls Try.prog 11 #[.pointer (some ⟨p, 0, none⟩), .int .i64 (word : Int), .bool wr] w (UsePost p v c now us (lnOf c word) wr w) := by
  obtain ⟨va, vc, hv⟩ := ownG_shape h.row
  have q0 := h.st.cell 0
  have q4 := h.st.cell 4
  have q5 := h.st.cell 5
  simp only [List.getElem?_cons_zero, List.getElem?_cons_succ] at q0 q4 q5
  obtain ⟨o1, o2, o3, o4⟩ := ok
  have HLV : Hid (LevR (w.setCell ⟨p, 4, none⟩ (.int .i64 ((now : Int) + 1))) p v c (now + 1) us) := ⟨by have := h.st.set 4 (.int .i64 ((now : Int) + 1)); exact this, ownG_other (a := ⟨p, 4, none⟩) h.row h.ne _, h.ne⟩
  have HF : Hid (Fr (OwnR p v) (OwnR p v) w (w.setCell ⟨p, 4, none⟩ (.int .i64 ((now : Int) + 1)))) := ⟨rfl, rfl, rfl, by simp, fun k _ hk => Below.heap_setCell _ _ _ _ (fun e => hk (.inl e)), fun k hk => .inl hk⟩
  have HUS := Lib.hid hus
  have hwd : (word : Int).tdiv (c.words : Int) = ((lnOf c word : Nat) : Int) := by rw [Int.tdiv_eq_ediv_of_nonneg (by omega)]; unfold lnOf; push_cast; rfl
  have hwd2 : (word : Int) / (c.words : Int) = ((lnOf c word : Nat) : Int) := by unfold lnOf; push_cast; rfl
  have hlb : lnOf c word ≤ 65535 := Nat.le_trans (Nat.div_le_self _ _) hw
  obtain ⟨ln, hln⟩ : ∃ ln, ln = lnOf c word := ⟨_, rfl⟩
  rw [← hln] at hwd hwd2 hlb ⊢
  clear hln
  have f4 := h.st.free 4
  have hpl := h.st.lt
  clear h hus
  obtain ⟨cw, cs, cy, cm⟩ := c
  simp only at *
  subst hv
  go_enter Try.func11, Try.ntmps11
  go_wp2_with fail
  obtain ⟨w1, hw1⟩ : ∃ w1, w1 = w.setCell ⟨p, 4, none⟩ (.int .i64 ((now : Int) + 1)) := ⟨_, rfl⟩
  rw [← hw1] at HLV HF ⊢
  clear hw1 q0 q4 q5 f4
  obtain ⟨n, hnn⟩ : ∃ n, n = us.length := ⟨_, rfl⟩
  have HN := Lib.hid hnn
  rw [← hnn] at hn HLV HF ⊢
  clear hnn
  go_loopw [9, 10, 33] (fun mv ov kv wr' => ∃ (k d : Nat) (many old : Int), k ≤ n ∧ mv = .int .i64 many ∧ ov = .int .i64 old ∧ kv = .int .i64 (k : Int) ∧ UsSt us cs ln k many old ∧ wr' = w1.drewN d) (fun _ _ kv _ => n - (intOf kv).toNat)
  case atStart => exact ⟨0, 0, 0, -1, Nat.zero_le _, rfl, rfl, rfl, ⟨fun j h h0 => by omega, by simp [liveN], .inl ⟨rfl, fun j h h0 => by omega⟩⟩, rfl⟩
  case round =>
    obtain ⟨k, d, many, old, hk, rfl, rfl, rfl, hst, rfl⟩ := hrel
    by_cases hlt : k < n
    ·
      --BEGIN
      obtain ⟨g, cap, hva, hcl, hcm, hgl, hgp, hcell⟩ := HLV.out.cells (by have := HN.out; omega)
      injection hva with e1 e2 e3
      subst e1 e3
      clear e2
      have hku : k < us.length := by have := HN.out; omega
      obtain ⟨b0, b1, b2, b3⟩ := hcell k hku
      have HCELL := Lib.hid hcell
      clear hcell
      have q0 := HLV.out.st.cell 0
      have q1 := HLV.out.st.cell 1
      have q4 := HLV.out.st.cell 4
      have q5 := HLV.out.st.cell 5
      simp only [List.getElem?_cons_zero, List.getElem?_cons_succ] at q0 q1 q4 q5
      rw [← HN.out] at hcl
      unfold maxLen at hcm
      obtain ⟨ul1, ul2⟩ := HUS.out _ (List.getElem_mem hku)
      have HSK := Lib.hid (fun hl => hst.skip hku hl)
      have HNW := Lib.hid (fun hl hne ho => hst.new hku hl hne ho)
      have HSY := Lib.hid (fun hl hne b hb e ht => hst.stay hku hl hne b hb e ht)
      have HLF := Lib.hid (@liveU_iff cs (ln % cs) us[k])
      have hmb := liveN_le cs (ln % cs) us k
      have hmany := hst.many
      have HOLD := Lib.hid hst.old
      clear hst
      have HUK : Hid (∃ u, u = us[k]) := ⟨_, rfl⟩
      obtain ⟨u, hu⟩ := HUK.out
      rw [← hu] at b0 b1 b2 b3 ul1 ul2 HSK HNW HSY HLF
      have HU := Lib.hid hu
      clear hu HUK
      obtain ⟨ul, ut, ud, ug⟩ := u
      simp only at b0 b1 b2 b3 ul1 ul2 HSK HNW HSY HLF
      have m1 : (ul : Int) % (cs : Int) = ((ul % cs : Nat) : Int) := by push_cast; rfl
      have m2 : (ln : Int) % (cs : Int) = ((ln % cs : Nat) : Int) := by push_cast; rfl
      have m1b : ul % cs < cs := Nat.mod_lt _ (by omega)
      have m2b : ln % cs < cs := Nat.mod_lt _ (by omega)
      obtain ⟨r2, hr2⟩ : ∃ r2, r2 = ln % cs := ⟨_, rfl⟩
      rw [← hr2] at m2 m2b HSK HNW HSY HLF HOLD hmany hmb
      obtain ⟨r1, hr1⟩ : ∃ r1, r1 = ul % cs := ⟨_, rfl⟩
      rw [← hr1] at m1 m1b HLF
      have HR1 := Lib.hid hr1
      have HR2 := Lib.hid hr2
      have HMA := Lib.hid hmany
      have hmb2 : 0 ≤ many ∧ many ≤ (k : Int) := by omega
      clear hr1 hr2 hmany hmb
      cases ug
      · by_cases hr : r1 = r2
        · by_cases hll : ul = ln
          · subst hll
            have hrr := hr
            subst hrr
            clear HSK HNW HSY HLF HOLD m1b m2
            have HROW : Hid (∀ nq, UsePost p (.slice (some ⟨g, 0, none⟩) n vc) ⟨cw, cs, cy, cm⟩ now us ul wr w (.returned (.tuple #[.bool true, .int .i64 (-1)])) (((w1.drewN nq).setCell ⟨g, k * 4 + 1, none⟩ (.int .i64 ((now : Int) + 1))).setCell ⟨g, k * 4 + 2, none⟩ (.bool (ud || wr)))) := by
              intro nq
              have hs : us = us.take k ++ us[k] :: us.drop (k + 1) := by rw [List.getElem_cons_drop, List.take_append_drop]
              refine ⟨_, .slice (some ⟨g, 0, none⟩) n vc, true, -1, rfl, .hit (us.take k) us[k] (us.drop (k + 1)) hs (by rw [← HU.out]) (by rw [← HU.out]), ?_, ?_⟩
              · have h1 := HLV.out
                have hrow := h1.row
                rw [← HN.out] at hrow
                have hr2 := (((show (w1.drewN nq).ownsRow 0 87 4 (.slice (some ⟨g, 0, none⟩) n vc) n (us.flatMap uC) from hrow).stored (k * 4 + 1) (.int .i64 ((now : Int) + 1))).1.stored (k * 4 + 2) (.bool (ud || wr))).1
                rw [flatN_set uC_len us k 1 (.int .i64 ((now : Int) + 1)) ⟨ul, now + 1, ud, false⟩ hku (by omega) (by rw [← HU.out]; rfl),
                  flatN_set uC_len _ k 2 (.bool (ud || wr)) ⟨ul, now + 1, ud || wr, false⟩ (by simpa using hku) (by omega) (by rw [List.getElem_set_self]; rfl), List.set_set, List.set_eq_take_append_cons_drop, if_pos hku] at hr2
                refine ⟨(h1.st.setOther (a := ⟨g, k * 4 + 1, none⟩) (Ne.symm hgp) _).setOther (a := ⟨g, k * 4 + 2, none⟩) (Ne.symm hgp) _, ?_, h1.ne⟩
                have hlen : (us.take k ++ (⟨us[k].line, now + 1, us[k].dirty || wr, false⟩ : UL) :: us.drop (k + 1)).length = n := by
                  have := congrArg List.length hs
                  rw [HN.out]
                  simp only [List.length_append, List.length_cons] at this ⊢
                  omega
                rw [hlen, ← HU.out]
                exact hr2
              · refine HF.out.trans ⟨rfl, rfl, rfl, by simp, fun q _ hq => ?_, fun q hq => .inl hq⟩
                exact (Below.heap_setCell _ _ _ _ (fun e => hq (.inr (by rw [e]; rfl)))).trans (Below.heap_setCell _ _ _ _ (fun e => hq (.inr (by rw [e]; rfl))))
            have hrw := HLV.out.row
            rw [← HN.out] at hrw
            have F1 := hrw.frozenAt (k * 4 + 1)
            have F2 := hrw.frozenAt (k * 4 + 2)
            clear hrw
            cases ud <;> cases wr
            all_goals
              have HRW := HROW.out
              simp only [Bool.or_false, Bool.or_true, Bool.false_or, Bool.true_or] at HRW
              have HROW2 := Lib.hid HRW
              clear HRW HROW
              go_wp2_with fail
              go_quiet (fail)
              go_wp2_with fail
              go_ret2
              exact HROW2.out _
          · have t2 : ((ul : Int) == (ln : Int)) = false := by rw [beq_eq_false_iff_ne]; omega
            have hlive := HLF.out.2 ⟨rfl, hr⟩
            have hll2 : ul ≠ ln := hll
            have hrr := hr
            subst hrr
            have HNW2 := Lib.hid (HNW.out hlive hll2)
            have HSY2 := Lib.hid (HSY.out hlive hll2)
            clear HSK HNW HSY HLF hlive hll hll2
            by_cases h0 : old < 0
            · have t0 : decide (old < 0) = true := decide_eq_true h0
              have HST := Lib.hid (HNW2.out (.inl h0))
              clear HNW2 HSY2 HOLD h0
              go_wp2_with fail
              go_quiet (fail)
              go_wp2_with fail
              go_quiet (fail)
              go_wp2_with fail
              go_roundw
              case rel => exact ⟨k + 1, _, many + 1, (k : Int), by omega, rfl, rfl, by go_num, HST.out, rfl⟩
              case measure => simp [intOf]; omega
            · have t0 : decide (old < 0) = false := decide_eq_false h0
              have HOB : Hid (∃ b : Nat, ∃ h : b < us.length, b < k ∧ old = (b : Int)) := by
                rcases HOLD.out with ⟨e, _⟩ | ⟨b, hb, h1, h2, _⟩
                · omega
                · exact ⟨b, hb, h1, h2⟩
              obtain ⟨b, hb, hbk, rfl⟩ := HOB.out
              obtain ⟨_, d1, _, _⟩ := HCELL.out b hb
              have htb : Hid (∃ tb, tb = us[b].tm) := ⟨_, rfl⟩
              obtain ⟨tb, hte⟩ := htb.out
              rw [← hte] at d1
              have HTB := Lib.hid hte
              have htbb : tb ≤ 1000 := by rw [hte]; exact (HUS.out _ (List.getElem_mem hb)).2
              have hbn : b < n := by omega
              clear htb hte HOLD HOB h0
              by_cases hlt2 : ut < tb
              · have HST := Lib.hid (HNW2.out (.inr ⟨b, hb, rfl, by rw [← HTB.out]; exact hlt2⟩))
                clear HNW2 HSY2
                go_wp2_with fail
                go_quiet (fail)
                go_wp2_with fail
                go_quiet (fail)
                go_wp2_with fail
                go_roundw
                case rel => exact ⟨k + 1, _, many + 1, (k : Int), by omega, rfl, rfl, by go_num, HST.out, rfl⟩
                case measure => simp [intOf]; omega
              · have HST := Lib.hid (HSY2.out b hb rfl (by rw [← HTB.out]; omega))
                clear HNW2 HSY2
                go_wp2_with fail
                go_quiet (fail)
                go_wp2_with fail
                go_quiet (fail)
                go_wp2_with fail
                go_roundw
                case rel => exact ⟨k + 1, _, many + 1, (b : Int), by omega, rfl, rfl, by go_num, HST.out, rfl⟩
                case measure => simp [intOf]; omega
        · have t1 : ((r1 : Int) != (r2 : Int)) = true := by rw [bne_iff_ne]; omega
          have HST := Lib.hid (HSK.out (by rw [← Bool.not_eq_true, HLF.out]; exact fun h => hr h.2))
          clear HSK HNW HSY HLF HOLD hr
          go_wp2_with fail
          go_quiet (fail)
          go_wp2_with fail
          go_roundw
          case rel => exact ⟨k + 1, _, many, old, by omega, rfl, rfl, by go_num, HST.out, rfl⟩
          case measure => simp [intOf]; omega
      · have HST := Lib.hid (HSK.out (by rw [← Bool.not_eq_true, HLF.out]; exact fun h => by cases h.1))
        clear HSK HNW HSY HLF HOLD m1 m2
        go_wp2_with fail
        go_quiet (fail)
        go_wp2_with fail
        go_roundw
        case rel => exact ⟨k + 1, _, many, old, by omega, rfl, rfl, by go_num, HST.out, rfl⟩
        case measure => simp [intOf]; omega
      --END
    · have ek : n = k := by omega
      subst ek
      have HOLD := Lib.hid hst.old
      have hmany := hst.many
      have HNO : Hid (∀ u ∈ us, u.gone = false → u.line ≠ ln) := fun u hu hg => by
        obtain ⟨j, hj, rfl⟩ := List.getElem_of_mem hu
        exact hst.no j hj (by have := HN.out; omega) hg
      have HFL : Hid (liveN cs (ln % cs) us n = (us.filter (liveU cs (ln % cs))).length) := by unfold Hid liveN; rw [List.take_of_length_le (by have := HN.out; omega)]
      have hmb := liveN_le cs (ln % cs) us n
      have q2 := HLV.out.st.cell 2
      have q5 := HLV.out.st.cell 5
      simp only [List.getElem?_cons_zero, List.getElem?_cons_succ] at q2 q5
      clear hst
      obtain ⟨m, hm⟩ : ∃ m, m = liveN cs (ln % cs) us n := ⟨_, rfl⟩
      rw [← hm] at hmany HFL hmb
      subst hmany
      have HM := Lib.hid hm
      clear hm
      by_cases hcy : m = cy
      case' neg =>
        have t3 : ((m : Int) == (cy : Int)) = false := by rw [beq_eq_false_iff_ne]; omega
        have HUR : Hid (UseR cs cy now ln wr us (us ++ [newU ln now wr]) false (-1)) := .room HNO.out (by rw [← HFL.out]; exact hcy)
        have HL2 : Hid (LevR (w1.drewN d) p (.slice va n vc) ⟨cw, cs, cy, cm⟩ (now + 1) us) := HLV.out.later (below_drewN_self _ _ _)
        have HF2 : Hid (Fr (OwnR p (.slice va n vc)) (OwnR p (.slice va n vc)) w (w1.drewN d)) := HF.out.trans (Fr.of_below (below_drewN_self _ _ _))
        have HLN : Hid (us.length = n) := HN.out.symm
        clear HNO HFL hmb HOLD
        go_wp2_with fail
        obtain ⟨wy, hwy⟩ : ∃ wy, wy = w1.drewN d := ⟨_, rfl⟩
        rw [← hwy] at HL2 HF2 ⊢
        clear hwy q2 q5 t3 hcy
        obtain ⟨out, hout⟩ : ∃ out : Int, out = -1 := ⟨_, rfl⟩
        rw [← hout] at HUR
        obtain ⟨us2, hus2⟩ : ∃ us2, us2 = us := ⟨_, rfl⟩
        rw [← hus2] at HL2 HLN
        have HUR2 : Hid (UseR cs cy now ln wr us (us2 ++ [newU ln now wr]) false out) := by rw [hus2]; exact HUR.out
        rw [← hout]
        obtain ⟨vb, hvb⟩ : ∃ vb, vb = va := ⟨_, rfl⟩
        rw [← hvb] at HL2 HF2 ⊢
        have HVA := Lib.hid hvb
        clear hout hus2 HUR hvb
      case' pos =>
        subst hcy
        have hm0 : 1 ≤ m := o3.1
        have HOB : Hid (∃ b : Nat, ∃ h : b < us.length, old = (b : Int) ∧ liveU cs (ln % cs) us[b] = true ∧ ∀ v ∈ us, liveU cs (ln % cs) v = true → us[b].tm ≤ v.tm) := by
          rcases HOLD.out with ⟨e, h1⟩ | ⟨b, hb, h1, h2, h3, h4⟩
          · exfalso
            have : us.filter (liveU cs (ln % cs)) = [] := by
              rw [List.filter_eq_nil_iff]
              intro u hu
              obtain ⟨j, hj, rfl⟩ := List.getElem_of_mem hu
              rw [h1 j hj (by have := HN.out; omega)]
              simp
            have h9 := HFL.out
            rw [this] at h9
            simp at h9
            omega
          · refine ⟨b, hb, h2, h3, fun v hv hl => ?_⟩
            obtain ⟨j, hj, rfl⟩ := List.getElem_of_mem hv
            exact h4 j hj (by have := HN.out; omega) hl
        obtain ⟨b, hb, rfl, hbl, hbm⟩ := HOB.out
        obtain ⟨g, cap, hva, hcl, hcm, hgl, hgp, hcell⟩ := HLV.out.cells (by omega)
        injection hva with e1 e2 e3
        subst e1 e3
        clear e2
        have hbn : b < n := by have := HN.out; omega
        obtain ⟨d0, d1, d2, d3⟩ := hcell b hb
        clear hcell
        have hrw := HLV.out.row
        rw [← HN.out] at hrw hcl
        have F3 := hrw.frozenAt (b * 4 + 3)
        unfold maxLen at hcm
        have hs : us = us.take b ++ us[b] :: us.drop (b + 1) := by rw [List.getElem_cons_drop, List.take_append_drop]
        have HUR0 : Hid (UseR cs m now ln wr us (us.take b ++ ⟨us[b].line, us[b].tm, us[b].dirty, true⟩ :: us.drop (b + 1) ++ [newU ln now wr]) false (if us[b].dirty = true then (us[b].line : Int) else -1)) :=
          .full HNO.out HFL.out.symm (us.take b) us[b] (us.drop (b + 1)) hs hbl hbm
        have HLN : Hid ((us.take b ++ (⟨us[b].line, us[b].tm, us[b].dirty, true⟩ : UL) :: us.drop (b + 1)).length = n) := by
          have := congrArg List.length hs
          unfold Hid
          rw [HN.out]
          simp only [List.length_append, List.length_cons] at this ⊢
          omega
        have HL2 : Hid (LevR ((w1.drewN d).setCell ⟨g, b * 4 + 3, none⟩ (.bool true)) p (.slice (some ⟨g, 0, none⟩) n vc) ⟨cw, cs, m, cm⟩ (now + 1) (us.take b ++ ⟨us[b].line, us[b].tm, us[b].dirty, true⟩ :: us.drop (b + 1))) := by
          have hr2 := ((show (w1.drewN d).ownsRow 0 87 4 (.slice (some ⟨g, 0, none⟩) n vc) n (us.flatMap uC) from hrw).stored (b * 4 + 3) (.bool true)).1
          rw [flatN_set uC_len us b 3 (.bool true) ⟨us[b].line, us[b].tm, us[b].dirty, true⟩ hb (by omega) (by rfl), List.set_eq_take_append_cons_drop, if_pos hb] at hr2
          refine ⟨(HLV.out.later (below_drewN_self _ _ _)).st.setOther (a := ⟨g, b * 4 + 3, none⟩) (Ne.symm hgp) _, ?_, HLV.out.ne⟩
          rw [HLN.out]
          exact hr2
        have HF2 : Hid (Fr (OwnR p (.slice (some ⟨g, 0, none⟩) n vc)) (OwnR p (.slice (some ⟨g, 0, none⟩) n vc)) w ((w1.drewN d).setCell ⟨g, b * 4 + 3, none⟩ (.bool true))) :=
          HF.out.trans ⟨rfl, rfl, rfl, by simp, fun q _ hq => Below.heap_setCell _ _ _ _ (fun e => hq (.inr (by rw [e]; rfl))), fun q hq => .inl hq⟩
        obtain ⟨us2, hus2⟩ : ∃ us2 : List UL, us2 = us.take b ++ ⟨us[b].line, us[b].tm, us[b].dirty, true⟩ :: us.drop (b + 1) := ⟨_, rfl⟩
        rw [← hus2] at HUR0 HLN HL2
        clear hus2 hs hrw hbl hbm HNO HFL hmb HOLD HOB
        have hub := (HUS.out _ (List.getElem_mem hb)).1
        obtain ⟨u, hu⟩ : ∃ u, u = us[b] := ⟨_, rfl⟩
        rw [← hu] at HUR0 d0 d1 d2 d3 hub
        clear hu
        obtain ⟨ul, ut, ud, ug⟩ := u
        simp only at HUR0 d0 d1 d2 d3 hub
        obtain ⟨out, hout⟩ : ∃ out : Int, out = if ud = true then (ul : Int) else -1 := ⟨_, rfl⟩
        rw [← hout] at HUR0
        have HUR2 := HUR0
        clear HUR0
        cases ud
        case' false =>
          obtain rfl : out = -1 := by rw [hout]; simp
          clear hout
          go_wp2_with fail
        case' true =>
          obtain rfl : out = (ul : Int) := by rw [hout]; simp
          clear hout
          go_wp2_with fail
        all_goals
          obtain ⟨wy, hwy⟩ : ∃ wy, wy = (w1.drewN d).setCell ⟨g, b * 4 + 3, none⟩ (.bool true) := ⟨_, rfl⟩
          rw [← hwy] at HL2 HF2 ⊢
          clear hwy q2 q5 d0 d1 d2 d3 F3
        case' false =>
          obtain ⟨out, hout⟩ : ∃ out : Int, out = -1 := ⟨_, rfl⟩
        case' true =>
          obtain ⟨out, hout⟩ : ∃ out : Int, out = (ul : Int) := ⟨_, rfl⟩
        all_goals
          rw [← hout] at HUR2 ⊢
          obtain ⟨vb, hvb⟩ : ∃ vb, vb = some (⟨g, 0, none⟩ : Addr) := ⟨_, rfl⟩
          rw [← hvb] at HL2 HF2 ⊢
          have HVA := Lib.hid hvb
          clear hout hvb
      all_goals
        have q4 := HL2.out.st.cell 4
        have q5 := HL2.out.st.cell 5
        simp only [List.getElem?_cons_zero, List.getElem?_cons_succ] at q4 q5
        have hpy := HL2.out.st.lt
        obtain ⟨i0, hi0, hz0, hz1, hz2⟩ := info_parts Try.infoU87
        have r4 := fun x : AfterR (KeptB 0 p) wy.drew => (World.cell?_of_block (a := ⟨p, 4, none⟩) x.rel.2).trans q4
        have r5 := fun x : AfterR (KeptB 0 p) wy.drew => (World.cell?_of_block (a := ⟨p, 5, none⟩) x.rel.2).trans q5
        refine wp_region_eagerRT (KeptB 0 p) [(0, true), (1, true), (2, true), (3, true), (4, true), (5, true), (6, true), (7, true), (8, true), (9, true), (10, true), (11, true), (12, false), (13, false), (14, true), (15, true), (16, false)] (by kernel_rfl) (by kernel_rfl) ?_
        repeat (refine eagR_readT rfl ?_; go_big_quiet_step (fail); refine wpQuiet_nil ?_)
        clear r4 r5 q4 q5
        refine eagR_doesT rfl rfl ?_
        intro K hK
        go_simp
        refine hK _ _ (fun _ => ⟨below_alloc_drew (Nat.zero_le _) _, Below.heap_alloc _ _ _ hpy⟩) ?_
        clear hK K
        have hbz : Below wy.heap.size wy (wy.alloc (.cells #[.int .i64 (ln : Int), .int .i64 ((now : Int) + 1), .bool wr, .bool false] 87)).drew := ((Below.refl wy.heap.size wy).alloc (Nat.le_refl _) (.cells #[.int .i64 (ln : Int), .int .i64 ((now : Int) + 1), .bool wr, .bool false] 87)).drew
        have HL3 := Lib.hid (HL2.out.later hbz)
        have HF3 := Lib.hid (HF2.out.trans (Fr.of_below hbz))
        have HNEW : Hid (Blk (wy.alloc (.cells #[.int .i64 (ln : Int), .int .i64 ((now : Int) + 1), .bool wr, .bool false] 87)).drew wy.heap.size 87 (uC (newU ln now wr))) := Blk.new wy (uC (newU ln now wr)) 87
        have hlt3 : wy.heap.size < (wy.alloc (.cells #[.int .i64 (ln : Int), .int .i64 ((now : Int) + 1), .bool wr, .bool false] 87)).drew.heap.size := by simp
        clear hbz
        generalize (wy.alloc (.cells #[.int .i64 (ln : Int), .int .i64 ((now : Int) + 1), .bool wr, .bool false] 87)).drew = wz at HL3 HF3 HNEW hlt3 ⊢
        refine eagR_doesT rfl rfl ?_
        intro K hK
        have hrow := HL3.out.row
        rw [HLN.out] at hrow
        refine wp_append_lies _ _ _ 33 rfl 0 87 i0 (.agg #[.int .i64 0, .int .i64 0, .bool false, .bool false]) 4 24 Try.underlying33 hi0 hz0 hz1 hz2 rfl (by decide) (Value.slice vb n vc) n _ rfl hrow ⟨wy.heap.size, 0, none⟩ 1 1 (uC (newU ln now wr)) rfl rfl ?_ ?_ (by decide) ?_ ?_ (Nat.zero_le _) wz.heap.size rfl ?_
        · intro j u hj
          rw [Addr.add_lit, Nat.zero_add, HNEW.out.cell]
          exact hj
        · intro u hu
          simp [uC] at hu
          rcases hu with rfl | rfl | rfl | rfl <;> rfl
        · unfold maxLen; omega
        · omega
        intro g' cap' w9 hown' hgrow hwh hlt9
        have hgp : g' ≠ p := by
          have := HL3.out.ne
          have := HL3.out.st.lt
          rcases hwh with h1 | h1
          · exact fun e => HL3.out.ne (by rw [h1, e])
          · omega
        have hpk : w9.heap[p]? = wz.heap[p]? := hgrow.block p HL3.out.st.lt (fun e => HL3.out.ne e.symm)
        go_simp
        refine hK _ _ (fun _ => ⟨⟨hgrow.os, hgrow.tape, hgrow.output, hgrow.size, fun k hk => by omega⟩, hpk⟩) ?_
        have f5 := HL3.out.st.of_heap hpk
        have f5b := f5.free 5
        have f5c := f5.cell 5
        simp only [List.getElem?_cons_zero, List.getElem?_cons_succ] at f5c
        have HP5 := Lib.hid f5
        have HO9 := Lib.hid hown'
        have HG9 := Lib.hid hgrow
        have HW9 := Lib.hid hwh
        have hsz9 := hgrow.size
        clear hK K hown' hgrow hwh hpk hrow f5
        repeat (refine eagR_readT rfl ?_; go_big_quiet_step (fail); refine wpQuiet_nil ?_)
        refine eagR_freeT rfl rfl (by kernel_rfl) ?_
        intro K hK
        go_simp
        refine hK _ _ ?_
        clear hK K f5b f5c
        go_simp
        refine eagR_endT ?_
        go_wp2_with fail
        go_ret2
        rw [← HN.out, ← HVA.out]
        refine ⟨_, .slice (some ⟨g', 0, none⟩) (n + 1) cap', false, out, rfl, HUR2.out, ⟨?_, ?_, ?_⟩, ?_⟩
        · have := HP5.out.set 5 (.slice (some ⟨g', 0, none⟩) (n + 1) cap')
          exact this
        · have h9 := HO9.out
          have e9 : (us2 ++ [newU ln now wr]).length = n + 1 := by rw [List.length_append, HLN.out]; rfl
          rw [e9, List.flatMap_append]
          refine ownG_other (a := ⟨p, 5, none⟩) ?_ (by simp [Value.ownBlock]; exact hgp) _
          simpa using h9
        · simp [Value.ownBlock]; exact hgp
        · refine ⟨?_, ?_, ?_, ?_, fun k hk hno => ?_, fun k hk => ?_⟩
          · exact HG9.out.os.trans HF3.out.os
          · exact HG9.out.tape.trans HF3.out.tape
          · exact HG9.out.output.trans HF3.out.output
          · have := HF3.out.size; simp; omega
          · refine (Below.heap_setCell _ _ _ _ (fun e => hno (.inl e))).trans ((HG9.out.block k (Nat.lt_of_lt_of_le hk HF3.out.size) (fun e => hno (.inr e.symm))).trans (HF3.out.block k hk hno))
          · rcases hk with hk | hk
            · exact .inl (.inl hk)
            · have e3 : g' = k := by simpa [Value.ownBlock] using hk
              rcases HW9.out with h1 | h1
              · exact .inl (.inr (by rw [h1, e3]))
              · right; have := HF3.out.size; omega
end Go.Proofs.Ytkpeeemnholmnab
