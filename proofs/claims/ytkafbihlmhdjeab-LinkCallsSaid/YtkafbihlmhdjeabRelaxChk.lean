/- The contracts of relax's Check and of the reference's ItemsError. -/
import Derived.Test.YtkafbihlmhdjeabSmallRef
import Derived.Test.YtkafbihlmhdjeabItemT
import Derived.Test.YtkafbihlmhdjeabOpErr
import Derived.Test.YtkafbihlmhdjeabEager
namespace Go.Proofs.Ytkafbihlmhdjeab
open Go.RowKit
set_option linter.unusedVariables false

def itemErr (len : Nat) (i : Item) : Int :=
  if checkE i.op i.d i.a i.b (if 0 ≤ i.tg then 0 else i.n) ≠ 0 then checkE i.op i.d i.a i.b (if 0 ≤ i.tg then 0 else i.n)
  else if i.tg < -1 ∨ (len : Int) < i.tg then 4
  else if 0 ≤ i.tg ∧ (jumpB i.op = false ∨ i.n ≠ 0) then 3 else 0
def itemsErr (len : Nat) : List Item → Int
  | [] => 0
  | i :: r => if itemErr len i ≠ 0 then itemErr len i else itemsErr len r
def itemsE (its : List Item) : Int := if 16384 < its.length then 2 else itemsErr its.length its

theorem itemsErr_zero (len : Nat) (its : List Item) (h : ∀ i (hi : i < its.length), itemErr len its[i] = 0) : itemsErr len its = 0 := by
  induction its with
  | nil => rfl
  | cons x r ih =>
    have h0 : itemErr len x = 0 := h 0 (by simp)
    unfold itemsErr
    rw [if_neg (by simp [h0])]
    exact ih fun i hi => h (i + 1) (by simp; omega)
theorem itemsErr_at (len : Nat) (its : List Item) (k : Nat) (hk : k < its.length) (h : ∀ i (hi : i < its.length), i < k → itemErr len its[i] = 0) (he : itemErr len its[k] ≠ 0) : itemsErr len its = itemErr len its[k] := by
  induction its generalizing k with
  | nil => simp at hk
  | cons x r ih =>
    unfold itemsErr
    cases k with
    | zero => simp only [List.getElem_cons_zero] at he ⊢; rw [if_pos he]
    | succ k =>
      have h0 : itemErr len x = 0 := h 0 (by simp) (by omega)
      rw [if_neg (by simp [h0])]
      simp only [List.getElem_cons_succ] at he ⊢
      exact ih k (by simpa using hk) (fun i hi hik => h (i + 1) (by simp; omega) (by omega)) he
theorem items_step {len : Nat} {its : List Item} {k : Nat} (h : ∀ i (hi : i < its.length), i < k → itemErr len its[i] = 0) (hk : k < its.length) (he : itemErr len its[k] = 0) : ∀ i (hi : i < its.length), i < k + 1 → itemErr len its[i] = 0 := by
  intro i hi hik
  by_cases e : i = k
  · subst e; exact he
  · exact h i hi (by omega)

theorem item_cases (len : Nat) (i : Item) :
    (∃ c, 0 ≤ i.tg ∧ checkE i.op i.d i.a i.b 0 = c ∧ c ≠ 0 ∧ itemErr len i = c) ∨ (0 ≤ i.tg ∧ checkE i.op i.d i.a i.b 0 = 0 ∧ (len : Int) < i.tg ∧ itemErr len i = 4) ∨
    (0 ≤ i.tg ∧ i.tg ≤ (len : Int) ∧ checkE i.op i.d i.a i.b 0 = 0 ∧ jumpB i.op = false ∧ itemErr len i = 3) ∨ (0 ≤ i.tg ∧ i.tg ≤ (len : Int) ∧ checkE i.op i.d i.a i.b 0 = 0 ∧ jumpB i.op = true ∧ ¬ i.n = 0 ∧ itemErr len i = 3) ∨
    (0 ≤ i.tg ∧ i.tg ≤ (len : Int) ∧ checkE i.op i.d i.a i.b 0 = 0 ∧ jumpB i.op = true ∧ i.n = 0 ∧ itemErr len i = 0) ∨
    (∃ c, i.tg < 0 ∧ checkE i.op i.d i.a i.b i.n = c ∧ c ≠ 0 ∧ itemErr len i = c) ∨ (i.tg < -1 ∧ checkE i.op i.d i.a i.b i.n = 0 ∧ itemErr len i = 4) ∨ (i.tg = -1 ∧ checkE i.op i.d i.a i.b i.n = 0 ∧ itemErr len i = 0) := by
  unfold itemErr
  by_cases h0 : 0 ≤ i.tg
  · rw [if_pos h0]
    by_cases hc : checkE i.op i.d i.a i.b 0 = 0
    · rw [if_neg (by simp [hc])]
      by_cases h1 : (len : Int) < i.tg
      · exact .inr (.inl ⟨h0, hc, h1, by rw [if_pos (.inr h1)]⟩)
      · rw [if_neg (by omega)]
        cases hj : jumpB i.op
        · exact .inr (.inr (.inl ⟨h0, by omega, hc, rfl, by rw [if_pos ⟨h0, .inl rfl⟩]⟩))
        · by_cases hn : i.n = 0
          · exact .inr (.inr (.inr (.inr (.inl ⟨h0, by omega, hc, rfl, hn, by rw [if_neg (by simp [hn])]⟩))))
          · exact .inr (.inr (.inr (.inl ⟨h0, by omega, hc, rfl, hn, by rw [if_pos ⟨h0, .inr hn⟩]⟩)))
    · exact .inl ⟨_, h0, rfl, hc, by rw [if_pos hc]⟩
  · rw [if_neg h0]
    by_cases hc : checkE i.op i.d i.a i.b i.n = 0
    · rw [if_neg (by simp [hc])]
      by_cases h1 : i.tg < -1
      · exact .inr (.inr (.inr (.inr (.inr (.inr (.inl ⟨h1, hc, by rw [if_pos (.inl h1)]⟩))))))
      · exact .inr (.inr (.inr (.inr (.inr (.inr (.inr ⟨by omega, hc, by rw [if_neg (by omega), if_neg (by omega)]⟩))))))
    · exact .inr (.inr (.inr (.inr (.inr (.inl ⟨_, by omega, rfl, hc, by rw [if_pos hc]⟩)))))

/-- the two boxes of a round, behind a call -/
theorem item_after {w wx : World} {t t2 : TypeId} {op d a b n tg op' d' a' b' n' : Int} {B : Nat}
    (hb : Below B ((w.alloc (.cells #[.int .i64 op, .int .i64 d, .int .i64 a, .int .i64 b, .int .i64 n, .int .i64 tg] t)).alloc (.cells #[.int .i64 op', .int .i64 d', .int .i64 a', .int .i64 b', .int .i64 n'] t2)) wx)
    (hB : B = ((w.alloc (.cells #[.int .i64 op, .int .i64 d, .int .i64 a, .int .i64 b, .int .i64 n, .int .i64 tg] t)).alloc (.cells #[.int .i64 op', .int .i64 d', .int .i64 a', .int .i64 b', .int .i64 n'] t2)).heap.size := by rfl) :
    (wx.cell? ⟨w.heap.size, 0, none⟩ = some (.int .i64 op) ∧ wx.cell? ⟨w.heap.size, 1, none⟩ = some (.int .i64 d) ∧ wx.cell? ⟨w.heap.size, 2, none⟩ = some (.int .i64 a) ∧ wx.cell? ⟨w.heap.size, 3, none⟩ = some (.int .i64 b) ∧ wx.cell? ⟨w.heap.size, 4, none⟩ = some (.int .i64 n) ∧ wx.cell? ⟨w.heap.size, 5, none⟩ = some (.int .i64 tg)) ∧
    OpAt wx (w.heap.size + 1) op' d' a' b' n' := by
  subst hB
  have h1 := ((Blk.new w [.int .i64 op, .int .i64 d, .int .i64 a, .int .i64 b, .int .i64 n, .int .i64 tg] t).alloc (.cells #[.int .i64 op', .int .i64 d', .int .i64 a', .int .i64 b', .int .i64 n'] t2)).below hb (by simp; omega)
  have h2 := (Blk.new (w.alloc (.cells #[.int .i64 op, .int .i64 d, .int .i64 a, .int .i64 b, .int .i64 n, .int .i64 tg] t)) (opCells op' d' a' b' n') t2).below hb (by simp)
  rw [World.size_alloc] at h2
  exact ⟨⟨h1.cell 0, h1.cell 1, h1.cell 2, h1.cell 3, h1.cell 4, h1.cell 5⟩, opAt_blk h2⟩

theorem chkR_as (op d a b n : Int) (w : World) {c : Int} (hc : checkE op d a b n = c) :
    Calls Try.prog 42 #[.agg #[.int .i64 op, .int .i64 d, .int .i64 a, .int .i64 b, .int .i64 n]] w fun e w' => e = .returned (.int .i64 c) ∧ Below w.heap.size w w' := by
  rw [← hc]; exact check_any op d a b n w
theorem errR_as (op d a b n : Int) (w : World) {c : Int} (hc : checkE op d a b n = c) :
    Calls Try.prog 23 #[.agg #[.int .i64 op, .int .i64 d, .int .i64 a, .int .i64 b, .int .i64 n]] w fun e w' => e = .returned (.int .i64 c) ∧ Below w.heap.size w w' := by
  rw [← hc]; exact operr_any op d a b n w
theorem jmp_as (op : Int) (w : World) {c : Bool} (hc : jumpB op = c) : Calls Try.prog 58 #[.int .i64 op] w fun e w' => e = .returned (.bool c) ∧ w = w' := by
  rw [← hc]; exact jumps_any op w

set_option maxRecDepth 100000 in
set_option maxHeartbeats 4000000 in
theorem relaxCheck_any (a : Option Addr) (len cap : Nat) (its : List Item) (w : World) (h : Came w a len cap 6 (its.map itemCells)) :
    Calls Try.prog 34 #[.slice a len cap] w (IntPost (itemsE its) w) := by
  have hl : its.length = len := by simpa using h.count
  have hle := h.le
  have hmx := h.max
  have HL := Lib.hid hl
  have HC := Lib.hid h
  have HIE : Hid (itemsE its = if 16384 < its.length then 2 else itemsErr its.length its) := rfl
  rw [hl] at HIE
  clear hl h
  by_cases hbig : 16384 < len
  · have HE : Hid (itemsE its = 2) := by unfold Hid; rw [HIE.out, if_pos hbig]
    go_enter Try.func34, Try.ntmps34
    go_wp2_with fail
    go_ret
    exact ⟨ret_int HE.out.symm, Below.refl _ _⟩
  · have HE : Hid (itemsE its = itemsErr len its) := by unfold Hid; rw [HIE.out, if_neg hbig]
    clear HIE
    go_enter Try.func34, Try.ntmps34
    go_wp2_with fail
    go_loopw [12] (fun u wr => ∃ k : Nat, k ≤ len ∧ u = .int .i64 k ∧ (∀ i (hi : i < its.length), i < k → itemErr len its[i] = 0) ∧ Below w.heap.size w wr) (fun u _ => len - (intOf u).toNat)
    case atStart => exact ⟨0, Nat.zero_le _, rfl, fun i _ hi => absurd hi (Nat.not_lt_zero _), Below.refl _ _⟩
    case round =>
      obtain ⟨k, hk, rfl, hz, hb⟩ := hrel
      have HZ := Lib.hid hz
      clear hz
      by_cases hlt : k < len
      · obtain ⟨b0, off, ea, hbl, hcell⟩ := came_items HC.out (by omega)
        subst ea
        have hkl : k < its.length := by have := HL.out; omega
        obtain ⟨it, hit⟩ : ∃ it, it = its[k] := ⟨_, rfl⟩
        have hcs := (hcell k hkl).later hb hbl
        rw [← hit] at hcs
        have HERR := Lib.hid (fun (he : itemErr len it ≠ 0) => (itemsErr_at len its k hkl HZ.out (by rw [← hit]; exact he)).trans (by rw [← hit]))
        have HSTEP := Lib.hid (fun (he : itemErr len it = 0) => items_step (len := len) HZ.out hkl (by rw [← hit]; exact he))
        have hcases := item_cases len it
        have HCS := Lib.hid hcs
        clear hit hcell hcs
        obtain ⟨op, d, a, b, n, tg⟩ := it
        have HBR := Lib.hid hb
        have hsz := hb.size
        clear hb
        have FIN := Lib.hid (fun (wx : World) (h : Below wr.heap.size wr wx) => HBR.out.trans (h.mono hsz))
        obtain ⟨c0, c1, c2, c3, c4, c5⟩ := HCS.out
        simp only at c0 c1 c2 c3 c4 c5 hcases
        rcases hcases with ⟨c, ht, hce, hc0, hie⟩ | ⟨ht, hce, ht2, hie⟩ | ⟨ht, ht2, hce, hj, hie⟩ | ⟨ht, ht2, hce, hj, hn, hie⟩ | ⟨ht, ht2, hce, hj, hn, hie⟩ | ⟨c, ht, hce, hc0, hie⟩ | ⟨ht, hce, hie⟩ | ⟨ht, hce, hie⟩
        · have HCHK := fun w => Lib.hid (chkR_as op d a b 0 w hce)
          have hcn : (c != 0) = true := by rw [bne_iff_ne]; exact hc0
          have HC0 := Lib.hid hc0
          clear hc0
          have HIE := Lib.hid hie
          clear hce hie
          go_wp2_with (first | (go_at_call 42; refine (HCHK _).out.mono ?_; rintro e w5 ⟨rfl, hb⟩; obtain ⟨⟨q0, q1, q2, q3, q4, q5⟩, ⟨s0, s1, s2, s3, s4⟩⟩ := item_after hb; have HB := Lib.hid hb; clear hb))
          go_ret
          refine ⟨ret_int (by rw [HE.out, HERR.out (by rw [HIE.out]; exact HC0.out), HIE.out]), FIN.out _ ?_⟩
          refine Below.trans ?_ (HB.out.mono (by simp; omega))
          repeat (first | exact Below.refl _ _ | (refine Below.setCell ?_ (by first | omega | (simp; done) | (simp; omega)) _) | (refine Below.alloc ?_ (by first | (simp; done) | (simp; omega)) _) | refine Below.drew ?_)
        · have HCHK := fun w => Lib.hid (chkR_as op d a b 0 w hce)
          have HIE := Lib.hid hie
          clear hce hie
          go_wp2_with (first | (go_at_call 42; refine (HCHK _).out.mono ?_; rintro e w5 ⟨rfl, hb⟩; obtain ⟨⟨q0, q1, q2, q3, q4, q5⟩, ⟨s0, s1, s2, s3, s4⟩⟩ := item_after hb; have HB := Lib.hid hb; clear hb))
          go_ret
          refine ⟨ret_int (by rw [HE.out, HERR.out (by rw [HIE.out]; decide), HIE.out]), FIN.out _ ?_⟩
          refine Below.trans ?_ (HB.out.mono (by simp; omega))
          repeat (first | exact Below.refl _ _ | (refine Below.setCell ?_ (by first | omega | (simp; done) | (simp; omega)) _) | (refine Below.alloc ?_ (by first | (simp; done) | (simp; omega)) _) | refine Below.drew ?_)
        · have HCHK := fun w => Lib.hid (chkR_as op d a b 0 w hce)
          have HJ := fun w => Lib.hid (jmp_as op w hj)
          clear hj
          have HIE := Lib.hid hie
          clear hce hie
          go_wp2_with (first | (go_at_call 42; refine (HCHK _).out.mono ?_; rintro e w5 ⟨rfl, hb⟩; obtain ⟨⟨q0, q1, q2, q3, q4, q5⟩, ⟨s0, s1, s2, s3, s4⟩⟩ := item_after hb; have HB := Lib.hid hb; clear hb) | (go_at_call 58; refine (HJ _).out.mono ?_; rintro e w6 ⟨rfl, rfl⟩))
          go_ret
          refine ⟨ret_int (by rw [HE.out, HERR.out (by rw [HIE.out]; decide), HIE.out]), FIN.out _ ?_⟩
          refine Below.trans ?_ (HB.out.mono (by simp; omega))
          repeat (first | exact Below.refl _ _ | (refine Below.setCell ?_ (by first | omega | (simp; done) | (simp; omega)) _) | (refine Below.alloc ?_ (by first | (simp; done) | (simp; omega)) _) | refine Below.drew ?_)
        · have HCHK := fun w => Lib.hid (chkR_as op d a b 0 w hce)
          have HJ := fun w => Lib.hid (jmp_as op w hj)
          have hnn : (n != 0) = true := by rw [bne_iff_ne]; exact hn
          clear hj hn
          have HIE := Lib.hid hie
          clear hce hie
          go_wp2_with (first | (go_at_call 42; refine (HCHK _).out.mono ?_; rintro e w5 ⟨rfl, hb⟩; obtain ⟨⟨q0, q1, q2, q3, q4, q5⟩, ⟨s0, s1, s2, s3, s4⟩⟩ := item_after hb; have HB := Lib.hid hb; clear hb) | (go_at_call 58; refine (HJ _).out.mono ?_; rintro e w6 ⟨rfl, rfl⟩))
          go_ret
          refine ⟨ret_int (by rw [HE.out, HERR.out (by rw [HIE.out]; decide), HIE.out]), FIN.out _ ?_⟩
          refine Below.trans ?_ (HB.out.mono (by simp; omega))
          repeat (first | exact Below.refl _ _ | (refine Below.setCell ?_ (by first | omega | (simp; done) | (simp; omega)) _) | (refine Below.alloc ?_ (by first | (simp; done) | (simp; omega)) _) | refine Below.drew ?_)
        · have HCHK := fun w => Lib.hid (chkR_as op d a b 0 w hce)
          have HJ := fun w => Lib.hid (jmp_as op w hj)
          have hnn : (n != 0) = false := by rw [bne_eq_false_iff_eq]; exact hn
          clear hj hn
          have HIE := Lib.hid hie
          clear hce hie
          go_wp2_with (first | (go_at_call 42; refine (HCHK _).out.mono ?_; rintro e w5 ⟨rfl, hb⟩; obtain ⟨⟨q0, q1, q2, q3, q4, q5⟩, ⟨s0, s1, s2, s3, s4⟩⟩ := item_after hb; have HB := Lib.hid hb; clear hb) | (go_at_call 58; refine (HJ _).out.mono ?_; rintro e w6 ⟨rfl, rfl⟩))
          go_roundw
          case rel =>
            refine ⟨k + 1, by omega, by go_num, HSTEP.out HIE.out, FIN.out _ ?_⟩
            refine Below.trans ?_ (HB.out.mono (by simp; omega))
            repeat (first | exact Below.refl _ _ | (refine Below.setCell ?_ (by first | omega | (simp; done) | (simp; omega)) _) | (refine Below.alloc ?_ (by first | (simp; done) | (simp; omega)) _) | refine Below.drew ?_)
          case measure => simp [intOf]; omega
        · have HCHK := fun w => Lib.hid (chkR_as op d a b n w hce)
          have hcn : (c != 0) = true := by rw [bne_iff_ne]; exact hc0
          have HC0 := Lib.hid hc0
          clear hc0
          have HIE := Lib.hid hie
          clear hce hie
          go_wp2_with (first | (go_at_call 42; refine (HCHK _).out.mono ?_; rintro e w5 ⟨rfl, hb⟩; obtain ⟨⟨q0, q1, q2, q3, q4, q5⟩, ⟨s0, s1, s2, s3, s4⟩⟩ := item_after hb; have HB := Lib.hid hb; clear hb))
          go_ret
          refine ⟨ret_int (by rw [HE.out, HERR.out (by rw [HIE.out]; exact HC0.out), HIE.out]), FIN.out _ ?_⟩
          refine Below.trans ?_ (HB.out.mono (by simp; omega))
          repeat (first | exact Below.refl _ _ | (refine Below.setCell ?_ (by first | omega | (simp; done) | (simp; omega)) _) | (refine Below.alloc ?_ (by first | (simp; done) | (simp; omega)) _) | refine Below.drew ?_)
        · have HCHK := fun w => Lib.hid (chkR_as op d a b n w hce)
          have HIE := Lib.hid hie
          clear hce hie
          go_wp2_with (first | (go_at_call 42; refine (HCHK _).out.mono ?_; rintro e w5 ⟨rfl, hb⟩; obtain ⟨⟨q0, q1, q2, q3, q4, q5⟩, ⟨s0, s1, s2, s3, s4⟩⟩ := item_after hb; have HB := Lib.hid hb; clear hb))
          go_ret
          refine ⟨ret_int (by rw [HE.out, HERR.out (by rw [HIE.out]; decide), HIE.out]), FIN.out _ ?_⟩
          refine Below.trans ?_ (HB.out.mono (by simp; omega))
          repeat (first | exact Below.refl _ _ | (refine Below.setCell ?_ (by first | omega | (simp; done) | (simp; omega)) _) | (refine Below.alloc ?_ (by first | (simp; done) | (simp; omega)) _) | refine Below.drew ?_)
        · have HCHK := fun w => Lib.hid (chkR_as op d a b n w hce)
          have HIE := Lib.hid hie
          clear hce hie
          go_wp2_with (first | (go_at_call 42; refine (HCHK _).out.mono ?_; rintro e w5 ⟨rfl, hb⟩; obtain ⟨⟨q0, q1, q2, q3, q4, q5⟩, ⟨s0, s1, s2, s3, s4⟩⟩ := item_after hb; have HB := Lib.hid hb; clear hb))
          go_roundw
          case rel =>
            refine ⟨k + 1, by omega, by go_num, HSTEP.out HIE.out, FIN.out _ ?_⟩
            refine Below.trans ?_ (HB.out.mono (by simp; omega))
            repeat (first | exact Below.refl _ _ | (refine Below.setCell ?_ (by first | omega | (simp; done) | (simp; omega)) _) | (refine Below.alloc ?_ (by first | (simp; done) | (simp; omega)) _) | refine Below.drew ?_)
          case measure => simp [intOf]; omega
      · have ek : k = len := by omega
        have HE0 : Hid (itemsE its = 0) := by unfold Hid; rw [HE.out]; exact itemsErr_zero len its fun i hi => HZ.out i hi (by have := HL.out; omega)
        clear ek
        go_wp2_with fail
        go_ret
        exact ⟨ret_int HE0.out.symm, hb⟩

end Go.Proofs.Ytkafbihlmhdjeab
