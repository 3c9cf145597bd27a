/- The walk of InsnUnique. -/
import Derived.Test.YtioaoncnandjpaaInsnFact
import Derived.Test.YtioaoncnandjpaaSlicesEq
import Derived.Test.YtioaoncnandjpaaRegion
namespace Go.Proofs.Ytioaoncnandjpaa
open Go.RowKit
set_option linter.unusedVariables false

theorem encWords_inj {op d a b n op' d' a' b' n' : Int} (h : checkE op d a b n = 0) (h' : checkE op' d' a' b' n' = 0) (he : encWords op d a b n = encWords op' d' a' b' n') :
    op = op' ∧ d = d' ∧ a = a' ∧ b = b' ∧ n = n' := by
  obtain ⟨⟨_, _⟩, ⟨_, _⟩, ⟨_, _⟩, ⟨_, _⟩, ⟨_, _⟩, _, _⟩ := checkE_ok h
  obtain ⟨⟨_, _⟩, ⟨_, _⟩, ⟨_, _⟩, ⟨_, _⟩, ⟨_, _⟩, _, _⟩ := checkE_ok h'
  unfold encWords longWords at he
  cases hs : shortB n <;> cases hs' : shortB n'
  · rw [if_neg (by simp [hs]), if_neg (by simp [hs'])] at he
    simp only [List.cons.injEq, and_true, wordOf] at he
    omega
  · rw [if_neg (by simp [hs]), if_pos hs'] at he
    simp at he
  · rw [if_pos hs, if_neg (by simp [hs'])] at he
    simp at he
  · rw [if_pos hs, if_pos hs'] at he
    simp only [List.cons.injEq, and_true, wordOf] at he
    have g1 := inB_true.1 hs
    have g2 := inB_true.1 hs'
    omega

def sameOp (op d a b n op' d' a' b' n' : Int) : Bool := decide (op = op' ∧ d = d' ∧ a = a' ∧ b = b' ∧ n = n')

theorem op_eql (w : World) (op d a b n op' d' a' b' n' : Int) : (binOp .eql 37 (.agg #[.int .i64 op, .int .i64 d, .int .i64 a, .int .i64 b, .int .i64 n]) (.agg #[.int .i64 op', .int .i64 d', .int .i64 a', .int .i64 b', .int .i64 n'])).run Try.prog w = .ok (.bool (sameOp op d a b n op' d' a' b' n')) w := by
  unfold sameOp
  go_simp
  by_cases h1 : op = op' <;> by_cases h2 : d = d' <;> by_cases h3 : a = a' <;> by_cases h4 : b = b' <;> by_cases h5 : n = n' <;> simp [h1, h2, h3, h4, h5]

def AnyWords (w : World) (e : Ending) (w' : World) : Prop := ∃ a l c n, e = .returned (.tuple #[.slice a l c, .int .i64 n]) ∧ Below w.heap.size w w'

set_option maxHeartbeats 4000000 in
theorem insnUnique_walk (op d a b n op' d' a' b' n' : Int) (w : World) (_w0 : -9223372036854775808 ≤ op ∧ op ≤ 9223372036854775807) (_w1 : -9223372036854775808 ≤ d ∧ d ≤ 9223372036854775807) (_w2 : -9223372036854775808 ≤ a ∧ a ≤ 9223372036854775807) (_w3 : -9223372036854775808 ≤ b ∧ b ≤ 9223372036854775807) (_w4 : -9223372036854775808 ≤ n ∧ n ≤ 9223372036854775807)
    (_v0 : -9223372036854775808 ≤ op' ∧ op' ≤ 9223372036854775807) (_v1 : -9223372036854775808 ≤ d' ∧ d' ≤ 9223372036854775807) (_v2 : -9223372036854775808 ≤ a' ∧ a' ≤ 9223372036854775807) (_v3 : -9223372036854775808 ≤ b' ∧ b' ≤ 9223372036854775807) (_v4 : -9223372036854775808 ≤ n' ∧ n' ≤ 9223372036854775807) :
    Calls Try.prog 7 #[.agg #[.int .i64 op, .int .i64 d, .int .i64 a, .int .i64 b, .int .i64 n], .agg #[.int .i64 op', .int .i64 d', .int .i64 a', .int .i64 b', .int .i64 n']] w fun e w' => e = .returned (.bool true) ∧ Below w.heap.size w w' := by
  clear _w0 _w1 _w2 _w3 _w4 _v0 _v1 _v2 _v3 _v4
  have HF := fun w => Lib.hid (insnFact_ok w)
  have hat : ∀ wx, Below (w.heap.size + 1 + 1) ((w.alloc (.cells #[.int .i64 op, .int .i64 d, .int .i64 a, .int .i64 b, .int .i64 n] 37)).alloc (.cells #[.int .i64 op', .int .i64 d', .int .i64 a', .int .i64 b', .int .i64 n'] 37)) wx →
      OpAt wx w.heap.size op d a b n ∧ OpAt wx (w.heap.size + 1) op' d' a' b' n' := fun wx hx => by
    have h1 := ((Blk.new w (opCells op d a b n) 37).alloc (.cells #[.int .i64 op', .int .i64 d', .int .i64 a', .int .i64 b', .int .i64 n'] 37)).below hx (by omega)
    have h2 := (Blk.new (w.alloc (.cells #[.int .i64 op, .int .i64 d, .int .i64 a, .int .i64 b, .int .i64 n] 37)) (opCells op' d' a' b' n') 37)
    rw [World.size_alloc] at h2
    exact ⟨opAt_blk h1, opAt_blk (h2.below hx (by omega))⟩
  have HAT := Lib.hid hat
  have HBX := Lib.hid (((Below.refl (w.heap.size) w).alloc (Nat.le_refl _) (.cells #[.int .i64 op, .int .i64 d, .int .i64 a, .int .i64 b, .int .i64 n] 37)).alloc (by simp) (.cells #[.int .i64 op', .int .i64 d', .int .i64 a', .int .i64 b', .int .i64 n'] 37))
  clear hat
  by_cases h : checkE op d a b n = 0
  · by_cases h' : checkE op' d' a' b' n' = 0
    · have HE := fun w => Lib.hid (enc_ok op d a b n w h)
      have HE' := fun w => Lib.hid (enc_ok op' d' a' b' n' w h')
      have hinj := fun he => encWords_inj h h' he
      have HEQ : Hid (decide (encWords op d a b n = encWords op' d' a' b' n') = sameOp op d a b n op' d' a' b' n') := by
        unfold Hid sameOp
        rw [decide_eq_decide]
        constructor
        · exact hinj
        · rintro ⟨rfl, rfl, rfl, rfl, rfl⟩; rfl
      have hl1 : (encWords op d a b n).length ≤ 2 := by unfold encWords longWords; split <;> simp
      have hl2 : (encWords op' d' a' b' n').length ≤ 2 := by unfold encWords longWords; split <;> simp
      obtain ⟨ws, hws⟩ : ∃ ws, ws = encWords op d a b n := ⟨_, rfl⟩
      obtain ⟨ws', hws'⟩ : ∃ ws', ws' = encWords op' d' a' b' n' := ⟨_, rfl⟩
      rw [← hws] at HE HEQ hl1
      rw [← hws'] at HE' HEQ hl2
      have hse := fun w => op_eql w op d a b n op' d' a' b' n'
      obtain ⟨sm, hsm⟩ : ∃ sm, sm = sameOp op d a b n op' d' a' b' n' := ⟨_, rfl⟩
      rw [← hsm] at HEQ hse
      have HSE := Lib.hid hse
      clear h h' hinj hws hws' hse hsm
      go_enter Try.func7, Try.ntmps7
      go_wp2_with fail
      refine (HE _).out.mono ?_
      rintro e w1 ⟨g1, rfl, hs1, _, hb⟩
      rw [World.size_alloc, World.size_alloc] at hb
      obtain ⟨⟨q0, q1, q2, q3, q4⟩, ⟨p0, p1, p2, p3, p4⟩⟩ := HAT.out _ hb
      have HB1 := Lib.hid hb
      have HS1 := Lib.hid hs1
      clear hb hs1
      go_wp2_with fail
      refine (HE' _).out.mono ?_
      rintro e w2 ⟨g2, rfl, hs2, _, hb⟩
      have HS2 := Lib.hid hs2
      have HS1' := Lib.hid (HS1.out.below hb HS1.out.lt)
      have hb2 := HB1.out.trans (hb.mono (by have := HB1.out.size; simpa using this))
      obtain ⟨⟨q0, q1, q2, q3, q4⟩, ⟨p0, p1, p2, p3, p4⟩⟩ := HAT.out _ hb2
      have HB2 := Lib.hid hb2
      clear hb hb2 hs2 HS1 HB1
      have HEQL := fun wx (h : Below w2.heap.size w2 wx) => Lib.hid (equal_ints wx _ _ _ ws _ _ _ ws' (came_of_blk (HS1'.out.below h HS1'.out.lt) (by omega)) (came_of_blk (HS2.out.below h HS2.out.lt) (by omega)))
      have hse := HSE.out
      go_wp2_with fail
      have hse := HSE.out
      have HEQ2 := HEQ.out
      go_region_held3 (fun wx => (wx.cell? ⟨w.heap.size, 0, none⟩ = some (.int .i64 op) ∧ wx.cell? ⟨w.heap.size, 1, none⟩ = some (.int .i64 d) ∧ wx.cell? ⟨w.heap.size, 2, none⟩ = some (.int .i64 a) ∧ wx.cell? ⟨w.heap.size, 3, none⟩ = some (.int .i64 b) ∧ wx.cell? ⟨w.heap.size, 4, none⟩ = some (.int .i64 n)) ∧ (wx.cell? ⟨w.heap.size + 1, 0, none⟩ = some (.int .i64 op') ∧ wx.cell? ⟨w.heap.size + 1, 1, none⟩ = some (.int .i64 d') ∧ wx.cell? ⟨w.heap.size + 1, 2, none⟩ = some (.int .i64 a') ∧ wx.cell? ⟨w.heap.size + 1, 3, none⟩ = some (.int .i64 b') ∧ wx.cell? ⟨w.heap.size + 1, 4, none⟩ = some (.int .i64 n'))) (first | exact ⟨⟨q0, q1, q2, q3, q4⟩, ⟨p0, p1, p2, p3, p4⟩⟩ | exact HAT3.out | go_keep) (first | (go_at_call 25; refine (HF _).out.mono ?_; rintro e w3 ⟨rfl, hb⟩; have hb3 : Below w2.heap.size w2 w3 := ⟨hb.os, hb.tape, hb.output, hb.size, hb.block⟩; have HB3 := Lib.hid hb3; have HAT3 := Lib.hid (HAT.out _ (HB2.out.trans (hb3.mono (by have := HB2.out.size; simpa using this)))); clear hb hb3) | (go_at_call 27; refine (HEQL _ HB3.out).out.mono ?_; rw [HEQ2]; rintro e w4 ⟨m, rfl, rfl⟩))
      go_wp2
      go_ret
      exact ⟨rfl, ((HBX.out.trans (HB2.out.mono (by omega))).trans (HB3.out.mono (by have := HB2.out.size; simp at this; omega))).trans (below_drewN_self _ _ _)⟩
    · have HE := fun w => Lib.hid (enc_ok op d a b n w h)
      have HE' := fun w => Lib.hid (enc_err op' d' a' b' n' w h')
      have hl1 : (encWords op d a b n).length ≤ 2 := by unfold encWords longWords; split <;> simp
      obtain ⟨ws, hws⟩ : ∃ ws, ws = encWords op d a b n := ⟨_, rfl⟩
      obtain ⟨c, hc⟩ : ∃ c, c = checkE op' d' a' b' n' := ⟨_, rfl⟩
      rw [← hws] at HE hl1
      rw [← hc] at HE' h'
      have hcb : (c != 0) = true := by rw [bne_iff_ne]; exact h'
      clear h h' hws hc
      go_enter Try.func7, Try.ntmps7
      go_wp2_with fail
      refine (HE _).out.mono ?_
      rintro e w1 ⟨g1, rfl, hs1, _, hb⟩
      rw [World.size_alloc, World.size_alloc] at hb
      obtain ⟨⟨q0, q1, q2, q3, q4⟩, ⟨p0, p1, p2, p3, p4⟩⟩ := HAT.out _ hb
      have HB1 := Lib.hid hb
      clear hb hs1
      go_wp2_with fail
      refine (HE' _).out.mono ?_
      rintro e w2 ⟨rfl, hb⟩
      have hb2 := HB1.out.trans (hb.mono (by have := HB1.out.size; simpa using this))
      have HB2 := Lib.hid hb2
      clear hb hb2 HB1 q0 q1 q2 q3 q4 p0 p1 p2 p3 p4
      go_wp2_with fail
      refine wp_region_after w2.heap.size (by kernel_rfl) (by kernel_rfl) ?_
      repeat (go_big_quiet_step ((go_at_call 25; rename_i x; exact x.call (Nat.le_refl _) (HF _).out)))
      refine wpQuiet_nil ?_
      rintro _ ⟨x, rfl⟩
      go_wp2
      go_ret
      exact ⟨rfl, (HBX.out.trans (HB2.out.mono (by omega))).trans (x.below.mono (by have := HB2.out.size; simp at this; omega))⟩
  · have HE := fun w => Lib.hid (enc_err op d a b n w h)
    have HE2 : ∀ w, Calls Try.prog 23 #[.agg #[.int .i64 op', .int .i64 d', .int .i64 a', .int .i64 b', .int .i64 n']] w (AnyWords w) := by
      intro w
      by_cases h' : checkE op' d' a' b' n' = 0
      · refine (enc_ok op' d' a' b' n' w h').mono ?_
        rintro e w' ⟨g, rfl, _, _, hb⟩
        exact ⟨_, _, _, _, rfl, hb⟩
      · refine (enc_err op' d' a' b' n' w h').mono ?_
        rintro e w' ⟨rfl, hb⟩
        exact ⟨_, _, _, _, rfl, hb⟩
    have HE' := fun w => Lib.hid (HE2 w)
    clear HE2
    obtain ⟨c, hc⟩ : ∃ c, c = checkE op d a b n := ⟨_, rfl⟩
    rw [← hc] at HE h
    have hcb : (c != 0) = true := by rw [bne_iff_ne]; exact h
    clear h hc
    go_enter Try.func7, Try.ntmps7
    go_wp2_with fail
    refine (HE _).out.mono ?_
    rintro e w1 ⟨rfl, hb⟩
    rw [World.size_alloc, World.size_alloc] at hb
    obtain ⟨⟨q0, q1, q2, q3, q4⟩, ⟨p0, p1, p2, p3, p4⟩⟩ := HAT.out _ hb
    have HB1 := Lib.hid hb
    clear hb
    go_wp2_with fail
    refine (HE' _).out.mono ?_
    rintro e w2 ⟨sa, sl, sc, c2, rfl, hb⟩
    have hb2 := HB1.out.trans (hb.mono (by have := HB1.out.size; simpa using this))
    have HB2 := Lib.hid hb2
    clear hb hb2 HB1 q0 q1 q2 q3 q4 p0 p1 p2 p3 p4
    go_wp2_with fail
    refine wp_region_after w2.heap.size (by kernel_rfl) (by kernel_rfl) ?_
    repeat (go_big_quiet_step ((go_at_call 25; rename_i x; exact x.call (Nat.le_refl _) (HF _).out)))
    refine wpQuiet_nil ?_
    rintro _ ⟨x, rfl⟩
    go_wp2
    go_ret
    exact ⟨rfl, (HBX.out.trans (HB2.out.mono (by omega))).trans (x.below.mono (by have := HB2.out.size; simp at this; omega))⟩
end Go.Proofs.Ytioaoncnandjpaa
