/- The walk of InsnSizes. -/
import Derived.Test.YtioaoncnandjpaaInsnFact
namespace Go.Proofs.Ytioaoncnandjpaa
open Go.RowKit
set_option linter.unusedVariables false

theorem encWords_length (op d a b n : Int) : ((encWords op d a b n).length : Int) = sizeOfOp n := by
  unfold encWords sizeOfOp longWords; split <;> rfl

set_option maxHeartbeats 2000000 in
theorem insnSizes_walk (op d a b n : Int) (w : World) (_w0 : -9223372036854775808 ≤ op ∧ op ≤ 9223372036854775807) (_w1 : -9223372036854775808 ≤ d ∧ d ≤ 9223372036854775807) (_w2 : -9223372036854775808 ≤ a ∧ a ≤ 9223372036854775807) (_w3 : -9223372036854775808 ≤ b ∧ b ≤ 9223372036854775807) (_w4 : -9223372036854775808 ≤ n ∧ n ≤ 9223372036854775807) :
    Calls Try.prog 6 #[.agg #[.int .i64 op, .int .i64 d, .int .i64 a, .int .i64 b, .int .i64 n]] w fun e w' => e = .returned (.bool true) ∧ Below w.heap.size w w' := by
  have HF := fun w => Lib.hid (insnFact_ok w)
  have hat : ∀ wx, Below (w.heap.size + 1) (w.alloc (.cells #[.int .i64 op, .int .i64 d, .int .i64 a, .int .i64 b, .int .i64 n] 37)) wx → OpAt wx w.heap.size op d a b n :=
    fun wx hx => opAt_blk ((Blk.new w (opCells op d a b n) _).below hx (by omega))
  have HAT := Lib.hid hat
  have HBX := Lib.hid ((Below.refl (w.heap.size) w).alloc (Nat.le_refl _) (.cells #[.int .i64 op, .int .i64 d, .int .i64 a, .int .i64 b, .int .i64 n] 37))
  clear hat
  by_cases h : checkE op d a b n = 0
  · have HE := fun w => Lib.hid (enc_ok op d a b n w h)
    have HL := fun w => Lib.hid (long_ok op d a b n w h)
    have HS := fun w => Lib.hid (size_any op d a b n w)
    have HLEN := Lib.hid (encWords_length op d a b n)
    obtain ⟨ws, hws⟩ : ∃ ws, ws = encWords op d a b n := ⟨_, rfl⟩
    rw [← hws] at HE HLEN
    have hll : (longWords op d a b n).length = 2 := rfl
    obtain ⟨wl, hwl⟩ : ∃ wl, wl = longWords op d a b n := ⟨_, rfl⟩
    rw [← hwl] at HL hll
    have HLL := Lib.hid hll
    have hs1 : (ws.length : Int) ≤ 2 := by rw [HLEN.out]; unfold sizeOfOp; split <;> omega
    have t2 : ((wl.length : Int) == 2) = true := by rw [hll]; rfl
    clear h hws hwl hll
    go_enter Try.func6, Try.ntmps6
    go_wp2_with fail
    refine (HE _).out.mono ?_
    rintro e w1 ⟨g1, rfl, _, _, hb⟩
    rw [World.size_alloc] at hb
    obtain ⟨q0, q1, q2, q3, q4⟩ := HAT.out _ hb
    have HB1 := Lib.hid hb
    clear hb
    go_wp2_with fail
    refine (HL _).out.mono ?_
    rintro e w2 ⟨g2, rfl, _, _, hb⟩
    have hb2 := HB1.out.trans (hb.mono (by have := HB1.out.size; simpa using this))
    obtain ⟨q0, q1, q2, q3, q4⟩ := HAT.out _ hb2
    have HB2 := Lib.hid hb2
    clear hb hb2
    go_wp2_with (first
      | (go_at_call 25; refine (HF _).out.mono ?_; rintro e w3 ⟨rfl, hb⟩; have HB3 := Lib.hid hb; obtain ⟨q0, q1, q2, q3, q4⟩ := HAT.out _ (HB2.out.trans (HB3.out.mono (by have := HB2.out.size; simpa using this))); clear hb)
      | (go_at_call 26; refine (HS _).out.mono ?_; rw [← HLEN.out]; rintro e w4 ⟨rfl, rfl⟩))
    go_ret
    refine ⟨rfl, ?_⟩
    exact ((HBX.out.trans (HB2.out.mono (by omega))).trans (HB3.out.mono (by have := HB2.out.size; simp at this; omega))).alloc (by have := HB2.out.size; have := HB3.out.size; simp at *; omega) _
  · have HE := fun w => Lib.hid (enc_err op d a b n w h)
    have HL := fun w => Lib.hid (long_err op d a b n w h)
    obtain ⟨c, hc⟩ : ∃ c, c = checkE op d a b n := ⟨_, rfl⟩
    rw [← hc] at HE HL h
    have hcb : (c != 0) = true := by rw [bne_iff_ne]; exact h
    clear h hc
    go_enter Try.func6, Try.ntmps6
    go_wp2_with fail
    refine (HE _).out.mono ?_
    rintro e w1 ⟨rfl, hb⟩
    rw [World.size_alloc] at hb
    obtain ⟨q0, q1, q2, q3, q4⟩ := HAT.out _ hb
    have HB1 := Lib.hid hb
    clear hb
    go_wp2_with fail
    refine (HL _).out.mono ?_
    rintro e w2 ⟨rfl, hb⟩
    have hb2 := HB1.out.trans (hb.mono (by have := HB1.out.size; simpa using this))
    have HB2 := Lib.hid hb2
    clear hb hb2
    go_wp2_with (go_at_call 25; refine (HF _).out.mono ?_; rintro e w3 ⟨rfl, hb⟩; have HB3 := Lib.hid hb; clear hb)
    go_ret
    exact ⟨rfl, (HBX.out.trans (HB2.out.mono (by omega))).trans (HB3.out.mono (by have := HB2.out.size; simp at this; omega))⟩
end Go.Proofs.Ytioaoncnandjpaa
