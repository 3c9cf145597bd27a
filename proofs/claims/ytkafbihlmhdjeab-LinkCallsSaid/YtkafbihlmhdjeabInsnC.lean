/- The contracts of insn's Size, word, Encode, Long. -/
import Derived.Test.YtkafbihlmhdjeabInsnB
import Derived.Test.YtkafbihlmhdjeabOpAt
import Derived.Deep.RegionHeld3
import Derived.Deep.RegionWith
namespace Go.Proofs.Ytkafbihlmhdjeab
open Go.RowKit
set_option linter.unusedVariables false

def shortB (n : Int) : Bool := inB n (-128) 127
def sizeOfOp (n : Int) : Int := if shortB n = true then 1 else 2

set_option maxHeartbeats 400000 in
theorem size_any (op d a b n : Int) (w : World) : Calls Try.prog 74 #[.agg #[.int .i64 op, .int .i64 d, .int .i64 a, .int .i64 b, .int .i64 n]] w
    fun e w' => e = .returned (.int .i64 (sizeOfOp n)) ∧ w' = w.alloc (.cells #[.int .i64 op, .int .i64 d, .int .i64 a, .int .i64 b, .int .i64 n] 36) := by
  cases h : inB n (-128) 127
  all_goals
    have H : Hid (sizeOfOp n = if shortB n = true then 1 else 2) := rfl
    have H2 : Hid (shortB n = inB n (-128) 127) := rfl
    go_enter Try.func74, Try.ntmps74
    go_wp2_with (go_at_call 52; refine (iin_any _ _ _ _).mono ?_; rintro e w' ⟨rfl, rfl⟩)
    go_ret
    exact ⟨by rw [H.out, H2.out, h]; rfl, rfl⟩

/-- the first word without N -/
def wordOf (op d a b : Int) : Int := op * 134217728 + d * 4194304 + a * 262144 + b * 16384

theorem or_join' (x y : Int) (i : Nat) (hx0 : 0 ≤ x) (hy0 : 0 ≤ y) (hx : x % (2 ^ i : Nat) = 0) (hy : y < (2 ^ i : Nat)) (hs : x + y < 9223372036854775808) : bits .or .i64 x y = x + y := by
  obtain ⟨a, rfl⟩ := Int.eq_ofNat_of_zero_le hx0
  obtain ⟨b, rfl⟩ := Int.eq_ofNat_of_zero_le hy0
  rw [or_join a b i (by omega) (by omega) (by omega)]; rfl

theorem or_long (x lo : Nat) (hx : x % 2 ^ 27 = 0) (hlo : lo < 2 ^ 26) (hs : x < 1099511627776) : bits .or .i64 ((x + lo : Nat) : Int) 67108864 = ((x + lo + 67108864 : Nat) : Int) := by
  have e1 : (BitVec.ofInt 64 ((x + lo : Nat) : Int)).toNat = x + lo := by rw [ofInt_i64]; omega
  have e2 : (BitVec.ofInt 64 67108864).toNat = 67108864 := by decide
  have e3 : (x + lo) ||| 67108864 = x + lo + 67108864 := by
    rw [← nat_join 27 x lo hx (by omega), Nat.or_assoc, Nat.or_comm lo, nat_join 26 67108864 lo (by decide) hlo, nat_join 27 x _ hx (by omega), nat_join 27 x lo hx (by omega)]
    omega
  show IntKind.i64.wrap ((BitVec.ofInt 64 ((x + lo : Nat) : Int) ||| BitVec.ofInt 64 67108864).toNat : Nat) = _
  rw [BitVec.toNat_or, e1, e2, e3, IntKind.wrap_i64]
  omega

set_option maxHeartbeats 400000 in
theorem word_any (op d a b n : Int) (w : World) (h0 : 0 ≤ op ∧ op ≤ 24) (h1 : 0 ≤ d ∧ d ≤ 15) (h2 : 0 ≤ a ∧ a ≤ 15) (h3 : 0 ≤ b ∧ b ≤ 15) :
    Calls Try.prog 75 #[.agg #[.int .i64 op, .int .i64 d, .int .i64 a, .int .i64 b, .int .i64 n]] w
    fun e w' => e = .returned (.int .i64 (wordOf op d a b)) ∧ w' = w.alloc (.cells #[.int .i64 op, .int .i64 d, .int .i64 a, .int .i64 b, .int .i64 n] 36) := by
  have e1 := or_join' (op * 134217728) (d * 4194304) 27 (by omega) (by omega) (by omega) (by omega) (by omega)
  have e2 := or_join' (op * 134217728 + d * 4194304) (a * 262144) 22 (by omega) (by omega) (by omega) (by omega) (by omega)
  have e3 := or_join' (op * 134217728 + d * 4194304 + a * 262144) (b * 16384) 18 (by omega) (by omega) (by omega) (by omega) (by omega)
  go_enter Try.func75, Try.ntmps75
  go_wp2
  go_ret
  exact ⟨rfl, rfl⟩

def longWords (op d a b n : Int) : List Int := [wordOf op d a b + 67108864, n % 4294967296]
def encWords (op d a b n : Int) : List Int := if shortB n = true then [wordOf op d a b + n % 256] else longWords op d a b n

/-- a call that makes a list of words -/
def WordsPost (ws : List Int) (w : World) (e : Ending) (w' : World) : Prop :=
  ∃ g, e = .returned (.tuple #[.slice (some ⟨g, 0, none⟩) ws.length ws.length, .int .i64 0]) ∧ Blk w' g 3 (ws.map (Value.int .i64)) ∧ w.heap.size ≤ g ∧ Below w.heap.size w w'
def NoWords (c : Int) (w : World) (e : Ending) (w' : World) : Prop :=
  e = .returned (.tuple #[.slice none 0 0, .int .i64 c]) ∧ Below w.heap.size w w'

theorem checkE_ok {op d a b n : Int} (h : checkE op d a b n = 0) : (0 ≤ op ∧ op ≤ 24) ∧ (0 ≤ d ∧ d ≤ 15) ∧ (0 ≤ a ∧ a ≤ 15) ∧ (0 ≤ b ∧ b ≤ 15) ∧ (-2147483648 ≤ n ∧ n ≤ 2147483647) ∧ formBad (usesOf op) d a b n = false ∧ limBad op n = false := by
  unfold checkE at h
  cases h0 : inB op 0 24
  · rw [if_pos h0] at h; omega
  rw [if_neg (by simp [h0])] at h
  cases h1 : rangeBad d a b n
  · rw [if_neg (by simp [h1])] at h
    cases h2 : formBad (usesOf op) d a b n
    · rw [if_neg (by simp [h2])] at h
      cases h3 : limBad op n
      · simp only [rangeBad, Bool.or_eq_false_iff, Bool.not_eq_false', inB_true] at h1
        exact ⟨inB_true.1 h0, h1.1.1.1, h1.1.1.2, h1.1.2, h1.2, rfl, rfl⟩
      · rw [if_pos h3] at h; omega
    · rw [if_pos h2] at h; omega
  · rw [if_pos h1] at h; omega

set_option maxHeartbeats 1000000 in
theorem long_err (op d a b n : Int) (w : World) (h : checkE op d a b n ≠ 0) :
    Calls Try.prog 71 #[.agg #[.int .i64 op, .int .i64 d, .int .i64 a, .int .i64 b, .int .i64 n]] w (NoWords (checkE op d a b n) w) := by
  obtain ⟨c, hc⟩ : ∃ c, c = checkE op d a b n := ⟨_, rfl⟩
  have HC := fun w => Lib.hid (check_any op d a b n w)
  have hup : ∀ w, CheckPost op d a b n w = fun e w' => e = .returned (.int .i64 c) ∧ Below w.heap.size w w' := by intro w; subst hc; rfl
  have HUP := Lib.hid hup
  rw [← hc] at h ⊢
  have hcb : (c != 0) = true := by rw [bne_iff_ne]; exact h
  clear hup hc h
  go_enter Try.func71, Try.ntmps71
  go_wp2_with (go_at_call 42; refine (HC _).out.mono ?_; rw [HUP.out]; rintro e w' ⟨rfl, hb⟩; have HB := Lib.hid hb; clear hb)
  go_ret2
  exact ⟨rfl, ((Below.refl _ _).alloc (Nat.le_refl _) _).trans (HB.out.mono (by simp))⟩

set_option maxHeartbeats 2000000 in
theorem long_ok (op d a b n : Int) (w : World) (h : checkE op d a b n = 0) :
    Calls Try.prog 71 #[.agg #[.int .i64 op, .int .i64 d, .int .i64 a, .int .i64 b, .int .i64 n]] w (WordsPost (longWords op d a b n) w) := by
  have HC := fun w => Lib.hid (check_any op d a b n w)
  have hup : ∀ w, CheckPost op d a b n w = fun e w' => e = .returned (.int .i64 0) ∧ Below w.heap.size w w' := by intro w; unfold CheckPost; rw [h]
  have HUP := Lib.hid hup
  obtain ⟨g0, g1, g2, g3, g4, _, _⟩ := checkE_ok h
  have HW := fun w => Lib.hid (word_any op d a b n w g0 g1 g2 g3)
  have e1 := and_u32 n
  have e2 : bits .or .i64 (wordOf op d a b) 67108864 = wordOf op d a b + 67108864 := by
    have h2 := or_long (op * 134217728).toNat (d * 4194304 + a * 262144 + b * 16384).toNat (by omega) (by omega) (by omega)
    rw [show (((op * 134217728).toNat + (d * 4194304 + a * 262144 + b * 16384).toNat : Nat) : Int) = wordOf op d a b by unfold wordOf; omega] at h2
    rw [h2]; unfold wordOf; omega
  have hWb : 0 ≤ wordOf op d a b ∧ wordOf op d a b < 4294967296 := by unfold wordOf; omega
  obtain ⟨W, hW⟩ : ∃ W, W = wordOf op d a b := ⟨_, rfl⟩
  have HL : Hid (longWords op d a b n = [W + 67108864, n % 4294967296]) := by unfold Hid longWords; rw [hW]
  rw [← hW] at HW e2 hWb
  clear hup h hW
  go_enter Try.func71, Try.ntmps71
  go_upto_region 4 with (go_at_call 42; refine (HC _).out.mono ?_; rw [HUP.out]; rintro e w' ⟨rfl, hb⟩; have HB := Lib.hid hb; clear hb)
  have hat : ∀ wx, Below (w.heap.size + 1) (w.alloc (.cells #[.int .i64 op, .int .i64 d, .int .i64 a, .int .i64 b, .int .i64 n] 36)) wx → OpAt wx w.heap.size op d a b n :=
    fun wx hx => opAt_blk ((Blk.new w (opCells op d a b n) _).below hx (by omega))
  have HAT := Lib.hid hat
  have hb0 : Below (w.heap.size + 1) (w.alloc (.cells #[.int .i64 op, .int .i64 d, .int .i64 a, .int .i64 b, .int .i64 n] 36)) w' := by have := HB.out; simpa using this
  have hsz := hb0.size
  simp only [World.size_alloc] at hsz
  obtain ⟨q0, q1, q2, q3, q4⟩ := hat _ hb0
  clear hat
  have HB0 := Lib.hid hb0
  clear hb0 HB
  go_region_held3 (fun wx => wx.cell? ⟨w.heap.size, 0, none⟩ = some (.int .i64 op) ∧ wx.cell? ⟨w.heap.size, 1, none⟩ = some (.int .i64 d) ∧ wx.cell? ⟨w.heap.size, 2, none⟩ = some (.int .i64 a) ∧ wx.cell? ⟨w.heap.size, 3, none⟩ = some (.int .i64 b) ∧ wx.cell? ⟨w.heap.size, 4, none⟩ = some (.int .i64 n)) (first | exact ⟨q0, q1, q2, q3, q4⟩ | go_keep) (first | (go_at_call 75; refine (HW _).out.mono ?_; rintro e w2 ⟨rfl, rfl⟩))
  go_wp2
  go_ret2
  refine ⟨w'.heap.size + 1, by rw [HL.out]; rfl, ?_, by omega, ?_⟩
  · rw [HL.out]
    have h5 := Blk.new (w'.alloc (.cells #[.int .i64 op, .int .i64 d, .int .i64 a, .int .i64 b, .int .i64 n] 36)) [.int .i64 (W + 67108864), .int .i64 (n % 4294967296)] 3
    rw [World.size_alloc] at h5
    exact h5
  · exact (((((Below.refl _ _).alloc (Nat.le_refl _) _).trans (HB0.out.mono (by omega))).drew.alloc (by simp; omega) _).alloc (by simp; omega) _)

set_option maxHeartbeats 1000000 in
theorem enc_err (op d a b n : Int) (w : World) (h : checkE op d a b n ≠ 0) :
    Calls Try.prog 70 #[.agg #[.int .i64 op, .int .i64 d, .int .i64 a, .int .i64 b, .int .i64 n]] w (NoWords (checkE op d a b n) w) := by
  obtain ⟨c, hc⟩ : ∃ c, c = checkE op d a b n := ⟨_, rfl⟩
  have HC := fun w => Lib.hid (check_any op d a b n w)
  have hup : ∀ w, CheckPost op d a b n w = fun e w' => e = .returned (.int .i64 c) ∧ Below w.heap.size w w' := by intro w; subst hc; rfl
  have HUP := Lib.hid hup
  rw [← hc] at h ⊢
  have hcb : (c != 0) = true := by rw [bne_iff_ne]; exact h
  clear hup hc h
  go_enter Try.func70, Try.ntmps70
  go_wp2_with (go_at_call 42; refine (HC _).out.mono ?_; rw [HUP.out]; rintro e w' ⟨rfl, hb⟩; have HB := Lib.hid hb; clear hb)
  go_ret2
  exact ⟨rfl, ((Below.refl _ _).alloc (Nat.le_refl _) _).trans (HB.out.mono (by simp))⟩

set_option maxHeartbeats 2000000 in
theorem enc_ok (op d a b n : Int) (w : World) (h : checkE op d a b n = 0) :
    Calls Try.prog 70 #[.agg #[.int .i64 op, .int .i64 d, .int .i64 a, .int .i64 b, .int .i64 n]] w (WordsPost (encWords op d a b n) w) := by
  have HC := fun w => Lib.hid (check_any op d a b n w)
  have hup : ∀ w, CheckPost op d a b n w = fun e w' => e = .returned (.int .i64 0) ∧ Below w.heap.size w w' := by intro w; unfold CheckPost; rw [h]
  have HUP := Lib.hid hup
  obtain ⟨g0, g1, g2, g3, g4, _, _⟩ := checkE_ok h
  have HW := fun w => Lib.hid (word_any op d a b n w g0 g1 g2 g3)
  have HLG := fun w => Lib.hid (long_ok op d a b n w h)
  have HSZ := fun w => Lib.hid (size_any op d a b n w)
  have e1 := and_255 n
  have e2 := or_join' (wordOf op d a b) (n % 256) 14 (by unfold wordOf; omega) (by omega) (by unfold wordOf; omega) (by omega) (by unfold wordOf; omega)
  have hWb : 0 ≤ wordOf op d a b ∧ wordOf op d a b < 4294967296 := by unfold wordOf; omega
  obtain ⟨W, hW⟩ : ∃ W, W = wordOf op d a b := ⟨_, rfl⟩
  have hat : ∀ wx, Below (w.heap.size + 1) (w.alloc (.cells #[.int .i64 op, .int .i64 d, .int .i64 a, .int .i64 b, .int .i64 n] 36)) wx → OpAt wx w.heap.size op d a b n :=
    fun wx hx => opAt_blk ((Blk.new w (opCells op d a b n) _).below hx (by omega))
  have HAT := Lib.hid hat
  cases hsh : shortB n
  · have HE : Hid (encWords op d a b n = longWords op d a b n) := by unfold Hid encWords; rw [if_neg (by simp [hsh])]
    have HS2 : Hid (sizeOfOp n = 2) := by unfold Hid sizeOfOp; rw [if_neg (by simp [hsh])]
    clear hup h hW hsh hat
    go_enter Try.func70, Try.ntmps70
    go_upto_region 4 with (go_at_call 42; refine (HC _).out.mono ?_; rw [HUP.out]; rintro e w' ⟨rfl, hb⟩; have HB := Lib.hid hb; clear hb)
    have hb0 : Below (w.heap.size + 1) (w.alloc (.cells #[.int .i64 op, .int .i64 d, .int .i64 a, .int .i64 b, .int .i64 n] 36)) w' := by have := HB.out; simpa using this
    have hsz := hb0.size
    simp only [World.size_alloc] at hsz
    obtain ⟨q0, q1, q2, q3, q4⟩ := HAT.out _ hb0
    have HB0 := Lib.hid hb0
    have hb1 := hb0.alloc (by omega) (.cells #[.int .i64 op, .int .i64 d, .int .i64 a, .int .i64 b, .int .i64 n] 36)
    have HB1 := Lib.hid hb1
    clear hb0 HB hb1
    go_wp2_with (first
      | (go_at_call 74; refine (HSZ _).out.mono ?_; rw [HS2.out]; rintro e w' ⟨rfl, rfl⟩; obtain ⟨q0, q1, q2, q3, q4⟩ := HAT.out _ HB1.out)
      | (go_at_call 71; refine (HLG _).out.mono ?_; rintro e w' ⟨g, rfl, hs, hg, hb⟩; have HS := Lib.hid hs; have HB := Lib.hid hb; clear hs hb))
    go_ret2
    refine ⟨g, by rw [HE.out]; rfl, by rw [HE.out]; exact HS.out, ?_, ?_⟩
    · simp at hg; omega
    · exact (((Below.refl _ _).alloc (Nat.le_refl _) _).trans (HB1.out.mono (by omega))).trans (HB.out.mono (by simp; omega))
  · have HE : Hid (encWords op d a b n = [W + n % 256]) := by unfold Hid encWords; rw [if_pos hsh, hW]
    have HS2 : Hid (sizeOfOp n = 1) := by unfold Hid sizeOfOp; rw [if_pos hsh]
    rw [← hW] at HW e2 hWb
    have hn : 0 ≤ n % 256 ∧ n % 256 < 256 := by omega
    clear hup h hW hsh hat
    go_enter Try.func70, Try.ntmps70
    go_upto_region 4 with (go_at_call 42; refine (HC _).out.mono ?_; rw [HUP.out]; rintro e w' ⟨rfl, hb⟩; have HB := Lib.hid hb; clear hb)
    have hb0 : Below (w.heap.size + 1) (w.alloc (.cells #[.int .i64 op, .int .i64 d, .int .i64 a, .int .i64 b, .int .i64 n] 36)) w' := by have := HB.out; simpa using this
    have hsz := hb0.size
    simp only [World.size_alloc] at hsz
    obtain ⟨q0, q1, q2, q3, q4⟩ := HAT.out _ hb0
    have HB0 := Lib.hid hb0
    have hb1 := hb0.alloc (by omega) (.cells #[.int .i64 op, .int .i64 d, .int .i64 a, .int .i64 b, .int .i64 n] 36)
    have HB1 := Lib.hid hb1
    clear hb0 HB hb1
    go_upto_region 6 with (go_at_call 74; refine (HSZ _).out.mono ?_; rw [HS2.out]; rintro e w' ⟨rfl, rfl⟩)
    obtain ⟨q0, q1, q2, q3, q4⟩ := HAT.out _ HB1.out
    go_region_held3 (fun wx => wx.cell? ⟨w.heap.size, 0, none⟩ = some (.int .i64 op) ∧ wx.cell? ⟨w.heap.size, 1, none⟩ = some (.int .i64 d) ∧ wx.cell? ⟨w.heap.size, 2, none⟩ = some (.int .i64 a) ∧ wx.cell? ⟨w.heap.size, 3, none⟩ = some (.int .i64 b) ∧ wx.cell? ⟨w.heap.size, 4, none⟩ = some (.int .i64 n)) (first | exact ⟨q0, q1, q2, q3, q4⟩ | go_keep) (first | (go_at_call 75; refine (HW _).out.mono ?_; rintro e w2 ⟨rfl, rfl⟩))
    go_wp2
    go_ret2
    refine ⟨w'.heap.size + 1 + 1, by rw [HE.out]; rfl, ?_, by omega, ?_⟩
    · rw [HE.out]
      have h5 := Blk.new ((w'.alloc (.cells #[.int .i64 op, .int .i64 d, .int .i64 a, .int .i64 b, .int .i64 n] 36)).alloc (.cells #[.int .i64 op, .int .i64 d, .int .i64 a, .int .i64 b, .int .i64 n] 36)) [.int .i64 (W + n % 256)] 3
      rw [World.size_alloc, World.size_alloc] at h5
      exact h5
    · exact (((((Below.refl _ _).alloc (Nat.le_refl _) _).trans (HB1.out.mono (by omega))).drew.alloc (by simp; omega) _).alloc (by simp; omega) _)
end Go.Proofs.Ytkafbihlmhdjeab
