/- The contract of the reference's ReadOp: it answers what insn's Decode answers. -/
import Derived.Test.YtekckijcljgaoaaDecode
import Derived.Test.YtekckijcljgaoaaOpErr
namespace Go.Proofs.Ytekckijcljgaoaa
open Go.RowKit
set_option linter.unusedVariables false

theorem n8_hi (x : Int) (h : 128 ≤ x % 256) : n8 x = x % 256 - 256 := by
  unfold n8; simp only [IntKind.wrap, IntKind.bits, IntKind.signed]; simp; omega
theorem n8_lo (x : Int) (h : x % 256 < 128) : n8 x = x % 256 := by
  unfold n8; simp only [IntKind.wrap, IntKind.bits, IntKind.signed]; simp; omega
theorem w32_hi (y : Int) (h : 0 ≤ y ∧ y ≤ 4294967295) (h2 : 2147483648 ≤ y) : wrap32 y = y - 4294967296 := by unfold wrap32; omega
theorem w32_lo (y : Int) (h : 0 ≤ y ∧ y ≤ 4294967295) (h2 : y < 2147483648) : wrap32 y = y := by unfold wrap32; omega
theorem err_as (op d a b n : Int) (w : World) {c : Int} (hc : checkE op d a b n = c) :
    Calls Try.prog 28 #[.agg #[.int .i64 op, .int .i64 d, .int .i64 a, .int .i64 b, .int .i64 n]] w fun e w' => e = .returned (.int .i64 c) ∧ Below w.heap.size w w' := by
  rw [← hc]; exact operr_any op d a b n w

theorem readop_nil (w : World) (a : Option Addr) (cap : Nat) : Calls Try.prog 36 #[.slice a 0 cap] w (DecPost (decBad 12) w) := by
  go_enter Try.func36, Try.ntmps36
  go_wp2
  exact bodyPost_ret (v := (decBad 12).val) (by simp [results, Try.results36, go_sem, Dec.val, decBad]) rfl ⟨rfl, (Below.refl _ _).alloc (Nat.le_refl _) _⟩

set_option maxHeartbeats 1000000 in
theorem readop_neg (w : World) (b off len cap : Nat) (x : Int) (hx : w.cell? ⟨b, off, none⟩ = some (.int .i64 x)) (hl : 1 ≤ len) (hn : x < 0) :
    Calls Try.prog 36 #[.slice (some ⟨b, off, none⟩) len cap] w (DecPost (decBad 3) w) := by
  have hb := World.block_lt_of_cell? w _ hx
  have l0 : ((len : Int) == 0) = false := beq_eq_false_iff_ne.2 (by omega)

  go_enter Try.func36, Try.ntmps36
  go_wp2_with fail
  exact bodyPost_ret (v := (decBad 3).val) (by simp [results, Try.results36, go_sem, Dec.val, decBad]) rfl ⟨rfl, (Below.refl _ _).alloc (Nat.le_refl _) _⟩

set_option maxHeartbeats 1000000 in
theorem readop_big (w : World) (b off len cap : Nat) (x : Int) (hx : w.cell? ⟨b, off, none⟩ = some (.int .i64 x)) (hl : 1 ≤ len) (h0 : 0 ≤ x) (hn : 4294967296 ≤ x) :
    Calls Try.prog 36 #[.slice (some ⟨b, off, none⟩) len cap] w (DecPost (decBad 3) w) := by
  have hb := World.block_lt_of_cell? w _ hx
  have l0 : ((len : Int) == 0) = false := beq_eq_false_iff_ne.2 (by omega)

  go_enter Try.func36, Try.ntmps36
  go_wp2_with fail
  exact bodyPost_ret (v := (decBad 3).val) (by simp [results, Try.results36, go_sem, Dec.val, decBad]) rfl ⟨rfl, (Below.refl _ _).alloc (Nat.le_refl _) _⟩

set_option maxHeartbeats 1000000 in
theorem readop_mid (w : World) (b off len cap : Nat) (x : Int) (hx : w.cell? ⟨b, off, none⟩ = some (.int .i64 x)) (hl : 1 ≤ len) (h0 : 0 ≤ x) (h1 : x < 4294967296) (hn : ¬ x / 256 % 64 = 0) :
    Calls Try.prog 36 #[.slice (some ⟨b, off, none⟩) len cap] w (DecPost (decBad 3) w) := by
  have hb := World.block_lt_of_cell? w _ hx
  have l0 : ((len : Int) == 0) = false := beq_eq_false_iff_ne.2 (by omega)
  have t0 : (x / 256 % 64 != 0) = true := by rw [bne_iff_ne]; exact hn
  clear hn
  go_enter Try.func36, Try.ntmps36
  go_wp2_with fail
  exact bodyPost_ret (v := (decBad 3).val) (by simp [results, Try.results36, go_sem, Dec.val, decBad]) rfl ⟨rfl, (Below.refl _ _).alloc (Nat.le_refl _) _⟩

set_option maxHeartbeats 1000000 in
theorem readop_long_bad (w : World) (b off len cap : Nat) (x : Int) (hx : w.cell? ⟨b, off, none⟩ = some (.int .i64 x)) (hl : 1 ≤ len) (h0 : 0 ≤ x) (h1 : x < 4294967296) (h6 : x / 256 % 64 = 0) (hs : x / 67108864 % 2 = 1) (hn : ¬ x % 256 = 0) :
    Calls Try.prog 36 #[.slice (some ⟨b, off, none⟩) len cap] w (DecPost (decBad 3) w) := by
  have hb := World.block_lt_of_cell? w _ hx
  have l0 : ((len : Int) == 0) = false := beq_eq_false_iff_ne.2 (by omega)
  have t0 : (x / 256 % 64 != 0) = false := by rw [bne_eq_false_iff_eq]; exact h6
  have t1 : (x / 67108864 % 2 == 1) = true := by rw [beq_iff_eq]; exact hs
  have t2 : (x % 256 != 0) = true := by rw [bne_iff_ne]; exact hn
  clear h6 hs hn
  go_enter Try.func36, Try.ntmps36
  go_wp2_with fail
  exact bodyPost_ret (v := (decBad 3).val) (by simp [results, Try.results36, go_sem, Dec.val, decBad]) rfl ⟨rfl, ((Below.refl _ _).alloc (Nat.le_refl _) _).alloc (by simp) _⟩

set_option maxHeartbeats 1000000 in
theorem readop_long_one (w : World) (b off len cap : Nat) (x : Int) (hx : w.cell? ⟨b, off, none⟩ = some (.int .i64 x)) (h0 : 0 ≤ x) (h1 : x < 4294967296) (h6 : x / 256 % 64 = 0) (hs : x / 67108864 % 2 = 1) (hn : x % 256 = 0) :
    Calls Try.prog 36 #[.slice (some ⟨b, off, none⟩) 1 cap] w (DecPost (decBad 12) w) := by
  have hb := World.block_lt_of_cell? w _ hx
  have t0 : (x / 256 % 64 != 0) = false := by rw [bne_eq_false_iff_eq]; exact h6
  have t1 : (x / 67108864 % 2 == 1) = true := by rw [beq_iff_eq]; exact hs
  have t2 : (x % 256 != 0) = false := by rw [bne_eq_false_iff_eq]; exact hn
  clear h6 hs hn
  go_enter Try.func36, Try.ntmps36
  go_wp2_with fail
  exact bodyPost_ret (v := (decBad 12).val) (by simp [results, Try.results36, go_sem, Dec.val, decBad]) rfl ⟨rfl, ((Below.refl _ _).alloc (Nat.le_refl _) _).alloc (by simp) _⟩

set_option maxHeartbeats 1000000 in
theorem readop_long_neg (w : World) (b off len cap : Nat) (x : Int) (hx : w.cell? ⟨b, off, none⟩ = some (.int .i64 x)) (y : Int) (hy : w.cell? ⟨b, off + 1, none⟩ = some (.int .i64 y)) (hl : 2 ≤ len) (h0 : 0 ≤ x) (h1 : x < 4294967296) (h6 : x / 256 % 64 = 0) (hs : x / 67108864 % 2 = 1) (hn : x % 256 = 0) (hy0 : y < 0) :
    Calls Try.prog 36 #[.slice (some ⟨b, off, none⟩) len cap] w (DecPost (decBad 3) w) := by
  have hb := World.block_lt_of_cell? w _ hx
  have l0 : ((len : Int) == 0) = false := beq_eq_false_iff_ne.2 (by omega)
  have l1 : ((len : Int) == 1) = false := beq_eq_false_iff_ne.2 (by omega)
  have t0 : (x / 256 % 64 != 0) = false := by rw [bne_eq_false_iff_eq]; exact h6
  have t1 : (x / 67108864 % 2 == 1) = true := by rw [beq_iff_eq]; exact hs
  have t2 : (x % 256 != 0) = false := by rw [bne_eq_false_iff_eq]; exact hn
  clear h6 hs hn
  go_enter Try.func36, Try.ntmps36
  go_wp2_with fail
  exact bodyPost_ret (v := (decBad 3).val) (by simp [results, Try.results36, go_sem, Dec.val, decBad]) rfl ⟨rfl, ((Below.refl _ _).alloc (Nat.le_refl _) _).alloc (by simp) _⟩

set_option maxHeartbeats 1000000 in
theorem readop_long_big (w : World) (b off len cap : Nat) (x : Int) (hx : w.cell? ⟨b, off, none⟩ = some (.int .i64 x)) (y : Int) (hy : w.cell? ⟨b, off + 1, none⟩ = some (.int .i64 y)) (hl : 2 ≤ len) (h0 : 0 ≤ x) (h1 : x < 4294967296) (h6 : x / 256 % 64 = 0) (hs : x / 67108864 % 2 = 1) (hn : x % 256 = 0) (hy0 : 0 ≤ y) (hy1 : 4294967296 ≤ y) :
    Calls Try.prog 36 #[.slice (some ⟨b, off, none⟩) len cap] w (DecPost (decBad 3) w) := by
  have hb := World.block_lt_of_cell? w _ hx
  have l0 : ((len : Int) == 0) = false := beq_eq_false_iff_ne.2 (by omega)
  have l1 : ((len : Int) == 1) = false := beq_eq_false_iff_ne.2 (by omega)
  have t0 : (x / 256 % 64 != 0) = false := by rw [bne_eq_false_iff_eq]; exact h6
  have t1 : (x / 67108864 % 2 == 1) = true := by rw [beq_iff_eq]; exact hs
  have t2 : (x % 256 != 0) = false := by rw [bne_eq_false_iff_eq]; exact hn
  clear h6 hs hn
  go_enter Try.func36, Try.ntmps36
  go_wp2_with fail
  exact bodyPost_ret (v := (decBad 3).val) (by simp [results, Try.results36, go_sem, Dec.val, decBad]) rfl ⟨rfl, ((Below.refl _ _).alloc (Nat.le_refl _) _).alloc (by simp) _⟩

set_option maxHeartbeats 2000000 in
theorem readop_short_hi (w : World) (b off len cap : Nat) (x : Int) (hx : w.cell? ⟨b, off, none⟩ = some (.int .i64 x)) (hl : 1 ≤ len) (h0 : 0 ≤ x) (h1 : x < 4294967296) (h6 : x / 256 % 64 = 0) (hs : ¬ x / 67108864 % 2 = 1) (hn : 128 ≤ x % 256) :
    Calls Try.prog 36 #[.slice (some ⟨b, off, none⟩) len cap] w (DecPost (decFin x (n8 x) 1) w) := by
  have hb := World.block_lt_of_cell? w _ hx
  have l0 : ((len : Int) == 0) = false := beq_eq_false_iff_ne.2 (by omega)
  have t0 : (x / 256 % 64 != 0) = false := by rw [bne_eq_false_iff_eq]; exact h6
  have t1 : (x / 67108864 % 2 == 1) = false := beq_eq_false_iff_ne.2 hs

  obtain ⟨c, hc⟩ : ∃ c, c = checkE (x / 134217728) (x / 4194304 % 16) (x / 262144 % 16) (x / 16384 % 16) (x % 256 - 256) := ⟨_, rfl⟩
  have HC := fun w => Lib.hid (err_as (x / 134217728) (x / 4194304 % 16) (x / 262144 % 16) (x / 16384 % 16) (x % 256 - 256) w hc.symm)
  have HQ : Hid (decFin x (n8 x) 1 = if c = 0 then ⟨x / 134217728, x / 4194304 % 16, x / 262144 % 16, x / 16384 % 16, x % 256 - 256, 1, 0⟩ else decBad 3) := by unfold Hid decFin; rw [n8_hi x hn, hc]
  clear hc h6 hs
  by_cases hc : c = 0
  · have hcn : (c != 0) = false := by rw [bne_eq_false_iff_eq]; exact hc
    have HCC := Lib.hid hc
    clear hc
    go_enter Try.func36, Try.ntmps36
    go_wp2_with (go_at_call 28; refine (HC _).out.mono ?_; rintro e w' ⟨rfl, hb9⟩; rw [World.size_alloc, World.size_alloc] at hb9; obtain ⟨⟨r0, r1, r2, r3, r4⟩, ⟨f0, f1, f2, f3, f4⟩, ⟨o0, o1, o2, o3, o4⟩, hlt9⟩ := two_at hb9; have HB := Lib.hid hb9; clear hb9)
    refine bodyPost_ret (v := Dec.val ⟨x / 134217728, x / 4194304 % 16, x / 262144 % 16, x / 16384 % 16, x % 256 - 256, 1, 0⟩) ?_ rfl ⟨by rw [HQ.out, if_pos HCC.out], ?_⟩
    · simp [results, Try.results36, go_sem, Dec.val, *]
    · exact five_set (two_below HB.out) _ (Nat.le_refl _) _ _ _ _ _
  · have hcn : (c != 0) = true := by rw [bne_iff_ne]; exact hc
    have HCC := Lib.hid hc
    clear hc
    go_enter Try.func36, Try.ntmps36
    go_wp2_with (go_at_call 28; refine (HC _).out.mono ?_; rintro e w' ⟨rfl, hb9⟩; rw [World.size_alloc, World.size_alloc] at hb9; obtain ⟨⟨r0, r1, r2, r3, r4⟩, ⟨f0, f1, f2, f3, f4⟩, ⟨o0, o1, o2, o3, o4⟩, hlt9⟩ := two_at hb9; have HB := Lib.hid hb9; clear hb9)
    refine bodyPost_ret (v := Dec.val (decBad 3)) ?_ rfl ⟨by rw [HQ.out, if_neg HCC.out], ?_⟩
    · simp [results, Try.results36, go_sem, Dec.val, decBad, *]
    · exact five_set (two_below HB.out) _ (Nat.le_refl _) _ _ _ _ _

set_option maxHeartbeats 2000000 in
theorem readop_short_lo (w : World) (b off len cap : Nat) (x : Int) (hx : w.cell? ⟨b, off, none⟩ = some (.int .i64 x)) (hl : 1 ≤ len) (h0 : 0 ≤ x) (h1 : x < 4294967296) (h6 : x / 256 % 64 = 0) (hs : ¬ x / 67108864 % 2 = 1) (hn : x % 256 < 128) :
    Calls Try.prog 36 #[.slice (some ⟨b, off, none⟩) len cap] w (DecPost (decFin x (n8 x) 1) w) := by
  have hb := World.block_lt_of_cell? w _ hx
  have l0 : ((len : Int) == 0) = false := beq_eq_false_iff_ne.2 (by omega)
  have t0 : (x / 256 % 64 != 0) = false := by rw [bne_eq_false_iff_eq]; exact h6
  have t1 : (x / 67108864 % 2 == 1) = false := beq_eq_false_iff_ne.2 hs

  obtain ⟨c, hc⟩ : ∃ c, c = checkE (x / 134217728) (x / 4194304 % 16) (x / 262144 % 16) (x / 16384 % 16) (x % 256) := ⟨_, rfl⟩
  have HC := fun w => Lib.hid (err_as (x / 134217728) (x / 4194304 % 16) (x / 262144 % 16) (x / 16384 % 16) (x % 256) w hc.symm)
  have HQ : Hid (decFin x (n8 x) 1 = if c = 0 then ⟨x / 134217728, x / 4194304 % 16, x / 262144 % 16, x / 16384 % 16, x % 256, 1, 0⟩ else decBad 3) := by unfold Hid decFin; rw [n8_lo x hn, hc]
  clear hc h6 hs
  by_cases hc : c = 0
  · have hcn : (c != 0) = false := by rw [bne_eq_false_iff_eq]; exact hc
    have HCC := Lib.hid hc
    clear hc
    go_enter Try.func36, Try.ntmps36
    go_wp2_with (go_at_call 28; refine (HC _).out.mono ?_; rintro e w' ⟨rfl, hb9⟩; rw [World.size_alloc, World.size_alloc] at hb9; obtain ⟨⟨r0, r1, r2, r3, r4⟩, ⟨f0, f1, f2, f3, f4⟩, ⟨o0, o1, o2, o3, o4⟩, hlt9⟩ := two_at hb9; have HB := Lib.hid hb9; clear hb9)
    refine bodyPost_ret (v := Dec.val ⟨x / 134217728, x / 4194304 % 16, x / 262144 % 16, x / 16384 % 16, x % 256, 1, 0⟩) ?_ rfl ⟨by rw [HQ.out, if_pos HCC.out], ?_⟩
    · simp [results, Try.results36, go_sem, Dec.val, *]
    · exact five_set (two_below HB.out) _ (Nat.le_refl _) _ _ _ _ _
  · have hcn : (c != 0) = true := by rw [bne_iff_ne]; exact hc
    have HCC := Lib.hid hc
    clear hc
    go_enter Try.func36, Try.ntmps36
    go_wp2_with (go_at_call 28; refine (HC _).out.mono ?_; rintro e w' ⟨rfl, hb9⟩; rw [World.size_alloc, World.size_alloc] at hb9; obtain ⟨⟨r0, r1, r2, r3, r4⟩, ⟨f0, f1, f2, f3, f4⟩, ⟨o0, o1, o2, o3, o4⟩, hlt9⟩ := two_at hb9; have HB := Lib.hid hb9; clear hb9)
    refine bodyPost_ret (v := Dec.val (decBad 3)) ?_ rfl ⟨by rw [HQ.out, if_neg HCC.out], ?_⟩
    · simp [results, Try.results36, go_sem, Dec.val, decBad, *]
    · exact five_set (two_below HB.out) _ (Nat.le_refl _) _ _ _ _ _

set_option maxHeartbeats 2000000 in
theorem readop_long_hi (w : World) (b off len cap : Nat) (x : Int) (hx : w.cell? ⟨b, off, none⟩ = some (.int .i64 x)) (y : Int) (hy : w.cell? ⟨b, off + 1, none⟩ = some (.int .i64 y)) (hl : 2 ≤ len) (h0 : 0 ≤ x) (h1 : x < 4294967296) (h6 : x / 256 % 64 = 0) (hs : x / 67108864 % 2 = 1) (hn : x % 256 = 0) (hy0 : 0 ≤ y ∧ y ≤ 4294967295) (hh : 2147483648 ≤ y) :
    Calls Try.prog 36 #[.slice (some ⟨b, off, none⟩) len cap] w (DecPost (decFin x (wrap32 y) 2) w) := by
  have hb := World.block_lt_of_cell? w _ hx
  have l0 : ((len : Int) == 0) = false := beq_eq_false_iff_ne.2 (by omega)
  have l1 : ((len : Int) == 1) = false := beq_eq_false_iff_ne.2 (by omega)
  have t0 : (x / 256 % 64 != 0) = false := by rw [bne_eq_false_iff_eq]; exact h6
  have t1 : (x / 67108864 % 2 == 1) = true := by rw [beq_iff_eq]; exact hs
  have t2 : (x % 256 != 0) = false := by rw [bne_eq_false_iff_eq]; exact hn

  obtain ⟨c, hc⟩ : ∃ c, c = checkE (x / 134217728) (x / 4194304 % 16) (x / 262144 % 16) (x / 16384 % 16) (y - 4294967296) := ⟨_, rfl⟩
  have HC := fun w => Lib.hid (err_as (x / 134217728) (x / 4194304 % 16) (x / 262144 % 16) (x / 16384 % 16) (y - 4294967296) w hc.symm)
  have HQ : Hid (decFin x (wrap32 y) 2 = if c = 0 then ⟨x / 134217728, x / 4194304 % 16, x / 262144 % 16, x / 16384 % 16, y - 4294967296, 2, 0⟩ else decBad 3) := by unfold Hid decFin; rw [w32_hi y hy0 hh, hc]
  clear hc h6 hs hn
  by_cases hc : c = 0
  · have hcn : (c != 0) = false := by rw [bne_eq_false_iff_eq]; exact hc
    have HCC := Lib.hid hc
    clear hc
    go_enter Try.func36, Try.ntmps36
    go_wp2_with (go_at_call 28; refine (HC _).out.mono ?_; rintro e w' ⟨rfl, hb9⟩; rw [World.size_alloc, World.size_alloc] at hb9; obtain ⟨⟨r0, r1, r2, r3, r4⟩, ⟨f0, f1, f2, f3, f4⟩, ⟨o0, o1, o2, o3, o4⟩, hlt9⟩ := two_at hb9; have HB := Lib.hid hb9; clear hb9)
    refine bodyPost_ret (v := Dec.val ⟨x / 134217728, x / 4194304 % 16, x / 262144 % 16, x / 16384 % 16, y - 4294967296, 2, 0⟩) ?_ rfl ⟨by rw [HQ.out, if_pos HCC.out], ?_⟩
    · simp [results, Try.results36, go_sem, Dec.val, *]
    · exact five_set (two_below HB.out) _ (Nat.le_refl _) _ _ _ _ _
  · have hcn : (c != 0) = true := by rw [bne_iff_ne]; exact hc
    have HCC := Lib.hid hc
    clear hc
    go_enter Try.func36, Try.ntmps36
    go_wp2_with (go_at_call 28; refine (HC _).out.mono ?_; rintro e w' ⟨rfl, hb9⟩; rw [World.size_alloc, World.size_alloc] at hb9; obtain ⟨⟨r0, r1, r2, r3, r4⟩, ⟨f0, f1, f2, f3, f4⟩, ⟨o0, o1, o2, o3, o4⟩, hlt9⟩ := two_at hb9; have HB := Lib.hid hb9; clear hb9)
    refine bodyPost_ret (v := Dec.val (decBad 3)) ?_ rfl ⟨by rw [HQ.out, if_neg HCC.out], ?_⟩
    · simp [results, Try.results36, go_sem, Dec.val, decBad, *]
    · exact five_set (two_below HB.out) _ (Nat.le_refl _) _ _ _ _ _

set_option maxHeartbeats 2000000 in
theorem readop_long_lo (w : World) (b off len cap : Nat) (x : Int) (hx : w.cell? ⟨b, off, none⟩ = some (.int .i64 x)) (y : Int) (hy : w.cell? ⟨b, off + 1, none⟩ = some (.int .i64 y)) (hl : 2 ≤ len) (h0 : 0 ≤ x) (h1 : x < 4294967296) (h6 : x / 256 % 64 = 0) (hs : x / 67108864 % 2 = 1) (hn : x % 256 = 0) (hy0 : 0 ≤ y ∧ y ≤ 4294967295) (hh : y < 2147483648) :
    Calls Try.prog 36 #[.slice (some ⟨b, off, none⟩) len cap] w (DecPost (decFin x (wrap32 y) 2) w) := by
  have hb := World.block_lt_of_cell? w _ hx
  have l0 : ((len : Int) == 0) = false := beq_eq_false_iff_ne.2 (by omega)
  have l1 : ((len : Int) == 1) = false := beq_eq_false_iff_ne.2 (by omega)
  have t0 : (x / 256 % 64 != 0) = false := by rw [bne_eq_false_iff_eq]; exact h6
  have t1 : (x / 67108864 % 2 == 1) = true := by rw [beq_iff_eq]; exact hs
  have t2 : (x % 256 != 0) = false := by rw [bne_eq_false_iff_eq]; exact hn

  obtain ⟨c, hc⟩ : ∃ c, c = checkE (x / 134217728) (x / 4194304 % 16) (x / 262144 % 16) (x / 16384 % 16) (y) := ⟨_, rfl⟩
  have HC := fun w => Lib.hid (err_as (x / 134217728) (x / 4194304 % 16) (x / 262144 % 16) (x / 16384 % 16) (y) w hc.symm)
  have HQ : Hid (decFin x (wrap32 y) 2 = if c = 0 then ⟨x / 134217728, x / 4194304 % 16, x / 262144 % 16, x / 16384 % 16, y, 2, 0⟩ else decBad 3) := by unfold Hid decFin; rw [w32_lo y hy0 hh, hc]
  clear hc h6 hs hn
  by_cases hc : c = 0
  · have hcn : (c != 0) = false := by rw [bne_eq_false_iff_eq]; exact hc
    have HCC := Lib.hid hc
    clear hc
    go_enter Try.func36, Try.ntmps36
    go_wp2_with (go_at_call 28; refine (HC _).out.mono ?_; rintro e w' ⟨rfl, hb9⟩; rw [World.size_alloc, World.size_alloc] at hb9; obtain ⟨⟨r0, r1, r2, r3, r4⟩, ⟨f0, f1, f2, f3, f4⟩, ⟨o0, o1, o2, o3, o4⟩, hlt9⟩ := two_at hb9; have HB := Lib.hid hb9; clear hb9)
    refine bodyPost_ret (v := Dec.val ⟨x / 134217728, x / 4194304 % 16, x / 262144 % 16, x / 16384 % 16, y, 2, 0⟩) ?_ rfl ⟨by rw [HQ.out, if_pos HCC.out], ?_⟩
    · simp [results, Try.results36, go_sem, Dec.val, *]
    · exact five_set (two_below HB.out) _ (Nat.le_refl _) _ _ _ _ _
  · have hcn : (c != 0) = true := by rw [bne_iff_ne]; exact hc
    have HCC := Lib.hid hc
    clear hc
    go_enter Try.func36, Try.ntmps36
    go_wp2_with (go_at_call 28; refine (HC _).out.mono ?_; rintro e w' ⟨rfl, hb9⟩; rw [World.size_alloc, World.size_alloc] at hb9; obtain ⟨⟨r0, r1, r2, r3, r4⟩, ⟨f0, f1, f2, f3, f4⟩, ⟨o0, o1, o2, o3, o4⟩, hlt9⟩ := two_at hb9; have HB := Lib.hid hb9; clear hb9)
    refine bodyPost_ret (v := Dec.val (decBad 3)) ?_ rfl ⟨by rw [HQ.out, if_neg HCC.out], ?_⟩
    · simp [results, Try.results36, go_sem, Dec.val, decBad, *]
    · exact five_set (two_below HB.out) _ (Nat.le_refl _) _ _ _ _ _

theorem readop_any (w : World) (a : Option Addr) (len cap : Nat) (zs : List Int) (h : Came w a len cap 1 (zs.map intCells)) :
    Calls Try.prog 36 #[.slice a len cap] w (DecPost (decode zs) w) := by
  have hl : zs.length = len := by simpa using h.count
  match zs, hl with
  | [], hl =>
    obtain rfl : len = 0 := by simpa using hl.symm
    exact readop_nil w a cap
  | x :: r, hl =>
    have hl1 : 1 ≤ len := by simp at hl; omega
    obtain ⟨b, off, rfl, _, hc⟩ := h.ints (by omega)
    have hx : w.cell? ⟨b, off, none⟩ = some (.int .i64 x) := hc 0 (by simp)
    show Calls _ _ _ w (DecPost (decWord x r) w)
    unfold decWord
    by_cases h1 : (0 ≤ x ∧ x ≤ 4294967295) ∧ x / 256 % 64 = 0
    · rw [if_pos h1]
      by_cases h2 : x / 67108864 % 2 = 1
      · rw [if_pos h2]
        by_cases h3 : x % 256 = 0
        · rw [if_pos h3]
          match r, hl, hc with
          | [], hl, _ =>
            obtain rfl : len = 1 := by simpa using hl.symm
            exact readop_long_one w b off 1 cap x hx h1.1.1 (by omega) h1.2 h2 h3
          | y :: r', hl, hc =>
            have hy : w.cell? ⟨b, off + 1, none⟩ = some (.int .i64 y) := hc 1 (by simp)
            have hl2 : 2 ≤ len := by simp at hl; omega
            show Calls _ _ _ w (DecPost (if 0 ≤ y ∧ y ≤ 4294967295 then decFin x (wrap32 y) 2 else decBad 3) w)
            by_cases h4 : 0 ≤ y ∧ y ≤ 4294967295
            · rw [if_pos h4]
              by_cases h5 : 2147483648 ≤ y
              · exact readop_long_hi w b off len cap x hx y hy hl2 h1.1.1 (by omega) h1.2 h2 h3 h4 h5
              · exact readop_long_lo w b off len cap x hx y hy hl2 h1.1.1 (by omega) h1.2 h2 h3 h4 (by omega)
            · rw [if_neg h4]
              by_cases h5 : y < 0
              · exact readop_long_neg w b off len cap x hx y hy hl2 h1.1.1 (by omega) h1.2 h2 h3 h5
              · exact readop_long_big w b off len cap x hx y hy hl2 h1.1.1 (by omega) h1.2 h2 h3 (by omega) (by omega)
        · rw [if_neg h3]; exact readop_long_bad w b off len cap x hx hl1 h1.1.1 (by omega) h1.2 h2 h3
      · rw [if_neg h2]
        by_cases h5 : 128 ≤ x % 256
        · exact readop_short_hi w b off len cap x hx hl1 h1.1.1 (by omega) h1.2 h2 h5
        · exact readop_short_lo w b off len cap x hx hl1 h1.1.1 (by omega) h1.2 h2 (by omega)
    · rw [if_neg h1]
      by_cases h2 : x < 0
      · exact readop_neg w b off len cap x hx hl1 h2
      · by_cases h3 : 4294967296 ≤ x
        · exact readop_big w b off len cap x hx hl1 (by omega) h3
        · exact readop_mid w b off len cap x hx hl1 (by omega) (by omega) (by omega)
end Go.Proofs.Ytekckijcljgaoaa
