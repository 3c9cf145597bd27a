/- The contract of insn's Decode. Plain laws on what Decode answers. Plain laws: what an encoding, with whatever behind it, is decoded to; slices of elements of several cells that a call has gathered. -/
import Derived.Test.YtkafbihlmhdjeabInsnC
import Derived.Test.YtkafbihlmhdjeabOpens
import Derived.Test.YtkafbihlmhdjeabSmallRef
import Derived.Test.YtkafbihlmhdjeabTimingB
namespace Go.Proofs.Ytkafbihlmhdjeab
open Go.RowKit
set_option linter.unusedVariables false

structure Dec where
  (op d a b n size err : Int)
def decBad (e : Int) : Dec := ⟨0, 0, 0, 0, 0, 0, e⟩
def n8 (w : Int) : Int := IntKind.i8.wrap (w % 256)
def decFin (w n size : Int) : Dec :=
  if checkE (w / 134217728) (w / 4194304 % 16) (w / 262144 % 16) (w / 16384 % 16) n = 0 then ⟨w / 134217728, w / 4194304 % 16, w / 262144 % 16, w / 16384 % 16, n, size, 0⟩ else decBad 3
def decLong (w : Int) (r : List Int) : Dec :=
  match r with
  | [] => decBad 12
  | x :: _ => if 0 ≤ x ∧ x ≤ 4294967295 then decFin w (wrap32 x) 2 else decBad 3
def decWord (w : Int) (r : List Int) : Dec :=
  if (0 ≤ w ∧ w ≤ 4294967295) ∧ w / 256 % 64 = 0 then
    if w / 67108864 % 2 = 1 then (if w % 256 = 0 then decLong w r else decBad 3) else decFin w (n8 w) 1
  else decBad 3
def decode (zs : List Int) : Dec :=
  match zs with
  | [] => decBad 12
  | w :: r => decWord w r

def Dec.val (q : Dec) : Value := .tuple #[.agg #[.int .i64 q.op, .int .i64 q.d, .int .i64 q.a, .int .i64 q.b, .int .i64 q.n], .int .i64 q.size, .int .i64 q.err]
def DecPost (q : Dec) (w : World) (e : Ending) (w' : World) : Prop := e = .returned q.val ∧ Below w.heap.size w w'

theorem decode_nil_walk (w : World) (a : Option Addr) (cap : Nat) : Calls Try.prog 31 #[.slice a 0 cap] w (DecPost (decBad 12) w) := by
  go_enter Try.func31, Try.ntmps31
  go_wp2
  exact bodyPost_ret (v := (decBad 12).val) (by simp [results, Try.results31, go_sem, Dec.val, decBad]) rfl ⟨rfl, (Below.refl _ _).alloc (Nat.le_refl _) _⟩

set_option maxHeartbeats 1000000 in
theorem decode_bad_walk (w : World) (b off len cap : Nat) (x : Int) (hx : w.cell? ⟨b, off, none⟩ = some (.int .i64 x)) (hl : 1 ≤ len) (hbad : ¬ ((0 ≤ x ∧ x ≤ 4294967295) ∧ x / 256 % 64 = 0)) :
    Calls Try.prog 31 #[.slice (some ⟨b, off, none⟩) len cap] w (DecPost (decBad 3) w) := by
  have hb := World.block_lt_of_cell? w _ hx
  have l0 : ((len : Int) == 0) = false := beq_eq_false_iff_ne.2 (by omega)
  have e1 := and_3f00 x
  cases h1 : inB x 0 4294967295
  · go_enter Try.func31, Try.ntmps31
    go_wp2_with (go_at_call 52; refine (iin_any _ _ _ _).mono ?_; rintro e w' ⟨rfl, rfl⟩)
    exact bodyPost_ret (v := (decBad 3).val) (by simp [results, Try.results31, go_sem, Dec.val, decBad]) rfl ⟨rfl, (Below.refl _ _).alloc (Nat.le_refl _) _⟩
  · have h2 : (x / 256 % 64 * 256 != 0) = true := by rw [bne_iff_ne]; have := inB_true.1 h1; omega
    go_enter Try.func31, Try.ntmps31
    go_wp2_with (go_at_call 52; refine (iin_any _ _ _ _).mono ?_; rintro e w' ⟨rfl, rfl⟩)
    exact bodyPost_ret (v := (decBad 3).val) (by simp [results, Try.results31, go_sem, Dec.val, decBad]) rfl ⟨rfl, (Below.refl _ _).alloc (Nat.le_refl _) _⟩

theorem i8_bd (x : Int) : -128 ≤ IntKind.i8.wrap x ∧ IntKind.i8.wrap x ≤ 127 := by
  simp only [IntKind.wrap, IntKind.bits, IntKind.signed]; simp; split <;> omega
theorem n8_eq (x : Int) : wrap64 (IntKind.i8.wrap (x % 256)) = n8 x := by
  have := i8_bd (x % 256)
  unfold n8; exact IntWalk.wrap64_in _ (by omega)
theorem w32_eq (x : Int) : wrap64 (wrap32 x) = wrap32 x := by
  have := wrap32_bd x
  exact IntWalk.wrap64_in _ (by omega)

def FreeAt (w : World) (B : Nat) : Prop := w.frozen? ⟨B, 0, none⟩ = false ∧ w.frozen? ⟨B, 1, none⟩ = false ∧ w.frozen? ⟨B, 2, none⟩ = false ∧ w.frozen? ⟨B, 3, none⟩ = false ∧ w.frozen? ⟨B, 4, none⟩ = false
/-- the result's block and the instruction's block, whatever was laid since -/
def TwoAt (B : Nat) (op d a b n : Int) (wx : World) : Prop := OpAt wx B 0 0 0 0 0 ∧ FreeAt wx B ∧ OpAt wx (B + 1) op d a b n ∧ B < wx.heap.size
theorem two_at {w wx : World} {t : TypeId} {op d a b n : Int} (hx : Below (w.heap.size + 1 + 1) ((w.alloc (.cells (opCells 0 0 0 0 0).toArray t)).alloc (.cells (opCells op d a b n).toArray t)) wx) : TwoAt w.heap.size op d a b n wx := by
  have h1 := ((Blk.new w (opCells 0 0 0 0 0) t).alloc (.cells (opCells op d a b n).toArray t)).below hx (by omega)
  have h2 := Blk.new (w.alloc (.cells (opCells 0 0 0 0 0).toArray t)) (opCells op d a b n) t
  rw [World.size_alloc] at h2
  exact ⟨opAt_blk h1, ⟨h1.free 0, h1.free 1, h1.free 2, h1.free 3, h1.free 4⟩, opAt_blk (h2.below hx (by omega)), by have := hx.size; simp at this; omega⟩

theorem two_below {w wx : World} {o1 o2 : Obj} (hx : Below (w.heap.size + 1 + 1) ((w.alloc o1).alloc o2) wx) : Below w.heap.size w wx :=
  (((Below.refl _ w).alloc (Nat.le_refl _) o1).alloc (by simp) o2).trans (hx.mono (B' := w.heap.size) (by omega))
theorem five_set {B : Nat} {w w' : World} (h : Below B w w') (b : Nat) (hb : B ≤ b) (v0 v1 v2 v3 v4 : Value) :
    Below B w (((((w'.setCell ⟨b, 0, none⟩ v0).setCell ⟨b, 1, none⟩ v1).setCell ⟨b, 2, none⟩ v2).setCell ⟨b, 3, none⟩ v3).setCell ⟨b, 4, none⟩ v4) :=
  ((((h.setCell (p := ⟨b, 0, none⟩) hb v0).setCell (p := ⟨b, 1, none⟩) hb v1).setCell (p := ⟨b, 2, none⟩) hb v2).setCell (p := ⟨b, 3, none⟩) hb v3).setCell (p := ⟨b, 4, none⟩) hb v4

/-- what is left of Decode behind the two forms: the check of what was read -/
def FinPost (q0 : Dec) (c : Int) (w : World) (e : Ending) (w' : World) : Prop := e = .returned (if c = 0 then q0 else decBad 3).val ∧ Below w.heap.size w w'

set_option maxHeartbeats 1000000 in
theorem decode_short_walk (w : World) (b off len cap : Nat) (x : Int) (hx : w.cell? ⟨b, off, none⟩ = some (.int .i64 x)) (hl : 1 ≤ len) (hr : 0 ≤ x ∧ x ≤ 4294967295) (h6 : x / 256 % 64 = 0) (hs : ¬ x / 67108864 % 2 = 1) :
    Calls Try.prog 31 #[.slice (some ⟨b, off, none⟩) len cap] w (DecPost (decFin x (n8 x) 1) w) := by
  have hb := World.block_lt_of_cell? w _ hx
  have l0 : ((len : Int) == 0) = false := beq_eq_false_iff_ne.2 (by omega)
  have e1 := and_3f00 x
  have e2 := and_255 x
  have e3 := and_long x
  have e4 := n8_eq x
  have d1 := and_15 (x / 4194304)
  have d2 := and_15 (x / 262144)
  have d3 := and_15 (x / 16384)
  have h1 : inB x 0 4294967295 = true := inB_true.2 hr
  have h2 : (x / 256 % 64 * 256 != 0) = false := by rw [bne_eq_false_iff_eq]; omega
  have h3 : (x / 67108864 % 2 * 67108864 != 0) = false := by rw [bne_eq_false_iff_eq]; omega
  have HC := fun w => Lib.hid (check_any (x / 134217728) (x / 4194304 % 16) (x / 262144 % 16) (x / 16384 % 16) (n8 x) w)
  obtain ⟨c, hc⟩ : ∃ c, c = checkE (x / 134217728) (x / 4194304 % 16) (x / 262144 % 16) (x / 16384 % 16) (n8 x) := ⟨_, rfl⟩
  have hup : ∀ w, CheckPost (x / 134217728) (x / 4194304 % 16) (x / 262144 % 16) (x / 16384 % 16) (n8 x) w = fun e w' => e = .returned (.int .i64 c) ∧ Below w.heap.size w w' := by intro w; subst hc; rfl
  have HUP := Lib.hid hup
  have HQ : Hid (decFin x (n8 x) 1 = if c = 0 then ⟨x / 134217728, x / 4194304 % 16, x / 262144 % 16, x / 16384 % 16, n8 x, 1, 0⟩ else decBad 3) := by unfold Hid decFin; rw [hc]
  clear hup hc
  by_cases hc : c = 0
  · have hcn : (c != 0) = false := by rw [bne_eq_false_iff_eq]; exact hc
    have HCC := Lib.hid hc
    clear hc
    go_enter Try.func31, Try.ntmps31
    go_wp2_with (first
      | (go_at_call 52; refine (iin_any _ _ _ _).mono ?_; rintro e w' ⟨rfl, rfl⟩)
      | (go_at_call 42; refine (HC _).out.mono ?_; rw [HUP.out]; rintro e w' ⟨rfl, hb9⟩; rw [World.size_alloc, World.size_alloc] at hb9; obtain ⟨⟨r0, r1, r2, r3, r4⟩, ⟨f0, f1, f2, f3, f4⟩, ⟨o0, o1, o2, o3, o4⟩, hlt9⟩ := two_at hb9; have HB := Lib.hid hb9; clear hb9))
    refine bodyPost_ret (v := Dec.val ⟨x / 134217728, x / 4194304 % 16, x / 262144 % 16, x / 16384 % 16, n8 x, 1, 0⟩) ?_ rfl ⟨by rw [HQ.out, if_pos HCC.out], ?_⟩
    · simp [results, Try.results31, go_sem, Dec.val, *]
    · exact five_set (two_below HB.out) _ (Nat.le_refl _) _ _ _ _ _
  · have hcn : (c != 0) = true := by rw [bne_iff_ne]; exact hc
    have HCC := Lib.hid hc
    clear hc
    go_enter Try.func31, Try.ntmps31
    go_wp2_with (first
      | (go_at_call 52; refine (iin_any _ _ _ _).mono ?_; rintro e w' ⟨rfl, rfl⟩)
      | (go_at_call 42; refine (HC _).out.mono ?_; rw [HUP.out]; rintro e w' ⟨rfl, hb9⟩; rw [World.size_alloc, World.size_alloc] at hb9; obtain ⟨⟨r0, r1, r2, r3, r4⟩, ⟨f0, f1, f2, f3, f4⟩, ⟨o0, o1, o2, o3, o4⟩, hlt9⟩ := two_at hb9; have HB := Lib.hid hb9; clear hb9))
    refine bodyPost_ret (v := Dec.val (decBad 3)) ?_ rfl ⟨by rw [HQ.out, if_neg HCC.out], ?_⟩
    · simp [results, Try.results31, go_sem, Dec.val, decBad, *]
    · exact five_set (two_below HB.out) _ (Nat.le_refl _) _ _ _ _ _

set_option maxHeartbeats 2000000 in
theorem decode_long_bad (w : World) (b off len cap : Nat) (x : Int) (hx : w.cell? ⟨b, off, none⟩ = some (.int .i64 x)) (hl : 1 ≤ len) (hr : 0 ≤ x ∧ x ≤ 4294967295) (h6 : x / 256 % 64 = 0) (hs : x / 67108864 % 2 = 1) (hb8 : ¬ x % 256 = 0) :
    Calls Try.prog 31 #[.slice (some ⟨b, off, none⟩) len cap] w (DecPost (decBad 3) w) := by
  have hb := World.block_lt_of_cell? w _ hx
  have l0 : ((len : Int) == 0) = false := beq_eq_false_iff_ne.2 (by omega)
  have e1 := and_3f00 x
  have e2 := and_255 x
  have e3 := and_long x
  have e4 := n8_eq x
  have d1 := and_15 (x / 4194304)
  have d2 := and_15 (x / 262144)
  have d3 := and_15 (x / 16384)
  have h1 : inB x 0 4294967295 = true := inB_true.2 hr
  have h2 : (x / 256 % 64 * 256 != 0) = false := by rw [bne_eq_false_iff_eq]; omega
  have h3 : (x / 67108864 % 2 * 67108864 != 0) = true := by rw [bne_iff_ne]; omega
  have h4 : (x % 256 != 0) = true := by rw [bne_iff_ne]; omega
  clear h6 hs hb8
  go_enter Try.func31, Try.ntmps31
  go_wp2_with (go_at_call 52; refine (iin_any _ _ _ _).mono ?_; rintro e w' ⟨rfl, rfl⟩)
  refine bodyPost_ret (v := Dec.val (decBad 3)) ?_ rfl ⟨rfl, ?_⟩
  · simp [results, Try.results31, go_sem, Dec.val, decBad]
  · exact ((Below.refl _ _).alloc (Nat.le_refl _) _).alloc (by simp) _

set_option maxHeartbeats 2000000 in
theorem decode_long_one (w : World) (b off cap : Nat) (x : Int) (hx : w.cell? ⟨b, off, none⟩ = some (.int .i64 x)) (hr : 0 ≤ x ∧ x ≤ 4294967295) (h6 : x / 256 % 64 = 0) (hs : x / 67108864 % 2 = 1) (hb8 : x % 256 = 0) :
    Calls Try.prog 31 #[.slice (some ⟨b, off, none⟩) 1 cap] w (DecPost (decBad 12) w) := by
  have hb := World.block_lt_of_cell? w _ hx
  have e1 := and_3f00 x
  have e2 := and_255 x
  have e3 := and_long x
  have e4 := n8_eq x
  have d1 := and_15 (x / 4194304)
  have d2 := and_15 (x / 262144)
  have d3 := and_15 (x / 16384)
  have h1 : inB x 0 4294967295 = true := inB_true.2 hr
  have h2 : (x / 256 % 64 * 256 != 0) = false := by rw [bne_eq_false_iff_eq]; omega
  have h3 : (x / 67108864 % 2 * 67108864 != 0) = true := by rw [bne_iff_ne]; omega
  have h4 : (x % 256 != 0) = false := by rw [bne_eq_false_iff_eq]; omega
  clear h6 hs hb8
  go_enter Try.func31, Try.ntmps31
  go_wp2_with (go_at_call 52; refine (iin_any _ _ _ _).mono ?_; rintro e w' ⟨rfl, rfl⟩)
  refine bodyPost_ret (v := Dec.val (decBad 12)) ?_ rfl ⟨rfl, ?_⟩
  · simp [results, Try.results31, go_sem, Dec.val, decBad]
  · exact ((Below.refl _ _).alloc (Nat.le_refl _) _).alloc (by simp) _

set_option maxHeartbeats 2000000 in
theorem decode_long_range (w : World) (b off len cap : Nat) (x y : Int) (hx : w.cell? ⟨b, off, none⟩ = some (.int .i64 x)) (hy : w.cell? ⟨b, off + 1, none⟩ = some (.int .i64 y)) (hl : 2 ≤ len) (hr : 0 ≤ x ∧ x ≤ 4294967295) (h6 : x / 256 % 64 = 0) (hs : x / 67108864 % 2 = 1) (hb8 : x % 256 = 0) (hyr : ¬ (0 ≤ y ∧ y ≤ 4294967295)) :
    Calls Try.prog 31 #[.slice (some ⟨b, off, none⟩) len cap] w (DecPost (decBad 3) w) := by
  have hb := World.block_lt_of_cell? w _ hx
  have l0 : ((len : Int) == 0) = false := beq_eq_false_iff_ne.2 (by omega)
  have e1 := and_3f00 x
  have e2 := and_255 x
  have e3 := and_long x
  have e4 := n8_eq x
  have d1 := and_15 (x / 4194304)
  have d2 := and_15 (x / 262144)
  have d3 := and_15 (x / 16384)
  have h1 : inB x 0 4294967295 = true := inB_true.2 hr
  have h5 : inB y 0 4294967295 = false := inB_false.2 (by omega)
  have h2 : (x / 256 % 64 * 256 != 0) = false := by rw [bne_eq_false_iff_eq]; omega
  have h3 : (x / 67108864 % 2 * 67108864 != 0) = true := by rw [bne_iff_ne]; omega
  have h4 : (x % 256 != 0) = false := by rw [bne_eq_false_iff_eq]; omega
  clear h6 hs hb8 hyr
  go_enter Try.func31, Try.ntmps31
  go_wp2_with (go_at_call 52; refine (iin_any _ _ _ _).mono ?_; rintro e w' ⟨rfl, rfl⟩)
  refine bodyPost_ret (v := Dec.val (decBad 3)) ?_ rfl ⟨rfl, ?_⟩
  · simp [results, Try.results31, go_sem, Dec.val, decBad]
  · exact ((Below.refl _ _).alloc (Nat.le_refl _) _).alloc (by simp) _

set_option maxHeartbeats 2000000 in
theorem decode_long_walk (w : World) (b off len cap : Nat) (x y : Int) (hx : w.cell? ⟨b, off, none⟩ = some (.int .i64 x)) (hy : w.cell? ⟨b, off + 1, none⟩ = some (.int .i64 y)) (hl : 2 ≤ len) (hr : 0 ≤ x ∧ x ≤ 4294967295) (h6 : x / 256 % 64 = 0) (hs : x / 67108864 % 2 = 1) (hb8 : x % 256 = 0) (hyr : 0 ≤ y ∧ y ≤ 4294967295) :
    Calls Try.prog 31 #[.slice (some ⟨b, off, none⟩) len cap] w (DecPost (decFin x (wrap32 y) 2) w) := by
  have hb := World.block_lt_of_cell? w _ hx
  have l0 : ((len : Int) == 0) = false := beq_eq_false_iff_ne.2 (by omega)
  have e1 := and_3f00 x
  have e2 := and_255 x
  have e3 := and_long x
  have e4 := n8_eq x
  have e5 := w32_eq y
  have d1 := and_15 (x / 4194304)
  have d2 := and_15 (x / 262144)
  have d3 := and_15 (x / 16384)
  have h1 : inB x 0 4294967295 = true := inB_true.2 hr
  have h5 : inB y 0 4294967295 = true := inB_true.2 hyr
  have h2 : (x / 256 % 64 * 256 != 0) = false := by rw [bne_eq_false_iff_eq]; omega
  have h3 : (x / 67108864 % 2 * 67108864 != 0) = true := by rw [bne_iff_ne]; omega
  have h4 : (x % 256 != 0) = false := by rw [bne_eq_false_iff_eq]; omega
  have HC := fun w => Lib.hid (check_any (x / 134217728) (x / 4194304 % 16) (x / 262144 % 16) (x / 16384 % 16) (wrap32 y) w)
  obtain ⟨c, hc⟩ : ∃ c, c = checkE (x / 134217728) (x / 4194304 % 16) (x / 262144 % 16) (x / 16384 % 16) (wrap32 y) := ⟨_, rfl⟩
  have hup : ∀ w, CheckPost (x / 134217728) (x / 4194304 % 16) (x / 262144 % 16) (x / 16384 % 16) (wrap32 y) w = fun e w' => e = .returned (.int .i64 c) ∧ Below w.heap.size w w' := by intro w; subst hc; rfl
  have HUP := Lib.hid hup
  have HQ : Hid (decFin x (wrap32 y) 2 = if c = 0 then ⟨x / 134217728, x / 4194304 % 16, x / 262144 % 16, x / 16384 % 16, wrap32 y, 2, 0⟩ else decBad 3) := by unfold Hid decFin; rw [hc]
  clear hup hc h6 hs hb8
  by_cases hc : c = 0
  · have hcn : (c != 0) = false := by rw [bne_eq_false_iff_eq]; exact hc
    have HCC := Lib.hid hc
    clear hc
    go_enter Try.func31, Try.ntmps31
    go_wp2_with (first
      | (go_at_call 52; refine (iin_any _ _ _ _).mono ?_; rintro e w' ⟨rfl, rfl⟩)
      | (go_at_call 42; refine (HC _).out.mono ?_; rw [HUP.out]; rintro e w' ⟨rfl, hb9⟩; rw [World.size_alloc, World.size_alloc] at hb9; obtain ⟨⟨r0, r1, r2, r3, r4⟩, ⟨f0, f1, f2, f3, f4⟩, ⟨o0, o1, o2, o3, o4⟩, hlt9⟩ := two_at hb9; have HB := Lib.hid hb9; clear hb9))
    refine bodyPost_ret (v := Dec.val ⟨x / 134217728, x / 4194304 % 16, x / 262144 % 16, x / 16384 % 16, wrap32 y, 2, 0⟩) ?_ rfl ⟨by rw [HQ.out, if_pos HCC.out], ?_⟩
    · simp [results, Try.results31, go_sem, Dec.val, *]
    · exact five_set (two_below HB.out) _ (Nat.le_refl _) _ _ _ _ _
  · have hcn : (c != 0) = true := by rw [bne_iff_ne]; exact hc
    have HCC := Lib.hid hc
    clear hc
    go_enter Try.func31, Try.ntmps31
    go_wp2_with (first
      | (go_at_call 52; refine (iin_any _ _ _ _).mono ?_; rintro e w' ⟨rfl, rfl⟩)
      | (go_at_call 42; refine (HC _).out.mono ?_; rw [HUP.out]; rintro e w' ⟨rfl, hb9⟩; rw [World.size_alloc, World.size_alloc] at hb9; obtain ⟨⟨r0, r1, r2, r3, r4⟩, ⟨f0, f1, f2, f3, f4⟩, ⟨o0, o1, o2, o3, o4⟩, hlt9⟩ := two_at hb9; have HB := Lib.hid hb9; clear hb9))
    refine bodyPost_ret (v := Dec.val (decBad 3)) ?_ rfl ⟨by rw [HQ.out, if_neg HCC.out], ?_⟩
    · simp [results, Try.results31, go_sem, Dec.val, decBad, *]
    · exact five_set (two_below HB.out) _ (Nat.le_refl _) _ _ _ _ _

theorem decode_any (w : World) (a : Option Addr) (len cap : Nat) (zs : List Int) (h : Came w a len cap 1 (zs.map intCells)) :
    Calls Try.prog 31 #[.slice a len cap] w (DecPost (decode zs) w) := by
  have hl : zs.length = len := by simpa using h.count
  match zs, hl with
  | [], hl =>
    obtain rfl : len = 0 := by simpa using hl.symm
    exact decode_nil_walk w a cap
  | x :: r, hl =>
    have hl1 : 1 ≤ len := by simp at hl; omega
    obtain ⟨b, off, rfl, _, hc⟩ := h.ints (by omega)
    have hx : w.cell? ⟨b, off, none⟩ = some (.int .i64 x) := hc 0 (by simp)
    show Calls _ _ _ w (DecPost (decWord x r) w)
    unfold decWord
    by_cases h1 : (0 ≤ x ∧ x ≤ 4294967295) ∧ x / 256 % 64 = 0
    · rw [if_pos h1]
      by_cases h2 : x / 67108864 % 2 = 1
      · rw [if_pos h2]
        by_cases h3 : x % 256 = 0
        · rw [if_pos h3]
          match r, hl, hc with
          | [], hl, _ =>
            obtain rfl : len = 1 := by simpa using hl.symm
            exact decode_long_one w b off cap x hx h1.1 h1.2 h2 h3
          | y :: r', hl, hc =>
            have hy : w.cell? ⟨b, off + 1, none⟩ = some (.int .i64 y) := hc 1 (by simp)
            have hl2 : 2 ≤ len := by simp at hl; omega
            show Calls _ _ _ w (DecPost (if 0 ≤ y ∧ y ≤ 4294967295 then decFin x (wrap32 y) 2 else decBad 3) w)
            by_cases h4 : 0 ≤ y ∧ y ≤ 4294967295
            · rw [if_pos h4]; exact decode_long_walk w b off len cap x y hx hy hl2 h1.1 h1.2 h2 h3 h4
            · rw [if_neg h4]; exact decode_long_range w b off len cap x y hx hy hl2 h1.1 h1.2 h2 h3 h4
        · rw [if_neg h3]; exact decode_long_bad w b off len cap x hx hl1 h1.1 h1.2 h2 h3
      · rw [if_neg h2]; exact decode_short_walk w b off len cap x hx hl1 h1.1 h1.2 h2
    · rw [if_neg h1]; exact decode_bad_walk w b off len cap x hx hl1 h1

theorem Came.take {w : World} {a : Option Addr} {len cap sz : Nat} {vs : List (List Value)} (h : Came w a len cap sz vs) (n : Nat) (hn : n ≤ len) (hn0 : 0 < n) : Came w a n cap sz (vs.take n) := by
  refine ⟨by have := h.count; simp; omega, by have := h.le; omega, h.max, fun ha => by have := (h.nil ha).1; omega, fun v hv => h.size v (List.mem_of_mem_take hv), fun h0 h1 => ?_⟩
  obtain ⟨b, off, ha, hb, hc⟩ := h.cells (by omega) h1
  exact ⟨b, off, ha, hb, fun i v hv j hj => hc i v (by rw [List.getElem?_take] at hv; split at hv <;> simp_all) j hj⟩

theorem decFin_cases (w n size : Int) : decFin w n size = decBad 3 ∨ (checkE (w / 134217728) (w / 4194304 % 16) (w / 262144 % 16) (w / 16384 % 16) n = 0 ∧ decFin w n size = ⟨w / 134217728, w / 4194304 % 16, w / 262144 % 16, w / 16384 % 16, n, size, 0⟩) := by
  unfold decFin; split
  · exact .inr ⟨by assumption, rfl⟩
  · exact .inl rfl

/-- the three outcomes of Decode -/
theorem decode_cases (zs : List Int) :
    (∃ e, decode zs = decBad e ∧ (e = 3 ∨ e = 12)) ∨
    (∃ q, decode zs = q ∧ q.err = 0 ∧ q.size = 1 ∧ 1 ≤ zs.length ∧ checkE q.op q.d q.a q.b q.n = 0 ∧ shortB q.n = true ∧ zs.take 1 = encWords q.op q.d q.a q.b q.n) ∨
    (∃ q, decode zs = q ∧ q.err = 0 ∧ q.size = 2 ∧ 2 ≤ zs.length ∧ checkE q.op q.d q.a q.b q.n = 0 ∧ zs.take 2 = longWords q.op q.d q.a q.b q.n) := by
  match zs with
  | [] => exact .inl ⟨12, rfl, .inr rfl⟩
  | x :: r =>
    show (∃ e, decWord x r = decBad e ∧ _) ∨ (∃ q, decWord x r = q ∧ _) ∨ (∃ q, decWord x r = q ∧ _)
    unfold decWord
    by_cases h1 : (0 ≤ x ∧ x ≤ 4294967295) ∧ x / 256 % 64 = 0
    · rw [if_pos h1]
      by_cases h2 : x / 67108864 % 2 = 1
      · rw [if_pos h2]
        by_cases h3 : x % 256 = 0
        · rw [if_pos h3]
          match r with
          | [] => exact .inl ⟨12, rfl, .inr rfl⟩
          | y :: r' =>
            show (∃ e, (if 0 ≤ y ∧ y ≤ 4294967295 then decFin x (wrap32 y) 2 else decBad 3) = decBad e ∧ _) ∨ (∃ q, (if 0 ≤ y ∧ y ≤ 4294967295 then decFin x (wrap32 y) 2 else decBad 3) = q ∧ _) ∨ (∃ q, (if 0 ≤ y ∧ y ≤ 4294967295 then decFin x (wrap32 y) 2 else decBad 3) = q ∧ _)
            by_cases h4 : 0 ≤ y ∧ y ≤ 4294967295
            · rw [if_pos h4]
              rcases decFin_cases x (wrap32 y) 2 with h5 | ⟨h5, h6⟩
              · exact .inl ⟨3, h5, .inl rfl⟩
              · refine .inr (.inr ⟨_, h6, rfl, rfl, by simp, h5, ?_⟩)
                simp only [List.take_succ_cons, List.take_zero, longWords, wordOf, List.cons.injEq, and_true]
                unfold wrap32
                omega
            · rw [if_neg h4]; exact .inl ⟨3, rfl, .inl rfl⟩
        · rw [if_neg h3]; exact .inl ⟨3, rfl, .inl rfl⟩
      · rw [if_neg h2]
        rcases decFin_cases x (n8 x) 1 with h5 | ⟨h5, h6⟩
        · exact .inl ⟨3, h5, .inl rfl⟩
        · have hb := i8_bd (x % 256)
          have hs : shortB (n8 x) = true := inB_true.2 (by unfold n8; omega)
          refine .inr (.inl ⟨_, h6, rfl, rfl, by simp, h5, hs, ?_⟩)
          have hw : n8 x % 256 = x % 256 := by
            unfold n8
            simp only [IntKind.wrap, IntKind.bits, IntKind.signed]; simp; split <;> omega
          unfold encWords
          rw [if_pos hs]
          simp only [List.take_succ_cons, List.take_zero, wordOf, List.cons.injEq, and_true]
          show x = _ + n8 x % 256
          rw [hw]
          omega
    · rw [if_neg h1]; exact .inl ⟨3, rfl, .inl rfl⟩

theorem decode_words {op d a b n : Int} {l : Bool} (hc : checkE op d a b n = 0) (hs : l = false → shortB n = true) (rest : List Int) :
    decode (refWords op d a b n l ++ rest) = ⟨op, d, a, b, n, if l = true then 2 else 1, 0⟩ := by
  obtain ⟨h0, h1, h2, h3, h4, _, _⟩ := checkE_ok hc
  cases l with
  | true =>
    have hw : 0 ≤ wordOf op d a b + 67108864 ∧ wordOf op d a b + 67108864 ≤ 4294967295 := by unfold wordOf; omega
    have e1 : (wordOf op d a b + 67108864) / 256 % 64 = 0 := by unfold wordOf; omega
    have e2 : (wordOf op d a b + 67108864) / 67108864 % 2 = 1 := by unfold wordOf; omega
    have e3 : (wordOf op d a b + 67108864) % 256 = 0 := by unfold wordOf; omega
    have f1 : (wordOf op d a b + 67108864) / 134217728 = op := by unfold wordOf; omega
    have f2 : (wordOf op d a b + 67108864) / 4194304 % 16 = d := by unfold wordOf; omega
    have f3 : (wordOf op d a b + 67108864) / 262144 % 16 = a := by unfold wordOf; omega
    have f4 : (wordOf op d a b + 67108864) / 16384 % 16 = b := by unfold wordOf; omega
    have f5 : wrap32 (n % 4294967296) = n := by unfold wrap32; omega
    show decWord (wordOf op d a b + 67108864) (n % 4294967296 :: rest) = _
    unfold decWord
    rw [if_pos ⟨hw, e1⟩, if_pos e2, if_pos e3]
    show (if 0 ≤ n % 4294967296 ∧ n % 4294967296 ≤ 4294967295 then decFin (wordOf op d a b + 67108864) (wrap32 (n % 4294967296)) 2 else decBad 3) = _
    rw [if_pos (by omega), f5]
    unfold decFin
    rw [f1, f2, f3, f4, if_pos hc]
    rfl
  | false =>
    have hn := inB_true.1 (hs rfl)
    have hw : 0 ≤ wordOf op d a b + n % 256 ∧ wordOf op d a b + n % 256 ≤ 4294967295 := by unfold wordOf; omega
    have e1 : (wordOf op d a b + n % 256) / 256 % 64 = 0 := by unfold wordOf; omega
    have e2 : ¬ (wordOf op d a b + n % 256) / 67108864 % 2 = 1 := by unfold wordOf; omega
    have f1 : (wordOf op d a b + n % 256) / 134217728 = op := by unfold wordOf; omega
    have f2 : (wordOf op d a b + n % 256) / 4194304 % 16 = d := by unfold wordOf; omega
    have f3 : (wordOf op d a b + n % 256) / 262144 % 16 = a := by unfold wordOf; omega
    have f4 : (wordOf op d a b + n % 256) / 16384 % 16 = b := by unfold wordOf; omega
    have f6 : (wordOf op d a b + n % 256) % 256 = n % 256 := by unfold wordOf; omega
    have f5 : n8 (wordOf op d a b + n % 256) = n := by
      unfold n8; rw [f6]
      simp only [IntKind.wrap, IntKind.bits, IntKind.signed]; simp; omega
    show decWord (wordOf op d a b + n % 256) rest = _
    unfold decWord
    rw [if_pos ⟨hw, e1⟩, if_neg e2, f5]
    unfold decFin
    rw [f1, f2, f3, f4, if_pos hc]
    rfl

theorem flat_get {α : Type} (E : α → List Value) (sz : Nat) (hE : ∀ z, (E z).length = sz) (zs : List α) (i j : Nat) (hj : j < sz) : (zs.flatMap E)[i * sz + j]? = (zs[i]?).bind fun z => (E z)[j]? := by
  induction zs generalizing i with
  | nil => simp
  | cons x r ih =>
    rw [List.flatMap_cons]
    cases i with
    | zero =>
      rw [List.getElem?_append_left (by rw [hE]; omega)]
      simp
    | succ i =>
      rw [List.getElem?_append_right (by rw [hE, Nat.succ_mul]; omega), hE, show (i + 1) * sz + j - sz = i * sz + j by rw [Nat.succ_mul]; omega, ih i]
      simp

/-- what a call has gathered by append, elements of sz cells, as a slice that is handed on -/
theorem came_of_ownsG {w : World} {base : Nat} {e : TypeId} {v : Value} {n sz : Nat} {α : Type} {E : α → List Value} {zs : List α} (hsz : 0 < sz) (hE : ∀ z, (E z).length = sz) (hn : zs.length = n) (h : w.ownsRow base e sz v n (zs.flatMap E)) :
    ∃ a cap, v = .slice a n cap ∧ Came w a n cap sz (zs.map E) := by
  obtain ⟨hl, hr⟩ := h
  have hall : ∀ v ∈ zs.map E, v.length = sz := by
    intro v hv
    obtain ⟨z, _, rfl⟩ := List.mem_map.1 hv
    exact hE z
  rcases hr with ⟨rfl, hx⟩ | ⟨g, c, cur, rfl, hg, hgg, hnc, hcm, hcs, htake⟩
  · have h0 : n = 0 := by
      rw [hx] at hl
      simp at hl
      rcases Nat.eq_zero_or_pos n with h | h
      · exact h
      · have : 0 < n * sz := Nat.mul_pos h hsz
        omega
    subst h0
    exact ⟨none, 0, rfl, by simpa using hn, Nat.le_refl _, by omega, fun _ => ⟨rfl, rfl⟩, hall, fun h => by omega⟩
  · refine ⟨some ⟨g, 0, none⟩, c, rfl, by simpa using hn, hnc, by unfold maxLen at hcm; omega, fun h => by simp at h, hall, fun h0 _ => ⟨g, 0, rfl, lt_of_block hgg, fun i v hv j hj => ?_⟩⟩
    rw [List.getElem?_map] at hv
    obtain ⟨z, hz, rfl⟩ := Option.map_eq_some_iff.1 hv
    have hil : i < zs.length := (List.getElem?_eq_some_iff.1 hz).1
    have hlt : i * sz + j < n * sz := by
      have : (i + 1) * sz ≤ n * sz := Nat.mul_le_mul_right sz (by omega)
      rw [Nat.succ_mul] at this; omega
    have h2 : (cur.toList.take (n * sz))[i * sz + j]? = (E z)[j]? := by rw [htake, flat_get E sz hE zs i j hj, hz]; rfl
    rw [List.getElem?_take, if_pos hlt] at h2
    simp only [World.cell?, hgg, Nat.zero_add]
    simpa using h2
theorem came_of_blkG {w : World} {g : Nat} {t : TypeId} {sz : Nat} {α : Type} {E : α → List Value} {zs : List α} (hsz : 0 < sz) (hE : ∀ z, (E z).length = sz) (h : Blk w g t (zs.flatMap E)) (hm : zs.length ≤ 9223372036854775807) : Came w (some ⟨g, 0, none⟩) zs.length zs.length sz (zs.map E) := by
  refine ⟨by simp, Nat.le_refl _, hm, fun h => by simp at h, ?_, fun _ _ => ⟨g, 0, rfl, h.lt, fun i v hv j hj => ?_⟩⟩
  · intro v hv
    obtain ⟨z, _, rfl⟩ := List.mem_map.1 hv
    exact hE z
  · rw [List.getElem?_map] at hv
    obtain ⟨z, hz, rfl⟩ := Option.map_eq_some_iff.1 hv
    rw [h.cell, Nat.zero_add, flat_get E sz hE zs i j hj, hz]; rfl
end Go.Proofs.Ytkafbihlmhdjeab
