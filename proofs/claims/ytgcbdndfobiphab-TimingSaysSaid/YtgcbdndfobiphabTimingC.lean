/- The contract of timing's Reads, operation by operation. -/
import Derived.Test.YtgcbdndfobiphabTimingB
namespace Go.Proofs.Ytgcbdndfobiphab
open Go.RowKit
set_option linter.unusedVariables false

/-- the registers that an instruction reads, in the order of the text -/
def rawReads (op a b : Int) : List Int :=
  if op = 0 then [1] else if op = 22 then [15]
  else if (1 ≤ op ∧ op ≤ 7) ∨ op = 13 ∨ op = 15 ∨ op = 16 ∨ op = 17 ∨ op = 18 then [a, b]
  else if op = 8 ∨ op = 9 ∨ op = 10 ∨ op = 12 ∨ op = 21 ∨ op = 23 then [a]
  else if op = 14 then [b] else []
def readsOf (op a b : Int) : List Int := nz (rawReads op a b)

def ListPost (rs : List Int) (w : World) (e : Ending) (w' : World) : Prop :=
  ∃ v, e = .returned v ∧ w'.ownsRow w.heap.size 3 1 v rs.length (rs.map (Value.int .i64)) ∧ Below w.heap.size w w'

theorem owns_base {w : World} {base base' : Nat} {e : TypeId} {size : Nat} {v : Value} {n : Nat} {l : List Value} (h : w.ownsRow base e size v n l) (hb : base' ≤ base) : w.ownsRow base' e size v n l := by
  obtain ⟨h1, h2⟩ := h
  refine ⟨h1, ?_⟩
  rcases h2 with h2 | ⟨g, cap, cur, hv, hg, r⟩
  · exact .inl h2
  · exact .inr ⟨g, cap, cur, hv, Nat.le_trans hb hg, r⟩

theorem reads_step (w : World) (o1 : Obj) (zs : List Int) (n : Nat) (hn : zs.length = n) (hn4 : n ≤ 4) :
    Calls Try.prog 24 #[.slice (some ⟨w.heap.size + 1 + 1, 0, none⟩) n n, .pointer (some ⟨w.heap.size + 1, 0, none⟩)] (((w.alloc o1).alloc (.cells #[.slice none 0 0] 23)).alloc (.cells (zs.map (Value.int .i64)).toArray 3))
      (fun e w' => e = .returned (.tuple #[]) ∧ ∃ v, Blk w' (w.heap.size + 1) 23 [v] ∧ w'.ownsRow w.heap.size 3 1 v (nz zs).length ((nz zs).map (Value.int .i64)) ∧ Below w.heap.size w w') := by
  have h1 := Blk.new ((w.alloc o1).alloc (.cells #[.slice none 0 0] 23)) (zs.map (Value.int .i64)) 3
  have h2 := (Blk.new (w.alloc o1) [.slice none 0 0] 23).alloc (.cells (zs.map (Value.int .i64)).toArray 3)
  rw [World.size_alloc, World.size_alloc] at h1
  rw [World.size_alloc] at h2
  refine (add_any _ (w.heap.size + 1) (w.heap.size + 1 + 1) n n zs hn hn4 h1 h2 (by omega)).mono ?_
  rintro e w' ⟨he, v, hv, ho, hb⟩
  refine ⟨he, v, hv, owns_base ho (by simp; omega), ?_⟩
  exact ((((Below.refl _ _).alloc (Nat.le_refl _) _).alloc (by simp) _).alloc (by simp; omega) _).trans (hb w.heap.size (by omega))

set_option maxHeartbeats 1000000 in
theorem reads_0 (d a b n : Int) (w : World) : Calls Try.prog 10 #[.agg #[.int .i64 0, .int .i64 d, .int .i64 a, .int .i64 b, .int .i64 n]] w (ListPost (readsOf 0 a b) w) := by
  have HA := Lib.hid (reads_step w (.cells #[.int .i64 0, .int .i64 d, .int .i64 a, .int .i64 b, .int .i64 n] 27) [1] 1 rfl (by omega))
  go_enter Try.func10, Try.ntmps10
  go_wp2_with (go_at_call 24; refine HA.out.mono ?_; rintro e w' ⟨rfl, v, hv, ho, hb⟩; have c0 := hv.cell 0; simp only [List.getElem?_cons_zero] at c0; have HO := Lib.hid ho; have HB := Lib.hid hb; clear hv ho hb)
  go_ret
  exact ⟨_, rfl, HO.out, HB.out⟩

set_option maxHeartbeats 1000000 in
theorem reads_1 (d a b n : Int) (w : World) : Calls Try.prog 10 #[.agg #[.int .i64 1, .int .i64 d, .int .i64 a, .int .i64 b, .int .i64 n]] w (ListPost (readsOf 1 a b) w) := by
  have HA := Lib.hid (reads_step w (.cells #[.int .i64 1, .int .i64 d, .int .i64 a, .int .i64 b, .int .i64 n] 27) [a, b] 2 rfl (by omega))
  go_enter Try.func10, Try.ntmps10
  go_wp2_with (go_at_call 24; refine HA.out.mono ?_; rintro e w' ⟨rfl, v, hv, ho, hb⟩; have c0 := hv.cell 0; simp only [List.getElem?_cons_zero] at c0; have HO := Lib.hid ho; have HB := Lib.hid hb; clear hv ho hb)
  go_ret
  exact ⟨_, rfl, HO.out, HB.out⟩

set_option maxHeartbeats 1000000 in
theorem reads_2 (d a b n : Int) (w : World) : Calls Try.prog 10 #[.agg #[.int .i64 2, .int .i64 d, .int .i64 a, .int .i64 b, .int .i64 n]] w (ListPost (readsOf 2 a b) w) := by
  have HA := Lib.hid (reads_step w (.cells #[.int .i64 2, .int .i64 d, .int .i64 a, .int .i64 b, .int .i64 n] 27) [a, b] 2 rfl (by omega))
  go_enter Try.func10, Try.ntmps10
  go_wp2_with (go_at_call 24; refine HA.out.mono ?_; rintro e w' ⟨rfl, v, hv, ho, hb⟩; have c0 := hv.cell 0; simp only [List.getElem?_cons_zero] at c0; have HO := Lib.hid ho; have HB := Lib.hid hb; clear hv ho hb)
  go_ret
  exact ⟨_, rfl, HO.out, HB.out⟩

set_option maxHeartbeats 1000000 in
theorem reads_3 (d a b n : Int) (w : World) : Calls Try.prog 10 #[.agg #[.int .i64 3, .int .i64 d, .int .i64 a, .int .i64 b, .int .i64 n]] w (ListPost (readsOf 3 a b) w) := by
  have HA := Lib.hid (reads_step w (.cells #[.int .i64 3, .int .i64 d, .int .i64 a, .int .i64 b, .int .i64 n] 27) [a, b] 2 rfl (by omega))
  go_enter Try.func10, Try.ntmps10
  go_wp2_with (go_at_call 24; refine HA.out.mono ?_; rintro e w' ⟨rfl, v, hv, ho, hb⟩; have c0 := hv.cell 0; simp only [List.getElem?_cons_zero] at c0; have HO := Lib.hid ho; have HB := Lib.hid hb; clear hv ho hb)
  go_ret
  exact ⟨_, rfl, HO.out, HB.out⟩

set_option maxHeartbeats 1000000 in
theorem reads_4 (d a b n : Int) (w : World) : Calls Try.prog 10 #[.agg #[.int .i64 4, .int .i64 d, .int .i64 a, .int .i64 b, .int .i64 n]] w (ListPost (readsOf 4 a b) w) := by
  have HA := Lib.hid (reads_step w (.cells #[.int .i64 4, .int .i64 d, .int .i64 a, .int .i64 b, .int .i64 n] 27) [a, b] 2 rfl (by omega))
  go_enter Try.func10, Try.ntmps10
  go_wp2_with (go_at_call 24; refine HA.out.mono ?_; rintro e w' ⟨rfl, v, hv, ho, hb⟩; have c0 := hv.cell 0; simp only [List.getElem?_cons_zero] at c0; have HO := Lib.hid ho; have HB := Lib.hid hb; clear hv ho hb)
  go_ret
  exact ⟨_, rfl, HO.out, HB.out⟩

set_option maxHeartbeats 1000000 in
theorem reads_5 (d a b n : Int) (w : World) : Calls Try.prog 10 #[.agg #[.int .i64 5, .int .i64 d, .int .i64 a, .int .i64 b, .int .i64 n]] w (ListPost (readsOf 5 a b) w) := by
  have HA := Lib.hid (reads_step w (.cells #[.int .i64 5, .int .i64 d, .int .i64 a, .int .i64 b, .int .i64 n] 27) [a, b] 2 rfl (by omega))
  go_enter Try.func10, Try.ntmps10
  go_wp2_with (go_at_call 24; refine HA.out.mono ?_; rintro e w' ⟨rfl, v, hv, ho, hb⟩; have c0 := hv.cell 0; simp only [List.getElem?_cons_zero] at c0; have HO := Lib.hid ho; have HB := Lib.hid hb; clear hv ho hb)
  go_ret
  exact ⟨_, rfl, HO.out, HB.out⟩

set_option maxHeartbeats 1000000 in
theorem reads_6 (d a b n : Int) (w : World) : Calls Try.prog 10 #[.agg #[.int .i64 6, .int .i64 d, .int .i64 a, .int .i64 b, .int .i64 n]] w (ListPost (readsOf 6 a b) w) := by
  have HA := Lib.hid (reads_step w (.cells #[.int .i64 6, .int .i64 d, .int .i64 a, .int .i64 b, .int .i64 n] 27) [a, b] 2 rfl (by omega))
  go_enter Try.func10, Try.ntmps10
  go_wp2_with (go_at_call 24; refine HA.out.mono ?_; rintro e w' ⟨rfl, v, hv, ho, hb⟩; have c0 := hv.cell 0; simp only [List.getElem?_cons_zero] at c0; have HO := Lib.hid ho; have HB := Lib.hid hb; clear hv ho hb)
  go_ret
  exact ⟨_, rfl, HO.out, HB.out⟩

set_option maxHeartbeats 1000000 in
theorem reads_7 (d a b n : Int) (w : World) : Calls Try.prog 10 #[.agg #[.int .i64 7, .int .i64 d, .int .i64 a, .int .i64 b, .int .i64 n]] w (ListPost (readsOf 7 a b) w) := by
  have HA := Lib.hid (reads_step w (.cells #[.int .i64 7, .int .i64 d, .int .i64 a, .int .i64 b, .int .i64 n] 27) [a, b] 2 rfl (by omega))
  go_enter Try.func10, Try.ntmps10
  go_wp2_with (go_at_call 24; refine HA.out.mono ?_; rintro e w' ⟨rfl, v, hv, ho, hb⟩; have c0 := hv.cell 0; simp only [List.getElem?_cons_zero] at c0; have HO := Lib.hid ho; have HB := Lib.hid hb; clear hv ho hb)
  go_ret
  exact ⟨_, rfl, HO.out, HB.out⟩

set_option maxHeartbeats 1000000 in
theorem reads_8 (d a b n : Int) (w : World) : Calls Try.prog 10 #[.agg #[.int .i64 8, .int .i64 d, .int .i64 a, .int .i64 b, .int .i64 n]] w (ListPost (readsOf 8 a b) w) := by
  have HA := Lib.hid (reads_step w (.cells #[.int .i64 8, .int .i64 d, .int .i64 a, .int .i64 b, .int .i64 n] 27) [a] 1 rfl (by omega))
  go_enter Try.func10, Try.ntmps10
  go_wp2_with (go_at_call 24; refine HA.out.mono ?_; rintro e w' ⟨rfl, v, hv, ho, hb⟩; have c0 := hv.cell 0; simp only [List.getElem?_cons_zero] at c0; have HO := Lib.hid ho; have HB := Lib.hid hb; clear hv ho hb)
  go_ret
  exact ⟨_, rfl, HO.out, HB.out⟩

set_option maxHeartbeats 1000000 in
theorem reads_9 (d a b n : Int) (w : World) : Calls Try.prog 10 #[.agg #[.int .i64 9, .int .i64 d, .int .i64 a, .int .i64 b, .int .i64 n]] w (ListPost (readsOf 9 a b) w) := by
  have HA := Lib.hid (reads_step w (.cells #[.int .i64 9, .int .i64 d, .int .i64 a, .int .i64 b, .int .i64 n] 27) [a] 1 rfl (by omega))
  go_enter Try.func10, Try.ntmps10
  go_wp2_with (go_at_call 24; refine HA.out.mono ?_; rintro e w' ⟨rfl, v, hv, ho, hb⟩; have c0 := hv.cell 0; simp only [List.getElem?_cons_zero] at c0; have HO := Lib.hid ho; have HB := Lib.hid hb; clear hv ho hb)
  go_ret
  exact ⟨_, rfl, HO.out, HB.out⟩

set_option maxHeartbeats 1000000 in
theorem reads_10 (d a b n : Int) (w : World) : Calls Try.prog 10 #[.agg #[.int .i64 10, .int .i64 d, .int .i64 a, .int .i64 b, .int .i64 n]] w (ListPost (readsOf 10 a b) w) := by
  have HA := Lib.hid (reads_step w (.cells #[.int .i64 10, .int .i64 d, .int .i64 a, .int .i64 b, .int .i64 n] 27) [a] 1 rfl (by omega))
  go_enter Try.func10, Try.ntmps10
  go_wp2_with (go_at_call 24; refine HA.out.mono ?_; rintro e w' ⟨rfl, v, hv, ho, hb⟩; have c0 := hv.cell 0; simp only [List.getElem?_cons_zero] at c0; have HO := Lib.hid ho; have HB := Lib.hid hb; clear hv ho hb)
  go_ret
  exact ⟨_, rfl, HO.out, HB.out⟩

set_option maxHeartbeats 1000000 in
theorem reads_11 (d a b n : Int) (w : World) : Calls Try.prog 10 #[.agg #[.int .i64 11, .int .i64 d, .int .i64 a, .int .i64 b, .int .i64 n]] w (ListPost (readsOf 11 a b) w) := by
  go_enter Try.func10, Try.ntmps10
  go_wp2
  go_ret
  exact ⟨_, rfl, World.ownsRow_nil _ _ _ _, ((Below.refl _ _).alloc (Nat.le_refl _) _).alloc (by simp) _⟩

set_option maxHeartbeats 1000000 in
theorem reads_12 (d a b n : Int) (w : World) : Calls Try.prog 10 #[.agg #[.int .i64 12, .int .i64 d, .int .i64 a, .int .i64 b, .int .i64 n]] w (ListPost (readsOf 12 a b) w) := by
  have HA := Lib.hid (reads_step w (.cells #[.int .i64 12, .int .i64 d, .int .i64 a, .int .i64 b, .int .i64 n] 27) [a] 1 rfl (by omega))
  go_enter Try.func10, Try.ntmps10
  go_wp2_with (go_at_call 24; refine HA.out.mono ?_; rintro e w' ⟨rfl, v, hv, ho, hb⟩; have c0 := hv.cell 0; simp only [List.getElem?_cons_zero] at c0; have HO := Lib.hid ho; have HB := Lib.hid hb; clear hv ho hb)
  go_ret
  exact ⟨_, rfl, HO.out, HB.out⟩

set_option maxHeartbeats 1000000 in
theorem reads_13 (d a b n : Int) (w : World) : Calls Try.prog 10 #[.agg #[.int .i64 13, .int .i64 d, .int .i64 a, .int .i64 b, .int .i64 n]] w (ListPost (readsOf 13 a b) w) := by
  have HA := Lib.hid (reads_step w (.cells #[.int .i64 13, .int .i64 d, .int .i64 a, .int .i64 b, .int .i64 n] 27) [a, b] 2 rfl (by omega))
  go_enter Try.func10, Try.ntmps10
  go_wp2_with (go_at_call 24; refine HA.out.mono ?_; rintro e w' ⟨rfl, v, hv, ho, hb⟩; have c0 := hv.cell 0; simp only [List.getElem?_cons_zero] at c0; have HO := Lib.hid ho; have HB := Lib.hid hb; clear hv ho hb)
  go_ret
  exact ⟨_, rfl, HO.out, HB.out⟩

set_option maxHeartbeats 1000000 in
theorem reads_14 (d a b n : Int) (w : World) : Calls Try.prog 10 #[.agg #[.int .i64 14, .int .i64 d, .int .i64 a, .int .i64 b, .int .i64 n]] w (ListPost (readsOf 14 a b) w) := by
  have HA := Lib.hid (reads_step w (.cells #[.int .i64 14, .int .i64 d, .int .i64 a, .int .i64 b, .int .i64 n] 27) [b] 1 rfl (by omega))
  go_enter Try.func10, Try.ntmps10
  go_wp2_with (go_at_call 24; refine HA.out.mono ?_; rintro e w' ⟨rfl, v, hv, ho, hb⟩; have c0 := hv.cell 0; simp only [List.getElem?_cons_zero] at c0; have HO := Lib.hid ho; have HB := Lib.hid hb; clear hv ho hb)
  go_ret
  exact ⟨_, rfl, HO.out, HB.out⟩

set_option maxHeartbeats 1000000 in
theorem reads_15 (d a b n : Int) (w : World) : Calls Try.prog 10 #[.agg #[.int .i64 15, .int .i64 d, .int .i64 a, .int .i64 b, .int .i64 n]] w (ListPost (readsOf 15 a b) w) := by
  have HA := Lib.hid (reads_step w (.cells #[.int .i64 15, .int .i64 d, .int .i64 a, .int .i64 b, .int .i64 n] 27) [a, b] 2 rfl (by omega))
  go_enter Try.func10, Try.ntmps10
  go_wp2_with (go_at_call 24; refine HA.out.mono ?_; rintro e w' ⟨rfl, v, hv, ho, hb⟩; have c0 := hv.cell 0; simp only [List.getElem?_cons_zero] at c0; have HO := Lib.hid ho; have HB := Lib.hid hb; clear hv ho hb)
  go_ret
  exact ⟨_, rfl, HO.out, HB.out⟩

set_option maxHeartbeats 1000000 in
theorem reads_16 (d a b n : Int) (w : World) : Calls Try.prog 10 #[.agg #[.int .i64 16, .int .i64 d, .int .i64 a, .int .i64 b, .int .i64 n]] w (ListPost (readsOf 16 a b) w) := by
  have HA := Lib.hid (reads_step w (.cells #[.int .i64 16, .int .i64 d, .int .i64 a, .int .i64 b, .int .i64 n] 27) [a, b] 2 rfl (by omega))
  go_enter Try.func10, Try.ntmps10
  go_wp2_with (go_at_call 24; refine HA.out.mono ?_; rintro e w' ⟨rfl, v, hv, ho, hb⟩; have c0 := hv.cell 0; simp only [List.getElem?_cons_zero] at c0; have HO := Lib.hid ho; have HB := Lib.hid hb; clear hv ho hb)
  go_ret
  exact ⟨_, rfl, HO.out, HB.out⟩

set_option maxHeartbeats 1000000 in
theorem reads_17 (d a b n : Int) (w : World) : Calls Try.prog 10 #[.agg #[.int .i64 17, .int .i64 d, .int .i64 a, .int .i64 b, .int .i64 n]] w (ListPost (readsOf 17 a b) w) := by
  have HA := Lib.hid (reads_step w (.cells #[.int .i64 17, .int .i64 d, .int .i64 a, .int .i64 b, .int .i64 n] 27) [a, b] 2 rfl (by omega))
  go_enter Try.func10, Try.ntmps10
  go_wp2_with (go_at_call 24; refine HA.out.mono ?_; rintro e w' ⟨rfl, v, hv, ho, hb⟩; have c0 := hv.cell 0; simp only [List.getElem?_cons_zero] at c0; have HO := Lib.hid ho; have HB := Lib.hid hb; clear hv ho hb)
  go_ret
  exact ⟨_, rfl, HO.out, HB.out⟩

set_option maxHeartbeats 1000000 in
theorem reads_18 (d a b n : Int) (w : World) : Calls Try.prog 10 #[.agg #[.int .i64 18, .int .i64 d, .int .i64 a, .int .i64 b, .int .i64 n]] w (ListPost (readsOf 18 a b) w) := by
  have HA := Lib.hid (reads_step w (.cells #[.int .i64 18, .int .i64 d, .int .i64 a, .int .i64 b, .int .i64 n] 27) [a, b] 2 rfl (by omega))
  go_enter Try.func10, Try.ntmps10
  go_wp2_with (go_at_call 24; refine HA.out.mono ?_; rintro e w' ⟨rfl, v, hv, ho, hb⟩; have c0 := hv.cell 0; simp only [List.getElem?_cons_zero] at c0; have HO := Lib.hid ho; have HB := Lib.hid hb; clear hv ho hb)
  go_ret
  exact ⟨_, rfl, HO.out, HB.out⟩

set_option maxHeartbeats 1000000 in
theorem reads_19 (d a b n : Int) (w : World) : Calls Try.prog 10 #[.agg #[.int .i64 19, .int .i64 d, .int .i64 a, .int .i64 b, .int .i64 n]] w (ListPost (readsOf 19 a b) w) := by
  go_enter Try.func10, Try.ntmps10
  go_wp2
  go_ret
  exact ⟨_, rfl, World.ownsRow_nil _ _ _ _, ((Below.refl _ _).alloc (Nat.le_refl _) _).alloc (by simp) _⟩

set_option maxHeartbeats 1000000 in
theorem reads_20 (d a b n : Int) (w : World) : Calls Try.prog 10 #[.agg #[.int .i64 20, .int .i64 d, .int .i64 a, .int .i64 b, .int .i64 n]] w (ListPost (readsOf 20 a b) w) := by
  go_enter Try.func10, Try.ntmps10
  go_wp2
  go_ret
  exact ⟨_, rfl, World.ownsRow_nil _ _ _ _, ((Below.refl _ _).alloc (Nat.le_refl _) _).alloc (by simp) _⟩

set_option maxHeartbeats 1000000 in
theorem reads_21 (d a b n : Int) (w : World) : Calls Try.prog 10 #[.agg #[.int .i64 21, .int .i64 d, .int .i64 a, .int .i64 b, .int .i64 n]] w (ListPost (readsOf 21 a b) w) := by
  have HA := Lib.hid (reads_step w (.cells #[.int .i64 21, .int .i64 d, .int .i64 a, .int .i64 b, .int .i64 n] 27) [a] 1 rfl (by omega))
  go_enter Try.func10, Try.ntmps10
  go_wp2_with (go_at_call 24; refine HA.out.mono ?_; rintro e w' ⟨rfl, v, hv, ho, hb⟩; have c0 := hv.cell 0; simp only [List.getElem?_cons_zero] at c0; have HO := Lib.hid ho; have HB := Lib.hid hb; clear hv ho hb)
  go_ret
  exact ⟨_, rfl, HO.out, HB.out⟩

set_option maxHeartbeats 1000000 in
theorem reads_22 (d a b n : Int) (w : World) : Calls Try.prog 10 #[.agg #[.int .i64 22, .int .i64 d, .int .i64 a, .int .i64 b, .int .i64 n]] w (ListPost (readsOf 22 a b) w) := by
  have HA := Lib.hid (reads_step w (.cells #[.int .i64 22, .int .i64 d, .int .i64 a, .int .i64 b, .int .i64 n] 27) [15] 1 rfl (by omega))
  go_enter Try.func10, Try.ntmps10
  go_wp2_with (go_at_call 24; refine HA.out.mono ?_; rintro e w' ⟨rfl, v, hv, ho, hb⟩; have c0 := hv.cell 0; simp only [List.getElem?_cons_zero] at c0; have HO := Lib.hid ho; have HB := Lib.hid hb; clear hv ho hb)
  go_ret
  exact ⟨_, rfl, HO.out, HB.out⟩

set_option maxHeartbeats 1000000 in
theorem reads_23 (d a b n : Int) (w : World) : Calls Try.prog 10 #[.agg #[.int .i64 23, .int .i64 d, .int .i64 a, .int .i64 b, .int .i64 n]] w (ListPost (readsOf 23 a b) w) := by
  have HA := Lib.hid (reads_step w (.cells #[.int .i64 23, .int .i64 d, .int .i64 a, .int .i64 b, .int .i64 n] 27) [a] 1 rfl (by omega))
  go_enter Try.func10, Try.ntmps10
  go_wp2_with (go_at_call 24; refine HA.out.mono ?_; rintro e w' ⟨rfl, v, hv, ho, hb⟩; have c0 := hv.cell 0; simp only [List.getElem?_cons_zero] at c0; have HO := Lib.hid ho; have HB := Lib.hid hb; clear hv ho hb)
  go_ret
  exact ⟨_, rfl, HO.out, HB.out⟩

set_option maxHeartbeats 1000000 in
theorem reads_24 (d a b n : Int) (w : World) : Calls Try.prog 10 #[.agg #[.int .i64 24, .int .i64 d, .int .i64 a, .int .i64 b, .int .i64 n]] w (ListPost (readsOf 24 a b) w) := by
  go_enter Try.func10, Try.ntmps10
  go_wp2
  go_ret
  exact ⟨_, rfl, World.ownsRow_nil _ _ _ _, ((Below.refl _ _).alloc (Nat.le_refl _) _).alloc (by simp) _⟩

set_option maxHeartbeats 1000000 in
theorem reads_out (op d a b n : Int) (w : World) (h : ¬ (0 ≤ op ∧ op ≤ 24)) : Calls Try.prog 10 #[.agg #[.int .i64 op, .int .i64 d, .int .i64 a, .int .i64 b, .int .i64 n]] w (ListPost (readsOf op a b) w) := by
  have H : Hid (readsOf op a b = []) := by
    unfold Hid readsOf rawReads
    rw [if_neg (by omega), if_neg (by omega), if_neg (by omega), if_neg (by omega), if_neg (by omega)]; rfl
  have t0 : (op == 0) = false := beq_eq_false_iff_ne.2 (by omega)
  have t1 : (op == 1) = false := beq_eq_false_iff_ne.2 (by omega)
  have t2 : (op == 2) = false := beq_eq_false_iff_ne.2 (by omega)
  have t3 : (op == 3) = false := beq_eq_false_iff_ne.2 (by omega)
  have t4 : (op == 4) = false := beq_eq_false_iff_ne.2 (by omega)
  have t5 : (op == 5) = false := beq_eq_false_iff_ne.2 (by omega)
  have t6 : (op == 6) = false := beq_eq_false_iff_ne.2 (by omega)
  have t7 : (op == 7) = false := beq_eq_false_iff_ne.2 (by omega)
  have t8 : (op == 8) = false := beq_eq_false_iff_ne.2 (by omega)
  have t9 : (op == 9) = false := beq_eq_false_iff_ne.2 (by omega)
  have t10 : (op == 10) = false := beq_eq_false_iff_ne.2 (by omega)
  have t11 : (op == 11) = false := beq_eq_false_iff_ne.2 (by omega)
  have t12 : (op == 12) = false := beq_eq_false_iff_ne.2 (by omega)
  have t13 : (op == 13) = false := beq_eq_false_iff_ne.2 (by omega)
  have t14 : (op == 14) = false := beq_eq_false_iff_ne.2 (by omega)
  have t15 : (op == 15) = false := beq_eq_false_iff_ne.2 (by omega)
  have t16 : (op == 16) = false := beq_eq_false_iff_ne.2 (by omega)
  have t17 : (op == 17) = false := beq_eq_false_iff_ne.2 (by omega)
  have t18 : (op == 18) = false := beq_eq_false_iff_ne.2 (by omega)
  have t19 : (op == 19) = false := beq_eq_false_iff_ne.2 (by omega)
  have t20 : (op == 20) = false := beq_eq_false_iff_ne.2 (by omega)
  have t21 : (op == 21) = false := beq_eq_false_iff_ne.2 (by omega)
  have t22 : (op == 22) = false := beq_eq_false_iff_ne.2 (by omega)
  have t23 : (op == 23) = false := beq_eq_false_iff_ne.2 (by omega)
  have t24 : (op == 24) = false := beq_eq_false_iff_ne.2 (by omega)
  clear h
  go_enter Try.func10, Try.ntmps10
  go_wp2
  go_ret
  exact ⟨_, rfl, by rw [H.out]; exact World.ownsRow_nil _ _ _ _, ((Below.refl _ _).alloc (Nat.le_refl _) _).alloc (by simp) _⟩

theorem reads_any (op d a b n : Int) (w : World) : Calls Try.prog 10 #[.agg #[.int .i64 op, .int .i64 d, .int .i64 a, .int .i64 b, .int .i64 n]] w (ListPost (readsOf op a b) w) := by
  by_cases h : 0 ≤ op ∧ op ≤ 24
  · rcases op_cases' h with rfl | rfl | rfl | rfl | rfl | rfl | rfl | rfl | rfl | rfl | rfl | rfl | rfl | rfl | rfl | rfl | rfl | rfl | rfl | rfl | rfl | rfl | rfl | rfl | rfl
    · exact reads_0 d a b n w
    · exact reads_1 d a b n w
    · exact reads_2 d a b n w
    · exact reads_3 d a b n w
    · exact reads_4 d a b n w
    · exact reads_5 d a b n w
    · exact reads_6 d a b n w
    · exact reads_7 d a b n w
    · exact reads_8 d a b n w
    · exact reads_9 d a b n w
    · exact reads_10 d a b n w
    · exact reads_11 d a b n w
    · exact reads_12 d a b n w
    · exact reads_13 d a b n w
    · exact reads_14 d a b n w
    · exact reads_15 d a b n w
    · exact reads_16 d a b n w
    · exact reads_17 d a b n w
    · exact reads_18 d a b n w
    · exact reads_19 d a b n w
    · exact reads_20 d a b n w
    · exact reads_21 d a b n w
    · exact reads_22 d a b n w
    · exact reads_23 d a b n w
    · exact reads_24 d a b n w
  · exact reads_out op d a b n w h
end Go.Proofs.Ytgcbdndfobiphab
