/- slices.Contains at []int; the pipeline's state as a value; timing's Check of a valid state. -/
import Derived.Test.YtgcbdndfobiphabTimeA
import Derived.Test.YtgcbdndfobiphabBlk
namespace Go.Proofs.Ytgcbdndfobiphab
open Go.RowKit
set_option linter.unusedVariables false
set_option linter.unusedSimpArgs false

def IxP (zs : List Int) (x : Int) (w : World) (e : Ending) (w' : World) : Prop := ∃ r : Int, e = .returned (.int .i64 r) ∧ w' = w ∧ decide (0 ≤ r) = zs.contains x

set_option maxHeartbeats 1000000 in
theorem index_ints (w : World) (a : Option Addr) (n c : Nat) (zs : List Int) (x : Int) (h : Came w a n c 1 (zs.map intCells)) :
    Calls Try.prog 38 #[.slice a n c, .int .i64 x] w (IxP zs x w) := by
  have hzl : zs.length = n := by simpa using h.count
  have HZ := Lib.hid hzl
  have hle := h.le
  have hmx := h.max
  have HC := Lib.hid h
  clear h hzl
  go_enter Try.func38, Try.ntmps38
  go_wp2
  go_loop [5, 8] (fun _ u => ∃ k : Nat, k ≤ n ∧ u = .int .i64 (k : Int) ∧ ∀ j, j < k → zs.getD j 0 ≠ x) (fun _ u => n - (intOf u).toNat)
  case atStart => exact ⟨0, Nat.zero_le _, rfl, fun j hj => absurd hj (Nat.not_lt_zero _)⟩
  case round =>
    obtain ⟨k, hk, rfl, hno⟩ := hrel
    have HNO := Lib.hid hno
    clear hno
    by_cases hlt : k < n
    · obtain ⟨b, off, ea, _, hcell⟩ := HC.out.ints (by omega)
      subst ea
      have hkl : k < zs.length := by have := HZ.out; omega
      have cl := hcell k hkl
      obtain ⟨z, hz⟩ : ∃ z, z = zs[k] := ⟨_, rfl⟩
      rw [← hz] at cl
      have HZK : Hid (zs.getD k 0 = z) := by unfold Hid; rw [hz]; simp [List.getD, hkl]
      have HMEM : Hid (z ∈ zs) := by unfold Hid; rw [hz]; exact List.getElem_mem hkl
      clear hcell hz
      by_cases hxz : x = z
      · have q : (x == z) = true := by simp [hxz]
        have HXZ := Lib.hid hxz
        clear hxz
        go_wp2
        go_ret
        refine ⟨_, rfl, rfl, ?_⟩
        rw [decide_eq_true (by omega)]
        symm
        rw [List.contains_iff_mem, HXZ.out]
        exact HMEM.out
      · have q : (x == z) = false := by simp [hxz]
        go_wp2
        go_round
        case rel =>
          refine ⟨k + 1, by omega, by go_num, fun j hj => ?_⟩
          by_cases e : j = k
          · subst e; rw [HZK.out]; exact fun e => hxz e.symm
          · exact HNO.out j (by omega)
        case measure => simp [intOf]; omega
    · have ek : k = n := by omega
      subst ek
      go_wp2
      go_ret
      refine ⟨_, rfl, rfl, ?_⟩
      rw [decide_eq_false (by omega)]
      symm
      rw [← Bool.not_eq_true, List.contains_iff_mem]
      intro hm
      obtain ⟨j, hj, e⟩ := List.getElem_of_mem hm
      exact HNO.out j (by have := HZ.out; omega) (by simp [List.getD, hj, e])

theorem contains_ints (w : World) (a : Option Addr) (n c : Nat) (zs : List Int) (x : Int) (h : Came w a n c 1 (zs.map intCells)) :
    Calls Try.prog 33 #[.slice a n c, .int .i64 x] w fun e w' => e = .returned (.bool (zs.contains x)) ∧ w = w' := by
  have HI := fun w h => index_ints w a n c zs x h
  have HC := Lib.hid h
  obtain ⟨r, hr⟩ : ∃ r, r = zs.contains x := ⟨_, rfl⟩
  have HR := Lib.hid hr
  rw [← hr]
  clear h hr
  go_enter Try.func33, Try.ntmps33
  go_wp2_with fail
  refine (HI _ HC.out).mono ?_
  rintro e w' ⟨q, rfl, rfl, hq⟩
  have HQ := Lib.hid hq
  clear hq
  go_wp2
  go_ret
  exact ⟨ret_bool (by rw [HR.out, ← HQ.out]), rfl⟩

/-- the state of the pipeline -/
structure TS where
  (next div done : Nat)
  rd : Nat → Nat
  wr : List Nat
def stCells (S : TS) (wv : Value) : List Value := [.int .i64 (S.next : Int), .int .i64 (S.div : Int), .int .i64 (S.done : Int), .int .i64 (S.rd 0 : Int), .int .i64 (S.rd 1 : Int), .int .i64 (S.rd 2 : Int), .int .i64 (S.rd 3 : Int), .int .i64 (S.rd 4 : Int), .int .i64 (S.rd 5 : Int), .int .i64 (S.rd 6 : Int), .int .i64 (S.rd 7 : Int), .int .i64 (S.rd 8 : Int), .int .i64 (S.rd 9 : Int), .int .i64 (S.rd 10 : Int), .int .i64 (S.rd 11 : Int), .int .i64 (S.rd 12 : Int), .int .i64 (S.rd 13 : Int), .int .i64 (S.rd 14 : Int), .int .i64 (S.rd 15 : Int), wv]
def wrL (l : List Nat) : List Int := l.map fun (i : Nat) => (i : Int)
structure TS.Ok (S : TS) (B : Nat) : Prop where
  n : S.next ≤ B
  d : S.div ≤ B
  e : S.done ≤ B
  r : ∀ i, S.rd i ≤ B
  w : ∀ x ∈ S.wr, S.next ≤ x ∧ x ≤ B
  s : S.wr.Pairwise (· < ·)
  l : S.wr.length ≤ 16384
def WrAt (w : World) (wv : Value) (l : List Nat) : Prop := ∃ a c, wv = .slice a l.length c ∧ Came w a l.length c 1 ((wrL l).map intCells)
theorem WrAt.below {w w' : World} {wv : Value} {l : List Nat} (h : WrAt w wv l) (hb : Below w.heap.size w w') : WrAt w' wv l := by
  obtain ⟨a, c, e, h⟩ := h
  exact ⟨a, c, e, h.below hb⟩

set_option maxRecDepth 100000 in
set_option maxHeartbeats 4000000 in
theorem tcheck_ok (S : TS) (wv : Value) (w : World) (B : Nat) (hB : B ≤ 1152921504606846976) (ok : S.Ok B) (hw : WrAt w wv S.wr) :
    Calls Try.prog 15 #[.agg (stCells S wv).toArray] w fun e w' => e = .returned (.int .i64 0) ∧ Below w.heap.size w w' := by
  obtain ⟨a, c, rfl, hc⟩ := hw
  have hle := hc.le
  have hmx := hc.max
  have HC := Lib.hid hc
  obtain ⟨o1, o2, o3, o4, o5, o6, o7⟩ := ok
  have HW := Lib.hid o5
  have HS := Lib.hid o6
  have HR := Lib.hid o4
  obtain ⟨nx, dv, dn, rd, wr⟩ := S
  simp only [stCells] at *
  have g0 : ∀ w : World, (Instr.index 22 (.agg #[.int .i64 (rd 0 : Int), .int .i64 (rd 1 : Int), .int .i64 (rd 2 : Int), .int .i64 (rd 3 : Int), .int .i64 (rd 4 : Int), .int .i64 (rd 5 : Int), .int .i64 (rd 6 : Int), .int .i64 (rd 7 : Int), .int .i64 (rd 8 : Int), .int .i64 (rd 9 : Int), .int .i64 (rd 10 : Int), .int .i64 (rd 11 : Int), .int .i64 (rd 12 : Int), .int .i64 (rd 13 : Int), .int .i64 (rd 14 : Int), .int .i64 (rd 15 : Int)]) (.int .i64 0)).run Try.prog w = .ok (.int .i64 (rd 0 : Int)) w := fun _ => by kernel_rfl
  have g1 : ∀ w : World, (Instr.index 22 (.agg #[.int .i64 (rd 0 : Int), .int .i64 (rd 1 : Int), .int .i64 (rd 2 : Int), .int .i64 (rd 3 : Int), .int .i64 (rd 4 : Int), .int .i64 (rd 5 : Int), .int .i64 (rd 6 : Int), .int .i64 (rd 7 : Int), .int .i64 (rd 8 : Int), .int .i64 (rd 9 : Int), .int .i64 (rd 10 : Int), .int .i64 (rd 11 : Int), .int .i64 (rd 12 : Int), .int .i64 (rd 13 : Int), .int .i64 (rd 14 : Int), .int .i64 (rd 15 : Int)]) (.int .i64 1)).run Try.prog w = .ok (.int .i64 (rd 1 : Int)) w := fun _ => by kernel_rfl
  have g2 : ∀ w : World, (Instr.index 22 (.agg #[.int .i64 (rd 0 : Int), .int .i64 (rd 1 : Int), .int .i64 (rd 2 : Int), .int .i64 (rd 3 : Int), .int .i64 (rd 4 : Int), .int .i64 (rd 5 : Int), .int .i64 (rd 6 : Int), .int .i64 (rd 7 : Int), .int .i64 (rd 8 : Int), .int .i64 (rd 9 : Int), .int .i64 (rd 10 : Int), .int .i64 (rd 11 : Int), .int .i64 (rd 12 : Int), .int .i64 (rd 13 : Int), .int .i64 (rd 14 : Int), .int .i64 (rd 15 : Int)]) (.int .i64 2)).run Try.prog w = .ok (.int .i64 (rd 2 : Int)) w := fun _ => by kernel_rfl
  have g3 : ∀ w : World, (Instr.index 22 (.agg #[.int .i64 (rd 0 : Int), .int .i64 (rd 1 : Int), .int .i64 (rd 2 : Int), .int .i64 (rd 3 : Int), .int .i64 (rd 4 : Int), .int .i64 (rd 5 : Int), .int .i64 (rd 6 : Int), .int .i64 (rd 7 : Int), .int .i64 (rd 8 : Int), .int .i64 (rd 9 : Int), .int .i64 (rd 10 : Int), .int .i64 (rd 11 : Int), .int .i64 (rd 12 : Int), .int .i64 (rd 13 : Int), .int .i64 (rd 14 : Int), .int .i64 (rd 15 : Int)]) (.int .i64 3)).run Try.prog w = .ok (.int .i64 (rd 3 : Int)) w := fun _ => by kernel_rfl
  have g4 : ∀ w : World, (Instr.index 22 (.agg #[.int .i64 (rd 0 : Int), .int .i64 (rd 1 : Int), .int .i64 (rd 2 : Int), .int .i64 (rd 3 : Int), .int .i64 (rd 4 : Int), .int .i64 (rd 5 : Int), .int .i64 (rd 6 : Int), .int .i64 (rd 7 : Int), .int .i64 (rd 8 : Int), .int .i64 (rd 9 : Int), .int .i64 (rd 10 : Int), .int .i64 (rd 11 : Int), .int .i64 (rd 12 : Int), .int .i64 (rd 13 : Int), .int .i64 (rd 14 : Int), .int .i64 (rd 15 : Int)]) (.int .i64 4)).run Try.prog w = .ok (.int .i64 (rd 4 : Int)) w := fun _ => by kernel_rfl
  have g5 : ∀ w : World, (Instr.index 22 (.agg #[.int .i64 (rd 0 : Int), .int .i64 (rd 1 : Int), .int .i64 (rd 2 : Int), .int .i64 (rd 3 : Int), .int .i64 (rd 4 : Int), .int .i64 (rd 5 : Int), .int .i64 (rd 6 : Int), .int .i64 (rd 7 : Int), .int .i64 (rd 8 : Int), .int .i64 (rd 9 : Int), .int .i64 (rd 10 : Int), .int .i64 (rd 11 : Int), .int .i64 (rd 12 : Int), .int .i64 (rd 13 : Int), .int .i64 (rd 14 : Int), .int .i64 (rd 15 : Int)]) (.int .i64 5)).run Try.prog w = .ok (.int .i64 (rd 5 : Int)) w := fun _ => by kernel_rfl
  have g6 : ∀ w : World, (Instr.index 22 (.agg #[.int .i64 (rd 0 : Int), .int .i64 (rd 1 : Int), .int .i64 (rd 2 : Int), .int .i64 (rd 3 : Int), .int .i64 (rd 4 : Int), .int .i64 (rd 5 : Int), .int .i64 (rd 6 : Int), .int .i64 (rd 7 : Int), .int .i64 (rd 8 : Int), .int .i64 (rd 9 : Int), .int .i64 (rd 10 : Int), .int .i64 (rd 11 : Int), .int .i64 (rd 12 : Int), .int .i64 (rd 13 : Int), .int .i64 (rd 14 : Int), .int .i64 (rd 15 : Int)]) (.int .i64 6)).run Try.prog w = .ok (.int .i64 (rd 6 : Int)) w := fun _ => by kernel_rfl
  have g7 : ∀ w : World, (Instr.index 22 (.agg #[.int .i64 (rd 0 : Int), .int .i64 (rd 1 : Int), .int .i64 (rd 2 : Int), .int .i64 (rd 3 : Int), .int .i64 (rd 4 : Int), .int .i64 (rd 5 : Int), .int .i64 (rd 6 : Int), .int .i64 (rd 7 : Int), .int .i64 (rd 8 : Int), .int .i64 (rd 9 : Int), .int .i64 (rd 10 : Int), .int .i64 (rd 11 : Int), .int .i64 (rd 12 : Int), .int .i64 (rd 13 : Int), .int .i64 (rd 14 : Int), .int .i64 (rd 15 : Int)]) (.int .i64 7)).run Try.prog w = .ok (.int .i64 (rd 7 : Int)) w := fun _ => by kernel_rfl
  have g8 : ∀ w : World, (Instr.index 22 (.agg #[.int .i64 (rd 0 : Int), .int .i64 (rd 1 : Int), .int .i64 (rd 2 : Int), .int .i64 (rd 3 : Int), .int .i64 (rd 4 : Int), .int .i64 (rd 5 : Int), .int .i64 (rd 6 : Int), .int .i64 (rd 7 : Int), .int .i64 (rd 8 : Int), .int .i64 (rd 9 : Int), .int .i64 (rd 10 : Int), .int .i64 (rd 11 : Int), .int .i64 (rd 12 : Int), .int .i64 (rd 13 : Int), .int .i64 (rd 14 : Int), .int .i64 (rd 15 : Int)]) (.int .i64 8)).run Try.prog w = .ok (.int .i64 (rd 8 : Int)) w := fun _ => by kernel_rfl
  have g9 : ∀ w : World, (Instr.index 22 (.agg #[.int .i64 (rd 0 : Int), .int .i64 (rd 1 : Int), .int .i64 (rd 2 : Int), .int .i64 (rd 3 : Int), .int .i64 (rd 4 : Int), .int .i64 (rd 5 : Int), .int .i64 (rd 6 : Int), .int .i64 (rd 7 : Int), .int .i64 (rd 8 : Int), .int .i64 (rd 9 : Int), .int .i64 (rd 10 : Int), .int .i64 (rd 11 : Int), .int .i64 (rd 12 : Int), .int .i64 (rd 13 : Int), .int .i64 (rd 14 : Int), .int .i64 (rd 15 : Int)]) (.int .i64 9)).run Try.prog w = .ok (.int .i64 (rd 9 : Int)) w := fun _ => by kernel_rfl
  have g10 : ∀ w : World, (Instr.index 22 (.agg #[.int .i64 (rd 0 : Int), .int .i64 (rd 1 : Int), .int .i64 (rd 2 : Int), .int .i64 (rd 3 : Int), .int .i64 (rd 4 : Int), .int .i64 (rd 5 : Int), .int .i64 (rd 6 : Int), .int .i64 (rd 7 : Int), .int .i64 (rd 8 : Int), .int .i64 (rd 9 : Int), .int .i64 (rd 10 : Int), .int .i64 (rd 11 : Int), .int .i64 (rd 12 : Int), .int .i64 (rd 13 : Int), .int .i64 (rd 14 : Int), .int .i64 (rd 15 : Int)]) (.int .i64 10)).run Try.prog w = .ok (.int .i64 (rd 10 : Int)) w := fun _ => by kernel_rfl
  have g11 : ∀ w : World, (Instr.index 22 (.agg #[.int .i64 (rd 0 : Int), .int .i64 (rd 1 : Int), .int .i64 (rd 2 : Int), .int .i64 (rd 3 : Int), .int .i64 (rd 4 : Int), .int .i64 (rd 5 : Int), .int .i64 (rd 6 : Int), .int .i64 (rd 7 : Int), .int .i64 (rd 8 : Int), .int .i64 (rd 9 : Int), .int .i64 (rd 10 : Int), .int .i64 (rd 11 : Int), .int .i64 (rd 12 : Int), .int .i64 (rd 13 : Int), .int .i64 (rd 14 : Int), .int .i64 (rd 15 : Int)]) (.int .i64 11)).run Try.prog w = .ok (.int .i64 (rd 11 : Int)) w := fun _ => by kernel_rfl
  have g12 : ∀ w : World, (Instr.index 22 (.agg #[.int .i64 (rd 0 : Int), .int .i64 (rd 1 : Int), .int .i64 (rd 2 : Int), .int .i64 (rd 3 : Int), .int .i64 (rd 4 : Int), .int .i64 (rd 5 : Int), .int .i64 (rd 6 : Int), .int .i64 (rd 7 : Int), .int .i64 (rd 8 : Int), .int .i64 (rd 9 : Int), .int .i64 (rd 10 : Int), .int .i64 (rd 11 : Int), .int .i64 (rd 12 : Int), .int .i64 (rd 13 : Int), .int .i64 (rd 14 : Int), .int .i64 (rd 15 : Int)]) (.int .i64 12)).run Try.prog w = .ok (.int .i64 (rd 12 : Int)) w := fun _ => by kernel_rfl
  have g13 : ∀ w : World, (Instr.index 22 (.agg #[.int .i64 (rd 0 : Int), .int .i64 (rd 1 : Int), .int .i64 (rd 2 : Int), .int .i64 (rd 3 : Int), .int .i64 (rd 4 : Int), .int .i64 (rd 5 : Int), .int .i64 (rd 6 : Int), .int .i64 (rd 7 : Int), .int .i64 (rd 8 : Int), .int .i64 (rd 9 : Int), .int .i64 (rd 10 : Int), .int .i64 (rd 11 : Int), .int .i64 (rd 12 : Int), .int .i64 (rd 13 : Int), .int .i64 (rd 14 : Int), .int .i64 (rd 15 : Int)]) (.int .i64 13)).run Try.prog w = .ok (.int .i64 (rd 13 : Int)) w := fun _ => by kernel_rfl
  have g14 : ∀ w : World, (Instr.index 22 (.agg #[.int .i64 (rd 0 : Int), .int .i64 (rd 1 : Int), .int .i64 (rd 2 : Int), .int .i64 (rd 3 : Int), .int .i64 (rd 4 : Int), .int .i64 (rd 5 : Int), .int .i64 (rd 6 : Int), .int .i64 (rd 7 : Int), .int .i64 (rd 8 : Int), .int .i64 (rd 9 : Int), .int .i64 (rd 10 : Int), .int .i64 (rd 11 : Int), .int .i64 (rd 12 : Int), .int .i64 (rd 13 : Int), .int .i64 (rd 14 : Int), .int .i64 (rd 15 : Int)]) (.int .i64 14)).run Try.prog w = .ok (.int .i64 (rd 14 : Int)) w := fun _ => by kernel_rfl
  have g15 : ∀ w : World, (Instr.index 22 (.agg #[.int .i64 (rd 0 : Int), .int .i64 (rd 1 : Int), .int .i64 (rd 2 : Int), .int .i64 (rd 3 : Int), .int .i64 (rd 4 : Int), .int .i64 (rd 5 : Int), .int .i64 (rd 6 : Int), .int .i64 (rd 7 : Int), .int .i64 (rd 8 : Int), .int .i64 (rd 9 : Int), .int .i64 (rd 10 : Int), .int .i64 (rd 11 : Int), .int .i64 (rd 12 : Int), .int .i64 (rd 13 : Int), .int .i64 (rd 14 : Int), .int .i64 (rd 15 : Int)]) (.int .i64 15)).run Try.prog w = .ok (.int .i64 (rd 15 : Int)) w := fun _ => by kernel_rfl
  have qr : ∀ i, decide ((rd i : Int) < 0) = false := fun i => decide_eq_false (by omega)
  have q1 : decide ((nx : Int) < 0) = false := decide_eq_false (by omega)
  have q2 : decide ((dv : Int) < 0) = false := decide_eq_false (by omega)
  have q3 : decide ((dn : Int) < 0) = false := decide_eq_false (by omega)
  have q4 : decide ((16384 : Int) < (wr.length : Int)) = false := decide_eq_false (by omega)
  have HB0 : Hid (Below w.heap.size w (w.alloc (.cells #[.int .i64 (nx : Int), .int .i64 (dv : Int), .int .i64 (dn : Int), .int .i64 (rd 0 : Int), .int .i64 (rd 1 : Int), .int .i64 (rd 2 : Int), .int .i64 (rd 3 : Int), .int .i64 (rd 4 : Int), .int .i64 (rd 5 : Int), .int .i64 (rd 6 : Int), .int .i64 (rd 7 : Int), .int .i64 (rd 8 : Int), .int .i64 (rd 9 : Int), .int .i64 (rd 10 : Int), .int .i64 (rd 11 : Int), .int .i64 (rd 12 : Int), .int .i64 (rd 13 : Int), .int .i64 (rd 14 : Int), .int .i64 (rd 15 : Int), .slice a wr.length c] 25))) := (Below.refl _ _).alloc (Nat.le_refl _) _
  clear hc o5 o6 o4
  go_enter Try.func15, Try.ntmps15
  go_wp2_with fail
  have HCW := Lib.hid (HC.out.below HB0.out)
  have hq0 := Blk.new w [.int .i64 (nx : Int), .int .i64 (dv : Int), .int .i64 (dn : Int), .int .i64 (rd 0 : Int), .int .i64 (rd 1 : Int), .int .i64 (rd 2 : Int), .int .i64 (rd 3 : Int), .int .i64 (rd 4 : Int), .int .i64 (rd 5 : Int), .int .i64 (rd 6 : Int), .int .i64 (rd 7 : Int), .int .i64 (rd 8 : Int), .int .i64 (rd 9 : Int), .int .i64 (rd 10 : Int), .int .i64 (rd 11 : Int), .int .i64 (rd 12 : Int), .int .i64 (rd 13 : Int), .int .i64 (rd 14 : Int), .int .i64 (rd 15 : Int), .slice a wr.length c] 25
  generalize w.alloc (.cells #[.int .i64 (nx : Int), .int .i64 (dv : Int), .int .i64 (dn : Int), .int .i64 (rd 0 : Int), .int .i64 (rd 1 : Int), .int .i64 (rd 2 : Int), .int .i64 (rd 3 : Int), .int .i64 (rd 4 : Int), .int .i64 (rd 5 : Int), .int .i64 (rd 6 : Int), .int .i64 (rd 7 : Int), .int .i64 (rd 8 : Int), .int .i64 (rd 9 : Int), .int .i64 (rd 10 : Int), .int .i64 (rd 11 : Int), .int .i64 (rd 12 : Int), .int .i64 (rd 13 : Int), .int .i64 (rd 14 : Int), .int .i64 (rd 15 : Int), .slice a wr.length c] 25) = w1 at HB0 HCW hq0 ⊢
  have d0 := hq0.cell 0
  have d19 := hq0.cell 19
  simp only [List.getElem?_cons_succ, List.getElem?_cons_zero] at d0 d19
  clear hq0
  go_loop [2, 29] (fun z u => z = .int .i64 0 ∧ ∃ k : Nat, k ≤ 16 ∧ u = .int .i64 (k : Int)) (fun z u => 16 - (intOf u).toNat)
  case atStart => exact ⟨rfl, 0, by omega, rfl⟩
  case round =>
    obtain ⟨rfl, k, hk, rfl⟩ := hrel
    by_cases hlt : k < 16
    · have hks : k = 0 ∨ k = 1 ∨ k = 2 ∨ k = 3 ∨ k = 4 ∨ k = 5 ∨ k = 6 ∨ k = 7 ∨ k = 8 ∨ k = 9 ∨ k = 10 ∨ k = 11 ∨ k = 12 ∨ k = 13 ∨ k = 14 ∨ k = 15 := by omega
      rcases hks with rfl | rfl | rfl | rfl | rfl | rfl | rfl | rfl | rfl | rfl | rfl | rfl | rfl | rfl | rfl | rfl
      all_goals
        go_wp2
        go_round
        case rel => first | exact ⟨rfl, 1, by omega, by go_num⟩ | exact ⟨rfl, 2, by omega, by go_num⟩ | exact ⟨rfl, 3, by omega, by go_num⟩ | exact ⟨rfl, 4, by omega, by go_num⟩ | exact ⟨rfl, 5, by omega, by go_num⟩ | exact ⟨rfl, 6, by omega, by go_num⟩ | exact ⟨rfl, 7, by omega, by go_num⟩ | exact ⟨rfl, 8, by omega, by go_num⟩ | exact ⟨rfl, 9, by omega, by go_num⟩ | exact ⟨rfl, 10, by omega, by go_num⟩ | exact ⟨rfl, 11, by omega, by go_num⟩ | exact ⟨rfl, 12, by omega, by go_num⟩ | exact ⟨rfl, 13, by omega, by go_num⟩ | exact ⟨rfl, 14, by omega, by go_num⟩ | exact ⟨rfl, 15, by omega, by go_num⟩ | exact ⟨rfl, 16, by omega, by go_num⟩
        case measure => first | decide | simp [intOf]
    · have ek : k = 16 := by omega
      subst ek
      clear g0 g1 g2 g3 g4 g5 g6 g7 g8 g9 g10 g11 g12 g13 g14 g15 qr q1 q2 q3
      go_wp2_with fail
      go_loop [2, 5, 41] (fun z p u => z = .int .i64 0 ∧ ∃ k : Nat, k ≤ wr.length ∧ u = .int .i64 (k : Int) ∧ p = .int .i64 (if k = 0 then (nx : Int) - 1 else ((wr.getD (k - 1) 0 : Nat) : Int))) (fun z p u => wr.length - (intOf u).toNat)
      case atStart => exact ⟨rfl, 0, Nat.zero_le _, rfl, rfl⟩
      case round =>
        obtain ⟨rfl, k, hk, rfl, rfl⟩ := hrel
        by_cases hlt : k < wr.length
        · obtain ⟨b, off, ea, _, hcell⟩ := HCW.out.ints (by omega)
          subst ea
          have cl := hcell k (by simp [wrL]; exact hlt)
          obtain ⟨z, hz⟩ : ∃ z, z = wr[k] := ⟨_, rfl⟩
          have cl2 : w1.cell? ⟨b, off + k, none⟩ = some (.int .i64 (z : Int)) := by rw [cl, hz]; simp [wrL]
          have HNK : Hid ((if k + 1 = 0 then (nx : Int) - 1 else ((wr.getD (k + 1 - 1) 0 : Nat) : Int)) = (z : Int)) := by unfold Hid; rw [if_neg (by omega)]; simp [List.getD, hlt, hz]
          obtain ⟨la, hla⟩ : ∃ la : Int, la = if k = 0 then (nx : Int) - 1 else ((wr.getD (k - 1) 0 : Nat) : Int) := ⟨_, rfl⟩
          have hzle : (la : Int) < (z : Int) ∧ (z : Int) ≤ B ∧ (nx : Int) ≤ z := by
            have h1 := HW.out z (by rw [hz]; exact List.getElem_mem hlt)

            refine ⟨?_, by omega, by omega⟩
            rw [hla]
            by_cases e : k = 0
            · rw [if_pos e]; omega
            · rw [if_neg e, hz]
              have := List.pairwise_iff_getElem.mp HS.out (k - 1) k (by omega) hlt (by omega)
              simp [List.getD, show k - 1 < wr.length by omega]
              exact this
          rw [← hla]
          have hgl : decide ((z : Int) ≤ la) = false := decide_eq_false (by omega)
          clear hcell cl hz hla
          go_wp2
          go_round
          case rel => exact ⟨rfl, k + 1, by omega, by go_num, by rw [HNK.out]⟩
          case measure => simp [intOf]; omega
        · have ek : k = wr.length := by omega
          subst ek
          obtain ⟨la, hla⟩ : ∃ la : Int, la = if wr.length = 0 then (nx : Int) - 1 else ((wr.getD (wr.length - 1) 0 : Nat) : Int) := ⟨_, rfl⟩
          rw [← hla]
          clear hla
          go_wp2
          go_ret
          exact ⟨rfl, HB0.out⟩
end Go.Proofs.Ytgcbdndfobiphab
