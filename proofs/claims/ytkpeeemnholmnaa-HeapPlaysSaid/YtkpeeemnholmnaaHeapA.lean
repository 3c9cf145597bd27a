/- The heap: its state as numbers, a row of words and the remembered list; the contracts of New, Room, Used, index, inYoung. -/
import Derived.Test.YtkpeeemnholmnaaHeapHdr
import Derived.Test.YtkpeeemnholmnaaMade
import Derived.BigQuiet
import Derived.Deep.QuietTactic
import Derived.StillTailTactics
namespace Go.Proofs.Ytkpeeemnholmnaa
open Go.RowKit
set_option linter.unusedVariables false

/-- the heap as numbers -/
structure HS where
  (n stack nursery young half from_ old : Nat)
  m : Nat → Int
  rem : List Nat

def remL (l : List Nat) : List Value := l.map fun (i : Nat) => Value.int .i64 (i : Int)

structure HeapSt (w : World) (p mb : Nat) (rv : Value) (S : HS) : Prop where
  st : Blk w p 62 [.slice (some ⟨mb, 0, none⟩) S.n S.n, .int .i64 S.stack, .int .i64 S.nursery, .int .i64 S.young, .int .i64 S.half, .int .i64 S.from_, .int .i64 S.old, rv]
  mm : Blk w mb 3 (rowL S.n fun i => .int .i64 (S.m i))
  rr : w.ownsRow 0 3 1 rv S.rem.length (remL S.rem)
  d1 : p ≠ mb
  d2 : rv.ownBlock ≠ some p
  d3 : rv.ownBlock ≠ some mb

/-- what a call on the heap may have changed: the heap's own blocks -/
structure HStep (p mb : Nat) (rv rv' : Value) (w w' : World) : Prop where
  os : w'.os = w.os
  tape : w'.tape = w.tape
  output : w'.output = w.output
  size : w.heap.size ≤ w'.heap.size
  block : ∀ k, k < w.heap.size → k ≠ p → k ≠ mb → rv.ownBlock ≠ some k → w'.heap[k]? = w.heap[k]?
  row : ∀ g, rv'.ownBlock = some g → rv.ownBlock = some g ∨ w.heap.size ≤ g

section
variable {p mb : Nat} {rv rv' rv'' : Value} {w w' w'' : World} {S : HS}
theorem HStep.refl (p mb : Nat) (rv : Value) (w : World) : HStep p mb rv rv w w := ⟨rfl, rfl, rfl, Nat.le_refl _, fun _ _ _ _ _ => rfl, fun g h => .inl h⟩
theorem HStep.trans (h : HStep p mb rv rv' w w') (k : HStep p mb rv' rv'' w' w'') : HStep p mb rv rv'' w w'' := by
  refine ⟨k.os.trans h.os, k.tape.trans h.tape, k.output.trans h.output, Nat.le_trans h.size k.size, fun b hb h1 h2 h3 => ?_, fun g hg => ?_⟩
  · refine (k.block b (Nat.lt_of_lt_of_le hb h.size) h1 h2 fun e => ?_).trans (h.block b hb h1 h2 h3)
    rcases h.row b e with e2 | e2
    · exact h3 e2
    · omega
  · rcases k.row g hg with e | e
    · exact h.row g e
    · right; have := h.size; omega
theorem HStep.below {B : Nat} (h : HStep p mb rv rv' w w') (hp : B ≤ p) (hm : B ≤ mb) (hr : ∀ g, rv.ownBlock = some g → B ≤ g) (hB : B ≤ w.heap.size) : Below B w w' :=
  ⟨h.os, h.tape, h.output, h.size, fun k hk => h.block k (by omega) (by omega) (by omega) (fun e => by have := hr k e; omega)⟩
theorem HStep.of_below (h : Below w.heap.size w w') : HStep p mb rv rv w w' :=
  ⟨h.os, h.tape, h.output, h.size, fun k hk _ _ _ => h.block k hk, fun g hg => .inl hg⟩
theorem HStep.setM (i : Nat) (v : Value) : HStep p mb rv rv w (w.setCell ⟨mb, i, none⟩ v) :=
  ⟨rfl, rfl, rfl, by simp [World.setCell], fun k _ _ h _ => Below.heap_setCell _ _ _ _ h, fun g hg => .inl hg⟩
theorem HStep.setP (i : Nat) (v : Value) : HStep p mb rv rv w (w.setCell ⟨p, i, none⟩ v) :=
  ⟨rfl, rfl, rfl, by simp [World.setCell], fun k _ h _ _ => Below.heap_setCell _ _ _ _ h, fun g hg => .inl hg⟩
theorem HStep.drewN (n : Nat) : HStep p mb rv rv w (w.drewN n) := HStep.of_below (below_drewN_self _ _ _)

theorem HeapSt.later (h : HeapSt w p mb rv S) (hb : Below w.heap.size w w') : HeapSt w' p mb rv S :=
  ⟨h.st.below hb h.st.lt, h.mm.below hb h.mm.lt, h.rr.kept (row := none) ⟨hb.os, hb.tape, hb.output, hb.size, fun k hk _ => hb.block k hk⟩ (by cases hv : rv.ownBlock <;> simp), h.d1, h.d2, h.d3⟩
theorem owns_other {w : World} {B : Nat} {e : TypeId} {size : Nat} {v : Value} {n : Nat} {l : List Value} {a : Addr} (h : w.ownsRow B e size v n l) (ha : v.ownBlock ≠ some a.block) (u : Value) : (w.setCell a u).ownsRow B e size v n l :=
  h.kept (row := some a.block) ⟨rfl, rfl, rfl, by simp [World.setCell], fun k _ hk => Below.heap_setCell _ _ _ _ (fun e => hk (by rw [e]))⟩ (.inr ha)
/-- a word is written -/
theorem HeapSt.setM (h : HeapSt w p mb rv S) (i : Nat) (v : Int) : HeapSt (w.setCell ⟨mb, i, none⟩ (.int .i64 v)) p mb rv { S with m := fun j => if j = i then v else S.m j } := by
  refine ⟨h.st.setOther (a := ⟨mb, i, none⟩) h.d1 _, ?_, owns_other (a := ⟨mb, i, none⟩) h.rr h.d3 _, h.d1, h.d2, h.d3⟩
  refine (h.mm.rowSet i (.int .i64 v)).rowCongr fun j _ => ?_
  show _ = Value.int .i64 (if j = i then v else S.m j)
  split <;> rfl
theorem HeapSt.setP (h : HeapSt w p mb rv S) (i : Nat) (v : Value) {S' : HS} (hl : ([Value.slice (some ⟨mb, 0, none⟩) S.n S.n, .int .i64 S.stack, .int .i64 S.nursery, .int .i64 S.young, .int .i64 S.half, .int .i64 S.from_, .int .i64 S.old, rv] : List Value).set i v = [Value.slice (some ⟨mb, 0, none⟩) S'.n S'.n, .int .i64 S'.stack, .int .i64 S'.nursery, .int .i64 S'.young, .int .i64 S'.half, .int .i64 S'.from_, .int .i64 S'.old, rv])
    (hn : S'.n = S.n) (hm : S'.m = S.m) (hr : S'.rem = S.rem) : HeapSt (w.setCell ⟨p, i, none⟩ v) p mb rv S' := by
  refine ⟨?_, ?_, ?_, h.d1, h.d2, h.d3⟩
  · have := h.st.set i v; rw [hl] at this; exact this
  · rw [hn, hm]; exact h.mm.setOther (a := ⟨p, i, none⟩) (fun e => h.d1 e.symm) _
  · rw [hr]; exact owns_other (a := ⟨p, i, none⟩) h.rr h.d2 _
theorem HeapSt.drewN (h : HeapSt w p mb rv S) (n : Nat) : HeapSt (w.drewN n) p mb rv S := h.later (below_drewN_self _ _ _)

structure HCells (w : World) (p mb : Nat) (rv : Value) (S : HS) : Prop where
  c0 : w.cell? ⟨p, 0, none⟩ = some (.slice (some ⟨mb, 0, none⟩) S.n S.n)
  c1 : w.cell? ⟨p, 1, none⟩ = some (.int .i64 S.stack)
  c2 : w.cell? ⟨p, 2, none⟩ = some (.int .i64 S.nursery)
  c3 : w.cell? ⟨p, 3, none⟩ = some (.int .i64 S.young)
  c4 : w.cell? ⟨p, 4, none⟩ = some (.int .i64 S.half)
  c5 : w.cell? ⟨p, 5, none⟩ = some (.int .i64 S.from_)
  c6 : w.cell? ⟨p, 6, none⟩ = some (.int .i64 S.old)
  c7 : w.cell? ⟨p, 7, none⟩ = some rv
theorem HeapSt.cells (h : HeapSt w p mb rv S) : HCells w p mb rv S :=
  ⟨by rw [h.st.cell]; rfl, by rw [h.st.cell]; rfl, by rw [h.st.cell]; rfl, by rw [h.st.cell]; rfl, by rw [h.st.cell]; rfl, by rw [h.st.cell]; rfl, by rw [h.st.cell]; rfl, by rw [h.st.cell]; rfl⟩
theorem HeapSt.word (h : HeapSt w p mb rv S) {i : Nat} (hi : i < S.n) : w.cell? ⟨mb, i, none⟩ = some (.int .i64 (S.m i)) := h.mm.row hi
end

/-- the bounds of a heap -/
structure HS.Ok (S : HS) : Prop where
  n : 32 ≤ S.n ∧ S.n ≤ 65536
  st : S.stack ≤ S.n
  nu : 5 ≤ S.nursery
  yo : 1 ≤ S.young ∧ S.young ≤ S.nursery
  fr : S.nursery ≤ S.from_
  ol : S.from_ ≤ S.old ∧ S.old ≤ S.from_ + S.half
  to : S.from_ + S.half ≤ S.stack
  two : S.nursery + 2 * S.half ≤ S.stack

def HS.new (n s u : Nat) : HS := ⟨n, n - s, 1 + u, 1, (n - s - (1 + u)) / 2, 1 + u, 1 + u, fun _ => 0, []⟩
theorem HS.new_ok (n s u : Nat) (h1 : 32 ≤ n ∧ n ≤ 65536) (h2 : 4 ≤ s ∧ s ≤ n / 2) (h3 : 4 ≤ u ∧ u ≤ (n - s) / 2) : (HS.new n s u).Ok := by
  constructor <;> simp [HS.new] <;> omega

def HNewPost (S : HS) (w : World) (e : Ending) (w' : World) : Prop :=
  ∃ p mb, e = .returned (.tuple #[.pointer (some ⟨p, 0, none⟩), .int .i64 0]) ∧ HeapSt w' p mb (.slice none 0 0) S ∧ w.heap.size ≤ p ∧ w.heap.size ≤ mb ∧ Below w.heap.size w w'

theorem Try.infoH3 : (Try.prog.info? 3).map (fun i => (i.zero, i.size, i.bytes)) = some (some (.int .i64 0), 1, 8) := by kernel_rfl

set_option maxRecDepth 100000 in
set_option maxHeartbeats 1000000 in
theorem hnew_ok (n s u : Nat) (w : World) (h1 : 32 ≤ n ∧ n ≤ 65536) (h2 : 4 ≤ s ∧ s ≤ n / 2) (h3 : 4 ≤ u ∧ u ≤ (n - s) / 2) :
    Calls Try.prog 7 #[.int .i64 (n : Int), .int .i64 (s : Int), .int .i64 (u : Int)] w (HNewPost (HS.new n s u) w) := by
  have hmk := run_make_rep (P := Try.prog) 22 3 (.int .i64 0) 8 Try.underlying22 Try.infoH3 rfl n (by omega) (by omega)
  have g1 : inB (n : Int) 32 65536 = true := inB_true.2 (by omega)
  have g2 : inB (s : Int) 4 ((n : Int) / 2) = true := inB_true.2 (by omega)
  have g3 : inB (u : Int) 4 (((n : Int) - (s : Int)) / 2) = true := inB_true.2 (by omega)
  go_enter Try.func7, Try.ntmps7
  go_wp2_with (go_at_call 23; refine (in_any _ _ _ _).mono ?_; rintro e w' ⟨rfl, rfl⟩)
  have hq := Blk.new (w.alloc (Obj.cells (rowL n fun x => Value.int IntKind.i64 0).toArray 3)) [Value.slice (some { block := w.heap.size, off := 0 }) n n, Value.int IntKind.i64 ((n : Int) - s), Value.int IntKind.i64 (1 + u), Value.int IntKind.i64 1, Value.int IntKind.i64 0, Value.int IntKind.i64 (1 + u), Value.int IntKind.i64 0, Value.slice none 0 0] 62
  have hm0 := (Blk.new w (rowL n fun x => Value.int IntKind.i64 0) 3).alloc (Obj.cells #[Value.slice (some { block := w.heap.size, off := 0 }) n n, Value.int IntKind.i64 ((n : Int) - s), Value.int IntKind.i64 (1 + u), Value.int IntKind.i64 1, Value.int IntKind.i64 0, Value.int IntKind.i64 (1 + u), Value.int IntKind.i64 0, Value.slice none 0 0] 62)
  have hb0 := ((Below.refl w.heap.size w).alloc (Nat.le_refl _) (Obj.cells (rowL n fun x => Value.int IntKind.i64 0).toArray 3)).alloc (by simp) (Obj.cells #[Value.slice (some { block := w.heap.size, off := 0 }) n n, Value.int IntKind.i64 ((n : Int) - s), Value.int IntKind.i64 (1 + u), Value.int IntKind.i64 1, Value.int IntKind.i64 0, Value.int IntKind.i64 (1 + u), Value.int IntKind.i64 0, Value.slice none 0 0] 62)
  rw [World.size_alloc] at hq
  generalize (w.alloc (Obj.cells (rowL n fun x => Value.int IntKind.i64 0).toArray 3)).alloc _ = w1 at hq hm0 hb0 ⊢
  have q1 := hq.cell 1
  have q2 := hq.cell 2
  have q5 := hq.cell 5
  have q4 := hq.cell 4
  have q6 := hq.cell 6
  have f4 := hq.free 4
  have f6 := hq.free 6
  simp only [List.getElem?_cons_zero, List.getElem?_cons_succ] at q1 q2 q4 q5 q6
  go_still_tail 13, (by kernel_rfl)
  change wpList _ _ _ _ _ w1.drew
  go_wp2
  go_ret2
  have H4 := (hq.set 4 (.int .i64 (((n : Int) - s - (1 + u)) / 2))).set 6 (.int .i64 (1 + u))
  have HM := (hm0.setOther (a := ⟨w.heap.size + 1, 4, none⟩) (by simp) (.int .i64 (((n : Int) - s - (1 + u)) / 2))).setOther (a := ⟨w.heap.size + 1, 6, none⟩) (by simp) (.int .i64 (1 + u))
  refine ⟨w.heap.size + 1, w.heap.size, rfl, ⟨?_, HM, World.ownsRow_nil _ _ _ _, by omega, by simp [Value.ownBlock], by simp [Value.ownBlock]⟩, by omega, by omega, ?_⟩
  · have e1 : ((HS.new n s u).stack : Int) = (n : Int) - s := by simp [HS.new]; omega
    have e2 : ((HS.new n s u).half : Int) = ((n : Int) - s - (1 + u)) / 2 := by simp [HS.new]; omega
    have e3 : ((HS.new n s u).nursery : Int) = 1 + u := by simp [HS.new]
    have e5 : ((HS.new n s u).from_ : Int) = 1 + u := by simp [HS.new]
    have e6 : ((HS.new n s u).old : Int) = 1 + u := by simp [HS.new]
    rw [e1, e2, e3, e5, e6]
    exact H4
  · exact ((hb0.setCell (p := ⟨w.heap.size + 1, 4, none⟩) (by simp) _).setCell (p := ⟨w.heap.size + 1, 6, none⟩) (by simp) _).drew

def RoomB (S : HS) (size : Nat) : Bool := if S.nursery - 1 < size + 1 then decide (S.old + size + 1 ≤ S.from_ + S.half) else decide (S.young + size + 1 ≤ S.nursery)

def BoolN (b : Bool) (w : World) (e : Ending) (w' : World) : Prop := ∃ n, e = .returned (.bool b) ∧ w' = w.drewN n

set_option maxHeartbeats 400000 in
theorem room_any (w : World) (p mb : Nat) (rv : Value) (S : HS) (h : HeapSt w p mb rv S) (ok : S.Ok) (size : Nat) (hs : size ≤ 4095) :
    Calls Try.prog 12 #[.pointer (some ⟨p, 0, none⟩), .int .i64 (size : Int)] w (BoolN (RoomB S size) w) := by
  obtain ⟨c0, c1, c2, c3, c4, c5, c6, c7⟩ := h.cells
  obtain ⟨⟨o1, o2⟩, o3, o4, ⟨o5, o6⟩, o7, ⟨o8, o9⟩, o10, o11⟩ := ok
  clear h c0 c1 c7
  have H : Hid (RoomB S size = if S.nursery - 1 < size + 1 then decide (S.old + size + 1 ≤ S.from_ + S.half) else decide (S.young + size + 1 ≤ S.nursery)) := rfl
  generalize RoomB S size = r at H ⊢
  obtain ⟨n, st, nu, yo, ha, fr, ol, m, rem⟩ := S
  simp only at *
  by_cases h1 : nu - 1 < size + 1
  · have q1 : (nu : Int) - 1 < (size : Int) + 1 := by omega
    have H2 : Hid (r = decide ((ol : Int) + size + 1 ≤ (fr : Int) + ha)) := by
      unfold Hid; rw [H.out, if_pos h1, decide_eq_decide]; omega
    clear H h1
    go_enter Try.func12, Try.ntmps12
    go_wp2
    go_quiet (fail)
    go_wp2
    go_ret
    exact ⟨_, ret_bool H2.out.symm, rfl⟩
  · have q1 : ¬ (nu : Int) - 1 < (size : Int) + 1 := by omega
    have H2 : Hid (r = decide ((yo : Int) + size + 1 ≤ (nu : Int))) := by
      unfold Hid; rw [H.out, if_neg h1, decide_eq_decide]; omega
    clear H h1
    go_enter Try.func12, Try.ntmps12
    go_wp2
    go_quiet (fail)
    go_wp2
    go_ret
    exact ⟨_, ret_bool H2.out.symm, rfl⟩
end Go.Proofs.Ytkpeeemnholmnaa
