/- The contract of (*level).access. -/
import Derived.Test.YtkpeeemnholmnabLinesC
import Derived.Test.YtkpeeemnholmnabEagerF
import Derived.Test.YtkpeeemnholmnabMade
import Derived.StillTailTactics
namespace Go.Proofs.Ytkpeeemnholmnab
open Go.RowKit
set_option linter.unusedVariables false
set_option linter.unusedSimpArgs false

theorem insert_line (w : World) (v : Value) (xs : List CLine) (x : CLine) (vb : Nat) (h : Lines w v xs) (hl : xs.length ≤ 1000000) (hv : w.heap[vb]? = some (.cells #[.int .i64 x.1, .bool x.2] 90 (0, 0))) (hne : v.ownBlock ≠ some vb) :
    Calls Try.prog 47 #[v, .int .i64 0, .slice (some ⟨vb, 0, none⟩) 1 1] w (InsPost v (x :: xs) w) := by
  cases xs with
  | nil => exact insert_none w v x vb h hv
  | cons y ys =>
    rcases h with ⟨_, h⟩ | ⟨g, cap, cur, rfl, hg, h1, h2, h3, h4⟩
    · cases h
    · by_cases hc : (y :: ys).length + 1 ≤ cap
      · exact insert_room w g cap _ _ cur x vb rfl (by simp) hc h2 hg h3 h4 hv (fun e => hne (by rw [e]; rfl))
      · obtain rfl : cap = (y :: ys).length := by omega
        exact insert_grow w g _ _ cur x vb rfl (by simp) hl hg h3 h4 hv

theorem delete_any (w : World) (v : Value) (xs : List CLine) (h : Lines w v xs) (i : Nat) (hi : i < xs.length) :
    Calls Try.prog 46 #[v, .int .i64 (i : Int), .int .i64 ((i : Int) + 1)] w (DelPost v (xs.eraseIdx i) w) := by
  rcases h with ⟨_, rfl⟩ | ⟨g, cap, cur, rfl, hg, h1, h2, h3, h4⟩
  · simp at hi
  · obtain ⟨q, hq⟩ : ∃ q, xs.length = q + 1 := ⟨xs.length - 1, by omega⟩
    have := delete_line w g cap q i xs cur hq (by omega) (by omega) h2 hg h3 h4
    rw [hq]
    exact this

/-- an access, on a set's lines -/
def acc (ways : Nat) (line : Int) (wr : Bool) (xs : List CLine) : List CLine :=
  if h : lineAt line xs < xs.length then (line, xs[lineAt line xs].2 || wr) :: xs.eraseIdx (lineAt line xs)
  else if xs.length = ways then (line, wr) :: xs.dropLast else (line, wr) :: xs
def accHit (line : Int) (xs : List CLine) : Bool := decide (lineAt line xs < xs.length)
def accOld (ways : Nat) (line : Int) (xs : List CLine) : CLine := if lineAt line xs < xs.length then (0, false) else if xs.length = ways then xs.getLastD (0, false) else (0, false)

/-- what an access may have changed: the set's cell and the set's row -/
structure AKeep (sb : Nat) (v : Value) (w w' : World) : Prop where
  os : w'.os = w.os
  tape : w'.tape = w.tape
  output : w'.output = w.output
  size : w.heap.size ≤ w'.heap.size
  block : ∀ k, k < w.heap.size → k ≠ sb → v.ownBlock ≠ some k → w'.heap[k]? = w.heap[k]?
section
variable {sb : Nat} {v : Value} {w w' w'' : World}
theorem AKeep.refl (sb : Nat) (v : Value) (w : World) : AKeep sb v w w := ⟨rfl, rfl, rfl, Nat.le_refl _, fun _ _ _ _ => rfl⟩
theorem AKeep.trans {v' : Value} (h : AKeep sb v w w') (k : AKeep sb v' w' w'') (hv : ∀ g, v'.ownBlock = some g → v.ownBlock = some g ∨ w.heap.size ≤ g) : AKeep sb v w w'' :=
  ⟨k.os.trans h.os, k.tape.trans h.tape, k.output.trans h.output, Nat.le_trans h.size k.size, fun b hb h1 h2 => (k.block b (Nat.lt_of_lt_of_le hb h.size) h1 (fun e => by
    rcases hv b e with e2 | e2
    · exact h2 e2
    · omega)).trans (h.block b hb h1 h2)⟩
theorem AKeep.of_below (h : Below w.heap.size w w') : AKeep sb v w w' := ⟨h.os, h.tape, h.output, h.size, fun k hk _ _ => h.block k hk⟩
theorem AKeep.of_grown (h : w.grownBy w' v.ownBlock) : AKeep sb v w w' := ⟨h.os, h.tape, h.output, h.size, fun k hk _ h2 => h.block k hk (fun e => h2 e.symm)⟩
theorem AKeep.set (i : Nat) (u : Value) : AKeep sb v w (w.setCell ⟨sb, i, none⟩ u) := ⟨rfl, rfl, rfl, by simp [World.setCell], fun k _ h _ => Below.heap_setCell _ _ _ _ h⟩
theorem AKeep.new {b : Nat} (hb : w.heap.size ≤ b) (h : AKeep sb v w w') (i : Nat) (u : Value) : AKeep sb v w (w'.setCell ⟨b, i, none⟩ u) :=
  ⟨h.os, h.tape, h.output, Nat.le_trans h.size (by simp [World.setCell]), fun k hk h1 h2 => (Below.heap_setCell _ _ _ _ (by show k ≠ b; omega)).trans (h.block k hk h1 h2)⟩
theorem AKeep.alloc (h : AKeep sb v w w') (o : Obj) : AKeep sb v w (w'.alloc o) :=
  ⟨h.os, h.tape, h.output, Nat.le_trans h.size (by simp), fun k hk h1 h2 => (Below.heap_alloc _ _ _ (Nat.lt_of_lt_of_le hk h.size)).trans (h.block k hk h1 h2)⟩
theorem AKeep.drew (h : AKeep sb v w w') : AKeep sb v w w'.drew := ⟨h.os, h.tape, h.output, h.size, h.block⟩
theorem AKeep.drewN (h : AKeep sb v w w') (n : Nat) : AKeep sb v w (w'.drewN n) := ⟨h.os, h.tape, h.output, h.size, h.block⟩
end

/-- two blocks are as they were -/
def Keep2 (a b : Nat) (w w' : World) : Prop := w'.heap[a]? = w.heap[a]? ∧ w'.heap[b]? = w.heap[b]?
instance (a b : Nat) : PreR (Keep2 a b) := ⟨fun w => ⟨rfl, rfl⟩, fun h k => ⟨k.1.trans h.1, k.2.trans h.2⟩⟩
theorem Keep2.cell1 {a b i : Nat} {w w' : World} (h : Keep2 a b w w') : w'.cell? ⟨a, i, none⟩ = w.cell? ⟨a, i, none⟩ := World.cell?_of_block (a := ⟨a, i, none⟩) h.1
theorem Keep2.cell2 {a b i : Nat} {w w' : World} (h : Keep2 a b w w') : w'.cell? ⟨b, i, none⟩ = w.cell? ⟨b, i, none⟩ := World.cell?_of_block (a := ⟨b, i, none⟩) h.2

theorem lastD_at {xs : List CLine} {q : Nat} (h : xs.length = q + 1) : xs.getLastD (0, false) = xs[q]'(by omega) := by
  have h0 : xs ≠ [] := by intro e; simp [e] at h
  rw [List.getLastD_eq_getLast?, List.getLast?_eq_some_getLast h0, Option.getD_some, List.getLast_eq_getElem]
  congr 1
  omega
theorem Lines.cut {w : World} {g q cap : Nat} {xs : List CLine} (h : Lines w (.slice (some ⟨g, 0, none⟩) (q + 1) cap) xs) (hq : xs.length = q + 1) : Lines w (.slice (some ⟨g, 0, none⟩) q cap) xs.dropLast := by
  rcases h with ⟨h1, _⟩ | ⟨g', cap', cur, hv, hg, h1, h2, h3, h4⟩
  · simp at h1
  · simp only [Value.slice.injEq, Option.some.injEq, Addr.mk.injEq, and_true, true_and] at hv
    obtain ⟨rfl, _, rfl⟩ := hv
    refine .inr ⟨g, cap, cur, by rw [List.length_dropLast, hq]; rfl, hg, by rw [List.length_dropLast]; omega, h2, h3, fun j hj => ?_⟩
    have hj2 : j < xs.length := by rw [List.length_dropLast] at hj; omega
    have := h4 j hj2
    rw [List.getElem_dropLast]
    exact this

def AccPost (sb idx sets : Nat) (sv : Nat → Value) (ways : Nat) (line : Int) (wr : Bool) (xs : List CLine) (w : World) (e : Ending) (w' : World) : Prop :=
  ∃ v', e = .returned (.tuple #[.bool (accHit line xs), .int .i64 (accOld ways line xs).1, .bool (accOld ways line xs).2]) ∧ Lines w' v' (acc ways line wr xs) ∧
    (v'.ownBlock = (sv idx).ownBlock ∨ ∃ g, v'.ownBlock = some g ∧ w.heap.size ≤ g) ∧ Blk w' sb 40 (rowL sets (fun i => if i = idx then v' else sv i)) ∧ AKeep sb (sv idx) w w'

set_option maxRecDepth 100000 in
set_option maxHeartbeats 4000000 in
theorem access_core (w : World) (p sb idx words sets ways ln word : Nat) (wr : Bool) (sv : Nat → Value) (xs : List CLine)
    (c0 : w.cell? ⟨p, 0, none⟩ = some (.int .i64 (words : Int))) (c1 : w.cell? ⟨p, 1, none⟩ = some (.int .i64 (sets : Int))) (c2 : w.cell? ⟨p, 2, none⟩ = some (.int .i64 (ways : Int))) (c4 : w.cell? ⟨p, 4, none⟩ = some (.slice (some ⟨sb, 0, none⟩) sets sets))
    (hs : Blk w sb 40 (rowL sets sv)) (hx : Lines w (sv idx) xs) (hps : p ≠ sb) (hpv : (sv idx).ownBlock ≠ some p) (hsv : (sv idx).ownBlock ≠ some sb)
    (hw : 1 ≤ words ∧ words ≤ 64) (hse : 1 ≤ sets ∧ sets ≤ 256) (hwa : 1 ≤ ways ∧ ways ≤ 8) (hwo : word ≤ 65535) (hln : ln = word / words) (hix : idx = ln % sets) (hxl : xs.length ≤ ways) :
    Calls Try.prog 30 #[.pointer (some ⟨p, 0, none⟩), .int .i64 (word : Int), .bool wr] w (AccPost sb idx sets sv ways (ln : Int) wr xs w) := by
  have e1 : (word : Int).tdiv (words : Int) = (ln : Int) := by rw [hln]; exact (Int.tdiv_eq_ediv_of_nonneg (Int.natCast_nonneg _)).trans rfl
  have e2 : (ln : Int).tmod (sets : Int) = (idx : Int) := by rw [hix]; exact (Int.tmod_eq_emod_of_nonneg (Int.natCast_nonneg _)).trans rfl
  have hil : idx < sets := by rw [hix]; exact Nat.mod_lt _ (by omega)
  have hll : ln ≤ 65535 := by rw [hln]; exact Nat.le_trans (Nat.div_le_self _ _) hwo
  have z0 : ((words : Int) == 0) = false := beq_eq_false_iff_ne.2 (by omega)
  have z1 : ((sets : Int) == 0) = false := beq_eq_false_iff_ne.2 (by omega)
  have cv := hs.row hil
  obtain ⟨v, hv⟩ : ∃ v, v = sv idx := ⟨_, rfl⟩
  rw [← hv] at cv hx hpv hsv
  have HV := Lib.hid hv
  have HX := Lib.hid hx
  have HS := Lib.hid hs
  have hpl := World.block_lt_of_cell? w _ c0
  have hsl := hs.lt
  clear hln hix hv hx hs
  go_enter Try.func30, Try.ntmps30
  go_wp2_with fail
  go_quiet (fail)
  go_wp2_with fail
  have hba : Below w.heap.size w (w.alloc (.cells #[.int .i64 (ln : Int)] 3)) := (Below.refl _ _).alloc (Nat.le_refl _) _
  have hca : (w.alloc (.cells #[.int .i64 (ln : Int)] 3)).cell? ⟨w.heap.size, 0, none⟩ = some (.int .i64 (ln : Int)) := by rw [World.cell?_alloc_new]; rfl
  refine (indexFunc_lines (ln : Int) w.heap.size ((w.alloc (.cells #[.int .i64 (ln : Int)] 3)).drewN nq) v xs (HX.out.below (hba.trans (below_drewN_self _ _ _))) hca).mono ?_
  rintro e w2 ⟨rfl, hb2⟩
  have hb3 := (hba.trans (below_drewN_self w.heap.size _ nq)).trans (hb2.mono (B' := w.heap.size) (by show w.heap.size ≤ (w.alloc _).heap.size; simp))
  have hA2 : w2.cell? ⟨w.heap.size, 0, none⟩ = some (.int .i64 (ln : Int)) := (hb2.cell (p := ⟨w.heap.size, 0, none⟩) (by show w.heap.size < (w.alloc _).heap.size; simp)).trans hca
  have hsz2 : w.heap.size < w2.heap.size := World.block_lt_of_cell? w2 _ hA2
  have d2 : w2.cell? ⟨p, 2, none⟩ = some (.int .i64 (ways : Int)) := (hb3.cell (p := ⟨p, 2, none⟩) hpl).trans c2
  have dv : w2.cell? ⟨sb, idx, none⟩ = some v := (hb3.cell (p := ⟨sb, idx, none⟩) hsl).trans cv
  have HS2 := Lib.hid (HS.out.below hb3 hsl)
  have HX2 := Lib.hid (HX.out.below hb3)
  have HB3 := Lib.hid hb3
  obtain ⟨A, hAA⟩ : ∃ A, A = w.heap.size := ⟨_, rfl⟩
  rw [← hAA] at hA2 hsz2 ⊢
  have HAA := Lib.hid hAA
  clear hba hca hb2 hb3 c0 c1 c2 c4 cv HX hAA
  have HSP := Lib.hid hsv
  have HIX : Hid (lineIx (ln : Int) xs = if lineAt (ln : Int) xs < xs.length then (lineAt (ln : Int) xs : Int) else -1) := rfl
  have hsl2 : sb < w2.heap.size := World.block_lt_of_cell? w2 _ dv
  have f0 := HS2.out.free idx
  by_cases hhit : lineAt (ln : Int) xs < xs.length
  · have hix : lineIx (ln : Int) xs = (lineAt (ln : Int) xs : Int) := by rw [HIX.out, if_pos hhit]
    rw [hix]
    have HACC : Hid (acc ways (ln : Int) wr xs = ((ln : Int), xs[lineAt (ln : Int) xs].2 || wr) :: xs.eraseIdx (lineAt (ln : Int) xs)) := by unfold Hid acc; rw [dif_pos hhit]
    have HHIT : Hid (accHit (ln : Int) xs = true) := decide_eq_true hhit
    have HOLD : Hid (accOld ways (ln : Int) xs = (0, false)) := by unfold Hid accOld; rw [if_pos hhit]
    obtain ⟨g, cap, ev, hle, hcm, hgl, hcell⟩ := HX2.out.has (by omega)
    have hfst : xs[lineAt (ln : Int) xs].1 = (ln : Int) := by
      have := List.findIdx_getElem (xs := xs) (p := fun x : CLine => x.1 == (ln : Int)) (w := hhit)
      exact eq_of_beq this
    obtain ⟨h1, h2⟩ := hcell _ hhit
    rw [hfst] at h1
    have HDEL := fun wx hw => delete_any wx v xs hw (lineAt (ln : Int) xs) hhit
    have hel : (xs.eraseIdx (lineAt (ln : Int) xs)).length ≤ ways := by rw [List.length_eraseIdx_of_lt hhit]; omega
    obtain ⟨d, hd⟩ : ∃ d, d = xs[lineAt (ln : Int) xs].2 := ⟨_, rfl⟩
    rw [← hd] at h2 HACC
    obtain ⟨i, hi⟩ : ∃ i, i = lineAt (ln : Int) xs := ⟨_, rfl⟩
    rw [← hi] at h1 h2 HACC HDEL hhit hel ⊢
    clear hix HIX hcell hfst hd hi
    subst ev
    obtain ⟨n, hn⟩ : ∃ n, n = xs.length := ⟨_, rfl⟩
    rw [← hn] at HDEL dv hhit hle hxl ⊢
    have hgs : g ≠ sb := fun e => HSP.out (by rw [e]; rfl)
    have HN := Lib.hid hn
    clear hsv hn
    go_wp2_with fail
    have hl3 := HX2.out.below (w' := w2.alloc (.cells #[.int .i64 (ln : Int), .bool d] 90)) ((Below.refl _ _).alloc (Nat.le_refl _) _)
    rw [← HN.out] at hl3
    refine (HDEL _ hl3).mono ?_
    rintro e w4 ⟨v4, rfl, hl4, hg4, ho4⟩
    obtain ⟨a4, k4, c4, rfl⟩ : ∃ a k c, v4 = .slice a k c := by obtain ⟨a, c, hh, _⟩ := hl4.form; exact ⟨a, _, c, hh⟩
    have hX4 : Blk w4 w2.heap.size 90 [.int .i64 (ln : Int), .bool d] := (Blk.new w2 [.int .i64 (ln : Int), .bool d] 90).of_heap (hg4.block _ (by simp) (by simp [Value.ownBlock]; omega))
    have hS4 : Blk w4 sb 40 (rowL sets sv) := (HS2.out.alloc _).of_heap (hg4.block _ (by simp; omega) (by simp [Value.ownBlock]; omega))
    have hk4 : AKeep sb (sv idx) w w4 := by
      have h9 := ((AKeep.of_below (sb := sb) (v := sv idx) HB3.out).alloc (.cells #[.int .i64 (ln : Int), .bool d] 90)).trans (AKeep.of_grown hg4) (fun g' hg' => .inl (by rw [← HV.out]; exact hg'))
      exact h9
    have hsz4 : w2.heap.size < w4.heap.size := hX4.lt
    have ho5 : (Value.slice a4 k4 c4).ownBlock = (sv idx).ownBlock := by rw [ho4, ← HV.out]; rfl
    have d4 := hS4.row hil
    have f4 := hS4.free idx
    have hX1 := hX4.cell 1
    simp only [List.getElem?_cons_succ, List.getElem?_cons_zero] at hX1
    have fX := hX4.free 1
    have hlX : Lines (w4.setCell ⟨sb, idx, none⟩ (Value.slice a4 k4 c4)) (Value.slice a4 k4 c4) (xs.eraseIdx i) := hl4.keep fun g' hg' => Below.heap_setCell _ _ _ _ (fun e => hgs ((Option.some.inj (hg'.symm.trans ho4)).symm.trans e))
    have hXX : Blk (w4.setCell ⟨sb, idx, none⟩ (Value.slice a4 k4 c4)) w2.heap.size 90 [.int .i64 (ln : Int), .bool d] := hX4.setOther (a := ⟨sb, idx, none⟩) (by show w2.heap.size ≠ sb; omega) _
    have hSS : Blk (w4.setCell ⟨sb, idx, none⟩ (Value.slice a4 k4 c4)) sb 40 (rowL sets (fun j => if j = idx then (Value.slice a4 k4 c4) else sv j)) := hS4.rowSet idx (Value.slice a4 k4 c4)
    have hKK : AKeep sb (sv idx) w (w4.setCell ⟨sb, idx, none⟩ (Value.slice a4 k4 c4)) := hk4.trans (AKeep.set (v := (Value.slice a4 k4 c4)) idx (Value.slice a4 k4 c4)) (fun g' hg' => .inl (by rw [← ho5]; exact hg'))
    have hvX : (Value.slice a4 k4 c4).ownBlock ≠ some w2.heap.size := fun e => by
      rw [ho4] at e
      simp [Value.ownBlock] at e
      omega
    obtain ⟨X, hXe⟩ : ∃ X, X = w2.heap.size := ⟨_, rfl⟩
    rw [← hXe] at hX1 fX hXX hvX hsz4 ⊢
    have hXA : A < X := by omega
    have hsbX : sb ≠ X := by omega
    obtain ⟨cu, hcu⟩ : ∃ u, u = sv idx := ⟨_, rfl⟩
    rw [← hcu] at d4
    obtain ⟨b, hb⟩ : ∃ b, b = (d || wr) := ⟨_, rfl⟩
    rw [← hb] at HACC
    have HBB := Lib.hid hb
    obtain ⟨w5, hw5⟩ : ∃ w5, w5 = (w4.setCell ⟨sb, idx, none⟩ (Value.slice a4 k4 c4)).setCell ⟨X, 1, none⟩ (.bool b) := ⟨_, rfl⟩
    have T1 : Hid (Blk w5 X 90 [.int .i64 (ln : Int), .bool b]) := by unfold Hid; rw [hw5]; exact hXX.set 1 (.bool b)
    have T2 : Hid (Blk w5 sb 40 (rowL sets (fun j => if j = idx then (Value.slice a4 k4 c4) else sv j))) := by unfold Hid; rw [hw5]; exact hSS.setOther (a := ⟨X, 1, none⟩) hsbX _
    have T3 : Hid (Lines w5 (Value.slice a4 k4 c4) (xs.eraseIdx i)) := by
      unfold Hid; rw [hw5]
      exact hlX.keep fun g' hg' => Below.heap_setCell _ _ _ _ (fun e => hvX (by rw [hg']; exact congrArg some e))
    have T4 : Hid (AKeep sb (sv idx) w w5) := by unfold Hid; rw [hw5]; exact hKK.new (by have := HAA.out; omega) 1 (.bool b)
    have T5 : Hid (∀ q, (Value.slice a4 k4 c4).ownBlock = some q → (sv idx).ownBlock = some q ∨ w.heap.size ≤ q) := fun q hq => .inl (by rw [← ho5]; exact hq)
    have T6 : Hid ((Value.slice a4 k4 c4).ownBlock ≠ some sb) := fun e => hgs (Option.some.inj (ho4.symm.trans e))
    have TX := Lib.hid hvX
    have HW5 := Lib.hid hw5
    clear hXX hSS hlX hKK hvX hX4 hS4 hk4 hl4 hg4 ho4 ho5 hl3 hcu hXe HDEL h1 h2 dv d2 f0 hA2 HX2 HS2 HB3 hsl2 hpv hw5 hb
    cases d
    all_goals
      go_wp2_with fail
      first
        | rw [show (w4.setCell ⟨sb, idx, none⟩ (Value.slice a4 k4 c4)).setCell ⟨X, 1, none⟩ (.bool wr) = w5 from by rw [HW5.out, HBB.out]; rfl]
        | rw [show (w4.setCell ⟨sb, idx, none⟩ (Value.slice a4 k4 c4)).setCell ⟨X, 1, none⟩ (.bool true) = w5 from by rw [HW5.out, HBB.out]; rfl]
      have e5 : w5.cell? ⟨sb, idx, none⟩ = some (Value.slice a4 k4 c4) := by rw [T2.out.row hil, if_pos rfl]
      have eX0 := T1.out.cell 0
      have eX1 := T1.out.cell 1
      simp only [List.getElem?_cons_succ, List.getElem?_cons_zero] at eX0 eX1
      clear d4 f4 hX1 fX HW5
      have r1 : ∀ x : AfterR (Keep2 sb X) w5.drew, x.world.cell? ⟨sb, idx, none⟩ = some (Value.slice a4 k4 c4) := fun x => (Keep2.cell1 x.rel).trans e5
      have r2 : ∀ x : AfterR (Keep2 sb X) w5.drew, x.world.cell? ⟨X, 0, none⟩ = some (.int .i64 (ln : Int)) := fun x => (Keep2.cell2 x.rel).trans eX0
      have r3 : ∀ x : AfterR (Keep2 sb X) w5.drew, x.world.cell? ⟨X, 1, none⟩ = some (.bool b) := fun x => (Keep2.cell2 x.rel).trans eX1
      refine wp_region_eagerRF (Keep2 sb X) [(0, true), (1, true), (2, true), (3, true), (4, true), (5, false), (6, false), (7, true), (8, false)] (by kernel_rfl) (by kernel_rfl) ?_
      repeat (refine eagR_readF rfl ?_; go_big_quiet_step (fail); refine wpQuiet_nil ?_)
      clear r1 r2 r3
      refine eagR_doesF rfl rfl ?_
      intro K hK
      go_simp
      have hsb5 : sb < w5.heap.size := T2.out.lt
      have hX5 : X < w5.heap.size := T1.out.lt
      refine hK _ _ (fun _ => ⟨Below.heap_alloc w5 _ _ hsb5, Below.heap_alloc w5 _ _ hX5⟩) ?_
      clear hK K
      go_simp
      refine eagR_doesF rfl rfl ?_
      intro K hK
      go_simp
      have hv5 : (w5.alloc (.cells #[.int .i64 (ln : Int), .bool b] 90)).drew.heap[w5.heap.size]? = some (.cells #[.int .i64 (ln : Int), .bool b] 90 (0, 0)) := heap_alloc_new w5 _
      have hl5 : Lines (w5.alloc (.cells #[.int .i64 (ln : Int), .bool b] 90)).drew (Value.slice a4 k4 c4) (xs.eraseIdx i) := T3.out.below (((Below.refl _ _).alloc (Nat.le_refl _) _).drew)
      refine (insert_line _ (Value.slice a4 k4 c4) (xs.eraseIdx i) ((ln : Int), b) w5.heap.size hl5 (by omega) hv5 (fun e => Nat.lt_irrefl _ (T3.out.lt e))).mono ?_
      rintro e w7 ⟨v7, rfl, hl7, hg7, ho7, hnn⟩
      obtain ⟨a7, k7, c7, rfl⟩ : ∃ a k c, v7 = .slice a k c := by obtain ⟨a, c, hh, _⟩ := hl7.form; exact ⟨a, _, c, hh⟩
      have hsb7 : w7.heap[sb]? = (w5.alloc (.cells #[.int .i64 (ln : Int), .bool b] 90)).drew.heap[sb]? := hg7.block sb (by show sb < (w5.alloc _).heap.size; simp; omega) (fun e => T6.out e.symm)
      have hX7 : w7.heap[X]? = (w5.alloc (.cells #[.int .i64 (ln : Int), .bool b] 90)).drew.heap[X]? := hg7.block X (by show X < (w5.alloc _).heap.size; simp; omega) (fun e => TX.out e.symm)
      refine hK _ _ (fun _ => ⟨hsb7, hX7⟩) ?_
      have hS7 : Blk w7 sb 40 (rowL sets (fun j => if j = idx then (Value.slice a4 k4 c4) else sv j)) := (T2.out.alloc (.cells #[.int .i64 (ln : Int), .bool b] 90)).of_heap hsb7
      have e7 : w7.cell? ⟨sb, idx, none⟩ = some (Value.slice a4 k4 c4) := by rw [hS7.row hil, if_pos rfl]
      have f7 := hS7.free idx
      have hk7 := ((T4.out.alloc (.cells #[.int .i64 (ln : Int), .bool b] 90)).drew).trans (AKeep.of_grown hg7) T5.out
      have ho8 : ∀ q, (Value.slice a7 k7 c7).ownBlock = some q → (sv idx).ownBlock = some q ∨ w.heap.size ≤ q := fun q hq => by
        rcases ho7 with h9 | ⟨g9, h9, h10⟩
        · exact T5.out q (by rw [← h9]; exact hq)
        · right
          rw [hq] at h9
          have := Option.some.inj h9
          have h11 := T4.out.size
          have h12 : w5.heap.size ≤ (w5.alloc (.cells #[.int .i64 (ln : Int), .bool b] 90)).drew.heap.size := by show _ ≤ (w5.alloc _).heap.size; simp
          omega
      have hne7 : (Value.slice a7 k7 c7).ownBlock ≠ some sb := fun e => by
        rcases ho7 with h9 | ⟨g9, h9, h10⟩
        · exact T6.out (by rw [← h9]; exact e)
        · rw [e] at h9
          have := Option.some.inj h9
          have h12 : w5.heap.size ≤ (w5.alloc (.cells #[.int .i64 (ln : Int), .bool b] 90)).drew.heap.size := by show _ ≤ (w5.alloc _).heap.size; simp
          omega
      have HL8 : Hid (Lines (w7.setCell ⟨sb, idx, none⟩ (Value.slice a7 k7 c7)) (Value.slice a7 k7 c7) (acc ways (ln : Int) wr xs)) := by
        unfold Hid; rw [HACC.out]
        exact hl7.keep fun g' hg' => Below.heap_setCell _ _ _ _ (fun e => hne7 (by rw [hg']; exact congrArg some e))
      have HS8 : Hid (Blk (w7.setCell ⟨sb, idx, none⟩ (Value.slice a7 k7 c7)) sb 40 (rowL sets (fun j => if j = idx then (Value.slice a7 k7 c7) else sv j))) :=
        (hS7.rowSet idx (Value.slice a7 k7 c7)).rowCongr fun j _ => by by_cases e : j = idx <;> simp [e]
      have HK8 : Hid (AKeep sb (sv idx) w (w7.setCell ⟨sb, idx, none⟩ (Value.slice a7 k7 c7))) := hk7.trans (AKeep.set (v := (Value.slice a7 k7 c7)) idx _) ho8
      have HO8 := Lib.hid ho8
      have HNN := Lib.hid hnn
      clear hK K e5 eX0 eX1 hv5 hl5 hl7 hg7 ho7 hnn hsb7 hX7 hS7 hk7 ho8 hne7
      go_simp
      refine eagR_readF rfl ?_; go_big_quiet_step (fail); refine wpQuiet_nil ?_
      refine eagR_doesF rfl rfl ?_
      intro K hK
      go_simp
      refine hK _ _ (fun h => False.elim (Bool.false_ne_true (h.symm.trans (by kernel_rfl)))) ?_
      clear hK K
      go_simp
      refine eagR_endF ?_
      go_wp2_with fail
      go_ret3
      refine ⟨_, ?_, HL8.out, ?_, HS8.out, HK8.out⟩
      · rw [HHIT.out, HOLD.out]; rfl
      · obtain ⟨q, hq⟩ := Option.ne_none_iff_exists'.1 HNN.out
        rcases HO8.out q hq with h9 | h9
        · exact .inl (hq.trans h9.symm)
        · exact .inr ⟨q, hq, h9⟩
  · have hix : lineIx (ln : Int) xs = -1 := by rw [HIX.out, if_neg hhit]
    rw [hix]
    have HHIT : Hid (accHit (ln : Int) xs = false) := decide_eq_false hhit
    obtain ⟨av, cv, ev, hle, hcm⟩ := HX2.out.form
    obtain ⟨n, hn⟩ : ∃ n, n = xs.length := ⟨_, rfl⟩
    rw [← hn] at ev hle hxl
    subst ev
    have HN := Lib.hid hn
    clear hix HIX hn
    by_cases hfull : n = ways
    · have zf : ((n : Int) == (ways : Int)) = true := by rw [hfull]; exact beq_self_eq_true _
      have hxn : ¬ lineAt (ln : Int) xs < xs.length := hhit
      have hxw : xs.length = ways := by rw [← HN.out]; exact hfull
      have HACC : Hid (acc ways (ln : Int) wr xs = ((ln : Int), wr) :: xs.dropLast) := by unfold Hid acc; rw [dif_neg hxn, if_pos hxw]
      have HOLD : Hid (accOld ways (ln : Int) xs = xs.getLastD (0, false)) := by unfold Hid accOld; rw [if_neg hxn, if_pos hxw]
      obtain ⟨q, hq⟩ : ∃ q, n = q + 1 := ⟨n - 1, by omega⟩
      have hql : xs.length = q + 1 := by rw [← HN.out]; exact hq
      obtain ⟨g, cap, ev, hj1, hcm2, hgl, hcell⟩ := HX2.out.has (by omega)
      simp only [Value.slice.injEq] at ev
      obtain ⟨rfl, hj2, rfl⟩ := ev
      clear hj1 hj2
      have hcl := hcell q (by omega)
      have HLAST : Hid (xs.getLastD (0, false) = xs[q]'(by omega)) := lastD_at hql
      obtain ⟨h1, h2⟩ := hcl
      obtain ⟨l, hl⟩ : ∃ l, l = xs[q]'(by omega) := ⟨_, rfl⟩
      rw [← hl] at h1 h2 HLAST
      have hel : xs.dropLast.length ≤ ways := by rw [List.length_dropLast]; omega
      have HQL := Lib.hid hql
      have hgs : g ≠ sb := fun e => HSP.out (by rw [e]; rfl)
      have hpl2 : p < w2.heap.size := World.block_lt_of_cell? w2 _ d2
      subst hq
      have zf2 : ((q : Int) + 1 == (ways : Int)) = true := by simpa using zf
      clear hfull hl hcell hxn hxw hql
      go_wp2_with fail
      go_quiet (fail)
      go_wp2_with fail
      have hb8 : Below w2.heap.size w2 ((w2.alloc (.cells #[.int .i64 (ln : Int), .bool false] 90)).drewN nq) := ((Below.refl w2.heap.size w2).alloc (Nat.le_refl _) _).trans (below_drewN_self _ _ _)
      have hX8 := (Blk.new w2 [.int .i64 (ln : Int), .bool false] 90).drewN nq
      obtain ⟨X, hXe⟩ : ∃ X, X = w2.heap.size := ⟨_, rfl⟩
      generalize (w2.alloc (.cells #[.int .i64 (ln : Int), .bool false] 90)).drewN nq = w8 at hb8 hX8 ⊢
      have HS8 := HS2.out.below hb8 hsl2
      have HX8 := HX2.out.below hb8
      have HB8 := HB3.out.trans (hb8.mono HB3.out.size)
      have dv8 := (hb8.cell (p := ⟨sb, idx, none⟩) hsl2).trans dv
      have h18 := (hb8.cell (p := ⟨g, q * 2, none⟩) hgl).trans h1
      have h28 := (hb8.cell (p := ⟨g, q * 2 + 1, none⟩) hgl).trans h2
      rw [← hXe] at hX8 hsz2 hsl2 hgl ⊢
      have hw8 : X < w8.heap.size := hX8.lt
      have HX8' := Lib.hid hX8
      have HS8' := Lib.hid HS8
      have HL8 := Lib.hid HX8
      have HB8' := Lib.hid HB8
      clear hb8 hX8 HS8 HX8 HB8 hXe HS2 HX2 HB3 dv h1 h2 d2 hA2 f0 hpl2 hsv hpv
      have r1 : ∀ x : AfterR (Keep2 sb g) w8.drew, x.world.cell? ⟨sb, idx, none⟩ = some (Value.slice (some ⟨g, 0, none⟩) (q + 1) cv) := fun x => (Keep2.cell1 x.rel).trans dv8
      have r2 : ∀ x : AfterR (Keep2 sb g) w8.drew, x.world.cell? ⟨g, q * 2, none⟩ = some (.int .i64 l.1) := fun x => (Keep2.cell2 x.rel).trans h18
      have r3 : ∀ x : AfterR (Keep2 sb g) w8.drew, x.world.cell? ⟨g, q * 2 + 1, none⟩ = some (.bool l.2) := fun x => (Keep2.cell2 x.rel).trans h28
      refine wp_region_eagerRF (Keep2 sb g) [(0, true), (1, true), (2, true), (3, true), (4, true), (5, true), (6, true), (7, true), (8, true), (9, true), (10, false), (11, false)] (by kernel_rfl) (by kernel_rfl) ?_
      repeat (refine eagR_readF rfl ?_; go_big_quiet_step (fail); refine wpQuiet_nil ?_)
      clear r1 r2 r3
      refine eagR_doesF rfl rfl ?_
      intro K hK
      go_simp
      refine hK _ _ (fun _ => ⟨Below.heap_alloc w8 _ _ (by omega), Below.heap_alloc w8 _ _ (by omega)⟩) ?_
      clear hK K
      go_simp
      refine eagR_doesF rfl rfl ?_
      intro K hK
      go_simp
      refine hK _ _ (fun _ => ⟨(Below.heap_alloc w8 _ _ (by omega)).trans (Below.heap_alloc w8 _ _ (by omega)).symm, (Below.heap_alloc w8 _ _ (by omega)).trans (Below.heap_alloc w8 _ _ (by omega)).symm⟩) ?_
      clear hK K
      go_simp
      refine eagR_endF ?_
      have hb9 : Below w8.heap.size w8 (w8.alloc (.cells #[.int .i64 l.1, .bool l.2] 90)).drew := ((Below.refl w8.heap.size w8).alloc (Nat.le_refl _) _).drew
      have hL9 : Blk (w8.alloc (.cells #[.int .i64 l.1, .bool l.2] 90)).drew w8.heap.size 90 [.int .i64 l.1, .bool l.2] := (Blk.new w8 [.int .i64 l.1, .bool l.2] 90).drew
      obtain ⟨Lb, hLb⟩ : ∃ b, b = w8.heap.size := ⟨_, rfl⟩
      rw [← hLb] at hL9 ⊢
      generalize (w8.alloc (.cells #[.int .i64 l.1, .bool l.2] 90)).drew = w9 at hb9 hL9 ⊢
      have l0 := hL9.cell 0
      have l1 := hL9.cell 1
      simp only [List.getElem?_cons_succ, List.getElem?_cons_zero] at l0 l1
      have dv9 := (hb9.cell (p := ⟨sb, idx, none⟩) (by show sb < w8.heap.size; omega)).trans dv8
      have HX9 := Lib.hid (HX8'.out.below hb9 (by omega))
      have HS9 := Lib.hid (HS8'.out.below hb9 (by omega))
      have HL9 := Lib.hid ((HL8.out.below hb9).cut HQL.out)
      have HB9 := Lib.hid (HB8'.out.trans (hb9.mono HB8'.out.size))
      have hw9 : X < w9.heap.size := HX9.out.lt
      clear hb9 hL9 hLb HX8' HS8' HL8 HB8' dv8 h18 h28
      go_wp2_with fail
      go_quiet (fail)
      go_wp2_with fail
      have hb10 : Below w9.heap.size w9 (w9.drewN nq) := below_drewN_self _ _ _
      have dv10 := (hb10.cell (p := ⟨sb, idx, none⟩) (by show sb < w9.heap.size; omega)).trans dv9
      have HX10 := Lib.hid (HX9.out.below hb10 hw9)
      have HS10 := Lib.hid (HS9.out.below hb10 (by omega))
      have HL10 := Lib.hid (HL9.out.below hb10)
      have HB10 := Lib.hid (HB9.out.trans (hb10.mono HB9.out.size))
      generalize w9.drewN nq = w10 at dv10 HX10 HS10 HL10 HB10 hb10 ⊢
      have f10 := HS10.out.free idx
      have fX10 := HX10.out.free 1
      have cX10 := HX10.out.cell 1
      simp only [List.getElem?_cons_succ, List.getElem?_cons_zero] at cX10
      clear hb10 dv9 HX9 HS9 HL9 HB9 l0 l1
      have r1 : ∀ x : AfterR (Keep2 sb sb) w10.drew, x.world.cell? ⟨sb, idx, none⟩ = some (Value.slice (some ⟨g, 0, none⟩) (q + 1) cv) := fun x => (Keep2.cell1 x.rel).trans dv10
      refine wp_region_eagerRF (Keep2 sb sb) [(0, true), (1, true), (2, true), (3, true), (4, true), (5, true), (6, true), (7, true), (8, true), (9, true), (10, true), (11, false)] (by kernel_rfl) (by kernel_rfl) ?_
      repeat (refine eagR_readF rfl ?_; go_big_quiet_step (fail); refine wpQuiet_nil ?_)
      clear r1
      refine eagR_doesF rfl rfl ?_
      intro K hK
      go_simp
      refine hK _ _ (fun h => False.elim (Bool.false_ne_true (h.symm.trans (by kernel_rfl)))) ?_
      clear hK K
      go_simp
      refine eagR_endF ?_
      have hsbX : sb ≠ X := by omega
      have HXs := HX10.out.setOther (a := ⟨sb, idx, none⟩) (by show X ≠ sb; omega) (Value.slice (some ⟨g, 0, none⟩) q cv)
      have cXs := HXs.cell 1
      have fXs := HXs.free 1
      simp only [List.getElem?_cons_succ, List.getElem?_cons_zero] at cXs
      go_wp2_with fail
      have hS5 : Blk (((w10.setCell ⟨sb, idx, none⟩ (Value.slice (some ⟨g, 0, none⟩) q cv)).setCell ⟨X, 1, none⟩ (.bool wr)).drew) sb 40 (rowL sets (fun j => if j = idx then (Value.slice (some ⟨g, 0, none⟩) q cv) else sv j)) := ((HS10.out.rowSet idx (Value.slice (some ⟨g, 0, none⟩) q cv)).setOther (a := ⟨X, 1, none⟩) hsbX _).drew
      have hown : (Value.slice (some ⟨g, 0, none⟩) q cv).ownBlock = (sv idx).ownBlock := by rw [← HV.out]; rfl
      have T1 : Hid (Blk (((w10.setCell ⟨sb, idx, none⟩ (Value.slice (some ⟨g, 0, none⟩) q cv)).setCell ⟨X, 1, none⟩ (.bool wr)).drew) X 90 [.int .i64 (ln : Int), .bool wr]) := (HXs.set 1 (.bool wr)).drew
      have T2 := Lib.hid hS5
      have T3 : Hid (Lines (((w10.setCell ⟨sb, idx, none⟩ (Value.slice (some ⟨g, 0, none⟩) q cv)).setCell ⟨X, 1, none⟩ (.bool wr)).drew) (Value.slice (some ⟨g, 0, none⟩) q cv) xs.dropLast) := HL10.out.keep fun g' hg' => by
        obtain rfl : g = g' := by simpa [Value.ownBlock] using hg'
        exact (Below.heap_setCell _ _ _ _ (by show g ≠ X; omega)).trans (Below.heap_setCell _ _ _ _ hgs)
      have T4 : Hid (AKeep sb (sv idx) w (((w10.setCell ⟨sb, idx, none⟩ (Value.slice (some ⟨g, 0, none⟩) q cv)).setCell ⟨X, 1, none⟩ (.bool wr)).drew)) :=
        (((AKeep.of_below (sb := sb) (v := sv idx) HB10.out).trans (AKeep.set (v := sv idx) idx (Value.slice (some ⟨g, 0, none⟩) q cv)) (fun q hq => .inl hq)).new (by have := HAA.out; omega) 1 (.bool wr)).drew
      have T5 : Hid (∀ q', (Value.slice (some ⟨g, 0, none⟩) q cv).ownBlock = some q' → (sv idx).ownBlock = some q' ∨ w.heap.size ≤ q') := fun q' hq => .inl (by rw [← hown]; exact hq)
      have T6 : Hid ((Value.slice (some ⟨g, 0, none⟩) q cv).ownBlock ≠ some sb) := fun e => hgs (Option.some.inj e)
      have TX : Hid ((Value.slice (some ⟨g, 0, none⟩) q cv).ownBlock ≠ some X) := fun e => by
        have h9 : g = X := Option.some.inj e
        omega
      obtain ⟨w5, hw5⟩ : ∃ w5, w5 = ((w10.setCell ⟨sb, idx, none⟩ (Value.slice (some ⟨g, 0, none⟩) q cv)).setCell ⟨X, 1, none⟩ (.bool wr)).drew := ⟨_, rfl⟩
      rw [← hw5] at T1 T2 T3 T4 ⊢
      clear hS5 hown hw5 HX10 HS10 HL10 HB10 HXs cXs fXs f10 fX10 cX10 dv10 hw9 hw8
      have e5 : w5.cell? ⟨sb, idx, none⟩ = some (Value.slice (some ⟨g, 0, none⟩) q cv) := by rw [T2.out.row hil, if_pos rfl]
      have eX0 := T1.out.cell 0
      have eX1 := T1.out.cell 1
      simp only [List.getElem?_cons_succ, List.getElem?_cons_zero] at eX0 eX1
      have r1 : ∀ x : AfterR (Keep2 sb X) w5.drew, x.world.cell? ⟨sb, idx, none⟩ = some (Value.slice (some ⟨g, 0, none⟩) q cv) := fun x => (Keep2.cell1 x.rel).trans e5
      have r2 : ∀ x : AfterR (Keep2 sb X) w5.drew, x.world.cell? ⟨X, 0, none⟩ = some (.int .i64 (ln : Int)) := fun x => (Keep2.cell2 x.rel).trans eX0
      have r3 : ∀ x : AfterR (Keep2 sb X) w5.drew, x.world.cell? ⟨X, 1, none⟩ = some (.bool wr) := fun x => (Keep2.cell2 x.rel).trans eX1
      refine wp_region_eagerRF (Keep2 sb X) [(0, true), (1, true), (2, true), (3, true), (4, true), (5, false), (6, false), (7, true), (8, false)] (by kernel_rfl) (by kernel_rfl) ?_
      repeat (refine eagR_readF rfl ?_; go_big_quiet_step (fail); refine wpQuiet_nil ?_)
      clear r1 r2 r3
      refine eagR_doesF rfl rfl ?_
      intro K hK
      go_simp
      have hsb5 : sb < w5.heap.size := T2.out.lt
      have hX5 : X < w5.heap.size := T1.out.lt
      refine hK _ _ (fun _ => ⟨Below.heap_alloc w5 _ _ hsb5, Below.heap_alloc w5 _ _ hX5⟩) ?_
      clear hK K
      go_simp
      refine eagR_doesF rfl rfl ?_
      intro K hK
      go_simp
      have hv5 : (w5.alloc (.cells #[.int .i64 (ln : Int), .bool wr] 90)).drew.heap[w5.heap.size]? = some (.cells #[.int .i64 (ln : Int), .bool wr] 90 (0, 0)) := heap_alloc_new w5 _
      have hl5 : Lines (w5.alloc (.cells #[.int .i64 (ln : Int), .bool wr] 90)).drew (Value.slice (some ⟨g, 0, none⟩) q cv) xs.dropLast := T3.out.below (((Below.refl _ _).alloc (Nat.le_refl _) _).drew)
      refine (insert_line _ (Value.slice (some ⟨g, 0, none⟩) q cv) xs.dropLast ((ln : Int), wr) w5.heap.size hl5 (by omega) hv5 (fun e => Nat.lt_irrefl _ (T3.out.lt e))).mono ?_
      rintro e w7 ⟨v7, rfl, hl7, hg7, ho7, hnn⟩
      obtain ⟨a7, k7, c7, rfl⟩ : ∃ a k c, v7 = .slice a k c := by obtain ⟨a, c, hh, _⟩ := hl7.form; exact ⟨a, _, c, hh⟩
      have hsb7 : w7.heap[sb]? = (w5.alloc (.cells #[.int .i64 (ln : Int), .bool wr] 90)).drew.heap[sb]? := hg7.block sb (by show sb < (w5.alloc _).heap.size; simp; omega) (fun e => T6.out e.symm)
      have hX7 : w7.heap[X]? = (w5.alloc (.cells #[.int .i64 (ln : Int), .bool wr] 90)).drew.heap[X]? := hg7.block X (by show X < (w5.alloc _).heap.size; simp; omega) (fun e => TX.out e.symm)
      refine hK _ _ (fun _ => ⟨hsb7, hX7⟩) ?_
      have hS7 : Blk w7 sb 40 (rowL sets (fun j => if j = idx then (Value.slice (some ⟨g, 0, none⟩) q cv) else sv j)) := (T2.out.alloc (.cells #[.int .i64 (ln : Int), .bool wr] 90)).of_heap hsb7
      have e7 : w7.cell? ⟨sb, idx, none⟩ = some (Value.slice (some ⟨g, 0, none⟩) q cv) := by rw [hS7.row hil, if_pos rfl]
      have f7 := hS7.free idx
      have hk7 := ((T4.out.alloc (.cells #[.int .i64 (ln : Int), .bool wr] 90)).drew).trans (AKeep.of_grown hg7) T5.out
      have ho8 : ∀ q, (Value.slice a7 k7 c7).ownBlock = some q → (sv idx).ownBlock = some q ∨ w.heap.size ≤ q := fun q hq => by
        rcases ho7 with h9 | ⟨g9, h9, h10⟩
        · exact T5.out q (by rw [← h9]; exact hq)
        · right
          rw [hq] at h9
          have := Option.some.inj h9
          have h11 := T4.out.size
          have h12 : w5.heap.size ≤ (w5.alloc (.cells #[.int .i64 (ln : Int), .bool wr] 90)).drew.heap.size := by show _ ≤ (w5.alloc _).heap.size; simp
          omega
      have hne7 : (Value.slice a7 k7 c7).ownBlock ≠ some sb := fun e => by
        rcases ho7 with h9 | ⟨g9, h9, h10⟩
        · exact T6.out (by rw [← h9]; exact e)
        · rw [e] at h9
          have := Option.some.inj h9
          have h12 : w5.heap.size ≤ (w5.alloc (.cells #[.int .i64 (ln : Int), .bool wr] 90)).drew.heap.size := by show _ ≤ (w5.alloc _).heap.size; simp
          omega
      have HL8 : Hid (Lines (w7.setCell ⟨sb, idx, none⟩ (Value.slice a7 k7 c7)) (Value.slice a7 k7 c7) (acc ways (ln : Int) wr xs)) := by
        unfold Hid; rw [HACC.out]
        exact hl7.keep fun g' hg' => Below.heap_setCell _ _ _ _ (fun e => hne7 (by rw [hg']; exact congrArg some e))
      have HS8 : Hid (Blk (w7.setCell ⟨sb, idx, none⟩ (Value.slice a7 k7 c7)) sb 40 (rowL sets (fun j => if j = idx then (Value.slice a7 k7 c7) else sv j))) :=
        (hS7.rowSet idx (Value.slice a7 k7 c7)).rowCongr fun j _ => by by_cases e : j = idx <;> simp [e]
      have HK8 : Hid (AKeep sb (sv idx) w (w7.setCell ⟨sb, idx, none⟩ (Value.slice a7 k7 c7))) := hk7.trans (AKeep.set (v := (Value.slice a7 k7 c7)) idx _) ho8
      have HO8 := Lib.hid ho8
      have HNN := Lib.hid hnn
      clear hK K e5 eX0 eX1 hv5 hl5 hl7 hg7 ho7 hnn hsb7 hX7 hS7 hk7 ho8 hne7
      go_simp
      refine eagR_readF rfl ?_; go_big_quiet_step (fail); refine wpQuiet_nil ?_
      refine eagR_doesF rfl rfl ?_
      intro K hK
      go_simp
      refine hK _ _ (fun h => False.elim (Bool.false_ne_true (h.symm.trans (by kernel_rfl)))) ?_
      clear hK K
      go_simp
      refine eagR_endF ?_
      go_wp2_with fail
      go_ret3
      refine ⟨_, ?_, HL8.out, ?_, HS8.out, HK8.out⟩
      · rw [HHIT.out, HOLD.out, HLAST.out]; rfl
      · obtain ⟨q, hq⟩ := Option.ne_none_iff_exists'.1 HNN.out
        rcases HO8.out q hq with h9 | h9
        · exact .inl (hq.trans h9.symm)
        · exact .inr ⟨q, hq, h9⟩
    · have zf : ((n : Int) == (ways : Int)) = false := beq_eq_false_iff_ne.2 (by omega)
      have HACC : Hid (acc ways (ln : Int) wr xs = ((ln : Int), wr) :: xs) := by unfold Hid acc; rw [dif_neg hhit, if_neg (by rw [← HN.out]; exact hfull)]
      have HOLD : Hid (accOld ways (ln : Int) xs = (0, false)) := by unfold Hid accOld; rw [if_neg hhit, if_neg (by rw [← HN.out]; exact hfull)]
      have hel : xs.length ≤ ways := by rw [← HN.out]; exact hxl
      have hpl2 : p < w2.heap.size := World.block_lt_of_cell? w2 _ d2
      clear hfull
      go_wp2_with fail
      go_quiet (fail)
      go_wp2_with fail
      have hb5 : Below w2.heap.size w2 (((w2.alloc (.cells #[.int .i64 (ln : Int), .bool false] 90)).drewN nq).setCell ⟨w2.heap.size, 1, none⟩ (.bool wr)) := (((Below.refl w2.heap.size w2).alloc (Nat.le_refl _) _).trans (below_drewN_self _ _ _)).setCell (p := ⟨w2.heap.size, 1, none⟩) (Nat.le_refl _) _
      have T1 : Hid (Blk (((w2.alloc (.cells #[.int .i64 (ln : Int), .bool false] 90)).drewN nq).setCell ⟨w2.heap.size, 1, none⟩ (.bool wr)) w2.heap.size 90 [.int .i64 (ln : Int), .bool wr]) := ((Blk.new w2 [.int .i64 (ln : Int), .bool false] 90).drewN nq).set 1 (.bool wr)
      have T2 : Hid (Blk (((w2.alloc (.cells #[.int .i64 (ln : Int), .bool false] 90)).drewN nq).setCell ⟨w2.heap.size, 1, none⟩ (.bool wr)) sb 40 (rowL sets (fun j => if j = idx then (Value.slice av n cv) else sv j))) :=
        (HS2.out.below hb5 hsl2).rowCongr fun j _ => by
          by_cases e : j = idx
          · rw [if_pos e, e, HV.out]
          · rw [if_neg e]
      have T3 := Lib.hid (HX2.out.below hb5)
      have T4 : Hid (AKeep sb (sv idx) w (((w2.alloc (.cells #[.int .i64 (ln : Int), .bool false] 90)).drewN nq).setCell ⟨w2.heap.size, 1, none⟩ (.bool wr))) := AKeep.of_below (HB3.out.trans (hb5.mono HB3.out.size))
      have T5 : Hid (∀ q, (Value.slice av n cv).ownBlock = some q → (sv idx).ownBlock = some q ∨ w.heap.size ≤ q) := fun q hq => .inl (by rw [← HV.out]; exact hq)
      have T6 : Hid ((Value.slice av n cv).ownBlock ≠ some sb) := HSP.out
      have TX : Hid ((Value.slice av n cv).ownBlock ≠ some w2.heap.size) := fun e => Nat.lt_irrefl _ (HX2.out.lt e)
      obtain ⟨w5, hw5⟩ : ∃ w5, w5 = ((w2.alloc (.cells #[.int .i64 (ln : Int), .bool false] 90)).drewN nq).setCell ⟨w2.heap.size, 1, none⟩ (.bool wr) := ⟨_, rfl⟩
      rw [← hw5] at T1 T2 T3 T4 ⊢
      obtain ⟨X, hXe⟩ : ∃ X, X = w2.heap.size := ⟨_, rfl⟩
      rw [← hXe] at T1 TX hsz2 hsl2 ⊢
      clear hb5 HS2 HX2 HB3 d2 dv f0 hA2 hpl2 hsv hpv hXe hw5
      have e5 : w5.cell? ⟨sb, idx, none⟩ = some (Value.slice av n cv) := by rw [T2.out.row hil, if_pos rfl]
      have eX0 := T1.out.cell 0
      have eX1 := T1.out.cell 1
      simp only [List.getElem?_cons_succ, List.getElem?_cons_zero] at eX0 eX1
      have r1 : ∀ x : AfterR (Keep2 sb X) w5.drew, x.world.cell? ⟨sb, idx, none⟩ = some (Value.slice av n cv) := fun x => (Keep2.cell1 x.rel).trans e5
      have r2 : ∀ x : AfterR (Keep2 sb X) w5.drew, x.world.cell? ⟨X, 0, none⟩ = some (.int .i64 (ln : Int)) := fun x => (Keep2.cell2 x.rel).trans eX0
      have r3 : ∀ x : AfterR (Keep2 sb X) w5.drew, x.world.cell? ⟨X, 1, none⟩ = some (.bool wr) := fun x => (Keep2.cell2 x.rel).trans eX1
      refine wp_region_eagerRF (Keep2 sb X) [(0, true), (1, true), (2, true), (3, true), (4, true), (5, false), (6, false), (7, true), (8, false)] (by kernel_rfl) (by kernel_rfl) ?_
      repeat (refine eagR_readF rfl ?_; go_big_quiet_step (fail); refine wpQuiet_nil ?_)
      clear r1 r2 r3
      refine eagR_doesF rfl rfl ?_
      intro K hK
      go_simp
      have hsb5 : sb < w5.heap.size := T2.out.lt
      have hX5 : X < w5.heap.size := T1.out.lt
      refine hK _ _ (fun _ => ⟨Below.heap_alloc w5 _ _ hsb5, Below.heap_alloc w5 _ _ hX5⟩) ?_
      clear hK K
      go_simp
      refine eagR_doesF rfl rfl ?_
      intro K hK
      go_simp
      have hv5 : (w5.alloc (.cells #[.int .i64 (ln : Int), .bool wr] 90)).drew.heap[w5.heap.size]? = some (.cells #[.int .i64 (ln : Int), .bool wr] 90 (0, 0)) := heap_alloc_new w5 _
      have hl5 : Lines (w5.alloc (.cells #[.int .i64 (ln : Int), .bool wr] 90)).drew (Value.slice av n cv) xs := T3.out.below (((Below.refl _ _).alloc (Nat.le_refl _) _).drew)
      refine (insert_line _ (Value.slice av n cv) xs ((ln : Int), wr) w5.heap.size hl5 (by omega) hv5 (fun e => Nat.lt_irrefl _ (T3.out.lt e))).mono ?_
      rintro e w7 ⟨v7, rfl, hl7, hg7, ho7, hnn⟩
      obtain ⟨a7, k7, c7, rfl⟩ : ∃ a k c, v7 = .slice a k c := by obtain ⟨a, c, hh, _⟩ := hl7.form; exact ⟨a, _, c, hh⟩
      have hsb7 : w7.heap[sb]? = (w5.alloc (.cells #[.int .i64 (ln : Int), .bool wr] 90)).drew.heap[sb]? := hg7.block sb (by show sb < (w5.alloc _).heap.size; simp; omega) (fun e => T6.out e.symm)
      have hX7 : w7.heap[X]? = (w5.alloc (.cells #[.int .i64 (ln : Int), .bool wr] 90)).drew.heap[X]? := hg7.block X (by show X < (w5.alloc _).heap.size; simp; omega) (fun e => TX.out e.symm)
      refine hK _ _ (fun _ => ⟨hsb7, hX7⟩) ?_
      have hS7 : Blk w7 sb 40 (rowL sets (fun j => if j = idx then (Value.slice av n cv) else sv j)) := (T2.out.alloc (.cells #[.int .i64 (ln : Int), .bool wr] 90)).of_heap hsb7
      have e7 : w7.cell? ⟨sb, idx, none⟩ = some (Value.slice av n cv) := by rw [hS7.row hil, if_pos rfl]
      have f7 := hS7.free idx
      have hk7 := ((T4.out.alloc (.cells #[.int .i64 (ln : Int), .bool wr] 90)).drew).trans (AKeep.of_grown hg7) T5.out
      have ho8 : ∀ q, (Value.slice a7 k7 c7).ownBlock = some q → (sv idx).ownBlock = some q ∨ w.heap.size ≤ q := fun q hq => by
        rcases ho7 with h9 | ⟨g9, h9, h10⟩
        · exact T5.out q (by rw [← h9]; exact hq)
        · right
          rw [hq] at h9
          have := Option.some.inj h9
          have h11 := T4.out.size
          have h12 : w5.heap.size ≤ (w5.alloc (.cells #[.int .i64 (ln : Int), .bool wr] 90)).drew.heap.size := by show _ ≤ (w5.alloc _).heap.size; simp
          omega
      have hne7 : (Value.slice a7 k7 c7).ownBlock ≠ some sb := fun e => by
        rcases ho7 with h9 | ⟨g9, h9, h10⟩
        · exact T6.out (by rw [← h9]; exact e)
        · rw [e] at h9
          have := Option.some.inj h9
          have h12 : w5.heap.size ≤ (w5.alloc (.cells #[.int .i64 (ln : Int), .bool wr] 90)).drew.heap.size := by show _ ≤ (w5.alloc _).heap.size; simp
          omega
      have HL8 : Hid (Lines (w7.setCell ⟨sb, idx, none⟩ (Value.slice a7 k7 c7)) (Value.slice a7 k7 c7) (acc ways (ln : Int) wr xs)) := by
        unfold Hid; rw [HACC.out]
        exact hl7.keep fun g' hg' => Below.heap_setCell _ _ _ _ (fun e => hne7 (by rw [hg']; exact congrArg some e))
      have HS8 : Hid (Blk (w7.setCell ⟨sb, idx, none⟩ (Value.slice a7 k7 c7)) sb 40 (rowL sets (fun j => if j = idx then (Value.slice a7 k7 c7) else sv j))) :=
        (hS7.rowSet idx (Value.slice a7 k7 c7)).rowCongr fun j _ => by by_cases e : j = idx <;> simp [e]
      have HK8 : Hid (AKeep sb (sv idx) w (w7.setCell ⟨sb, idx, none⟩ (Value.slice a7 k7 c7))) := hk7.trans (AKeep.set (v := (Value.slice a7 k7 c7)) idx _) ho8
      have HO8 := Lib.hid ho8
      have HNN := Lib.hid hnn
      clear hK K e5 eX0 eX1 hv5 hl5 hl7 hg7 ho7 hnn hsb7 hX7 hS7 hk7 ho8 hne7
      go_simp
      refine eagR_readF rfl ?_; go_big_quiet_step (fail); refine wpQuiet_nil ?_
      refine eagR_doesF rfl rfl ?_
      intro K hK
      go_simp
      refine hK _ _ (fun h => False.elim (Bool.false_ne_true (h.symm.trans (by kernel_rfl)))) ?_
      clear hK K
      go_simp
      refine eagR_endF ?_
      go_wp2_with fail
      go_ret3
      refine ⟨_, ?_, HL8.out, ?_, HS8.out, HK8.out⟩
      · rw [HHIT.out, HOLD.out]; rfl
      · obtain ⟨q, hq⟩ := Option.ne_none_iff_exists'.1 HNN.out
        rcases HO8.out q hq with h9 | h9
        · exact .inl (hq.trans h9.symm)
        · exact .inr ⟨q, hq, h9⟩
end Go.Proofs.Ytkpeeemnholmnab
