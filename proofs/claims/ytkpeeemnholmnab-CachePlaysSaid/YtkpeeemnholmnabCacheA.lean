/- The contracts of the cache's in, Check, newLevel and New. -/
import Derived.Test.YtkpeeemnholmnabLevel
import Derived.BigQuiet
import Derived.Deep.QuietTactic
namespace Go.Proofs.Ytkpeeemnholmnab
open Go.RowKit
set_option linter.unusedVariables false
set_option linter.unusedSimpArgs false

set_option maxHeartbeats 400000 in
theorem cin_any (n l h : Int) (w : World) :
    Calls Try.prog 29 #[.int .i64 n, .int .i64 l, .int .i64 h] w fun e w' => e = .returned (.bool (inB n l h)) ∧ w = w' := by
  by_cases h1 : l ≤ n
  · by_cases h2 : n ≤ h
    · have H : Hid (inB n l h = true) := inB_true.2 ⟨h1, h2⟩
      go_enter Try.func29, Try.ntmps29
      go_wp2
      go_ret
      exact ⟨ret_bool H.out.symm, rfl⟩
    · have H : Hid (inB n l h = false) := inB_false.2 (.inr (Int.not_le.1 h2))
      go_enter Try.func29, Try.ntmps29
      go_wp2
      go_ret
      exact ⟨ret_bool H.out.symm, rfl⟩
  · have H : Hid (inB n l h = false) := inB_false.2 (.inl (Int.not_le.1 h1))
    go_enter Try.func29, Try.ntmps29
    go_wp2
    go_ret
    exact ⟨ret_bool H.out.symm, rfl⟩

/-- a configuration that came in -/
structure ConfI where
  (words sets ways miss : Int)
def ConfI.val (c : ConfI) : Value := .agg #[.int .i64 c.words, .int .i64 c.sets, .int .i64 c.ways, .int .i64 c.miss]
def confB (c : ConfI) : Bool := inB c.words 1 64 && (inB c.sets 1 256 && (inB c.ways 1 8 && inB c.miss 0 1000))

def confE (c : ConfI) : Int := if confB c = true then 0 else 4
theorem confE_ok {c : ConfI} (h : confB c = true) : confE c = 0 := if_pos h
theorem confE_bad {c : ConfI} (h : confB c = false) : confE c = 4 := if_neg (by simp [h])

set_option maxHeartbeats 1000000 in
theorem ccheck_any (c : ConfI) (w : World) :
    Calls Try.prog 27 #[c.val] w fun e w' => e = .returned (.int .i64 (confE c)) ∧ Below w.heap.size w w' := by
  have H : Hid (confE c = if (inB c.words 1 64 && (inB c.sets 1 256 && (inB c.ways 1 8 && inB c.miss 0 1000))) = true then 0 else 4) := rfl
  obtain ⟨c0, c1, c2, c3⟩ := c
  simp only [ConfI.val] at *
  generalize confE ⟨c0, c1, c2, c3⟩ = r at H ⊢
  cases h0 : inB c0 1 64
  · rw [h0] at H
    go_enter Try.func27, Try.ntmps27
    go_wp2_with (go_at_call 29; refine (cin_any _ _ _ _).mono ?_; rintro e w' ⟨rfl, rfl⟩)
    go_ret
    exact ⟨ret_int (by rw [H.out]; rfl), (Below.refl _ _).alloc (Nat.le_refl _) _⟩
  · cases h1 : inB c1 1 256
    · rw [h0, h1] at H
      go_enter Try.func27, Try.ntmps27
      go_wp2_with (go_at_call 29; refine (cin_any _ _ _ _).mono ?_; rintro e w' ⟨rfl, rfl⟩)
      go_ret
      exact ⟨ret_int (by rw [H.out]; rfl), (Below.refl _ _).alloc (Nat.le_refl _) _⟩
    · cases h2 : inB c2 1 8
      · rw [h0, h1, h2] at H
        go_enter Try.func27, Try.ntmps27
        go_wp2_with (go_at_call 29; refine (cin_any _ _ _ _).mono ?_; rintro e w' ⟨rfl, rfl⟩)
        go_ret
        exact ⟨ret_int (by rw [H.out]; rfl), (Below.refl _ _).alloc (Nat.le_refl _) _⟩
      · cases h3 : inB c3 0 1000
        all_goals
          rw [h0, h1, h2, h3] at H
          go_enter Try.func27, Try.ntmps27
          go_wp2_with (go_at_call 29; refine (cin_any _ _ _ _).mono ?_; rintro e w' ⟨rfl, rfl⟩)
          go_ret
          exact ⟨ret_int (by rw [H.out]; rfl), (Below.refl _ _).alloc (Nat.le_refl _) _⟩

def Conf.val (c : Conf) : Value := .agg #[.int .i64 (c.words : Int), .int .i64 (c.sets : Int), .int .i64 (c.ways : Int), .int .i64 (c.miss : Int)]
theorem conf_ok {c : ConfI} (h : confB c = true) : ∃ d : Conf, d.Ok ∧ c.val = d.val ∧ c.words = d.words ∧ c.sets = d.sets ∧ c.ways = d.ways ∧ c.miss = d.miss := by
  obtain ⟨c0, c1, c2, c3⟩ := c
  simp only [confB, Bool.and_eq_true, inB_true] at h
  refine ⟨⟨c0.toNat, c1.toNat, c2.toNat, c3.toNat⟩, ⟨by dsimp only; omega, by dsimp only; omega, by dsimp only; omega, by dsimp only; omega⟩, ?_, by dsimp only; omega, by dsimp only; omega, by dsimp only; omega, by dsimp only; omega⟩
  simp only [ConfI.val, Conf.val]
  rw [show ((c0.toNat : Nat) : Int) = c0 by omega, show ((c1.toNat : Nat) : Int) = c1 by omega, show ((c2.toNat : Nat) : Int) = c2 by omega, show ((c3.toNat : Nat) : Int) = c3 by omega]

theorem Try.infoS40 : (Try.prog.info? 40).map (fun i => (i.zero, i.size, i.bytes)) = some (some (.slice none 0 0), 1, 24) := by kernel_rfl

theorem below_alloc_drew {B : Nat} {w : World} (h : B ≤ w.heap.size) (o : Obj) : Below B w.drew (w.alloc o).drew := ((Below.refl B w.drew).alloc h o)
def NewLPost (c : Conf) (w : World) (e : Ending) (w' : World) : Prop :=
  ∃ p sb, e = .returned (.pointer (some ⟨p, 0, none⟩)) ∧ LevelSt w' p sb c (fun _ => .slice none 0 0) (fun _ => []) ∧ w.heap.size ≤ p ∧ w.heap.size ≤ sb ∧ Below w.heap.size w w'

set_option maxRecDepth 100000 in
set_option maxHeartbeats 1000000 in
theorem newLevel_ok (c : Conf) (ok : c.Ok) (w : World) : Calls Try.prog 28 #[c.val] w (NewLPost c w) := by
  have hmk := run_make_rep (P := Try.prog) 82 40 (.slice none 0 0) 24 Try.underlying82 Try.infoS40 rfl c.sets (by have := ok.s; omega) (by have := ok.s; omega)
  obtain ⟨⟨o1, o2⟩, ⟨o3, o4⟩, ⟨o5, o6⟩, o7⟩ := ok
  obtain ⟨cw, cs, cy, cm⟩ := c
  simp only [Conf.val] at *
  go_enter Try.func28, Try.ntmps28
  go_wp2_with fail
  have hb1 : Below w.heap.size w (w.alloc (.cells #[.int .i64 (cw : Int), .int .i64 (cs : Int), .int .i64 (cy : Int), .int .i64 (cm : Int)] 23)) := (Below.refl _ _).alloc (Nat.le_refl _) _
  have hc1 := Blk.new w [.int .i64 (cw : Int), .int .i64 (cs : Int), .int .i64 (cy : Int), .int .i64 (cm : Int)] 23
  generalize w.alloc (.cells #[.int .i64 (cw : Int), .int .i64 (cs : Int), .int .i64 (cy : Int), .int .i64 (cm : Int)] 23) = w1 at hb1 hc1 ⊢
  have k0 := hc1.cell 0
  have k1 := hc1.cell 1
  have k2 := hc1.cell 2
  have k3 := hc1.cell 3
  have hl1 := hc1.lt
  simp only [List.getElem?_cons_succ, List.getElem?_cons_zero] at k0 k1 k2 k3
  have r0 := fun x : After w1.heap.size w1.drew => (x.below.cell (p := ⟨w.heap.size, 0, none⟩) hl1).trans k0
  have r1 := fun x : After w1.heap.size w1.drew => (x.below.cell (p := ⟨w.heap.size, 1, none⟩) hl1).trans k1
  have r2 := fun x : After w1.heap.size w1.drew => (x.below.cell (p := ⟨w.heap.size, 2, none⟩) hl1).trans k2
  have r3 := fun x : After w1.heap.size w1.drew => (x.below.cell (p := ⟨w.heap.size, 3, none⟩) hl1).trans k3
  have HMK := Lib.hid (hmk w1.drew)
  have HB1 := Lib.hid hb1
  clear hmk hb1 hc1
  refine wp_region_eager w1.heap.size [(0, true), (1, true), (2, true), (3, false), (4, true), (5, false), (6, true)] (by kernel_rfl) (by kernel_rfl) ?_
  repeat (refine eag_read rfl ?_; go_big_quiet_step (fail); refine wpQuiet_nil ?_)
  clear r0 r1 r2 r3
  refine eag_does rfl rfl ?_
  intro K hK
  have hmk := HMK.out
  go_simp
  refine hK _ _ (below_alloc_drew (Nat.le_refl _) _) ?_
  clear hK K hmk HMK
  go_simp
  refine eag_read rfl ?_; go_big_quiet_step (fail); refine wpQuiet_nil ?_
  refine eag_does rfl rfl ?_
  intro K hK
  go_simp
  have hS := Blk.new w1 (rowL cs fun x => Value.slice none 0 0) 40
  have hP := Blk.new (w1.alloc (.cells (rowL cs fun x => Value.slice none 0 0).toArray 40)) [.int .i64 (cw : Int), .int .i64 (cs : Int), .int .i64 (cy : Int), .int .i64 (cm : Int), .slice (some ⟨w1.heap.size, 0, none⟩) cs cs] 84
  have hS2 := hS.alloc (.cells #[.int .i64 (cw : Int), .int .i64 (cs : Int), .int .i64 (cy : Int), .int .i64 (cm : Int), .slice (some ⟨w1.heap.size, 0, none⟩) cs cs] 84)
  have hb2 : Below w1.heap.size w1 ((w1.alloc (.cells (rowL cs fun x => Value.slice none 0 0).toArray 40)).alloc (.cells #[.int .i64 (cw : Int), .int .i64 (cs : Int), .int .i64 (cy : Int), .int .i64 (cm : Int), .slice (some ⟨w1.heap.size, 0, none⟩) cs cs] 84)) :=
    ((Below.refl _ _).alloc (Nat.le_refl _) _).alloc (by simp) _
  rw [World.size_alloc] at hP
  have HP := Lib.hid hP
  have HS := Lib.hid hS2
  have HB2 := Lib.hid (HB1.out.trans (hb2.mono HB1.out.size))
  refine hK _ _ (below_alloc_drew (by simp) _) ?_
  clear hK K hS hP hS2 hb2
  go_simp
  repeat (refine eag_read rfl ?_; go_big_quiet_step (fail); refine wpQuiet_nil ?_)
  refine eag_end ?_
  go_wp2_with fail
  go_ret
  have hsz := HB1.out.size
  refine ⟨w1.heap.size + 1, w1.heap.size, rfl, ⟨HP.out.drew, HS.out.drew, fun i _ => ⟨.inl ⟨rfl, rfl⟩, Nat.zero_le _⟩, by omega, fun i _ => ⟨by simp [Value.ownBlock], by simp [Value.ownBlock]⟩, fun i j _ _ _ g hg => by simp [Value.ownBlock] at hg⟩, by omega, by omega, HB2.out.drew⟩
end Go.Proofs.Ytkpeeemnholmnab
