/- pipe's New, Op, Cycles and Ops. -/
import Derived.Test.YtnfgjcdiophphaaStraight
import Derived.Test.YtnfgjcdiophphaaEagerL
import Derived.Test.YtnfgjcdiophphaaForks
import Derived.Deep.MidRow
namespace Go.Proofs.Ytnfgjcdiophphaa
open Go.RowKit
set_option linter.unusedVariables false
set_option linter.unusedSimpArgs false

def Keep2 (a b : Nat) (w w' : World) : Prop := w'.heap[a]? = w.heap[a]? ∧ w'.heap[b]? = w.heap[b]?
instance (a b : Nat) : PreR (Keep2 a b) := ⟨fun w => ⟨rfl, rfl⟩, fun h k => ⟨k.1.trans h.1, k.2.trans h.2⟩⟩
theorem Keep2.cell1 {a b i : Nat} {w w' : World} (h : Keep2 a b w w') : w'.cell? ⟨a, i, none⟩ = w.cell? ⟨a, i, none⟩ := World.cell?_of_block (a := ⟨a, i, none⟩) h.1
theorem Keep2.cell2 {a b i : Nat} {w w' : World} (h : Keep2 a b w w') : w'.cell? ⟨b, i, none⟩ = w.cell? ⟨b, i, none⟩ := World.cell?_of_block (a := ⟨b, i, none⟩) h.2
def pipeCells (S : TS) (wv : Value) (n : Nat) : List Value := stCells S wv ++ [.int .i64 (n : Int)]
theorem pipe_len (S : TS) (wv : Value) (n : Nat) : (pipeCells S wv n).length = 21 := by simp [pipeCells, stCells]
theorem pipe_last (S : TS) (wv : Value) (n : Nat) : (pipeCells S wv n)[20]? = some (.int .i64 (n : Int)) := rfl
theorem pipe_set (S : TS) (wv : Value) (n m : Nat) : (pipeCells S wv n).set 20 (.int .i64 (m : Int)) = pipeCells S wv m := rfl
theorem st_len (S : TS) (wv : Value) : (stCells S wv).length = 20 := by simp [stCells]
def PipeAt (w : World) (p : Nat) (S : TS) (wv : Value) (n : Nat) : Prop := Blk w p 73 (pipeCells S wv n)
theorem PipeAt.range {w : World} {p : Nat} {S : TS} {wv : Value} {n : Nat} (h : PipeAt w p S wv n) : w.rangeAt p 0 (stCells S wv) := by
  intro j v hv
  have hj : j < 20 := (List.getElem?_eq_some_iff.1 hv).1
  rw [Nat.zero_add, h.cell j, pipeCells, List.getElem?_append_left (by exact hj)]
  exact hv

theorem PipeAt.there {w : World} {p : Nat} {S : TS} {wv : Value} {n : Nat} (h : PipeAt w p S wv n) : w.there p 0 20 := by
  intro j hj
  rw [Nat.zero_add, h.cell j]
  refine ⟨?_, h.free j⟩
  rw [List.getElem?_eq_getElem (show j < (pipeCells S wv n).length by rw [pipe_len]; omega)]
  rfl
theorem PipeAt.put {w : World} {p : Nat} {S : TS} {wv : Value} {n : Nat} (h : PipeAt w p S wv n) (S' : TS) (v : Value) : PipeAt (w.setCells p 0 (stCells S' v)) p S' v n := by
  have hcs : (pipeCells S wv n).toArray.size = 21 := by rw [List.size_toArray, pipe_len]
  obtain ⟨cur', h1, h2, h3⟩ := setCells_heap p 73 (stCells S' v) 0 w (pipeCells S wv n).toArray h
  have e : cur' = (pipeCells S' v n).toArray := by
    apply Array.ext_getElem?
    intro j
    by_cases hj : j < 21
    · rw [h3 j (by omega), List.getElem?_toArray, List.getElem?_toArray]
      by_cases h20 : j < 20
      · rw [if_pos ⟨Nat.zero_le _, by rw [st_len]; omega⟩, pipeCells, List.getElem?_append_left (by rw [st_len]; exact h20), Nat.sub_zero]
      · obtain rfl : j = 20 := by omega
        rw [if_neg (by rw [st_len]; omega), pipe_last, pipe_last]
    · rw [Array.getElem?_eq_none (by omega), Array.getElem?_eq_none (by rw [List.size_toArray, pipe_len]; omega)]
  rw [e] at h1
  exact h1

theorem pipenew_ok (w : World) : Calls Try.prog 25 #[] w fun e w' => e = .returned (.pointer (some ⟨w.heap.size, 0, none⟩)) ∧ PipeAt w' w.heap.size zeroTS (.slice none 0 0) 0 ∧ Below w.heap.size w w' := by
  have hq := Lib.hid (Blk.new w (pipeCells zeroTS (.slice none 0 0) 0) 73)
  have hb := Lib.hid ((Below.refl w.heap.size w).alloc (Nat.le_refl _) (.cells (pipeCells zeroTS (.slice none 0 0) 0).toArray 73))
  go_enter Try.func25, Try.ntmps25
  go_wp2
  go_ret
  exact ⟨rfl, hq.out, hb.out⟩
theorem pipecycles_ok (w : World) (p : Nat) (S : TS) (wv : Value) (n : Nat) (h : PipeAt w p S wv n) : Calls Try.prog 30 #[.pointer (some ⟨p, 0, none⟩)] w fun e w' => e = .returned (.int .i64 (S.done : Int)) ∧ w' = w := by
  have c2 := h.cell 2
  have e2 : (pipeCells S wv n)[2]? = some (.int .i64 (S.done : Int)) := rfl
  rw [e2] at c2
  clear e2 h
  go_enter Try.func30, Try.ntmps30
  go_wp2
  go_ret
  exact ⟨rfl, rfl⟩
theorem pipeops_ok (w : World) (p : Nat) (S : TS) (wv : Value) (n : Nat) (h : PipeAt w p S wv n) : Calls Try.prog 31 #[.pointer (some ⟨p, 0, none⟩)] w fun e w' => e = .returned (.int .i64 (n : Int)) ∧ w' = w := by
  have c2 := h.cell 20
  have e2 : (pipeCells S wv n)[20]? = some (.int .i64 (n : Int)) := rfl
  rw [e2] at c2
  clear e2 h
  go_enter Try.func31, Try.ntmps31
  go_wp2
  go_ret
  exact ⟨rfl, rfl⟩

theorem wpQuiet_load_mid {P : Program} {ops : Array Oper} {C : World → Prop} {Q : Act → Prop} {op : Oper} {a : Act} (hw : Region.wanted op (yielded ops a.tmps) = true) (ty : TypeId) (x : Operand) (ho : op.op = .load ty x)
    (b o : Nat) (hx : a.eval x = .pointer (some ⟨b, o, none⟩)) (cs : List Value) (d : TypeDesc) (hc : ∀ w, C w → w.rangeAt b o cs)
    (hu : P.underlying ty = some d) (hd : d.isRow = true) (hi : (P.info? ty).map (·.size) = some cs.length) (h : Q (a.put op.dst (.agg cs.toArray))) : wpQuiet P ops C Q [op] a := by
  unfold wpQuiet
  rw [if_pos hw]
  refine ⟨.agg cs.toArray, fun w hw' => ?_, h⟩
  unfold Oper.quietAt execOp
  simp only [ho, hx, Instr.loadAt, Instr.sureAddr, Sem.run_bind, Sem.run_pure, Result.andThen_ok, run_loadVar_mid w b o ty cs d (hc w hw') hu hd hi]
  exact ⟨rfl, rfl⟩

def PipePost (p : Nat) (S S' : TS) (t : Nat) (n : Nat) (w : World) (e : Ending) (w' : World) : Prop :=
  ∃ wv', e = .returned (.tuple #[.int .i64 (t : Int), .int .i64 0]) ∧ PipeAt w' p S' wv' (n + 1) ∧ OwnI w' w.heap.size wv' (wrL S'.wr) ∧ w.grownBy w' (some p)

set_option maxRecDepth 100000 in
set_option maxHeartbeats 4000000 in
theorem pipeop_ok (S : TS) (wv : Value) (p n : Nat) (op d a b k : Int) (extra : Nat) (w : World) (B : Nat) (hB : B ≤ 1152921504606846976) (hx : extra ≤ 10000) (hn : n ≤ 1000000) (hck : checkE op d a b k = 0) (ok : S.Ok B) (hw : WrAt w wv S.wr) (hp : PipeAt w p S wv n) :
    Calls Try.prog 28 #[.pointer (some ⟨p, 0, none⟩), .agg #[.int .i64 op, .int .i64 d, .int .i64 a, .int .i64 b, .int .i64 k], .int .i64 (extra : Int)] w (PipePost p S (nextS S op d a b extra) (startOf S op d a b (latOf op + extra)) n w) := by
  obtain ⟨rd, ra, rb⟩ := good_regs hck
  have HI := fun w h => Lib.hid (issue_ok S wv op d a b k extra w B hB hx hck rd ra rb ok h)
  have hpl : p < w.heap.size := hp.lt
  obtain ⟨S', hS'⟩ : ∃ S', S' = nextS S op d a b extra := ⟨_, rfl⟩
  obtain ⟨t, ht⟩ : ∃ t, t = startOf S op d a b (latOf op + extra) := ⟨_, rfl⟩
  unfold IssuePost at HI
  rw [← hS', ← ht] at HI ⊢
  clear hS' ht rd ra rb ok hck
  have HP := Lib.hid hp
  have HW := Lib.hid hw
  have HO := Lib.hid (Blk.new w [.int .i64 op, .int .i64 d, .int .i64 a, .int .i64 b, .int .i64 k] 27)
  have HBA := Lib.hid ((Below.refl w.heap.size w).alloc (Nat.le_refl _) (.cells #[.int .i64 op, .int .i64 d, .int .i64 a, .int .i64 b, .int .i64 k] 27))
  clear hp hw
  go_enter Try.func28, Try.ntmps28
  go_upto_region 1 with fail
  have hpa : PipeAt (w.alloc (.cells #[.int .i64 op, .int .i64 d, .int .i64 a, .int .i64 b, .int .i64 k] 27)).drew p S wv n := HP.out.below HBA.out.drew hpl
  have hoa : Blk (w.alloc (.cells #[.int .i64 op, .int .i64 d, .int .i64 a, .int .i64 b, .int .i64 k] 27)).drew w.heap.size 27 [.int .i64 op, .int .i64 d, .int .i64 a, .int .i64 b, .int .i64 k] := HO.out
  have hba : Below w.heap.size w (w.alloc (.cells #[.int .i64 op, .int .i64 d, .int .i64 a, .int .i64 b, .int .i64 k] 27)).drew := HBA.out.drew
  refine wp_region_forks (Keep2 p w.heap.size) 15 rfl (by kernel_rfl) ?_
  clear HP HO HBA
  generalize (w.alloc (.cells #[.int .i64 op, .int .i64 d, .int .i64 a, .int .i64 b, .int .i64 k] 27)).drew = wD at hpa hoa hba ⊢
  have HPA := Lib.hid hpa
  have HOA := Lib.hid hoa
  have HBA := Lib.hid hba
  have hla : ∀ w', (∃ x : AfterR (Keep2 p w.heap.size) wD, w' = x.world) → w'.rangeAt p 0 (stCells S wv) := by
    rintro _ ⟨x, rfl⟩
    have h : PipeAt x.world p S wv n := hpa.of_heap x.rel.1
    exact h.range
  have HLA := Lib.hid hla
  clear hla
  have r0 := fun x : AfterR (Keep2 p w.heap.size) wD => (Keep2.cell2 x.rel).trans (hoa.cell 0)
  have r1 := fun x : AfterR (Keep2 p w.heap.size) wD => (Keep2.cell2 x.rel).trans (hoa.cell 1)
  have r2 := fun x : AfterR (Keep2 p w.heap.size) wD => (Keep2.cell2 x.rel).trans (hoa.cell 2)
  have r3 := fun x : AfterR (Keep2 p w.heap.size) wD => (Keep2.cell2 x.rel).trans (hoa.cell 3)
  have r4 := fun x : AfterR (Keep2 p w.heap.size) wD => (Keep2.cell2 x.rel).trans (hoa.cell 4)
  simp only [List.getElem?_cons_zero, List.getElem?_cons_succ] at r0 r1 r2 r3 r4
  clear hpa hoa hba
  refine forks_read 0 rfl (by kernel_rfl) ?_
  go_big_quiet_step (fail)
  refine wpQuiet_nil ?_
  refine forks_read 1 rfl (by kernel_rfl) ?_
  go_big_quiet_step (fail)
  refine wpQuiet_nil ?_
  refine forks_read 2 rfl (by kernel_rfl) ?_
  go_big_quiet_step (fail)
  refine wpQuiet_nil ?_
  refine forks_read 3 rfl (by kernel_rfl) ?_
  refine wpQuiet_load_mid rfl 25 _ rfl p 0 rfl (stCells S wv) _ HLA.out Try.underlying25 rfl (by kernel_rfl) ?_
  go_simp
  refine forks_read 4 rfl (by kernel_rfl) ?_
  go_big_quiet_step (fail)
  refine wpQuiet_nil ?_
  refine forks_read 5 rfl (by kernel_rfl) ?_
  go_big_quiet_step (fail)
  refine wpQuiet_nil ?_
  clear r0 r1 r2 r3 r4 HLA
  have hplD := HPA.out.lt
  have hobD := HOA.out.lt
  refine forks_two 6 11 (by kernel_rfl) ?_ ?_
  case' refine_1 =>
    refine does_intro rfl rfl ?_
    intro K hK
    go_simp
    refine (HI wD (HW.out.below HBA.out)).out.mono ?_
    rintro e w2 ⟨wv', rfl, hown, hb2⟩
    obtain ⟨va, vl, vc, rfl⟩ := owns_shape hown
    refine hK _ _ ⟨hb2.block p hplD, hb2.block w.heap.size hobD⟩ ?_
    clear hK K
    go_simp
    refine forks_read 7 rfl (by kernel_rfl) ?_
    go_big_quiet_step (fail)
    refine wpQuiet_nil ?_
    refine forks_read 8 rfl (by kernel_rfl) ?_
    go_big_quiet_step (fail)
    refine wpQuiet_nil ?_
    refine forks_read 9 rfl (by kernel_rfl) ?_
    go_big_quiet_step (fail)
    refine wpQuiet_nil ?_
    refine forks_read 10 rfl (by kernel_rfl) ?_
    go_big_quiet_step (fail)
    refine wpQuiet_nil ?_
    have hpl2 : p < w2.heap.size := by have := hb2.size; omega
    have hob2 : w.heap.size < w2.heap.size := by have := hb2.size; omega
    refine forks_one 11 (by kernel_rfl) ?_
    refine does_intro rfl rfl ?_
    intro K hK
    go_simp
    refine hK _ _ ⟨Below.heap_alloc w2 _ _ hpl2, Below.heap_alloc w2 _ _ hob2⟩ ?_
    clear hK K
    go_simp
    have hpe : PipeAt (w2.alloc (.cells #[.int .i64 0, .int .i64 0, .int .i64 0, .int .i64 0, .int .i64 0, .int .i64 0, .int .i64 0, .int .i64 0, .int .i64 0, .int .i64 0, .int .i64 0, .int .i64 0, .int .i64 0, .int .i64 0, .int .i64 0, .int .i64 0, .int .i64 0, .int .i64 0, .int .i64 0, .slice none 0 0] 25)) p S wv n := (HPA.out.below hb2 hplD).alloc _
    have hqe : Blk (w2.alloc (.cells #[.int .i64 0, .int .i64 0, .int .i64 0, .int .i64 0, .int .i64 0, .int .i64 0, .int .i64 0, .int .i64 0, .int .i64 0, .int .i64 0, .int .i64 0, .int .i64 0, .int .i64 0, .int .i64 0, .int .i64 0, .int .i64 0, .int .i64 0, .int .i64 0, .int .i64 0, .slice none 0 0] 25)) w2.heap.size 25 zCells := Blk.new w2 zCells _
    have hwe : OwnI (w2.alloc (.cells #[.int .i64 0, .int .i64 0, .int .i64 0, .int .i64 0, .int .i64 0, .int .i64 0, .int .i64 0, .int .i64 0, .int .i64 0, .int .i64 0, .int .i64 0, .int .i64 0, .int .i64 0, .int .i64 0, .int .i64 0, .int .i64 0, .int .i64 0, .int .i64 0, .int .i64 0, .slice none 0 0] 25)) w.heap.size (.slice va vl vc) (wrL S'.wr) := World.ownsRow.alloc (owns_base hown (by omega)) _
    have hbe : Below w.heap.size w (w2.alloc (.cells #[.int .i64 0, .int .i64 0, .int .i64 0, .int .i64 0, .int .i64 0, .int .i64 0, .int .i64 0, .int .i64 0, .int .i64 0, .int .i64 0, .int .i64 0, .int .i64 0, .int .i64 0, .int .i64 0, .int .i64 0, .int .i64 0, .int .i64 0, .int .i64 0, .int .i64 0, .slice none 0 0] 25)) := (HBA.out.trans (hb2.mono HBA.out.size)).alloc (by omega) _
    have hqn : ∀ g, (Value.slice va vl vc).ownBlock = some g → g ≠ w2.heap.size := fun g hg e => by have := (World.ownsRow.lt hown g hg).2; omega
    have hq0 : w.heap.size < w2.heap.size := hob2
    clear hown hb2 hpl2 hob2
    obtain ⟨q, hq⟩ : ∃ q, q = w2.heap.size := ⟨_, rfl⟩
    rw [← hq] at hqe hqn hq0 ⊢
    clear hq
    generalize w2.alloc (.cells #[.int .i64 0, .int .i64 0, .int .i64 0, .int .i64 0, .int .i64 0, .int .i64 0, .int .i64 0, .int .i64 0, .int .i64 0, .int .i64 0, .int .i64 0, .int .i64 0, .int .i64 0, .int .i64 0, .int .i64 0, .int .i64 0, .int .i64 0, .int .i64 0, .int .i64 0, .slice none 0 0] 25) = wE at hpe hqe hwe hbe ⊢
  case' refine_2 =>
    refine does_intro rfl rfl ?_
    intro K hK
    go_simp
    refine hK _ _ ⟨Below.heap_alloc wD _ _ hplD, Below.heap_alloc wD _ _ hobD⟩ ?_
    clear hK K
    go_simp
    have hbx : Below wD.heap.size wD (wD.alloc (.cells #[.int .i64 0, .int .i64 0, .int .i64 0, .int .i64 0, .int .i64 0, .int .i64 0, .int .i64 0, .int .i64 0, .int .i64 0, .int .i64 0, .int .i64 0, .int .i64 0, .int .i64 0, .int .i64 0, .int .i64 0, .int .i64 0, .int .i64 0, .int .i64 0, .int .i64 0, .slice none 0 0] 25)) := (Below.refl _ _).alloc (Nat.le_refl _) _
    have hqx : Blk (wD.alloc (.cells #[.int .i64 0, .int .i64 0, .int .i64 0, .int .i64 0, .int .i64 0, .int .i64 0, .int .i64 0, .int .i64 0, .int .i64 0, .int .i64 0, .int .i64 0, .int .i64 0, .int .i64 0, .int .i64 0, .int .i64 0, .int .i64 0, .int .i64 0, .int .i64 0, .int .i64 0, .slice none 0 0] 25)) wD.heap.size 25 zCells := Blk.new wD zCells _
    refine forks_one 6 (by kernel_rfl) ?_
    refine does_intro rfl rfl ?_
    intro K hK
    go_simp
    refine (HI _ (HW.out.below (HBA.out.trans (hbx.mono HBA.out.size)))).out.mono ?_
    rintro e w2 ⟨wv', rfl, hown, hb2⟩
    obtain ⟨va, vl, vc, rfl⟩ := owns_shape hown
    refine hK _ _ ⟨hb2.block p (by simp; omega), hb2.block w.heap.size (by simp; omega)⟩ ?_
    clear hK K
    go_simp
    refine forks_read 7 rfl (by kernel_rfl) ?_
    go_big_quiet_step (fail)
    refine wpQuiet_nil ?_
    refine forks_read 8 rfl (by kernel_rfl) ?_
    go_big_quiet_step (fail)
    refine wpQuiet_nil ?_
    refine forks_read 9 rfl (by kernel_rfl) ?_
    go_big_quiet_step (fail)
    refine wpQuiet_nil ?_
    refine forks_read 10 rfl (by kernel_rfl) ?_
    go_big_quiet_step (fail)
    refine wpQuiet_nil ?_
    have hpe : PipeAt w2 p S wv n := (HPA.out.alloc _).below hb2 (by simp; omega)
    have hqe : Blk w2 wD.heap.size 25 zCells := hqx.below hb2 (by simp)
    have hwe : OwnI w2 w.heap.size (.slice va vl vc) (wrL S'.wr) := owns_base hown (by simp; omega)
    have hbe : Below w.heap.size w w2 := (HBA.out.trans (hbx.mono HBA.out.size)).trans (hb2.mono (by simp; omega))
    have hqn : ∀ g, (Value.slice va vl vc).ownBlock = some g → g ≠ wD.heap.size := fun g hg e => by have := (World.ownsRow.lt hown g hg).1; simp at this; omega
    have hq0 : w.heap.size < wD.heap.size := hobD
    clear hown hb2 hbx hqx
    obtain ⟨q, hq⟩ : ∃ q, q = wD.heap.size := ⟨_, rfl⟩
    rw [← hq] at hqe hqn hq0 ⊢
    clear hq
    generalize w2 = wE at hpe hqe hwe hbe ⊢
  all_goals
    have hqp : q ≠ p := by omega
    have HSZ : Hid ((Try.prog.info? 25).map (·.size) = some (stCells S' (.slice va vl vc)).toArray.size) := by unfold Hid; kernel_rfl
    have hgr := setRowGr wE q (stCells S' (.slice va vl vc)).toArray
    refine forks_one 12 (by kernel_rfl) ?_
    refine does_intro rfl rfl ?_
    intro K hK
    refine wp_store_row 25 _ _ rfl q (stCells S' (.slice va vl vc)).toArray rfl rfl _ _ hqe HSZ.out rfl (st_one _ _ rfl) ?_
    have hpE := hpe.lt
    have hqE := hqe.lt
    refine hK _ _ ⟨hgr.block p hpE (by simp; omega), hgr.block w.heap.size (by omega) (by simp; omega)⟩ ?_
    clear hK K
    go_simp
    have hpf : PipeAt (wE.setRow q (stCells S' (.slice va vl vc)).toArray) p S wv n := hpe.of_heap (hgr.block p hpE (by simp; omega))
    have hqf : Blk (wE.setRow q (stCells S' (.slice va vl vc)).toArray) q 25 (stCells S' (.slice va vl vc)) := setRowBlk hqe _
    have hwf : OwnI (wE.setRow q (stCells S' (.slice va vl vc)).toArray) w.heap.size (.slice va vl vc) (wrL S'.wr) := World.ownsRow.kept hwe hgr (by
      cases hv : (Value.slice va vl vc).ownBlock with
      | none => exact .inl rfl
      | some g => exact .inr (fun e => hqn g hv (by simpa using e)))
    have hbf : Below w.heap.size w (wE.setRow q (stCells S' (.slice va vl vc)).toArray) := hbe.trans (grown_below hgr (fun g hg => by simp at hg; omega) hbe.size)
    clear hgr hpe hqe hwe hbe hqn
    generalize wE.setRow q (stCells S' (.slice va vl vc)).toArray = wF at hpf hqf hwf hbf ⊢
    refine forks_read 13 rfl (by kernel_rfl) ?_
    go_big_quiet_step (fail)
    refine wpQuiet_nil ?_
    refine forks_read 14 rfl (by kernel_rfl) ?_
    go_big_quiet_step (fail)
    refine wpQuiet_nil ?_
    refine forks_end (by kernel_rfl) ?_
    have HPF := Lib.hid hpf
    have HQF := Lib.hid hqf
    have HWF := Lib.hid hwf
    have HBF := Lib.hid hbf
    have HTH := Lib.hid hpf.there
    clear hpf hqf hwf hbf
    go_upto_region 5 with (first
      | (refine wpList_load_row rfl 25 _ rfl q rfl _ (stCells S' (.slice va vl vc)).toArray _ _ HQF.out Try.underlying25 rfl HSZ.out ?_)
      | (refine wpList_store_mid rfl 25 _ _ rfl p 0 (stCells S' (.slice va vl vc)).toArray rfl rfl HTH.out HSZ.out (st_one _ _ rfl) ?_))
    have hpg := PipeAt.put HPF.out S' (.slice va vl vc)
    have hgs := setCells_grown p (stCells S' (.slice va vl vc)) 0 wF
    have hwg : OwnI (wF.setCells p 0 (stCells S' (.slice va vl vc))) w.heap.size (.slice va vl vc) (wrL S'.wr) := World.ownsRow.kept HWF.out hgs (by
      cases hv : (Value.slice va vl vc).ownBlock with
      | none => exact .inl rfl
      | some g => exact .inr (fun e => by have := (World.ownsRow.lt HWF.out g hv).1; simp at e; omega))
    have hgg : w.grownBy (wF.setCells p 0 (stCells S' (.slice va vl vc))) (some p) :=
      ⟨hgs.os.trans HBF.out.os, hgs.tape.trans HBF.out.tape, hgs.output.trans HBF.out.output, Nat.le_trans HBF.out.size hgs.size, fun g hg hne => (hgs.block g (by have := HBF.out.size; omega) hne).trans (HBF.out.block g hg)⟩
    have hsg : w.heap.size ≤ (wF.setCells p 0 (stCells S' (.slice va vl vc))).heap.size := hgg.size
    clear HPF HQF HWF HBF HTH hgs
    generalize wF.setCells p 0 (stCells S' (.slice va vl vc)) = wG at hpg hwg hgg hsg ⊢
    have HPG := Lib.hid hpg
    have HWG := Lib.hid hwg
    have HGG := Lib.hid hgg
    have c20 := hpg.cell 20
    have f20 := hpg.free 20
    rw [pipe_last] at c20
    clear hpg hwg hgg
    go_simp
    go_wp2_with fail
    refine bodyPost_ret (results_tmp2 rfl _ _ _) rfl ⟨.slice va vl vc, rfl, ?_, ?_, ?_⟩
    · have h := HPG.out.set 20 (.int .i64 ((n + 1 : Nat) : Int))
      rw [pipe_set] at h
      exact h
    · exact ownI_setOther HWG.out (p := ⟨p, 20, none⟩) (by show p < w.heap.size; omega) _
    · exact ⟨HGG.out.os, HGG.out.tape, HGG.out.output, by simpa using HGG.out.size, fun g hg hne => (Below.heap_setCell _ _ _ _ (fun e => hne (by rw [e]))).trans (HGG.out.block g hg hne)⟩
end Go.Proofs.Ytnfgjcdiophphaa
