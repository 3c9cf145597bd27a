/- The contracts of the predictor: New, Taken, Update, Wrong. -/
import Derived.Test.YtioaoncnandjpabHeadW
import Derived.Test.YtioaoncnandjpabBlk
import Derived.Deep.OwnRows
import Derived.BigQuiet
import Derived.Deep.QuietTactic
namespace Go.Proofs.Ytioaoncnandjpab
open Go.RowKit
set_option linter.unusedVariables false

/-- the predictor at block p, its counters in block cb -/
structure PredSt (w : World) (p cb : Nat) (cs : List Int) (wrong : Int) : Prop where
  st : Blk w p 159 [.slice (some ⟨cb, 0, none⟩) cs.length cs.length, .int .i64 wrong]
  cn : Blk w cb 3 (cs.map (Value.int .i64))
  ne : p ≠ cb

def NewPost (w : World) (m : Nat) (e : Ending) (w' : World) : Prop :=
  ∃ p cb, e = .returned (.tuple #[.pointer (some ⟨p, 0, none⟩), .int .i64 0]) ∧ PredSt w' p cb (List.replicate m 1) 0 ∧ w.heap.size ≤ p ∧ w.heap.size ≤ cb ∧ Below w.heap.size w w'

theorem Try.info3 : (Try.prog.info? 3).map (fun i => (i.zero, i.size, i.bytes)) = some (some (.int .i64 0), 1, 8) := by kernel_rfl

/-- the counters while New fills them: the first k are 1 -/
def fill (m k : Nat) : List Value := List.replicate k (.int .i64 1) ++ List.replicate (m - k) (.int .i64 0)
theorem fill_zero (m : Nat) : fill m 0 = List.replicate m (.int .i64 0) := by simp [fill]
theorem fill_length (m k : Nat) : (fill m k).length = k + (m - k) := by simp [fill]
theorem fill_set (m k : Nat) (h : k < m) : (fill m k).set k (.int .i64 1) = fill m (k + 1) := by
  unfold fill
  rw [show m - k = (m - (k + 1)) + 1 by omega, List.replicate_succ, List.set_append_right _ _ (by simp)]
  simp [List.replicate_succ', List.append_assoc]

set_option maxHeartbeats 400000 in
theorem new_ok (m : Nat) (w : World) (h1 : 1 ≤ m) (h2 : m ≤ 1024) :
    Calls Try.prog 15 #[.int .i64 (m : Int)] w (NewPost w m) := by
  have hmk := run_make_row' (P := Try.prog) 22 3 (.int .i64 0) 8 Try.underlying22 Try.info3 rfl .i64 .i64 m (by omega) (by omega)
  go_enter Try.func15, Try.ntmps15
  go_wp2
  have b0 : Blk ((w.alloc (Obj.cells (madeCells #[Value.int IntKind.i64 0] m) 3)).alloc (Obj.cells #[Value.slice (some ⟨w.heap.size, 0, none⟩) m m, Value.int IntKind.i64 0] 159)) w.heap.size 3 (fill m 0) := by
    rw [fill_zero, ← toList_madeCells_one]
    exact (Blk.new w (madeCells #[Value.int IntKind.i64 0] m).toList _).alloc _
  have b1 : Blk ((w.alloc (Obj.cells (madeCells #[Value.int IntKind.i64 0] m) 3)).alloc (Obj.cells #[Value.slice (some ⟨w.heap.size, 0, none⟩) m m, Value.int IntKind.i64 0] 159)) (w.heap.size + 1) 159 [Value.slice (some ⟨w.heap.size, 0, none⟩) m m, Value.int IntKind.i64 0] := by
    have := Blk.new (w.alloc (Obj.cells (madeCells #[Value.int IntKind.i64 0] m) 3)) [Value.slice (some ⟨w.heap.size, 0, none⟩) m m, Value.int IntKind.i64 0] 159
    simpa using this
  have hb : Below w.heap.size w ((w.alloc (Obj.cells (madeCells #[Value.int IntKind.i64 0] m) 3)).alloc (Obj.cells #[Value.slice (some ⟨w.heap.size, 0, none⟩) m m, Value.int IntKind.i64 0] 159)) :=
    ((Below.refl _ _).alloc (Nat.le_refl _) _).alloc (by simp) _
  clear hmk
  go_loopw [21] (fun v wr => ∃ k : Nat, k ≤ m ∧ v = .int .i64 k ∧ Blk wr w.heap.size 3 (fill m k) ∧ Blk wr (w.heap.size + 1) 159 [Value.slice (some ⟨w.heap.size, 0, none⟩) m m, Value.int IntKind.i64 0] ∧ Below w.heap.size w wr) (fun v _ => m - (intOf v).toNat)
  case atStart => exact ⟨0, Nat.zero_le _, rfl, b0, b1, hb⟩
  case round =>
    clear b0 b1 hb
    obtain ⟨k, hk, rfl, b0, b1, hb⟩ := hrel
    have c1 := b1.cell 0
    simp only [List.getElem?_cons_zero] at c1
    by_cases hlt : k < m
    · have c0 := b0.cellD (i := k) (by rw [fill_length]; omega)
      have f0 := b0.free k
      have fs := fill_set m k hlt
      have FS := Lib.hid fs; clear fs
      have B0 := b0.set k (.int .i64 1)
      have B1 := b1.setOther (a := ⟨w.heap.size, k, none⟩) (by simp) (.int .i64 1)
      have HB := hb.setCell (p := ⟨w.heap.size, k, none⟩) (Nat.le_refl _) (.int .i64 1)
      clear b0 b1
      go_wp2
      go_roundw
      case rel => exact ⟨k + 1, by omega, by go_num, by rw [← FS.out]; exact B0, B1, HB⟩
      case measure => simp [intOf]; omega
    · have ek : k = m := by omega
      subst ek
      go_wp2
      go_ret2
      refine ⟨w.heap.size + 1, w.heap.size, rfl, ⟨?_, ?_, by omega⟩, by omega, by omega, hb⟩
      · simpa using b1
      · simpa [fill] using b0

set_option maxHeartbeats 400000 in
theorem new_err (n : Int) (w : World) (h : n < 1 ∨ 1024 < n) :
    Calls Try.prog 15 #[.int .i64 n] w fun e w' => e = .returned (.tuple #[.pointer none, .int .i64 4]) ∧ w = w' := by
  rcases h with h | h
  · go_enter Try.func15, Try.ntmps15
    go_wp2
    go_ret2
    exact ⟨rfl, rfl⟩
  · have h' : ¬ n < 1 := by omega
    go_enter Try.func15, Try.ntmps15
    go_wp2
    go_ret2
    exact ⟨rfl, rfl⟩

/-- the prediction of a counter -/
def tak (c : Int) : Bool := decide (2 ≤ c)

def TakPost (w : World) (was : Bool) (e : Ending) (w' : World) : Prop := ∃ n, e = .returned (.tuple #[.bool was, .int .i64 0]) ∧ w' = w.drewN n

set_option maxHeartbeats 400000 in
theorem taken_core (w : World) (p cb L m : Nat) (c : Int) (pc : Nat) (c1 : w.cell? ⟨p, 0, none⟩ = some (.slice (some ⟨cb, 0, none⟩) L L)) (c0 : w.cell? ⟨cb, m, none⟩ = some (.int .i64 c))
    (e0 : (pc : Int).tmod (L : Int) = (m : Int)) (hlt : m < L) (h2 : L ≤ 1024) (h3 : pc < 16384) :
    Calls Try.prog 16 #[.pointer (some ⟨p, 0, none⟩), .int .i64 (pc : Int)] w (TakPost w (tak c)) := by
  have z0 : ((L : Int) == 0) = false := beq_eq_false_iff_ne.2 (by omega)
  go_enter Try.func16, Try.ntmps16
  go_wp2
  go_quiet (fail)
  go_wp2
  go_ret2
  exact ⟨_, rfl, rfl⟩

theorem taken_ok (w : World) (p cb : Nat) (cs : List Int) (wrong : Int) (pc : Nat) (hs : PredSt w p cb cs wrong) (h1 : 1 ≤ cs.length) (h2 : cs.length ≤ 1024) (h3 : pc < 16384) :
    Calls Try.prog 16 #[.pointer (some ⟨p, 0, none⟩), .int .i64 (pc : Int)] w (TakPost w (tak (cs.getD (pc % cs.length) 0))) := by
  have hlt : pc % cs.length < cs.length := Nat.mod_lt _ (by omega)
  have c0 := hs.cn.cellD (i := pc % cs.length) (by rw [List.length_map]; omega)
  simp only [List.getElem_map] at c0
  have gd : cs.getD (pc % cs.length) 0 = cs[pc % cs.length] := by simp [List.getD, hlt]
  rw [gd]
  exact taken_core w p cb cs.length (pc % cs.length) _ pc (by rw [hs.st.cell]; rfl) c0 ((Int.tmod_eq_emod_of_nonneg (Int.natCast_nonneg _)).trans rfl) hlt h2 h3

theorem taken_err (w : World) (p : Nat) (pc : Int) (h : pc < 0 ∨ 16384 ≤ pc) :
    Calls Try.prog 16 #[.pointer (some ⟨p, 0, none⟩), .int .i64 pc] w fun e w' => e = .returned (.tuple #[.bool false, .int .i64 4]) ∧ w = w' := by
  rcases h with h | h
  · go_enter Try.func16, Try.ntmps16
    go_wp2
    go_ret2
    exact ⟨rfl, rfl⟩
  · have h' : ¬ pc < 0 := by omega
    go_enter Try.func16, Try.ntmps16
    go_wp2
    go_ret2
    exact ⟨rfl, rfl⟩

theorem wrong_ok (w : World) (p cb : Nat) (cs : List Int) (wrong : Int) (hs : PredSt w p cb cs wrong) :
    Calls Try.prog 19 #[.pointer (some ⟨p, 0, none⟩)] w fun e w' => e = .returned (.int .i64 wrong) ∧ w = w' := by
  have c1 := hs.st.cell 1
  simp only [List.getElem?_cons_succ, List.getElem?_cons_zero] at c1
  go_enter Try.func19, Try.ntmps19
  go_wp2
  go_ret
  exact ⟨rfl, rfl⟩

/-- a counter after a branch -/
def upd (c : Int) (taken : Bool) : Int := if taken then min (c + 1) 3 else max (c - 1) 0
theorem upd_bd (c : Int) (b : Bool) (h : 0 ≤ c ∧ c ≤ 3) : 0 ≤ upd c b ∧ upd c b ≤ 3 := by unfold upd; split <;> omega

def UpdPost (w : World) (p cb : Nat) (cs : List Int) (wrong : Int) (pc : Nat) (taken : Bool) (e : Ending) (w' : World) : Prop :=
  e = .returned (.tuple #[.bool (tak (cs.getD (pc % cs.length) 0) != taken), .int .i64 0]) ∧
  PredSt w' p cb (cs.set (pc % cs.length) (upd (cs.getD (pc % cs.length) 0) taken)) (if tak (cs.getD (pc % cs.length) 0) != taken then wrong + 1 else wrong) ∧
  ∀ B, B ≤ p → B ≤ cb → Below B w w'


def UpdCore (w : World) (p cb m : Nat) (c wrong : Int) (taken was : Bool) (e : Ending) (w' : World) : Prop :=
  ∃ n, e = .returned (.tuple #[.bool (was != taken), .int .i64 0]) ∧
      w' = if (was != taken) = true then ((w.drewN n).setCell ⟨cb, m, none⟩ (.int .i64 (upd c taken))).setCell ⟨p, 1, none⟩ (.int .i64 (wrong + 1)) else (w.drewN n).setCell ⟨cb, m, none⟩ (.int .i64 (upd c taken))

set_option maxHeartbeats 400000 in
theorem update_core (w : World) (p cb L m : Nat) (c wrong : Int) (pc : Nat) (taken was : Bool)
    (ht : ∀ w, w.cell? ⟨p, 0, none⟩ = some (.slice (some ⟨cb, 0, none⟩) L L) → w.cell? ⟨cb, m, none⟩ = some (.int .i64 c) → Calls Try.prog 16 #[.pointer (some ⟨p, 0, none⟩), .int .i64 (pc : Int)] w (TakPost w was))
    (c1 : w.cell? ⟨p, 0, none⟩ = some (.slice (some ⟨cb, 0, none⟩) L L)) (c2 : w.cell? ⟨p, 1, none⟩ = some (.int .i64 wrong)) (c0 : w.cell? ⟨cb, m, none⟩ = some (.int .i64 c))
    (f0 : w.frozen? ⟨cb, m, none⟩ = false) (f2 : w.frozen? ⟨p, 1, none⟩ = false) (hp : p ≠ cb)
    (e0 : (pc : Int).tmod (L : Int) = (m : Int)) (hlt : m < L) (h2 : L ≤ 1024) (h3 : pc < 16384) (hw : 0 ≤ wrong ∧ wrong ≤ 1000000) (hc : 0 ≤ c ∧ c ≤ 3) :
    Calls Try.prog 17 #[.pointer (some ⟨p, 0, none⟩), .int .i64 (pc : Int), .bool taken] w (UpdCore w p cb m c wrong taken was) := by
  have z0 : ((L : Int) == 0) = false := beq_eq_false_iff_ne.2 (by omega)
  have HT := Lib.hid ht; clear ht
  have HP := Lib.hid hp; clear hp
  go_enter Try.func17, Try.ntmps17
  go_wp2_with fail
  refine (HT.out _ c1 c0).mono ?_
  rintro e w' ⟨n, rfl, rfl⟩
  clear HT
  have hp := HP.out
  cases taken <;> cases was
  all_goals
    go_wp2
    go_quiet (fail)
    go_wp2
    all_goals
      go_ret2
      refine ⟨n + nq, rfl, ?_⟩
      first
        | (rw [show upd c false = 0 by simp [upd]; omega]; rfl)
        | (rw [show upd c false = c - 1 by simp [upd]; omega]; rfl)
        | (rw [show upd c true = 3 by simp [upd]; omega]; rfl)
        | (rw [show upd c true = c + 1 by simp [upd]; omega]; rfl)

theorem update_ok (w : World) (p cb : Nat) (cs : List Int) (wrong : Int) (pc : Nat) (taken : Bool) (hs : PredSt w p cb cs wrong) (h1 : 1 ≤ cs.length) (h2 : cs.length ≤ 1024) (h3 : pc < 16384) (hw : 0 ≤ wrong ∧ wrong ≤ 1000000) (hc : ∀ c ∈ cs, 0 ≤ c ∧ c ≤ 3) :
    Calls Try.prog 17 #[.pointer (some ⟨p, 0, none⟩), .int .i64 (pc : Int), .bool taken] w (UpdPost w p cb cs wrong pc taken) := by
  have hlt : pc % cs.length < cs.length := Nat.mod_lt _ (by omega)
  have c0 := hs.cn.cellD (i := pc % cs.length) (by rw [List.length_map]; omega)
  simp only [List.getElem_map] at c0
  have gd : cs.getD (pc % cs.length) 0 = cs[pc % cs.length] := by simp [List.getD, hlt]
  have hb := hc _ (List.getElem_mem hlt)
  refine (update_core w p cb cs.length (pc % cs.length) cs[pc % cs.length] wrong pc taken (tak cs[pc % cs.length]) (fun w' _ _ => ?_) (by rw [hs.st.cell]; rfl) (by rw [hs.st.cell]; rfl) c0 (hs.cn.free _) (hs.st.free _) hs.ne ((Int.tmod_eq_emod_of_nonneg (Int.natCast_nonneg _)).trans rfl) hlt h2 h3 hw hb).mono ?_
  · exact taken_core w' p cb cs.length (pc % cs.length) _ pc (by assumption) (by assumption) ((Int.tmod_eq_emod_of_nonneg (Int.natCast_nonneg _)).trans rfl) hlt h2 h3
  · rintro e w' ⟨n, rfl, rfl⟩
    unfold UpdPost
    rw [gd]
    have hs' : PredSt (w.drewN n) p cb cs wrong := ⟨hs.st.drewN n, hs.cn.drewN n, hs.ne⟩
    have B1 := hs'.st.setOther (a := ⟨cb, pc % cs.length, none⟩) hs.ne (.int .i64 (upd cs[pc % cs.length] taken))
    have B0 := hs'.cn.set (pc % cs.length) (.int .i64 (upd cs[pc % cs.length] taken))
    rw [← List.map_set] at B0
    have BD : ∀ B, B ≤ p → B ≤ cb → Below B w ((w.drewN n).setCell ⟨cb, pc % cs.length, none⟩ (.int .i64 (upd cs[pc % cs.length] taken))) := fun B _ h => (below_drewN_self B w n).setCell (p := ⟨cb, pc % cs.length, none⟩) h _
    refine ⟨rfl, ?_, ?_⟩
    · split
      · have B1' := B1.set 1 (.int .i64 (wrong + 1))
        have B0' := B0.setOther (a := ⟨p, 1, none⟩) (fun h => hs.ne h.symm) (.int .i64 (wrong + 1))
        exact ⟨by simpa using B1', B0', hs.ne⟩
      · exact ⟨by simpa using B1, B0, hs.ne⟩
    · intro B hp hcb
      split
      · exact (BD B hp hcb).setCell (p := ⟨p, 1, none⟩) hp _
      · exact BD B hp hcb
end Go.Proofs.Ytioaoncnandjpab
