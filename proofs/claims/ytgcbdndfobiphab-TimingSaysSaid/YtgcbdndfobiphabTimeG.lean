/- timing's Check at any state, and the reference's StateError: one answer. -/
import Derived.Test.YtgcbdndfobiphabTimeB
import Derived.Test.YtgcbdndfobiphabRefB
import Derived.BigQuiet
import Derived.Deep.QuietTactic
namespace Go.Proofs.Ytgcbdndfobiphab
open Go.RowKit
set_option linter.unusedVariables false
set_option linter.unusedSimpArgs false

/-- a state of any numbers -/
structure TI where
  (next div done : Int)
  rd : Nat → Int
  wr : List Int
def tiCells (S : TI) (wv : Value) : List Value := [.int .i64 S.next, .int .i64 S.div, .int .i64 S.done, .int .i64 (S.rd 0), .int .i64 (S.rd 1), .int .i64 (S.rd 2), .int .i64 (S.rd 3), .int .i64 (S.rd 4), .int .i64 (S.rd 5), .int .i64 (S.rd 6), .int .i64 (S.rd 7), .int .i64 (S.rd 8), .int .i64 (S.rd 9), .int .i64 (S.rd 10), .int .i64 (S.rd 11), .int .i64 (S.rd 12), .int .i64 (S.rd 13), .int .i64 (S.rd 14), .int .i64 (S.rd 15), wv]
def goodW (nx : Int) (l : List Int) : Prop := (∀ x ∈ l, nx ≤ x) ∧ l.Pairwise (· < ·)
def lastW (nx : Int) (l : List Int) (k : Nat) : Int := if k = 0 then nx - 1 else l.getD (k - 1) 0
theorem lastW_succ (nx : Int) (l : List Int) (k : Nat) (h : k < l.length) : lastW nx l (k + 1) = l[k] := by
  unfold lastW; rw [if_neg (by omega)]; simp [List.getD, h]
theorem goodW_take {nx : Int} {l : List Int} (h : goodW nx l) (k : Nat) : goodW nx (l.take k) := ⟨fun x hx => h.1 x (List.mem_of_mem_take hx), h.2.sublist (List.take_sublist _ _)⟩
theorem goodW_step {nx : Int} {l : List Int} {k : Nat} (h : goodW nx (l.take k)) (hk : k < l.length) : goodW nx (l.take (k + 1)) ↔ lastW nx l k < l[k] := by
  rw [List.take_succ_eq_append_getElem hk]
  have key : ∀ j (hj : j < k), (l.take k)[j]'(by simp; omega) = l[j] := fun j hj => by simp
  have hle : ∀ x ∈ l.take k, k ≠ 0 ∧ x ≤ lastW nx l k := fun x hx => by
    obtain ⟨j, hj, e⟩ := List.getElem_of_mem hx
    simp at hj
    refine ⟨by omega, ?_⟩
    unfold lastW
    rw [if_neg (by omega), ← e]
    simp only [List.getD, List.getElem?_eq_getElem (show k - 1 < l.length by omega), Option.getD_some]
    by_cases ej : j = k - 1
    · subst ej; simp
    · have := List.pairwise_iff_getElem.mp h.2 j (k - 1) (by simp; omega) (by simp; omega) (by omega)
      simp at this ⊢; omega
  constructor
  · rintro ⟨h1, h2⟩
    by_cases e : k = 0
    · subst e; have := h1 l[0] (by simp); unfold lastW; rw [if_pos rfl]; omega
    · have h3 := (List.pairwise_append.mp h2).2.2 (l[k - 1]'(by omega)) (by
        rw [← key (k - 1) (by omega)]; exact List.getElem_mem _) l[k] (by simp)
      unfold lastW
      rw [if_neg e]
      simpa [List.getD, show k - 1 < l.length by omega] using h3
  · intro hl
    refine ⟨fun x hx => ?_, List.pairwise_append.mpr ⟨h.2, by simp, fun x hx y hy => ?_⟩⟩
    · rcases List.mem_append.1 hx with hx | hx
      · exact h.1 x hx
      · simp at hx; subst hx
        by_cases e : k = 0
        · unfold lastW at hl; rw [if_pos e] at hl; omega
        · have hm : l[k - 1]'(by omega) ∈ l.take k := by rw [← key (k - 1) (by omega)]; exact List.getElem_mem _
          have := h.1 _ hm
          unfold lastW at hl; rw [if_neg e] at hl
          simp [List.getD, show k - 1 < l.length by omega] at hl
          omega
    · simp at hy; subst hy
      have := (hle x hx).2; omega
theorem lastW_ref {nx : Int} {l : List Int} {k : Nat} (h : goodW nx (l.take k)) (hk : k < l.length) : (l[k] < nx ∨ (0 < k ∧ l[k] ≤ l.getD (k - 1) 0)) ↔ ¬ lastW nx l k < l[k] := by
  unfold lastW
  by_cases e : k = 0
  · rw [if_pos e]; omega
  · rw [if_neg e]
    have hm : l[k - 1]'(by omega) ∈ l.take k := by
      have := List.getElem_mem (l := l.take k) (n := k - 1) (by simp; omega)
      simpa using this
    have := h.1 _ hm
    simp only [List.getD, List.getElem?_eq_getElem (show k - 1 < l.length by omega), Option.getD_some]
    omega
open Classical in
/-- the error of a state -/
noncomputable def stE (S : TI) : Int := if S.next < 0 ∨ S.div < 0 ∨ S.done < 0 ∨ (16384 : Int) < (S.wr.length : Int) then 4 else if ∃ i, i < 16 ∧ S.rd i < 0 then 4 else if goodW S.next S.wr then 0 else 3
def WrI (w : World) (wv : Value) (l : List Int) : Prop := ∃ a c, wv = .slice a l.length c ∧ Came w a l.length c 1 (l.map intCells) ∧ l.length ≤ 17592186044416
theorem WrI.below {w w' : World} {wv : Value} {l : List Int} (h : WrI w wv l) (hb : Below w.heap.size w w') : WrI w' wv l := by
  obtain ⟨a, c, e, h, h2⟩ := h
  exact ⟨a, c, e, h.below hb, h2⟩

open Classical in
set_option maxRecDepth 100000 in
set_option maxHeartbeats 4000000 in
theorem tcheck_any (S : TI) (wv : Value) (w : World) (hnx : I64 S.next) (hw : WrI w wv S.wr) :
    Calls Try.prog 15 #[.agg (tiCells S wv).toArray] w (IntPost (stE S) w) := by
  obtain ⟨a, c, rfl, hc, hmxl⟩ := hw
  have hle := hc.le
  have hmx := hc.max
  have HC := Lib.hid hc
  obtain ⟨nx, dv, dn, rd, wr⟩ := S
  unfold I64 at hnx
  simp only [tiCells] at *
  have HE : Hid (stE ⟨nx, dv, dn, rd, wr⟩ = if nx < 0 ∨ dv < 0 ∨ dn < 0 ∨ (16384 : Int) < (wr.length : Int) then 4 else if ∃ i, i < 16 ∧ rd i < 0 then 4 else if goodW nx wr then 0 else 3) := rfl
  obtain ⟨er, her⟩ : ∃ er, er = stE ⟨nx, dv, dn, rd, wr⟩ := ⟨_, rfl⟩
  rw [← her] at HE ⊢
  clear her
  have g0 : ∀ w : World, (Instr.index 22 (.agg #[.int .i64 (rd 0 : Int), .int .i64 (rd 1 : Int), .int .i64 (rd 2 : Int), .int .i64 (rd 3 : Int), .int .i64 (rd 4 : Int), .int .i64 (rd 5 : Int), .int .i64 (rd 6 : Int), .int .i64 (rd 7 : Int), .int .i64 (rd 8 : Int), .int .i64 (rd 9 : Int), .int .i64 (rd 10 : Int), .int .i64 (rd 11 : Int), .int .i64 (rd 12 : Int), .int .i64 (rd 13 : Int), .int .i64 (rd 14 : Int), .int .i64 (rd 15 : Int)]) (.int .i64 0)).run Try.prog w = .ok (.int .i64 (rd 0 : Int)) w := fun _ => by kernel_rfl
  have g1 : ∀ w : World, (Instr.index 22 (.agg #[.int .i64 (rd 0 : Int), .int .i64 (rd 1 : Int), .int .i64 (rd 2 : Int), .int .i64 (rd 3 : Int), .int .i64 (rd 4 : Int), .int .i64 (rd 5 : Int), .int .i64 (rd 6 : Int), .int .i64 (rd 7 : Int), .int .i64 (rd 8 : Int), .int .i64 (rd 9 : Int), .int .i64 (rd 10 : Int), .int .i64 (rd 11 : Int), .int .i64 (rd 12 : Int), .int .i64 (rd 13 : Int), .int .i64 (rd 14 : Int), .int .i64 (rd 15 : Int)]) (.int .i64 1)).run Try.prog w = .ok (.int .i64 (rd 1 : Int)) w := fun _ => by kernel_rfl
  have g2 : ∀ w : World, (Instr.index 22 (.agg #[.int .i64 (rd 0 : Int), .int .i64 (rd 1 : Int), .int .i64 (rd 2 : Int), .int .i64 (rd 3 : Int), .int .i64 (rd 4 : Int), .int .i64 (rd 5 : Int), .int .i64 (rd 6 : Int), .int .i64 (rd 7 : Int), .int .i64 (rd 8 : Int), .int .i64 (rd 9 : Int), .int .i64 (rd 10 : Int), .int .i64 (rd 11 : Int), .int .i64 (rd 12 : Int), .int .i64 (rd 13 : Int), .int .i64 (rd 14 : Int), .int .i64 (rd 15 : Int)]) (.int .i64 2)).run Try.prog w = .ok (.int .i64 (rd 2 : Int)) w := fun _ => by kernel_rfl
  have g3 : ∀ w : World, (Instr.index 22 (.agg #[.int .i64 (rd 0 : Int), .int .i64 (rd 1 : Int), .int .i64 (rd 2 : Int), .int .i64 (rd 3 : Int), .int .i64 (rd 4 : Int), .int .i64 (rd 5 : Int), .int .i64 (rd 6 : Int), .int .i64 (rd 7 : Int), .int .i64 (rd 8 : Int), .int .i64 (rd 9 : Int), .int .i64 (rd 10 : Int), .int .i64 (rd 11 : Int), .int .i64 (rd 12 : Int), .int .i64 (rd 13 : Int), .int .i64 (rd 14 : Int), .int .i64 (rd 15 : Int)]) (.int .i64 3)).run Try.prog w = .ok (.int .i64 (rd 3 : Int)) w := fun _ => by kernel_rfl
  have g4 : ∀ w : World, (Instr.index 22 (.agg #[.int .i64 (rd 0 : Int), .int .i64 (rd 1 : Int), .int .i64 (rd 2 : Int), .int .i64 (rd 3 : Int), .int .i64 (rd 4 : Int), .int .i64 (rd 5 : Int), .int .i64 (rd 6 : Int), .int .i64 (rd 7 : Int), .int .i64 (rd 8 : Int), .int .i64 (rd 9 : Int), .int .i64 (rd 10 : Int), .int .i64 (rd 11 : Int), .int .i64 (rd 12 : Int), .int .i64 (rd 13 : Int), .int .i64 (rd 14 : Int), .int .i64 (rd 15 : Int)]) (.int .i64 4)).run Try.prog w = .ok (.int .i64 (rd 4 : Int)) w := fun _ => by kernel_rfl
  have g5 : ∀ w : World, (Instr.index 22 (.agg #[.int .i64 (rd 0 : Int), .int .i64 (rd 1 : Int), .int .i64 (rd 2 : Int), .int .i64 (rd 3 : Int), .int .i64 (rd 4 : Int), .int .i64 (rd 5 : Int), .int .i64 (rd 6 : Int), .int .i64 (rd 7 : Int), .int .i64 (rd 8 : Int), .int .i64 (rd 9 : Int), .int .i64 (rd 10 : Int), .int .i64 (rd 11 : Int), .int .i64 (rd 12 : Int), .int .i64 (rd 13 : Int), .int .i64 (rd 14 : Int), .int .i64 (rd 15 : Int)]) (.int .i64 5)).run Try.prog w = .ok (.int .i64 (rd 5 : Int)) w := fun _ => by kernel_rfl
  have g6 : ∀ w : World, (Instr.index 22 (.agg #[.int .i64 (rd 0 : Int), .int .i64 (rd 1 : Int), .int .i64 (rd 2 : Int), .int .i64 (rd 3 : Int), .int .i64 (rd 4 : Int), .int .i64 (rd 5 : Int), .int .i64 (rd 6 : Int), .int .i64 (rd 7 : Int), .int .i64 (rd 8 : Int), .int .i64 (rd 9 : Int), .int .i64 (rd 10 : Int), .int .i64 (rd 11 : Int), .int .i64 (rd 12 : Int), .int .i64 (rd 13 : Int), .int .i64 (rd 14 : Int), .int .i64 (rd 15 : Int)]) (.int .i64 6)).run Try.prog w = .ok (.int .i64 (rd 6 : Int)) w := fun _ => by kernel_rfl
  have g7 : ∀ w : World, (Instr.index 22 (.agg #[.int .i64 (rd 0 : Int), .int .i64 (rd 1 : Int), .int .i64 (rd 2 : Int), .int .i64 (rd 3 : Int), .int .i64 (rd 4 : Int), .int .i64 (rd 5 : Int), .int .i64 (rd 6 : Int), .int .i64 (rd 7 : Int), .int .i64 (rd 8 : Int), .int .i64 (rd 9 : Int), .int .i64 (rd 10 : Int), .int .i64 (rd 11 : Int), .int .i64 (rd 12 : Int), .int .i64 (rd 13 : Int), .int .i64 (rd 14 : Int), .int .i64 (rd 15 : Int)]) (.int .i64 7)).run Try.prog w = .ok (.int .i64 (rd 7 : Int)) w := fun _ => by kernel_rfl
  have g8 : ∀ w : World, (Instr.index 22 (.agg #[.int .i64 (rd 0 : Int), .int .i64 (rd 1 : Int), .int .i64 (rd 2 : Int), .int .i64 (rd 3 : Int), .int .i64 (rd 4 : Int), .int .i64 (rd 5 : Int), .int .i64 (rd 6 : Int), .int .i64 (rd 7 : Int), .int .i64 (rd 8 : Int), .int .i64 (rd 9 : Int), .int .i64 (rd 10 : Int), .int .i64 (rd 11 : Int), .int .i64 (rd 12 : Int), .int .i64 (rd 13 : Int), .int .i64 (rd 14 : Int), .int .i64 (rd 15 : Int)]) (.int .i64 8)).run Try.prog w = .ok (.int .i64 (rd 8 : Int)) w := fun _ => by kernel_rfl
  have g9 : ∀ w : World, (Instr.index 22 (.agg #[.int .i64 (rd 0 : Int), .int .i64 (rd 1 : Int), .int .i64 (rd 2 : Int), .int .i64 (rd 3 : Int), .int .i64 (rd 4 : Int), .int .i64 (rd 5 : Int), .int .i64 (rd 6 : Int), .int .i64 (rd 7 : Int), .int .i64 (rd 8 : Int), .int .i64 (rd 9 : Int), .int .i64 (rd 10 : Int), .int .i64 (rd 11 : Int), .int .i64 (rd 12 : Int), .int .i64 (rd 13 : Int), .int .i64 (rd 14 : Int), .int .i64 (rd 15 : Int)]) (.int .i64 9)).run Try.prog w = .ok (.int .i64 (rd 9 : Int)) w := fun _ => by kernel_rfl
  have g10 : ∀ w : World, (Instr.index 22 (.agg #[.int .i64 (rd 0 : Int), .int .i64 (rd 1 : Int), .int .i64 (rd 2 : Int), .int .i64 (rd 3 : Int), .int .i64 (rd 4 : Int), .int .i64 (rd 5 : Int), .int .i64 (rd 6 : Int), .int .i64 (rd 7 : Int), .int .i64 (rd 8 : Int), .int .i64 (rd 9 : Int), .int .i64 (rd 10 : Int), .int .i64 (rd 11 : Int), .int .i64 (rd 12 : Int), .int .i64 (rd 13 : Int), .int .i64 (rd 14 : Int), .int .i64 (rd 15 : Int)]) (.int .i64 10)).run Try.prog w = .ok (.int .i64 (rd 10 : Int)) w := fun _ => by kernel_rfl
  have g11 : ∀ w : World, (Instr.index 22 (.agg #[.int .i64 (rd 0 : Int), .int .i64 (rd 1 : Int), .int .i64 (rd 2 : Int), .int .i64 (rd 3 : Int), .int .i64 (rd 4 : Int), .int .i64 (rd 5 : Int), .int .i64 (rd 6 : Int), .int .i64 (rd 7 : Int), .int .i64 (rd 8 : Int), .int .i64 (rd 9 : Int), .int .i64 (rd 10 : Int), .int .i64 (rd 11 : Int), .int .i64 (rd 12 : Int), .int .i64 (rd 13 : Int), .int .i64 (rd 14 : Int), .int .i64 (rd 15 : Int)]) (.int .i64 11)).run Try.prog w = .ok (.int .i64 (rd 11 : Int)) w := fun _ => by kernel_rfl
  have g12 : ∀ w : World, (Instr.index 22 (.agg #[.int .i64 (rd 0 : Int), .int .i64 (rd 1 : Int), .int .i64 (rd 2 : Int), .int .i64 (rd 3 : Int), .int .i64 (rd 4 : Int), .int .i64 (rd 5 : Int), .int .i64 (rd 6 : Int), .int .i64 (rd 7 : Int), .int .i64 (rd 8 : Int), .int .i64 (rd 9 : Int), .int .i64 (rd 10 : Int), .int .i64 (rd 11 : Int), .int .i64 (rd 12 : Int), .int .i64 (rd 13 : Int), .int .i64 (rd 14 : Int), .int .i64 (rd 15 : Int)]) (.int .i64 12)).run Try.prog w = .ok (.int .i64 (rd 12 : Int)) w := fun _ => by kernel_rfl
  have g13 : ∀ w : World, (Instr.index 22 (.agg #[.int .i64 (rd 0 : Int), .int .i64 (rd 1 : Int), .int .i64 (rd 2 : Int), .int .i64 (rd 3 : Int), .int .i64 (rd 4 : Int), .int .i64 (rd 5 : Int), .int .i64 (rd 6 : Int), .int .i64 (rd 7 : Int), .int .i64 (rd 8 : Int), .int .i64 (rd 9 : Int), .int .i64 (rd 10 : Int), .int .i64 (rd 11 : Int), .int .i64 (rd 12 : Int), .int .i64 (rd 13 : Int), .int .i64 (rd 14 : Int), .int .i64 (rd 15 : Int)]) (.int .i64 13)).run Try.prog w = .ok (.int .i64 (rd 13 : Int)) w := fun _ => by kernel_rfl
  have g14 : ∀ w : World, (Instr.index 22 (.agg #[.int .i64 (rd 0 : Int), .int .i64 (rd 1 : Int), .int .i64 (rd 2 : Int), .int .i64 (rd 3 : Int), .int .i64 (rd 4 : Int), .int .i64 (rd 5 : Int), .int .i64 (rd 6 : Int), .int .i64 (rd 7 : Int), .int .i64 (rd 8 : Int), .int .i64 (rd 9 : Int), .int .i64 (rd 10 : Int), .int .i64 (rd 11 : Int), .int .i64 (rd 12 : Int), .int .i64 (rd 13 : Int), .int .i64 (rd 14 : Int), .int .i64 (rd 15 : Int)]) (.int .i64 14)).run Try.prog w = .ok (.int .i64 (rd 14 : Int)) w := fun _ => by kernel_rfl
  have g15 : ∀ w : World, (Instr.index 22 (.agg #[.int .i64 (rd 0 : Int), .int .i64 (rd 1 : Int), .int .i64 (rd 2 : Int), .int .i64 (rd 3 : Int), .int .i64 (rd 4 : Int), .int .i64 (rd 5 : Int), .int .i64 (rd 6 : Int), .int .i64 (rd 7 : Int), .int .i64 (rd 8 : Int), .int .i64 (rd 9 : Int), .int .i64 (rd 10 : Int), .int .i64 (rd 11 : Int), .int .i64 (rd 12 : Int), .int .i64 (rd 13 : Int), .int .i64 (rd 14 : Int), .int .i64 (rd 15 : Int)]) (.int .i64 15)).run Try.prog w = .ok (.int .i64 (rd 15 : Int)) w := fun _ => by kernel_rfl
  have HB0 : Hid (Below w.heap.size w (w.alloc (.cells #[.int .i64 nx, .int .i64 dv, .int .i64 dn, .int .i64 (rd 0), .int .i64 (rd 1), .int .i64 (rd 2), .int .i64 (rd 3), .int .i64 (rd 4), .int .i64 (rd 5), .int .i64 (rd 6), .int .i64 (rd 7), .int .i64 (rd 8), .int .i64 (rd 9), .int .i64 (rd 10), .int .i64 (rd 11), .int .i64 (rd 12), .int .i64 (rd 13), .int .i64 (rd 14), .int .i64 (rd 15), .slice a wr.length c] 25))) := (Below.refl _ _).alloc (Nat.le_refl _) _
  have hq0 := Blk.new w [.int .i64 nx, .int .i64 dv, .int .i64 dn, .int .i64 (rd 0), .int .i64 (rd 1), .int .i64 (rd 2), .int .i64 (rd 3), .int .i64 (rd 4), .int .i64 (rd 5), .int .i64 (rd 6), .int .i64 (rd 7), .int .i64 (rd 8), .int .i64 (rd 9), .int .i64 (rd 10), .int .i64 (rd 11), .int .i64 (rd 12), .int .i64 (rd 13), .int .i64 (rd 14), .int .i64 (rd 15), .slice a wr.length c] 25
  clear hc
  go_enter Try.func15, Try.ntmps15
  by_cases x1 : nx < 0
  · have HR : Hid (er = 4) := by show _ = _; rw [HE.out, if_pos (.inl x1)]
    go_wp2_with fail
    go_ret
    exact ⟨ret_int HR.out.symm, HB0.out⟩
  by_cases x2 : dv < 0
  · have HR : Hid (er = 4) := by show _ = _; rw [HE.out, if_pos (.inr (.inl x2))]
    go_wp2_with fail
    go_ret
    exact ⟨ret_int HR.out.symm, HB0.out⟩
  by_cases x3 : dn < 0
  · have HR : Hid (er = 4) := by show _ = _; rw [HE.out, if_pos (.inr (.inr (.inl x3)))]
    go_wp2_with fail
    go_ret
    exact ⟨ret_int HR.out.symm, HB0.out⟩
  by_cases x4 : (16384 : Int) < (wr.length : Int)
  · have HR : Hid (er = 4) := by show _ = _; rw [HE.out, if_pos (.inr (.inr (.inr x4)))]
    have x4d : decide ((16384 : Int) < (wr.length : Int)) = true := decide_eq_true x4
    have x4n : 16384 < wr.length := by omega
    go_wp2_with fail
    go_ret
    exact ⟨ret_int HR.out.symm, HB0.out⟩
  have HE2 : Hid (er = if ∃ i, i < 16 ∧ rd i < 0 then 4 else if goodW nx wr then 0 else 3) := by show _ = _; rw [HE.out, if_neg (by omega)]
  have x4d : decide ((16384 : Int) < (wr.length : Int)) = false := decide_eq_false x4
  have x4n : ¬ 16384 < wr.length := by omega
  clear HE
  go_wp2_with fail
  have hnx0 : 0 ≤ nx := by omega
  clear x1 x2 x3 x4 x4d x4n
  have HCW := Lib.hid (HC.out.below HB0.out)
  generalize w.alloc (.cells #[.int .i64 nx, .int .i64 dv, .int .i64 dn, .int .i64 (rd 0), .int .i64 (rd 1), .int .i64 (rd 2), .int .i64 (rd 3), .int .i64 (rd 4), .int .i64 (rd 5), .int .i64 (rd 6), .int .i64 (rd 7), .int .i64 (rd 8), .int .i64 (rd 9), .int .i64 (rd 10), .int .i64 (rd 11), .int .i64 (rd 12), .int .i64 (rd 13), .int .i64 (rd 14), .int .i64 (rd 15), .slice a wr.length c] 25) = w1 at HB0 HCW hq0 ⊢
  have d0 := hq0.cell 0
  have d1 := hq0.cell 1
  have d2 := hq0.cell 2
  have d19 := hq0.cell 19
  have HQ0 := Lib.hid hq0
  simp only [List.getElem?_cons_succ, List.getElem?_cons_zero] at d0 d1 d2 d19
  clear hq0
  clear d1 d2
  go_loop [2, 29] (fun z u => z = .int .i64 0 ∧ ∃ k : Nat, k ≤ 16 ∧ u = .int .i64 (k : Int) ∧ ∀ i, i < k → ¬ rd i < 0) (fun z u => 16 - (intOf u).toNat)
  case atStart => exact ⟨rfl, 0, by omega, rfl, fun i h => by omega⟩
  case round =>
    obtain ⟨rfl, k, hk, rfl, hneg⟩ := hrel
    have HNG := Lib.hid hneg
    clear hneg
    by_cases hlt : k < 16
    · by_cases hbad : rd k < 0
      · have HR : Hid (er = 4) := by show _ = _; rw [HE2.out, if_pos ⟨k, hlt, hbad⟩]
        have hks : k = 0 ∨ k = 1 ∨ k = 2 ∨ k = 3 ∨ k = 4 ∨ k = 5 ∨ k = 6 ∨ k = 7 ∨ k = 8 ∨ k = 9 ∨ k = 10 ∨ k = 11 ∨ k = 12 ∨ k = 13 ∨ k = 14 ∨ k = 15 := by omega
        rcases hks with rfl | rfl | rfl | rfl | rfl | rfl | rfl | rfl | rfl | rfl | rfl | rfl | rfl | rfl | rfl | rfl
        all_goals
          go_wp2_with fail
          go_ret
          exact ⟨ret_int HR.out.symm, HB0.out⟩
      · have HNEG : Hid (∀ i, i < k + 1 → ¬ rd i < 0) := by
          intro i hi
          by_cases e : i = k
          · rw [e]; exact hbad
          · exact HNG.out i (by omega)
        have hks : k = 0 ∨ k = 1 ∨ k = 2 ∨ k = 3 ∨ k = 4 ∨ k = 5 ∨ k = 6 ∨ k = 7 ∨ k = 8 ∨ k = 9 ∨ k = 10 ∨ k = 11 ∨ k = 12 ∨ k = 13 ∨ k = 14 ∨ k = 15 := by omega
        rcases hks with rfl | rfl | rfl | rfl | rfl | rfl | rfl | rfl | rfl | rfl | rfl | rfl | rfl | rfl | rfl | rfl
        all_goals
          have hbd : decide (rd _ < 0) = false := decide_eq_false hbad
          go_wp2_with fail
          go_round
          case rel => first | exact ⟨rfl, 1, by omega, by go_num, HNEG.out⟩ | exact ⟨rfl, 2, by omega, by go_num, HNEG.out⟩ | exact ⟨rfl, 3, by omega, by go_num, HNEG.out⟩ | exact ⟨rfl, 4, by omega, by go_num, HNEG.out⟩ | exact ⟨rfl, 5, by omega, by go_num, HNEG.out⟩ | exact ⟨rfl, 6, by omega, by go_num, HNEG.out⟩ | exact ⟨rfl, 7, by omega, by go_num, HNEG.out⟩ | exact ⟨rfl, 8, by omega, by go_num, HNEG.out⟩ | exact ⟨rfl, 9, by omega, by go_num, HNEG.out⟩ | exact ⟨rfl, 10, by omega, by go_num, HNEG.out⟩ | exact ⟨rfl, 11, by omega, by go_num, HNEG.out⟩ | exact ⟨rfl, 12, by omega, by go_num, HNEG.out⟩ | exact ⟨rfl, 13, by omega, by go_num, HNEG.out⟩ | exact ⟨rfl, 14, by omega, by go_num, HNEG.out⟩ | exact ⟨rfl, 15, by omega, by go_num, HNEG.out⟩ | exact ⟨rfl, 16, by omega, by go_num, HNEG.out⟩
          case measure => first | decide | simp [intOf]
    · have ek : k = 16 := by omega
      subst ek
      have HE3 : Hid (er = if goodW nx wr then 0 else 3) := by
        show _ = _
        rw [HE2.out, if_neg]
        rintro ⟨i, hi, h⟩
        exact HNG.out i hi h
      clear g0 g1 g2 g3 g4 g5 g6 g7 g8 g9 g10 g11 g12 g13 g14 g15 HNG
      have hw64 : wrap64 (nx - 1) = nx - 1 := by unfold wrap64; omega
      go_wp2_with fail
      go_loop [2, 5, 41] (fun z p u => z = .int .i64 0 ∧ ∃ k : Nat, k ≤ wr.length ∧ u = .int .i64 (k : Int) ∧ p = .int .i64 (lastW nx wr k) ∧ goodW nx (wr.take k)) (fun z p u => wr.length - (intOf u).toNat)
      case atStart => exact ⟨rfl, 0, Nat.zero_le _, rfl, by unfold lastW; rw [if_pos rfl], by simp [goodW]⟩
      case round =>
        obtain ⟨rfl, k, hk, rfl, rfl, hgd⟩ := hrel
        have HGD := Lib.hid hgd
        clear hgd
        by_cases hlt : k < wr.length
        · obtain ⟨b, off, ea, _, hcell⟩ := HCW.out.ints (by omega)
          subst ea
          have cl := hcell k hlt
          have HST := Lib.hid (goodW_step HGD.out hlt)
          have HLS := Lib.hid (lastW_succ nx wr k hlt)
          obtain ⟨z, hz⟩ : ∃ z, z = wr[k] := ⟨_, rfl⟩
          rw [← hz] at cl HST HLS
          obtain ⟨la, hla⟩ : ∃ la, la = lastW nx wr k := ⟨_, rfl⟩
          rw [← hla] at HST ⊢
          clear hcell hz hla
          by_cases hle2 : z ≤ la
          · have HR : Hid (er = 3) := by
              show _ = _
              rw [HE3.out, if_neg]
              intro hg
              have := HST.out.1 (goodW_take hg _)
              omega
            have hgl : decide (z ≤ la) = true := decide_eq_true hle2
            go_wp2_with fail
            go_ret
            exact ⟨ret_int HR.out.symm, HB0.out⟩
          · have hgl : decide (z ≤ la) = false := decide_eq_false hle2
            have HN := Lib.hid (HST.out.2 (by omega))
            clear hle2
            go_wp2_with fail
            go_round
            case rel => exact ⟨rfl, k + 1, by omega, by go_num, by rw [HLS.out], HN.out⟩
            case measure => simp [intOf]; omega
        · have ek : k = wr.length := by omega
          subst ek
          have HR : Hid (er = 0) := by show _ = _; rw [HE3.out, if_pos]; have := HGD.out; rwa [List.take_length] at this
          go_wp2_with fail
          go_ret
          exact ⟨ret_int HR.out.symm, HB0.out⟩

open Classical in
set_option maxRecDepth 100000 in
set_option maxHeartbeats 4000000 in
theorem stateErr_any (S : TI) (wv : Value) (w : World) (hnx : I64 S.next) (hw : WrI w wv S.wr) :
    Calls Try.prog 14 #[.agg (tiCells S wv).toArray] w (IntPost (stE S) w) := by
  obtain ⟨a, c, rfl, hc, hmxl⟩ := hw
  have hle := hc.le
  have hmx := hc.max
  have HC := Lib.hid hc
  obtain ⟨nx, dv, dn, rd, wr⟩ := S
  unfold I64 at hnx
  simp only [tiCells] at *
  have HE : Hid (stE ⟨nx, dv, dn, rd, wr⟩ = if nx < 0 ∨ dv < 0 ∨ dn < 0 ∨ (16384 : Int) < (wr.length : Int) then 4 else if ∃ i, i < 16 ∧ rd i < 0 then 4 else if goodW nx wr then 0 else 3) := rfl
  obtain ⟨er, her⟩ : ∃ er, er = stE ⟨nx, dv, dn, rd, wr⟩ := ⟨_, rfl⟩
  rw [← her] at HE ⊢
  clear her
  have g0 : ∀ w : World, (Instr.index 22 (.agg #[.int .i64 (rd 0 : Int), .int .i64 (rd 1 : Int), .int .i64 (rd 2 : Int), .int .i64 (rd 3 : Int), .int .i64 (rd 4 : Int), .int .i64 (rd 5 : Int), .int .i64 (rd 6 : Int), .int .i64 (rd 7 : Int), .int .i64 (rd 8 : Int), .int .i64 (rd 9 : Int), .int .i64 (rd 10 : Int), .int .i64 (rd 11 : Int), .int .i64 (rd 12 : Int), .int .i64 (rd 13 : Int), .int .i64 (rd 14 : Int), .int .i64 (rd 15 : Int)]) (.int .i64 0)).run Try.prog w = .ok (.int .i64 (rd 0 : Int)) w := fun _ => by kernel_rfl
  have g1 : ∀ w : World, (Instr.index 22 (.agg #[.int .i64 (rd 0 : Int), .int .i64 (rd 1 : Int), .int .i64 (rd 2 : Int), .int .i64 (rd 3 : Int), .int .i64 (rd 4 : Int), .int .i64 (rd 5 : Int), .int .i64 (rd 6 : Int), .int .i64 (rd 7 : Int), .int .i64 (rd 8 : Int), .int .i64 (rd 9 : Int), .int .i64 (rd 10 : Int), .int .i64 (rd 11 : Int), .int .i64 (rd 12 : Int), .int .i64 (rd 13 : Int), .int .i64 (rd 14 : Int), .int .i64 (rd 15 : Int)]) (.int .i64 1)).run Try.prog w = .ok (.int .i64 (rd 1 : Int)) w := fun _ => by kernel_rfl
  have g2 : ∀ w : World, (Instr.index 22 (.agg #[.int .i64 (rd 0 : Int), .int .i64 (rd 1 : Int), .int .i64 (rd 2 : Int), .int .i64 (rd 3 : Int), .int .i64 (rd 4 : Int), .int .i64 (rd 5 : Int), .int .i64 (rd 6 : Int), .int .i64 (rd 7 : Int), .int .i64 (rd 8 : Int), .int .i64 (rd 9 : Int), .int .i64 (rd 10 : Int), .int .i64 (rd 11 : Int), .int .i64 (rd 12 : Int), .int .i64 (rd 13 : Int), .int .i64 (rd 14 : Int), .int .i64 (rd 15 : Int)]) (.int .i64 2)).run Try.prog w = .ok (.int .i64 (rd 2 : Int)) w := fun _ => by kernel_rfl
  have g3 : ∀ w : World, (Instr.index 22 (.agg #[.int .i64 (rd 0 : Int), .int .i64 (rd 1 : Int), .int .i64 (rd 2 : Int), .int .i64 (rd 3 : Int), .int .i64 (rd 4 : Int), .int .i64 (rd 5 : Int), .int .i64 (rd 6 : Int), .int .i64 (rd 7 : Int), .int .i64 (rd 8 : Int), .int .i64 (rd 9 : Int), .int .i64 (rd 10 : Int), .int .i64 (rd 11 : Int), .int .i64 (rd 12 : Int), .int .i64 (rd 13 : Int), .int .i64 (rd 14 : Int), .int .i64 (rd 15 : Int)]) (.int .i64 3)).run Try.prog w = .ok (.int .i64 (rd 3 : Int)) w := fun _ => by kernel_rfl
  have g4 : ∀ w : World, (Instr.index 22 (.agg #[.int .i64 (rd 0 : Int), .int .i64 (rd 1 : Int), .int .i64 (rd 2 : Int), .int .i64 (rd 3 : Int), .int .i64 (rd 4 : Int), .int .i64 (rd 5 : Int), .int .i64 (rd 6 : Int), .int .i64 (rd 7 : Int), .int .i64 (rd 8 : Int), .int .i64 (rd 9 : Int), .int .i64 (rd 10 : Int), .int .i64 (rd 11 : Int), .int .i64 (rd 12 : Int), .int .i64 (rd 13 : Int), .int .i64 (rd 14 : Int), .int .i64 (rd 15 : Int)]) (.int .i64 4)).run Try.prog w = .ok (.int .i64 (rd 4 : Int)) w := fun _ => by kernel_rfl
  have g5 : ∀ w : World, (Instr.index 22 (.agg #[.int .i64 (rd 0 : Int), .int .i64 (rd 1 : Int), .int .i64 (rd 2 : Int), .int .i64 (rd 3 : Int), .int .i64 (rd 4 : Int), .int .i64 (rd 5 : Int), .int .i64 (rd 6 : Int), .int .i64 (rd 7 : Int), .int .i64 (rd 8 : Int), .int .i64 (rd 9 : Int), .int .i64 (rd 10 : Int), .int .i64 (rd 11 : Int), .int .i64 (rd 12 : Int), .int .i64 (rd 13 : Int), .int .i64 (rd 14 : Int), .int .i64 (rd 15 : Int)]) (.int .i64 5)).run Try.prog w = .ok (.int .i64 (rd 5 : Int)) w := fun _ => by kernel_rfl
  have g6 : ∀ w : World, (Instr.index 22 (.agg #[.int .i64 (rd 0 : Int), .int .i64 (rd 1 : Int), .int .i64 (rd 2 : Int), .int .i64 (rd 3 : Int), .int .i64 (rd 4 : Int), .int .i64 (rd 5 : Int), .int .i64 (rd 6 : Int), .int .i64 (rd 7 : Int), .int .i64 (rd 8 : Int), .int .i64 (rd 9 : Int), .int .i64 (rd 10 : Int), .int .i64 (rd 11 : Int), .int .i64 (rd 12 : Int), .int .i64 (rd 13 : Int), .int .i64 (rd 14 : Int), .int .i64 (rd 15 : Int)]) (.int .i64 6)).run Try.prog w = .ok (.int .i64 (rd 6 : Int)) w := fun _ => by kernel_rfl
  have g7 : ∀ w : World, (Instr.index 22 (.agg #[.int .i64 (rd 0 : Int), .int .i64 (rd 1 : Int), .int .i64 (rd 2 : Int), .int .i64 (rd 3 : Int), .int .i64 (rd 4 : Int), .int .i64 (rd 5 : Int), .int .i64 (rd 6 : Int), .int .i64 (rd 7 : Int), .int .i64 (rd 8 : Int), .int .i64 (rd 9 : Int), .int .i64 (rd 10 : Int), .int .i64 (rd 11 : Int), .int .i64 (rd 12 : Int), .int .i64 (rd 13 : Int), .int .i64 (rd 14 : Int), .int .i64 (rd 15 : Int)]) (.int .i64 7)).run Try.prog w = .ok (.int .i64 (rd 7 : Int)) w := fun _ => by kernel_rfl
  have g8 : ∀ w : World, (Instr.index 22 (.agg #[.int .i64 (rd 0 : Int), .int .i64 (rd 1 : Int), .int .i64 (rd 2 : Int), .int .i64 (rd 3 : Int), .int .i64 (rd 4 : Int), .int .i64 (rd 5 : Int), .int .i64 (rd 6 : Int), .int .i64 (rd 7 : Int), .int .i64 (rd 8 : Int), .int .i64 (rd 9 : Int), .int .i64 (rd 10 : Int), .int .i64 (rd 11 : Int), .int .i64 (rd 12 : Int), .int .i64 (rd 13 : Int), .int .i64 (rd 14 : Int), .int .i64 (rd 15 : Int)]) (.int .i64 8)).run Try.prog w = .ok (.int .i64 (rd 8 : Int)) w := fun _ => by kernel_rfl
  have g9 : ∀ w : World, (Instr.index 22 (.agg #[.int .i64 (rd 0 : Int), .int .i64 (rd 1 : Int), .int .i64 (rd 2 : Int), .int .i64 (rd 3 : Int), .int .i64 (rd 4 : Int), .int .i64 (rd 5 : Int), .int .i64 (rd 6 : Int), .int .i64 (rd 7 : Int), .int .i64 (rd 8 : Int), .int .i64 (rd 9 : Int), .int .i64 (rd 10 : Int), .int .i64 (rd 11 : Int), .int .i64 (rd 12 : Int), .int .i64 (rd 13 : Int), .int .i64 (rd 14 : Int), .int .i64 (rd 15 : Int)]) (.int .i64 9)).run Try.prog w = .ok (.int .i64 (rd 9 : Int)) w := fun _ => by kernel_rfl
  have g10 : ∀ w : World, (Instr.index 22 (.agg #[.int .i64 (rd 0 : Int), .int .i64 (rd 1 : Int), .int .i64 (rd 2 : Int), .int .i64 (rd 3 : Int), .int .i64 (rd 4 : Int), .int .i64 (rd 5 : Int), .int .i64 (rd 6 : Int), .int .i64 (rd 7 : Int), .int .i64 (rd 8 : Int), .int .i64 (rd 9 : Int), .int .i64 (rd 10 : Int), .int .i64 (rd 11 : Int), .int .i64 (rd 12 : Int), .int .i64 (rd 13 : Int), .int .i64 (rd 14 : Int), .int .i64 (rd 15 : Int)]) (.int .i64 10)).run Try.prog w = .ok (.int .i64 (rd 10 : Int)) w := fun _ => by kernel_rfl
  have g11 : ∀ w : World, (Instr.index 22 (.agg #[.int .i64 (rd 0 : Int), .int .i64 (rd 1 : Int), .int .i64 (rd 2 : Int), .int .i64 (rd 3 : Int), .int .i64 (rd 4 : Int), .int .i64 (rd 5 : Int), .int .i64 (rd 6 : Int), .int .i64 (rd 7 : Int), .int .i64 (rd 8 : Int), .int .i64 (rd 9 : Int), .int .i64 (rd 10 : Int), .int .i64 (rd 11 : Int), .int .i64 (rd 12 : Int), .int .i64 (rd 13 : Int), .int .i64 (rd 14 : Int), .int .i64 (rd 15 : Int)]) (.int .i64 11)).run Try.prog w = .ok (.int .i64 (rd 11 : Int)) w := fun _ => by kernel_rfl
  have g12 : ∀ w : World, (Instr.index 22 (.agg #[.int .i64 (rd 0 : Int), .int .i64 (rd 1 : Int), .int .i64 (rd 2 : Int), .int .i64 (rd 3 : Int), .int .i64 (rd 4 : Int), .int .i64 (rd 5 : Int), .int .i64 (rd 6 : Int), .int .i64 (rd 7 : Int), .int .i64 (rd 8 : Int), .int .i64 (rd 9 : Int), .int .i64 (rd 10 : Int), .int .i64 (rd 11 : Int), .int .i64 (rd 12 : Int), .int .i64 (rd 13 : Int), .int .i64 (rd 14 : Int), .int .i64 (rd 15 : Int)]) (.int .i64 12)).run Try.prog w = .ok (.int .i64 (rd 12 : Int)) w := fun _ => by kernel_rfl
  have g13 : ∀ w : World, (Instr.index 22 (.agg #[.int .i64 (rd 0 : Int), .int .i64 (rd 1 : Int), .int .i64 (rd 2 : Int), .int .i64 (rd 3 : Int), .int .i64 (rd 4 : Int), .int .i64 (rd 5 : Int), .int .i64 (rd 6 : Int), .int .i64 (rd 7 : Int), .int .i64 (rd 8 : Int), .int .i64 (rd 9 : Int), .int .i64 (rd 10 : Int), .int .i64 (rd 11 : Int), .int .i64 (rd 12 : Int), .int .i64 (rd 13 : Int), .int .i64 (rd 14 : Int), .int .i64 (rd 15 : Int)]) (.int .i64 13)).run Try.prog w = .ok (.int .i64 (rd 13 : Int)) w := fun _ => by kernel_rfl
  have g14 : ∀ w : World, (Instr.index 22 (.agg #[.int .i64 (rd 0 : Int), .int .i64 (rd 1 : Int), .int .i64 (rd 2 : Int), .int .i64 (rd 3 : Int), .int .i64 (rd 4 : Int), .int .i64 (rd 5 : Int), .int .i64 (rd 6 : Int), .int .i64 (rd 7 : Int), .int .i64 (rd 8 : Int), .int .i64 (rd 9 : Int), .int .i64 (rd 10 : Int), .int .i64 (rd 11 : Int), .int .i64 (rd 12 : Int), .int .i64 (rd 13 : Int), .int .i64 (rd 14 : Int), .int .i64 (rd 15 : Int)]) (.int .i64 14)).run Try.prog w = .ok (.int .i64 (rd 14 : Int)) w := fun _ => by kernel_rfl
  have g15 : ∀ w : World, (Instr.index 22 (.agg #[.int .i64 (rd 0 : Int), .int .i64 (rd 1 : Int), .int .i64 (rd 2 : Int), .int .i64 (rd 3 : Int), .int .i64 (rd 4 : Int), .int .i64 (rd 5 : Int), .int .i64 (rd 6 : Int), .int .i64 (rd 7 : Int), .int .i64 (rd 8 : Int), .int .i64 (rd 9 : Int), .int .i64 (rd 10 : Int), .int .i64 (rd 11 : Int), .int .i64 (rd 12 : Int), .int .i64 (rd 13 : Int), .int .i64 (rd 14 : Int), .int .i64 (rd 15 : Int)]) (.int .i64 15)).run Try.prog w = .ok (.int .i64 (rd 15 : Int)) w := fun _ => by kernel_rfl
  have HB0 : Hid (Below w.heap.size w (w.alloc (.cells #[.int .i64 nx, .int .i64 dv, .int .i64 dn, .int .i64 (rd 0), .int .i64 (rd 1), .int .i64 (rd 2), .int .i64 (rd 3), .int .i64 (rd 4), .int .i64 (rd 5), .int .i64 (rd 6), .int .i64 (rd 7), .int .i64 (rd 8), .int .i64 (rd 9), .int .i64 (rd 10), .int .i64 (rd 11), .int .i64 (rd 12), .int .i64 (rd 13), .int .i64 (rd 14), .int .i64 (rd 15), .slice a wr.length c] 25))) := (Below.refl _ _).alloc (Nat.le_refl _) _
  have hq0 := Blk.new w [.int .i64 nx, .int .i64 dv, .int .i64 dn, .int .i64 (rd 0), .int .i64 (rd 1), .int .i64 (rd 2), .int .i64 (rd 3), .int .i64 (rd 4), .int .i64 (rd 5), .int .i64 (rd 6), .int .i64 (rd 7), .int .i64 (rd 8), .int .i64 (rd 9), .int .i64 (rd 10), .int .i64 (rd 11), .int .i64 (rd 12), .int .i64 (rd 13), .int .i64 (rd 14), .int .i64 (rd 15), .slice a wr.length c] 25
  clear hc
  go_enter Try.func14, Try.ntmps14
  by_cases x1 : nx < 0
  · have HR : Hid (er = 4) := by show _ = _; rw [HE.out, if_pos (.inl x1)]
    go_wp2_with fail
    go_ret
    exact ⟨ret_int HR.out.symm, HB0.out⟩
  by_cases x2 : dv < 0
  · have HR : Hid (er = 4) := by show _ = _; rw [HE.out, if_pos (.inr (.inl x2))]
    go_wp2_with fail
    go_ret
    exact ⟨ret_int HR.out.symm, HB0.out⟩
  by_cases x3 : dn < 0
  · have HR : Hid (er = 4) := by show _ = _; rw [HE.out, if_pos (.inr (.inr (.inl x3)))]
    go_wp2_with fail
    go_ret
    exact ⟨ret_int HR.out.symm, HB0.out⟩
  by_cases x4 : (16384 : Int) < (wr.length : Int)
  · have HR : Hid (er = 4) := by show _ = _; rw [HE.out, if_pos (.inr (.inr (.inr x4)))]
    have x4d : decide ((16384 : Int) < (wr.length : Int)) = true := decide_eq_true x4
    have x4n : 16384 < wr.length := by omega
    go_wp2_with fail
    go_ret
    exact ⟨ret_int HR.out.symm, HB0.out⟩
  have HE2 : Hid (er = if ∃ i, i < 16 ∧ rd i < 0 then 4 else if goodW nx wr then 0 else 3) := by show _ = _; rw [HE.out, if_neg (by omega)]
  have x4d : decide ((16384 : Int) < (wr.length : Int)) = false := decide_eq_false x4
  have x4n : ¬ 16384 < wr.length := by omega
  clear HE
  go_wp2_with fail
  have hnx0 : 0 ≤ nx := by omega
  clear x1 x2 x3 x4 x4d x4n
  have HCW := Lib.hid (HC.out.below HB0.out)
  generalize w.alloc (.cells #[.int .i64 nx, .int .i64 dv, .int .i64 dn, .int .i64 (rd 0), .int .i64 (rd 1), .int .i64 (rd 2), .int .i64 (rd 3), .int .i64 (rd 4), .int .i64 (rd 5), .int .i64 (rd 6), .int .i64 (rd 7), .int .i64 (rd 8), .int .i64 (rd 9), .int .i64 (rd 10), .int .i64 (rd 11), .int .i64 (rd 12), .int .i64 (rd 13), .int .i64 (rd 14), .int .i64 (rd 15), .slice a wr.length c] 25) = w1 at HB0 HCW hq0 ⊢
  have d0 := hq0.cell 0
  have d1 := hq0.cell 1
  have d2 := hq0.cell 2
  have d19 := hq0.cell 19
  have HQ0 := Lib.hid hq0
  simp only [List.getElem?_cons_succ, List.getElem?_cons_zero] at d0 d1 d2 d19
  clear hq0
  clear d1 d2
  go_loop [2, 28] (fun z u => z = .int .i64 0 ∧ ∃ k : Nat, k ≤ 16 ∧ u = .int .i64 (k : Int) ∧ ∀ i, i < k → ¬ rd i < 0) (fun z u => 16 - (intOf u).toNat)
  case atStart => exact ⟨rfl, 0, by omega, rfl, fun i h => by omega⟩
  case round =>
    obtain ⟨rfl, k, hk, rfl, hneg⟩ := hrel
    have HNG := Lib.hid hneg
    clear hneg
    by_cases hlt : k < 16
    · by_cases hbad : rd k < 0
      · have HR : Hid (er = 4) := by show _ = _; rw [HE2.out, if_pos ⟨k, hlt, hbad⟩]
        have hks : k = 0 ∨ k = 1 ∨ k = 2 ∨ k = 3 ∨ k = 4 ∨ k = 5 ∨ k = 6 ∨ k = 7 ∨ k = 8 ∨ k = 9 ∨ k = 10 ∨ k = 11 ∨ k = 12 ∨ k = 13 ∨ k = 14 ∨ k = 15 := by omega
        rcases hks with rfl | rfl | rfl | rfl | rfl | rfl | rfl | rfl | rfl | rfl | rfl | rfl | rfl | rfl | rfl | rfl
        all_goals
          go_wp2_with fail
          go_ret
          exact ⟨ret_int HR.out.symm, HB0.out⟩
      · have HNEG : Hid (∀ i, i < k + 1 → ¬ rd i < 0) := by
          intro i hi
          by_cases e : i = k
          · rw [e]; exact hbad
          · exact HNG.out i (by omega)
        have hks : k = 0 ∨ k = 1 ∨ k = 2 ∨ k = 3 ∨ k = 4 ∨ k = 5 ∨ k = 6 ∨ k = 7 ∨ k = 8 ∨ k = 9 ∨ k = 10 ∨ k = 11 ∨ k = 12 ∨ k = 13 ∨ k = 14 ∨ k = 15 := by omega
        rcases hks with rfl | rfl | rfl | rfl | rfl | rfl | rfl | rfl | rfl | rfl | rfl | rfl | rfl | rfl | rfl | rfl
        all_goals
          have hbd : decide (rd _ < 0) = false := decide_eq_false hbad
          go_wp2_with fail
          go_round
          case rel => first | exact ⟨rfl, 1, by omega, by go_num, HNEG.out⟩ | exact ⟨rfl, 2, by omega, by go_num, HNEG.out⟩ | exact ⟨rfl, 3, by omega, by go_num, HNEG.out⟩ | exact ⟨rfl, 4, by omega, by go_num, HNEG.out⟩ | exact ⟨rfl, 5, by omega, by go_num, HNEG.out⟩ | exact ⟨rfl, 6, by omega, by go_num, HNEG.out⟩ | exact ⟨rfl, 7, by omega, by go_num, HNEG.out⟩ | exact ⟨rfl, 8, by omega, by go_num, HNEG.out⟩ | exact ⟨rfl, 9, by omega, by go_num, HNEG.out⟩ | exact ⟨rfl, 10, by omega, by go_num, HNEG.out⟩ | exact ⟨rfl, 11, by omega, by go_num, HNEG.out⟩ | exact ⟨rfl, 12, by omega, by go_num, HNEG.out⟩ | exact ⟨rfl, 13, by omega, by go_num, HNEG.out⟩ | exact ⟨rfl, 14, by omega, by go_num, HNEG.out⟩ | exact ⟨rfl, 15, by omega, by go_num, HNEG.out⟩ | exact ⟨rfl, 16, by omega, by go_num, HNEG.out⟩
          case measure => first | decide | simp [intOf]
    · have ek : k = 16 := by omega
      subst ek
      have HE3 : Hid (er = if goodW nx wr then 0 else 3) := by
        show _ = _
        rw [HE2.out, if_neg]
        rintro ⟨i, hi, h⟩
        exact HNG.out i hi h
      clear g0 g1 g2 g3 g4 g5 g6 g7 g8 g9 g10 g11 g12 g13 g14 g15 HNG
      go_wp2_with fail
      go_loop [2, 37] (fun z u => z = .int .i64 0 ∧ ∃ k : Nat, k ≤ wr.length ∧ u = .int .i64 (k : Int) ∧ goodW nx (wr.take k)) (fun z u => wr.length - (intOf u).toNat)
      case atStart => exact ⟨rfl, 0, Nat.zero_le _, rfl, by simp [goodW]⟩
      case round =>
        obtain ⟨rfl, k, hk, rfl, hgd⟩ := hrel
        have HGD := Lib.hid hgd
        clear hgd
        by_cases hlt : k < wr.length
        · obtain ⟨b, off, ea, _, hcell⟩ := HCW.out.ints (by omega)
          subst ea
          have cl := hcell k hlt
          have HST := Lib.hid (goodW_step HGD.out hlt)
          have HRF := Lib.hid (lastW_ref HGD.out hlt)
          obtain ⟨z, hz⟩ : ∃ z, z = wr[k] := ⟨_, rfl⟩
          rw [← hz] at cl HST HRF
          by_cases hk0 : k = 0
          · have z0 : decide ((0 : Int) < (k : Int)) = false := decide_eq_false (by omega)
            have z0n : ¬ 0 < k := by omega
            have z0i : ¬ (0 : Int) < (k : Int) := by omega
            clear hcell hz hk0
            by_cases hb : z < nx
            · have HR : Hid (er = 3) := by
                show _ = _
                rw [HE3.out, if_neg]
                exact fun hg => HRF.out.1 (.inl hb) (HST.out.1 (goodW_take hg _))
              go_wp2_with fail
              go_ret
              exact ⟨ret_int HR.out.symm, HB0.out⟩
            · have HN := Lib.hid (HST.out.2 (Classical.byContradiction fun h => by have := HRF.out.2 h; omega))
              have hbd : decide (z < nx) = false := decide_eq_false hb
              go_wp2_with fail
              go_round
              case rel => exact ⟨rfl, k + 1, by omega, by go_num, HN.out⟩
              case measure => simp [intOf]; omega
          · have cp := hcell (k - 1) (by omega)
            obtain ⟨y, hy⟩ : ∃ y, y = wr[k - 1] := ⟨_, rfl⟩
            rw [← hy] at cp
            have hyd : wr.getD (k - 1) 0 = y := by rw [hy]; simp [List.getD, show k - 1 < wr.length by omega]
            rw [hyd] at HRF
            obtain ⟨p, hp⟩ : ∃ p, k = p + 1 := ⟨k - 1, by omega⟩
            subst hp
            simp only [Nat.add_sub_cancel] at cp
            have hp0 : (0 : Int) < ((p + 1 : Nat) : Int) := by omega
            have hsub : ((p + 1 : Nat) : Int) - 1 = (p : Int) := by omega
            have hpl : p < wr.length := by omega
            clear hcell hz hy hyd hk0
            by_cases hb : z < nx
            · have HR : Hid (er = 3) := by
                show _ = _
                rw [HE3.out, if_neg]
                exact fun hg => HRF.out.1 (.inl hb) (HST.out.1 (goodW_take hg _))
              go_wp2_with fail
              go_ret
              exact ⟨ret_int HR.out.symm, HB0.out⟩
            · have hbd : decide (z < nx) = false := decide_eq_false hb
              by_cases hzy : z ≤ y
              · have HR : Hid (er = 3) := by
                  show _ = _
                  rw [HE3.out, if_neg]
                  exact fun hg => HRF.out.1 (.inr ⟨by omega, hzy⟩) (HST.out.1 (goodW_take hg _))
                have hzd : decide (z ≤ y) = true := decide_eq_true hzy
                go_wp2_with fail
                go_ret
                exact ⟨ret_int HR.out.symm, HB0.out⟩
              · have HN := Lib.hid (HST.out.2 (Classical.byContradiction fun h => by have := HRF.out.2 h; omega))
                have hzd : decide (z ≤ y) = false := decide_eq_false hzy
                go_wp2_with fail
                go_round
                case rel => exact ⟨rfl, p + 1 + 1, by omega, by go_num, HN.out⟩
                case measure => simp [intOf]; omega
        · have ek : k = wr.length := by omega
          subst ek
          have HR : Hid (er = 0) := by show _ = _; rw [HE3.out, if_pos]; have := HGD.out; rwa [List.take_length] at this
          go_wp2_with fail
          go_ret
          exact ⟨ret_int HR.out.symm, HB0.out⟩
end Go.Proofs.Ytgcbdndfobiphab
