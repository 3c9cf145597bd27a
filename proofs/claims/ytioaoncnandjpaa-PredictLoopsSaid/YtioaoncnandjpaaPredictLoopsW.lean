/- The walk of PredictLoops. -/
import Derived.Test.YtioaoncnandjpaaPredict
namespace Go.Proofs.Ytioaoncnandjpaa
open Go.RowKit
set_option linter.unusedVariables false

/-- after j left loops and i rounds of the next one: the counter c and the wrong predictions -/
def LoopInv (j i : Nat) (c wrong : Int) : Prop :=
  (j = 0 ∧ i = 0 ∧ c = 1 ∧ wrong = 0) ∨ (j = 0 ∧ i = 1 ∧ c = 2 ∧ wrong = 1) ∨ (2 ≤ i ∧ c = 3 ∧ wrong = j + 1) ∨ (1 ≤ j ∧ i = 0 ∧ c = 2 ∧ wrong = j + 1) ∨ (1 ≤ j ∧ i = 1 ∧ c = 3 ∧ wrong = j + 1)

theorem loopInv_true {j i : Nat} {c wrong : Int} (h : LoopInv j i c wrong) : LoopInv j (i + 1) (upd c true) (if tak c != true then wrong + 1 else wrong) := by
  unfold LoopInv at h ⊢
  rcases h with ⟨a, b, rfl, rfl⟩ | ⟨a, b, rfl, rfl⟩ | ⟨a, rfl, rfl⟩ | ⟨a, b, rfl, rfl⟩ | ⟨a, b, rfl, rfl⟩ <;> simp [upd, tak] <;> omega

theorem loopInv_false {j i : Nat} {c wrong : Int} (hi : 2 ≤ i) (h : LoopInv j i c wrong) : LoopInv (j + 1) 0 (upd c false) (if tak c != false then wrong + 1 else wrong) := by
  unfold LoopInv at h ⊢
  rcases h with ⟨a, b, rfl, rfl⟩ | ⟨a, b, rfl, rfl⟩ | ⟨a, rfl, rfl⟩ | ⟨a, b, rfl, rfl⟩ | ⟨a, b, rfl, rfl⟩ <;> simp [upd, tak] <;> omega

def LoopSt (w : World) (p cb pc : Nat) (j i : Nat) : Prop :=
  ∃ cs wrong, PredSt w p cb cs wrong ∧ cs.length = 64 ∧ (∀ c ∈ cs, 0 ≤ c ∧ c ≤ 3) ∧ LoopInv j i (cs.getD (pc % 64) 0) wrong

theorem loop_start {w : World} {p cb pc : Nat} (hs : PredSt w p cb (List.replicate 64 1) 0) : LoopSt w p cb pc 0 0 := by
  have hlt : pc % 64 < 64 := Nat.mod_lt _ (by omega)
  refine ⟨_, _, hs, by simp, ?_, .inl ⟨rfl, rfl, ?_, rfl⟩⟩
  · intro c hc
    rw [List.eq_of_mem_replicate hc]; omega
  · have : ∀ n, n < 64 → (List.replicate 64 (1 : Int)).getD n 0 = 1 := by intro n hn; simp only [List.getD, List.getElem?_replicate, if_pos hn, Option.getD_some]
    exact this _ hlt

def LoopPost (w : World) (p cb pc : Nat) (j i : Nat) (e : Ending) (w' : World) : Prop :=
  ∃ bad, e = .returned (.tuple #[.bool bad, .int .i64 0]) ∧ LoopSt w' p cb pc j i ∧ ∀ B, B ≤ p → B ≤ cb → Below B w w'

theorem mem_set_bd' {cs : List Int} {i : Nat} {x : Int} (h : ∀ c ∈ cs, 0 ≤ c ∧ c ≤ 3) (hx : 0 ≤ x ∧ x ≤ 3) : ∀ c ∈ cs.set i x, 0 ≤ c ∧ c ≤ 3 := by
  intro c hc
  rcases List.mem_or_eq_of_mem_set hc with h1 | h1
  · exact h c h1
  · rw [h1]; exact hx

theorem loop_update (w : World) (p cb pc : Nat) (taken : Bool) (j i j' i' : Nat) (h : LoopSt w p cb pc j i) (hpc : pc < 16384) (hj : j ≤ 100)
    (hi : ∀ c wrong, LoopInv j i c wrong → LoopInv j' i' (upd c taken) (if tak c != taken then wrong + 1 else wrong)) :
    Calls Try.prog 20 #[.pointer (some ⟨p, 0, none⟩), .int .i64 (pc : Int), .bool taken] w (LoopPost w p cb pc j' i') := by
  obtain ⟨cs, wrong, hs, hl, hb, h0⟩ := h
  have hlt : pc % 64 < cs.length := by have := Nat.mod_lt pc (show 64 > 0 by omega); omega
  have hcb : 0 ≤ cs.getD (pc % 64) 0 ∧ cs.getD (pc % 64) 0 ≤ 3 := by
    have := hb _ (List.getElem_mem hlt); simpa [List.getD, hlt] using this
  have hw : 0 ≤ wrong ∧ wrong ≤ 1000000 := by unfold LoopInv at h0; omega
  refine (update_ok w p cb cs wrong pc taken hs (by omega) (by omega) hpc hw hb).mono ?_
  rintro e w' ⟨he, hs', hB⟩
  rw [hl] at he hs'
  refine ⟨_, he, ⟨_, _, hs', by simpa using hl, mem_set_bd' hb (upd_bd _ _ hcb), ?_⟩, hB⟩
  have hg : (cs.set (pc % 64) (upd (cs.getD (pc % 64) 0) taken)).getD (pc % 64) 0 = upd (cs.getD (pc % 64) 0) taken := by
    simp [List.getD, hlt]
  rw [hg]
  exact hi _ _ h0

theorem loop_true (w : World) (p cb pc : Nat) (j i : Nat) (h : LoopSt w p cb pc j i) (hpc : pc < 16384) (hj : j ≤ 100) :
    Calls Try.prog 20 #[.pointer (some ⟨p, 0, none⟩), .int .i64 (pc : Int), .bool true] w (LoopPost w p cb pc j (i + 1)) :=
  loop_update w p cb pc true j i j (i + 1) h hpc hj fun _ _ => loopInv_true

theorem loop_false (w : World) (p cb pc : Nat) (j i : Nat) (h : LoopSt w p cb pc j i) (hpc : pc < 16384) (hj : j ≤ 100) (hi : 2 ≤ i) :
    Calls Try.prog 20 #[.pointer (some ⟨p, 0, none⟩), .int .i64 (pc : Int), .bool false] w (LoopPost w p cb pc (j + 1) 0) :=
  loop_update w p cb pc false j i (j + 1) 0 h hpc hj fun _ _ => loopInv_false hi

set_option maxHeartbeats 400000 in
theorem predictLoops_walk (a0 a1 a2 : Int) (w : World) (w0 : -9223372036854775808 ≤ a0 ∧ a0 ≤ 9223372036854775807) (w1 : -9223372036854775808 ≤ a1 ∧ a1 ≤ 9223372036854775807) (w2 : -9223372036854775808 ≤ a2 ∧ a2 ≤ 9223372036854775807) :
    Calls Try.prog 5 #[.int .i64 a0, .int .i64 a1, .int .i64 a2] w fun e w' => e = .returned (.bool true) ∧ Below w.heap.size w w' := by
  have b0 : 0 ≤ a0 % 16384 ∧ a0 % 16384 < 16384 := by omega
  have b1 : 0 ≤ a1 % 10 ∧ a1 % 10 < 10 := by omega
  have b2 : 0 ≤ a2 % 10 ∧ a2 % 10 < 10 := by omega
  go_enter Try.func5, Try.ntmps5
  go_wp2_with fail
  refine (new_ok 64 w (by omega) (by omega)).mono ?_
  rintro e w' ⟨p, cb, rfl, hs, hp, hcb, hb⟩
  have HS := Lib.hid hs; clear hs
  go_wp2_with (go_at_call 15; refine (rest_any _ _ _ (by omega) (by omega)).mono ?_; rintro e w' ⟨rfl, rfl⟩)
  obtain ⟨pc, hpc⟩ : ∃ pc : Nat, a0 % 16384 = (pc : Int) := ⟨(a0 % 16384).toNat, by omega⟩
  obtain ⟨R, hR⟩ : ∃ R : Nat, 2 + a1 % 10 = (R : Int) := ⟨(2 + a1 % 10).toNat, by omega⟩
  obtain ⟨M, hM⟩ : ∃ M : Nat, 1 + a2 % 10 = (M : Int) := ⟨(1 + a2 % 10).toNat, by omega⟩
  rw [hpc, hR, hM]
  have hpc2 : pc < 16384 := by omega
  have hR1 : 2 ≤ R := by omega
  have hR2 : R ≤ 12 := by omega
  have hM1 : 1 ≤ M := by omega
  have hM2 : M ≤ 11 := by omega
  clear hR hpc hM b0 b1 b2 w0 w1 w2
  have hB : w.heap.size ≤ p ∧ w.heap.size ≤ cb := ⟨hp, hcb⟩
  go_loopw [28] (fun v wr => ∃ j : Nat, j ≤ M ∧ v = .int .i64 j ∧ LoopSt wr p cb pc j 0 ∧ Below w.heap.size w wr) (fun v _ => M - (intOf v).toNat)
  case atStart => exact ⟨0, Nat.zero_le _, rfl, loop_start HS.out, hb⟩
  case round =>
    clear HS hb
    obtain ⟨j, hj, rfl, hst, hb⟩ := hrel
    have HST := Lib.hid hst; clear hst
    by_cases hlt : j < M
    · go_wp2_with fail
      go_loopw [31] (fun v wi => ∃ i : Nat, i ≤ R ∧ v = .int .i64 i ∧ LoopSt wi p cb pc j i ∧ Below w.heap.size w wi) (fun v _ => R - (intOf v).toNat)
      case atStart => exact ⟨0, Nat.zero_le _, rfl, HST.out, hb⟩
      case round =>
        clear HST hb
        obtain ⟨i, hi, rfl, hst, hb⟩ := hrel
        have HST := Lib.hid hst; clear hst
        by_cases hlt2 : i < R
        · go_wp2_with fail
          refine (loop_true _ p cb pc j i HST.out hpc2 (by omega)).mono ?_
          rintro e w2 ⟨bad, rfl, hs2, hb2⟩
          have HS2 := Lib.hid hs2; clear hs2
          have hb3 := hb.trans (hb2 w.heap.size hB.1 hB.2)
          clear hb hb2 HST
          go_wp2
          go_roundw
          case rel => exact ⟨i + 1, by omega, by go_num, HS2.out, hb3⟩
          case measure => simp [intOf]; omega
        · have ei : i = R := by omega
          subst ei
          go_wp2_with fail
          refine (loop_false _ p cb pc j i HST.out hpc2 (by omega) hR1).mono ?_
          rintro e w2 ⟨bad, rfl, hs2, hb2⟩
          have HS2 := Lib.hid hs2; clear hs2
          have hb3 := hb.trans (hb2 w.heap.size hB.1 hB.2)
          clear hb hb2 HST
          go_wp2
          go_roundw
          case rel => exact ⟨j + 1, by omega, by go_num, HS2.out, hb3⟩
          case measure => simp [intOf]; omega
    · have ej : j = M := by omega
      subst ej
      obtain ⟨cs, wrong, hs, h1, h2, h3⟩ := HST.out
      have h5 : wrong = (j : Int) + 1 := by unfold LoopInv at h3; omega
      subst h5
      have hwr := fun m => wrong_ok (wr.drewN m) p cb cs _ ⟨hs.st.drewN m, hs.cn.drewN m, hs.ne⟩
      have HW := Lib.hid hwr
      clear hwr hs h1 h2 h3 HST
      go_wp2_with (go_at_call 22; refine (HW.out 0).mono ?_; rintro e w' ⟨rfl, rfl⟩)
      go_ret
      exact ⟨rfl, hb⟩
end Go.Proofs.Ytioaoncnandjpaa
