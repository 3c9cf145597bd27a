/- The walk of PredictSteady. -/
import Derived.Test.YtioaoncnandjpaaPredict
namespace Go.Proofs.Ytioaoncnandjpaa
open Go.RowKit
set_option linter.unusedVariables false

/-- after k equal branches at pc -/
def Steady (w : World) (p cb L pc : Nat) (taken : Bool) (k : Nat) : Prop :=
  ∃ cs wrong, PredSt w p cb cs wrong ∧ cs.length = L ∧ (∀ c ∈ cs, 0 ≤ c ∧ c ≤ 3) ∧
    (k = 0 → cs.getD (pc % L) 0 = 1 ∧ wrong = 0) ∧
    (1 ≤ k → tak (cs.getD (pc % L) 0) = taken ∧ wrong = if taken then 1 else 0)

theorem steady_start {w : World} {p cb L pc : Nat} {taken : Bool} (hs : PredSt w p cb (List.replicate L 1) 0) (hL : 1 ≤ L) : Steady w p cb L pc taken 0 := by
  have hlt : pc % L < L := Nat.mod_lt _ (by omega)
  refine ⟨_, _, hs, by simp, ?_, fun _ => ⟨by simp [List.getD, hlt], rfl⟩, fun h => by omega⟩
  intro c hc
  rw [List.eq_of_mem_replicate hc]; omega

def SteadyPost (w : World) (p cb L pc : Nat) (taken : Bool) (k : Nat) (e : Ending) (w' : World) : Prop :=
  ∃ bad, e = .returned (.tuple #[.bool bad, .int .i64 0]) ∧ Steady w' p cb L pc taken (k + 1) ∧ ∀ B, B ≤ p → B ≤ cb → Below B w w'

theorem mem_set_bd {cs : List Int} {i : Nat} {x : Int} (h : ∀ c ∈ cs, 0 ≤ c ∧ c ≤ 3) (hx : 0 ≤ x ∧ x ≤ 3) : ∀ c ∈ cs.set i x, 0 ≤ c ∧ c ≤ 3 := by
  intro c hc
  rcases List.mem_or_eq_of_mem_set hc with h1 | h1
  · exact h c h1
  · rw [h1]; exact hx

theorem steady_update (w : World) (p cb L pc : Nat) (taken : Bool) (k : Nat) (h : Steady w p cb L pc taken k) (hL1 : 1 ≤ L) (hL2 : L ≤ 1024) (hpc : pc < 16384) :
    Calls Try.prog 20 #[.pointer (some ⟨p, 0, none⟩), .int .i64 (pc : Int), .bool taken] w (SteadyPost w p cb L pc taken k) := by
  obtain ⟨cs, wrong, hs, rfl, hb, h0, h1⟩ := h
  have hlt : pc % cs.length < cs.length := Nat.mod_lt _ (by omega)
  have hcb : 0 ≤ cs.getD (pc % cs.length) 0 ∧ cs.getD (pc % cs.length) 0 ≤ 3 := by
    have := hb _ (List.getElem_mem hlt); simpa [List.getD, hlt] using this
  have hw : 0 ≤ wrong ∧ wrong ≤ 1000000 := by
    by_cases hk : k = 0
    · have := (h0 hk).2; omega
    · have := (h1 (by omega)).2; rw [this]; split <;> omega
  refine (update_ok w p cb cs wrong pc taken hs hL1 hL2 hpc hw hb).mono ?_
  rintro e w' ⟨he, hs', hB⟩
  refine ⟨_, he, ⟨_, _, hs', by simp, mem_set_bd hb (upd_bd _ _ hcb), fun h => by omega, fun _ => ?_⟩, hB⟩
  have hg : (cs.set (pc % cs.length) (upd (cs.getD (pc % cs.length) 0) taken)).getD (pc % cs.length) 0 = upd (cs.getD (pc % cs.length) 0) taken := by
    simp [List.getD, hlt]
  rw [hg]
  generalize cs.getD (pc % cs.length) 0 = c at *
  by_cases hk : k = 0
  · obtain ⟨rfl, rfl⟩ := h0 hk
    cases taken <;> decide
  · obtain ⟨h2, h3⟩ := h1 (by omega)
    subst h3
    cases taken
    · have : tak c = false := h2
      have hc2 : c < 2 := by simpa [tak] using this
      refine ⟨?_, by simp [this]⟩
      unfold tak upd; simp; omega
    · have : tak c = true := h2
      have hc2 : 2 ≤ c := by simpa [tak] using this
      refine ⟨?_, by simp [this]⟩
      unfold tak upd; simp; omega

set_option maxHeartbeats 400000 in
theorem predictSteady_walk (a0 a1 : Int) (a2 : Bool) (a3 : Int) (w : World) (w0 : -9223372036854775808 ≤ a0 ∧ a0 ≤ 9223372036854775807) (w1 : -9223372036854775808 ≤ a1 ∧ a1 ≤ 9223372036854775807) (w3 : -9223372036854775808 ≤ a3 ∧ a3 ≤ 9223372036854775807) :
    Calls Try.prog 4 #[.int .i64 a0, .int .i64 a1, .bool a2, .int .i64 a3] w fun e w' => e = .returned (.bool true) ∧ Below w.heap.size w w' := by
  have b0 : 0 ≤ a0 % 1024 ∧ a0 % 1024 < 1024 := by omega
  have b1 : 0 ≤ a1 % 16384 ∧ a1 % 16384 < 16384 := by omega
  have b3 : 0 ≤ a3 % 20 ∧ a3 % 20 < 20 := by omega
  go_enter Try.func4, Try.ntmps4
  go_wp2_with (go_at_call 15; refine (rest_any _ _ _ (by omega) (by omega)).mono ?_; rintro e w' ⟨rfl, rfl⟩)
  have hn := new_ok (1 + (a0 % 1024).toNat) w (by omega) (by omega)
  rw [show ((1 + (a0 % 1024).toNat : Nat) : Int) = 1 + a0 % 1024 by omega] at hn
  refine hn.mono ?_
  rintro e w' ⟨p, cb, rfl, hs, hp, hcb, hb⟩
  clear hn
  have HS := Lib.hid hs; clear hs
  go_wp2_with (go_at_call 15; refine (rest_any _ _ _ (by omega) (by omega)).mono ?_; rintro e w' ⟨rfl, rfl⟩)
  obtain ⟨pc, hpc⟩ : ∃ pc : Nat, a1 % 16384 = (pc : Int) := ⟨(a1 % 16384).toNat, by omega⟩
  obtain ⟨M, hM⟩ : ∃ M : Nat, 1 + a3 % 20 = (M : Int) := ⟨(1 + a3 % 20).toNat, by omega⟩
  rw [hpc, hM]
  obtain ⟨L, hL⟩ : ∃ L : Nat, L = 1 + (a0 % 1024).toNat := ⟨_, rfl⟩
  rw [← hL] at HS
  have hL1 : 1 ≤ L := by omega
  have hL2 : L ≤ 1024 := by omega
  have hpc2 : pc < 16384 := by omega
  have hM1 : 1 ≤ M := by omega
  have hM2 : M ≤ 20 := by omega
  clear hL hpc hM b0 b1 b3 w0 w1 w3
  have hB : w.heap.size ≤ p ∧ w.heap.size ≤ cb := ⟨hp, hcb⟩
  go_loopw [33] (fun v wr => ∃ k : Nat, k ≤ M ∧ v = .int .i64 k ∧ Steady wr p cb L pc a2 k ∧ Below w.heap.size w wr) (fun v _ => M - (intOf v).toNat)
  case atStart => exact ⟨0, Nat.zero_le _, rfl, steady_start HS.out hL1, hb⟩
  case round =>
    clear HS hb
    obtain ⟨k, hk, rfl, hst, hb⟩ := hrel
    have HST := Lib.hid hst; clear hst
    have hup := fun wx (h : Steady wx p cb L pc a2 k) => steady_update wx p cb L pc a2 k h hL1 hL2 hpc2
    have HU := Lib.hid hup; clear hup
    by_cases hlt : k < M
    · go_wp2_with fail
      refine (HU.out _ HST.out).mono ?_
      rintro e w2 ⟨bad, rfl, hs2, hb2⟩
      have HS2 := Lib.hid hs2; clear hs2
      have hb3 := hb.trans (hb2 w.heap.size hB.1 hB.2)
      clear hb hb2 HU HST
      go_wp2
      go_roundw
      case rel => exact ⟨k + 1, by omega, by go_num, HS2.out, hb3⟩
      case measure => simp [intOf]; omega
    · have ek : k = M := by omega
      subst ek
      obtain ⟨cs, wrong, hs, h1, h2, h3, h4⟩ := HST.out
      have h5 := h4 hM1
      go_wp2_with fail
      refine (taken_ok _ p cb cs wrong pc hs (by omega) (by omega) hpc2).mono ?_
      rintro e w2 ⟨n, rfl, rfl⟩
      rw [h1, h5.1]
      have hwr := fun m => wrong_ok (wr.drewN m) p cb cs wrong ⟨hs.st.drewN m, hs.cn.drewN m, hs.ne⟩
      rw [h5.2] at hwr
      have HW := Lib.hid hwr
      clear hwr hs h1 h2 h3 h4 h5 HST HU
      cases a2
      all_goals
        go_wp2_with (go_at_call 22; refine (HW.out _).mono ?_; rintro e w' ⟨rfl, rfl⟩)
        go_ret
        exact ⟨rfl, hb.trans (below_drewN_self _ _ _)⟩
end Go.Proofs.Ytioaoncnandjpaa
