/- The walk of PredictPlays. -/
import Derived.Test.YtioaoncnandjpabPredict
import Derived.Test.YtioaoncnandjpabOpens
import Derived.StillTailTactics
namespace Go.Proofs.Ytioaoncnandjpab
open Go.RowKit
set_option linter.unusedVariables false

/-- the counter after a history of branches -/
def ctr (l : List Bool) : Int := l.foldl upd 1
theorem ctr_snoc (l : List Bool) (b : Bool) : ctr (l ++ [b]) = upd (ctr l) b := by simp [ctr]
theorem ctr_bd (l : List Bool) : 0 ≤ ctr l ∧ ctr l ≤ 3 := by
  have : ∀ (l : List Bool) (c : Int), 0 ≤ c ∧ c ≤ 3 → 0 ≤ l.foldl upd c ∧ l.foldl upd c ≤ 3 := by
    intro l
    induction l with
    | nil => intro c h; exact h
    | cons b l ih => intro c h; exact ih _ (upd_bd c b h)
  exact this l 1 (by omega)
theorem take_succ_snoc {α : Type} (l : List α) (k : Nat) (h : k < l.length) : l.take (k + 1) = l.take k ++ [l[k]] := by
  rw [List.take_succ_eq_append_getElem h]

set_option maxHeartbeats 400000 in
theorem counter_ok (w : World) (a : Option Addr) (len cap : Nat) (bs : List Bool) (h : Came w a len cap 1 (bs.map boolCells)) :
    Calls Try.prog 18 #[.slice a len cap] w fun e w' => e = .returned (.int .i64 (ctr bs)) ∧ w = w' := by
  have hl : bs.length = len := by simpa using h.count
  have hle := h.le
  have hm := h.max
  have HL := Lib.hid hl; clear hl
  go_enter Try.func18, Try.ntmps18
  go_wp2
  go_loop [3, 8] (fun n i => ∃ k : Nat, k ≤ len ∧ i = .int .i64 k ∧ n = .int .i64 (ctr (bs.take k))) (fun _ i => len - (intOf i).toNat)
  case atStart => exact ⟨0, Nat.zero_le _, rfl, rfl⟩
  case round =>
    obtain ⟨k, hk, rfl, rfl⟩ := hrel
    by_cases hlt : k < len
    · obtain ⟨b, off, ha, _, hc⟩ := h.bools (by omega)
      subst ha
      have hkl : k < bs.length := by have := HL.out; omega
      have c0 := hc k hkl
      have hs := ctr_snoc (bs.take k) bs[k]
      rw [← take_succ_snoc _ _ hkl] at hs
      have hbd := ctr_bd (bs.take k)
      obtain ⟨c, hcc⟩ : ∃ c, c = ctr (bs.take k) := ⟨_, rfl⟩
      rw [← hcc] at hs hbd ⊢
      have HS := Lib.hid hs
      obtain ⟨q, hq⟩ : ∃ q, q = bs[k] := ⟨_, rfl⟩
      rw [← hq] at c0 HS
      clear hcc hs hc hkl hq h
      cases q
      · by_cases h0 : 0 < c
        · go_wp2
          go_round
          case rel => exact ⟨k + 1, by omega, by go_num, by rw [HS.out]; simp [upd]; omega⟩
          case measure => simp [intOf]; omega
        · go_wp2
          go_round
          case rel => exact ⟨k + 1, by omega, by go_num, by rw [HS.out]; simp [upd]; omega⟩
          case measure => simp [intOf]; omega
      · by_cases h0 : c < 3
        · go_wp2
          go_round
          case rel => exact ⟨k + 1, by omega, by go_num, by rw [HS.out]; simp [upd]; omega⟩
          case measure => simp [intOf]; omega
        · go_wp2
          go_round
          case rel => exact ⟨k + 1, by omega, by go_num, by rw [HS.out]; simp [upd]; omega⟩
          case measure => simp [intOf]; omega
    · go_wp2
      go_ret
      exact ⟨ret_int (by rw [List.take_of_length_le (by have := HL.out; omega)]), rfl⟩

theorem update_err (w : World) (p : Nat) (pc : Int) (taken : Bool) (h : pc < 0 ∨ 16384 ≤ pc) :
    Calls Try.prog 17 #[.pointer (some ⟨p, 0, none⟩), .int .i64 pc, .bool taken] w fun e w' => e = .returned (.tuple #[.bool false, .int .i64 4]) ∧ w = w' := by
  have HE := Lib.hid (taken_err w p pc h)
  clear h
  go_enter Try.func17, Try.ntmps17
  go_wp2_with fail
  refine HE.out.mono ?_
  rintro e w' ⟨rfl, rfl⟩
  go_wp2
  go_ret2
  exact ⟨rfl, rfl⟩
end Go.Proofs.Ytioaoncnandjpab
