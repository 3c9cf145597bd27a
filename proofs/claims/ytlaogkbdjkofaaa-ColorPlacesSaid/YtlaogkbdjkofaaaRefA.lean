/- The contracts of the reference's has, members and in. -/
import Derived.Test.YtlaogkbdjkofaaaHeadW
import Derived.Test.YtlaogkbdjkofaaaBlk
namespace Go.Proofs.Ytlaogkbdjkofaaa
open Go.RowKit
set_option linter.unusedVariables false

/-- does the text hold the letter? -/
def hasB (l : List UInt8) (c : Nat) : Bool := l.any fun x => x.toNat == c

set_option maxHeartbeats 1000000 in
theorem has_any (s : ByteArray) (c : Nat) (w : World) (hs : s.size ≤ 1000) (hc : c < 256) :
    Calls Try.prog 96 #[.string s, .int .u8 (c : Int)] w fun e w' => e = .returned (.bool (hasB s.data.toList c)) ∧ w = w' := by
  go_enter Try.func96, Try.ntmps96
  go_wp2
  go_loop [8] (fun i => ∃ k : Nat, k ≤ s.size ∧ i = .int .i64 k ∧ hasB (s.data.toList.take k) c = false) (fun i => s.size - (intOf i).toNat)
  case atStart => exact ⟨0, Nat.zero_le _, rfl, rfl⟩
  case round =>
    obtain ⟨k, hk, rfl, hh⟩ := hrel
    have HH := Lib.hid hh
    clear hh
    by_cases hlt : k < s.size
    · have HT := Lib.hid (List.take_succ_eq_append_getElem (l := s.data.toList) (i := k) (by simpa using hlt))
      have hel : s.data.toList[k]'(by simpa using hlt) = s[k] := rfl
      have HEL := Lib.hid hel
      clear hel
      cases hq : (((s[k].toNat : Nat) : Int) == (c : Int))
      · go_wp2
        go_round
        case rel =>
          refine ⟨k + 1, by omega, by go_num, ?_⟩
          have h1 := HH.out
          have h2 : s[k].toNat ≠ c := fun h => by rw [h] at hq; simp at hq
          rw [HT.out, HEL.out]
          simp only [hasB, List.any_append, List.any_cons, List.any_nil, Bool.or_false, Bool.or_eq_false_iff] at h1 ⊢
          exact ⟨h1, beq_eq_false_iff_ne.2 h2⟩
        case measure => simp [intOf]; omega
      · have HB : Hid (hasB s.data.toList c = true) := by
          have h2 : s[k].toNat = c := by have := beq_iff_eq.1 hq; omega
          unfold Hid hasB
          rw [List.any_eq_true]
          exact ⟨s.data.toList[k]'(by simpa using hlt), List.getElem_mem _, by rw [HEL.out, h2]; simp⟩
        go_wp2
        go_ret
        exact ⟨ret_bool HB.out.symm, rfl⟩
    · go_wp2
      go_ret
      exact ⟨ret_bool (by have := HH.out; rw [List.take_of_length_le (by simp; omega)] at this; exact this.symm), rfl⟩

/-- the letters of the members that each operation uses -/
def memL : List (List UInt8) := [[], [68, 65, 66], [68, 65, 66], [68, 65, 66], [68, 65, 66], [68, 65, 66], [68, 65, 66], [68, 65, 66], [68, 65, 78], [68, 65, 78], [68, 65, 78], [68, 78], [68, 65, 78], [65, 66, 78], [68, 66, 78], [68, 65, 66], [65, 66, 78], [65, 66, 78], [65, 66, 78], [78], [78], [65], [], [65], [78]]
def memArr : Array Value := #[.string ⟨#[]⟩, .string ⟨#[68, 65, 66]⟩, .string ⟨#[68, 65, 66]⟩, .string ⟨#[68, 65, 66]⟩, .string ⟨#[68, 65, 66]⟩, .string ⟨#[68, 65, 66]⟩, .string ⟨#[68, 65, 66]⟩, .string ⟨#[68, 65, 66]⟩, .string ⟨#[68, 65, 78]⟩, .string ⟨#[68, 65, 78]⟩, .string ⟨#[68, 65, 78]⟩, .string ⟨#[68, 78]⟩, .string ⟨#[68, 65, 78]⟩, .string ⟨#[65, 66, 78]⟩, .string ⟨#[68, 66, 78]⟩, .string ⟨#[68, 65, 66]⟩, .string ⟨#[65, 66, 78]⟩, .string ⟨#[65, 66, 78]⟩, .string ⟨#[65, 66, 78]⟩, .string ⟨#[78]⟩, .string ⟨#[78]⟩, .string ⟨#[65]⟩, .string ⟨#[]⟩, .string ⟨#[65]⟩, .string ⟨#[78]⟩]
def MemPost (w : World) (e : Ending) (w' : World) : Prop := e = .returned (.slice (some ⟨w.heap.size, 0, none⟩) 25 25) ∧ w' = w.alloc (.cells memArr 9)
theorem members_any (w : World) : Calls Try.prog 119 #[] w (MemPost w) := by
  go_enter Try.func119, Try.ntmps119
  go_wp2
  go_ret
  exact ⟨rfl, rfl⟩
end Go.Proofs.Ytlaogkbdjkofaaa
