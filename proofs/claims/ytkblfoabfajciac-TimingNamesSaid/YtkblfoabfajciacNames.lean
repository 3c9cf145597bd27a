/- Consistent renaming of registers: the number of cycles stays. The closure's contract. -/
import Derived.Test.YtkblfoabfajciacStraight
import Derived.Test.YtkblfoabfajciacEagerL
namespace Go.Proofs.Ytkblfoabfajciac
open Go.RowKit
set_option linter.unusedVariables false
set_option linter.unusedSimpArgs false

def Keep2 (a b : Nat) (w w' : World) : Prop := w'.heap[a]? = w.heap[a]? ∧ w'.heap[b]? = w.heap[b]?
instance (a b : Nat) : PreR (Keep2 a b) := ⟨fun w => ⟨rfl, rfl⟩, fun h k => ⟨k.1.trans h.1, k.2.trans h.2⟩⟩
theorem Keep2.cell1 {a b i : Nat} {w w' : World} (h : Keep2 a b w w') : w'.cell? ⟨a, i, none⟩ = w.cell? ⟨a, i, none⟩ := World.cell?_of_block (a := ⟨a, i, none⟩) h.1
theorem Keep2.cell2 {a b i : Nat} {w w' : World} (h : Keep2 a b w w') : w'.cell? ⟨b, i, none⟩ = w.cell? ⟨b, i, none⟩ := World.cell?_of_block (a := ⟨b, i, none⟩) h.2

def ren (y r : Nat) : Nat := if r = 0 then 0 else 1 + (r - 1 + y) % 15
def renI (y : Nat) (x : Int) : Int := (ren y x.toNat : Int)
def renOp (y : Nat) (o : Op5) : Op5 := ⟨o.op, renI y o.d, renI y o.a, renI y o.b, o.n⟩

theorem ren_le {y r : Nat} : ren y r ≤ 15 := by unfold ren; split <;> omega
theorem ren_zero {y r : Nat} : ren y r = 0 ↔ r = 0 := by unfold ren; split <;> omega
theorem ren_inj {y r s : Nat} (hr : r ≤ 15) (hs : s ≤ 15) (h : ren y r = ren y s) : r = s := by
  unfold ren at h
  by_cases h1 : r = 0
  · rw [if_pos h1] at h
    by_cases h2 : s = 0
    · omega
    · rw [if_neg h2] at h; omega
  · rw [if_neg h1] at h
    by_cases h2 : s = 0
    · rw [if_pos h2] at h; omega
    · rw [if_neg h2] at h; omega
theorem renI_bd {y : Nat} {x : Int} : 0 ≤ renI y x ∧ renI y x ≤ 15 := by
  have := @ren_le y x.toNat
  unfold renI; omega
theorem renI_zero {y : Nat} {x : Int} (h : 0 ≤ x) : renI y x = 0 ↔ x = 0 := by
  have := @ren_zero y x.toNat
  unfold renI; omega

theorem ren_tmod (y r : Nat) (hr : 1 ≤ r) : Int.tmod ((r : Int) - 1 + (y : Int)) 15 = (((r - 1 + y) % 15 : Nat) : Int) := by
  rw [Int.tmod_eq_emod_of_nonneg (by omega)]
  omega

set_option maxHeartbeats 1000000 in
theorem rename_ok (r y b : Nat) (w : World) (hr : r ≤ 15) (hy : y < 15) (hb : Blk w b 3 [.int .i64 (y : Int)]) :
    Calls Try.prog 31 #[.int .i64 (r : Int), .pointer (some ⟨b, 0, none⟩)] w fun e w' => e = .returned (.int .i64 (ren y r : Int)) ∧ w' = w := by
  have c0 := hb.cell 0
  simp only [List.getElem?_cons_zero] at c0
  have HR : Hid (ren y r = if r = 0 then 0 else 1 + (r - 1 + y) % 15) := rfl
  obtain ⟨s, hs⟩ : ∃ s, s = ren y r := ⟨_, rfl⟩
  rw [← hs] at HR ⊢
  clear hs hb
  by_cases h0 : r = 0
  · subst h0
    have HS : Hid (s = 0) := by unfold Hid; rw [HR.out, if_pos rfl]
    go_enter Try.func31, Try.ntmps31
    go_wp2
    go_ret
    exact ⟨ret_int (by rw [HS.out]; rfl), rfl⟩
  · have q : ((r : Int) == 0) = false := by simp [h0]
    have q2 := ren_tmod y r (by omega)
    have hm : (r - 1 + y) % 15 < 15 := Nat.mod_lt _ (by omega)
    have HS : Hid (s = 1 + (r - 1 + y) % 15) := by unfold Hid; rw [HR.out, if_neg h0]
    obtain ⟨z, hz⟩ : ∃ z, z = (r - 1 + y) % 15 := ⟨_, rfl⟩
    rw [← hz] at q2 hm HS
    clear hz HR h0
    go_enter Try.func31, Try.ntmps31
    go_wp2
    go_ret
    exact ⟨ret_int (by rw [HS.out]; omega), rfl⟩
end Go.Proofs.Ytkblfoabfajciac
