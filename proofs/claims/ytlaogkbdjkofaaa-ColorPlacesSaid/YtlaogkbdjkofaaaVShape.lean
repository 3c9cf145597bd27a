/- The members that an instruction in virtual code uses: tile's shapeOf and the reference's letters. -/
import Derived.Test.YtlaogkbdjkofaaaVUses
namespace Go.Proofs.Ytlaogkbdjkofaaa
open Go.RowKit
set_option linter.unusedVariables false
set_option linter.unusedSimpArgs false

structure Sh where
  (d a b n l : Bool)
def Sh.cells (s : Sh) : Array Value := #[.bool s.d, .bool s.a, .bool s.b, .bool s.n, .bool s.l]
def shV (op : Int) : Sh :=
  if (1 ≤ op ∧ op ≤ 7) ∨ op = 15 then ⟨true, true, true, false, false⟩ else if (8 ≤ op ∧ op ≤ 10) ∨ op = 12 then ⟨true, true, false, true, false⟩
  else if op = 11 ∨ op = 103 then ⟨true, false, false, true, false⟩ else if op = 13 then ⟨false, true, true, true, false⟩ else if op = 14 then ⟨true, false, true, true, false⟩
  else if op = 23 then ⟨false, true, false, false, false⟩ else if op = 100 then ⟨true, true, false, false, false⟩ else if op = 101 then ⟨true, false, false, true, true⟩
  else if op = 102 then ⟨true, true, false, false, true⟩ else ⟨false, false, false, false, false⟩
def shIs (op : Int) : Bool := decide ((1 ≤ op ∧ op ≤ 15) ∨ op = 23 ∨ (100 ≤ op ∧ op ≤ 103))
theorem sh_ops {op : Int} (h : shIs op = true) : op = 1 ∨ op = 2 ∨ op = 3 ∨ op = 4 ∨ op = 5 ∨ op = 6 ∨ op = 7 ∨ op = 8 ∨ op = 9 ∨ op = 10 ∨ op = 11 ∨ op = 12 ∨ op = 13 ∨ op = 14 ∨ op = 15 ∨ op = 23 ∨ op = 100 ∨ op = 101 ∨ op = 102 ∨ op = 103 := by
  unfold shIs at h
  have := of_decide_eq_true h
  omega
theorem sh_shapes {op : Int} (h : shIs op = true) : shV op = ⟨true, true, true, false, false⟩ ∨ shV op = ⟨true, true, false, true, false⟩ ∨ shV op = ⟨true, false, false, true, false⟩ ∨ shV op = ⟨false, true, true, true, false⟩ ∨ shV op = ⟨true, false, true, true, false⟩ ∨
    shV op = ⟨false, true, false, false, false⟩ ∨ shV op = ⟨true, true, false, false, false⟩ ∨ shV op = ⟨true, false, false, true, true⟩ ∨ shV op = ⟨true, true, false, false, true⟩ := by
  rcases sh_ops h with rfl | rfl | rfl | rfl | rfl | rfl | rfl | rfl | rfl | rfl | rfl | rfl | rfl | rfl | rfl | rfl | rfl | rfl | rfl | rfl <;> simp [shV]
def ShPost (op : Int) (w : World) (e : Ending) (w' : World) : Prop := e = .returned (.tuple #[.agg (shV op).cells, .bool (shIs op)]) ∧ w' = w.alloc (.cells (shV op).cells 151)

set_option maxRecDepth 100000 in
set_option maxHeartbeats 4000000 in
theorem shape_any (op : Int) (w : World) : Calls Try.prog 116 #[.int .i64 op] w (ShPost op w) := by
  by_cases h : shIs op = true
  · rcases sh_ops h with rfl | rfl | rfl | rfl | rfl | rfl | rfl | rfl | rfl | rfl | rfl | rfl | rfl | rfl | rfl | rfl | rfl | rfl | rfl | rfl
    all_goals
      clear h
      go_enter Try.func116, Try.ntmps116
      go_wp2
      exact bodyPost_ret (v := .tuple #[.agg (shV _).cells, .bool (shIs _)]) (by simp [results, Try.results116, go_sem, shV, shIs, Sh.cells]) rfl ⟨rfl, rfl⟩
  · have hn : ¬ ((1 ≤ op ∧ op ≤ 15) ∨ op = 23 ∨ (100 ≤ op ∧ op ≤ 103)) := fun hh => h (decide_eq_true hh)
    have e1 : shV op = ⟨false, false, false, false, false⟩ := by
      unfold shV
      rw [if_neg (by omega), if_neg (by omega), if_neg (by omega), if_neg (by omega), if_neg (by omega), if_neg (by omega), if_neg (by omega), if_neg (by omega), if_neg (by omega)]
    have e2 : shIs op = false := by simpa using h
    have E : ∀ k : Int, (1 ≤ k ∧ k ≤ 15) ∨ k = 23 ∨ (100 ≤ k ∧ k ≤ 103) → (op == k) = false := fun k hk => beq_eq_false_iff_ne.2 (fun e => hn (e ▸ hk))
    have b1 := E 1 (by omega)
    have b2 := E 2 (by omega)
    have b3 := E 3 (by omega)
    have b4 := E 4 (by omega)
    have b5 := E 5 (by omega)
    have b6 := E 6 (by omega)
    have b7 := E 7 (by omega)
    have b8 := E 8 (by omega)
    have b9 := E 9 (by omega)
    have b10 := E 10 (by omega)
    have b11 := E 11 (by omega)
    have b12 := E 12 (by omega)
    have b13 := E 13 (by omega)
    have b14 := E 14 (by omega)
    have b15 := E 15 (by omega)
    have b16 := E 23 (by omega)
    have b17 := E 100 (by omega)
    have b18 := E 101 (by omega)
    have b19 := E 102 (by omega)
    have b20 := E 103 (by omega)
    have HE1 := Lib.hid e1
    have HE2 := Lib.hid e2
    clear E hn h e1 e2
    go_enter Try.func116, Try.ntmps116
    go_wp2
    refine bodyPost_ret (v := .tuple #[.agg (Sh.cells ⟨false, false, false, false, false⟩), .bool false]) (by simp [results, Try.results116, go_sem, Sh.cells]) rfl ?_
    unfold ShPost
    rw [HE1.out, HE2.out]
    exact ⟨rfl, rfl⟩

/-- the reference's letters -/
def letV (op : Int) : ByteArray :=
  if op = 100 then ⟨#[68, 65]⟩ else if op = 101 then ⟨#[68, 78, 76]⟩ else if op = 102 then ⟨#[68, 65, 76]⟩ else if op = 103 then ⟨#[68, 78]⟩ else if op = 23 then ⟨#[65]⟩ else if 1 ≤ op ∧ op ≤ 15 then memS op.toNat else ⟨#[45]⟩
theorem let_has {op : Int} (h : shIs op = true) : hasB (letV op).data.toList 68 = (shV op).d ∧ hasB (letV op).data.toList 65 = (shV op).a ∧ hasB (letV op).data.toList 66 = (shV op).b ∧ hasB (letV op).data.toList 78 = (shV op).n ∧ hasB (letV op).data.toList 76 = (shV op).l ∧ (letV op).size ≤ 1000 ∧ (letV op == ⟨#[45]⟩) = false := by
  rcases sh_ops h with rfl | rfl | rfl | rfl | rfl | rfl | rfl | rfl | rfl | rfl | rfl | rfl | rfl | rfl | rfl | rfl | rfl | rfl | rfl | rfl <;> decide
def LetPost (op : Int) (w : World) (e : Ending) (w' : World) : Prop := e = .returned (.string (letV op)) ∧ Below w.heap.size w w'
set_option maxRecDepth 100000 in
set_option maxHeartbeats 4000000 in
theorem letters_any (op : Int) (w : World) : Calls Try.prog 95 #[.int .i64 op] w (LetPost op w) := by
  by_cases h0 : op = 23 ∨ op = 100 ∨ op = 101 ∨ op = 102 ∨ op = 103
  · rcases h0 with rfl | rfl | rfl | rfl | rfl
    all_goals
      go_enter Try.func95, Try.ntmps95
      go_wp2
      go_ret
      exact ⟨by simp [letV], Below.refl _ _⟩
  · have E : ∀ k : Int, k = 23 ∨ (100 ≤ k ∧ k ≤ 103) → (op == k) = false := fun k hk => beq_eq_false_iff_ne.2 (fun e => by omega)
    have b16 := E 23 (by omega)
    have b17 := E 100 (by omega)
    have b18 := E 101 (by omega)
    have b19 := E 102 (by omega)
    have b20 := E 103 (by omega)
    by_cases h1 : 1 ≤ op ∧ op ≤ 15
    · have he : letV op = memS op.toNat := by unfold letV; rw [if_neg (by omega), if_neg (by omega), if_neg (by omega), if_neg (by omega), if_neg (by omega), if_pos h1]
      obtain ⟨k, rfl⟩ := Int.eq_ofNat_of_zero_le (show 0 ≤ op by omega)
      have hk : k < 25 := by omega
      have hcell := mem_cell k hk
      have b0 : (0 : Int) ≤ (k : Int) := by omega
      have b1 : (k : Int) < 25 := by omega
      have b2 : (1 : Int) ≤ (k : Int) := h1.1
      have b3 : (k : Int) ≤ 15 := h1.2
      have HE := Lib.hid he
      have hsz : memArr.size = 25 := rfl
      clear E h0 he h1
      go_enter Try.func95, Try.ntmps95
      go_wp2_with (go_at_call 119; refine (members_any _).mono ?_; rintro e w' ⟨rfl, rfl⟩)
      go_ret
      exact ⟨by
        rw [HE.out]
        have h9 : memArr[k]'(by omega) = .string (memS k) := by have h8 := hcell; rw [Array.getElem?_eq_getElem (by omega)] at h8; exact Option.some.inj h8
        exact congrArg Ending.returned h9, (Below.refl _ _).alloc (Nat.le_refl _) _⟩
    · have he : letV op = ⟨#[45]⟩ := by unfold letV; rw [if_neg (by omega), if_neg (by omega), if_neg (by omega), if_neg (by omega), if_neg (by omega), if_neg h1]
      have HE := Lib.hid he
      by_cases h2 : 1 ≤ op
      · have h3 : ¬ op ≤ 15 := by omega
        clear E h0 he h1
        go_enter Try.func95, Try.ntmps95
        go_wp2
        go_ret
        exact ⟨by rw [HE.out]; rfl, Below.refl _ _⟩
      · clear E h0 he h1
        go_enter Try.func95, Try.ntmps95
        go_wp2
        go_ret
        exact ⟨by rw [HE.out]; rfl, Below.refl _ _⟩
end Go.Proofs.Ytlaogkbdjkofaaa
