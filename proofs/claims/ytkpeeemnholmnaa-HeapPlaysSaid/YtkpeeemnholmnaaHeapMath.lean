/- Rows of objects in the words of a heap: plain facts. No program. -/
import Derived.Test.YtkpeeemnholmnaaHeapHdr
namespace Go.Proofs.Ytkpeeemnholmnaa
set_option linter.unusedVariables false

/-- the header of an object -/
def hdr (t s : Nat) : Int := ((t : Int) * 4096 + s) * 2 + 1
/-- the size that a header tells -/
def hsize (v : Int) : Nat := (v / 2 % 4096).toNat
def isHdr (v : Int) : Prop := v % 2 = 1 ∧ 0 ≤ v / 8192 ∧ v / 8192 ≤ 258
theorem hdr_is (t s : Nat) (ht : t ≤ 258) (hs : s ≤ 4095) : isHdr (hdr t s) ∧ hsize (hdr t s) = s ∧ hdr t s / 8192 = t ∧ hdr t s / 2 % 4096 = s := by
  unfold isHdr hsize hdr
  omega
theorem isHdr_split {v : Int} (h : isHdr v) : splitIs v = true := splitIs_true.2 h
theorem hsize_bd (v : Int) : hsize v ≤ 4095 := by unfold hsize; omega
theorem hsize_cast (v : Int) : ((hsize v : Nat) : Int) = v / 2 % 4096 := by unfold hsize; omega

/-- words a to b are objects; l: where they begin -/
inductive Tiles (m : Nat → Int) : Nat → Nat → List Nat → Prop
  | nil (a : Nat) : Tiles m a a []
  | cons (a b : Nat) (l : List Nat) (h : isHdr (m a)) (ht : Tiles m (a + hsize (m a) + 1) b l) : Tiles m a b (a :: l)

theorem Tiles.le {m : Nat → Int} {a b : Nat} {l : List Nat} (h : Tiles m a b l) : a ≤ b := by
  induction h with
  | nil => exact Nat.le_refl _
  | cons a b l _ _ ih => omega
theorem Tiles.mem {m : Nat → Int} {a b : Nat} {l : List Nat} (h : Tiles m a b l) : ∀ i ∈ l, a ≤ i ∧ i + hsize (m i) + 1 ≤ b ∧ isHdr (m i) := by
  induction h with
  | nil => intro i hi; cases hi
  | cons a b l h1 ht ih =>
    intro i hi
    rcases List.mem_cons.1 hi with rfl | hi
    · exact ⟨Nat.le_refl _, ht.le, h1⟩
    · obtain ⟨h2, h3⟩ := ih i hi
      exact ⟨by omega, h3⟩
theorem Tiles.congr {m m' : Nat → Int} {a b : Nat} {l : List Nat} (h : Tiles m a b l) (e : ∀ i, a ≤ i → i < b → m' i = m i) : Tiles m' a b l := by
  induction h with
  | nil => exact .nil _
  | cons a b l h1 ht ih =>
    have hle := ht.le
    have ea := e a (Nat.le_refl _) (by omega)
    refine .cons a b l (by rw [ea]; exact h1) ?_
    rw [ea]
    exact ih fun i h2 h3 => e i (by omega) h3
theorem Tiles.snoc {m : Nat → Int} {a b : Nat} {l : List Nat} (h : Tiles m a b l) (hb : isHdr (m b)) : Tiles m a (b + hsize (m b) + 1) (l ++ [b]) := by
  induction h with
  | nil a => exact .cons _ _ _ hb (.nil _)
  | cons a b l h1 ht ih => exact .cons _ _ _ h1 (ih hb)
theorem Tiles.sorted {m : Nat → Int} {a b : Nat} {l : List Nat} (h : Tiles m a b l) : l.Pairwise (· < ·) := by
  induction h with
  | nil => exact .nil
  | cons a b l h1 ht ih =>
    refine .cons (fun i hi => ?_) ih
    have := (ht.mem i hi).1
    omega
theorem Tiles.len {m : Nat → Int} {a b : Nat} {l : List Nat} (h : Tiles m a b l) : a + l.length ≤ b := by
  induction h with
  | nil => simp
  | cons a b l h1 ht ih => simp; omega
/-- where an object of the row begins: k of them passed -/
theorem Tiles.head {m : Nat → Int} {a b : Nat} {l : List Nat} (h : Tiles m a b l) (hab : a < b) : ∃ r, l = a :: r ∧ isHdr (m a) ∧ Tiles m (a + hsize (m a) + 1) b r := by
  cases h with
  | nil => omega
  | cons a b l h1 ht => exact ⟨_, rfl, h1, ht⟩
theorem Tiles.none {m : Nat → Int} {a : Nat} {l : List Nat} (h : Tiles m a a l) : l = [] := by
  cases h with
  | nil => rfl
  | cons a b l h1 ht => have := ht.le; omega

/-- fields that hold odd words alone -/
def OddAt (m : Nat → Int) (l : List Nat) : Prop := ∀ i ∈ l, ∀ k, i < k → k ≤ i + hsize (m i) → m k % 2 = 1
end Go.Proofs.Ytkpeeemnholmnaa
