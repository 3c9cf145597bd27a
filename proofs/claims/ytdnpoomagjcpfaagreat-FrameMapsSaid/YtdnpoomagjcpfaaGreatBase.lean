/- What a law's walk is handed of its arguments: bounds of integers; rows of cells of a slice that came in. Plain facts on numbers: remainders, masks and shifts of 64-bit integers. No program. The contracts of the reference's Rest, modulo and Small. Blocks of memory known whole: what a cell of them holds, what they are behind a store, behind a new block, behind a draw. No program. Rows of a call's own, of elements of any layout: plain facts on 'World.ownsRow'. No function of the program. Rows that a call makes and writes: a block's cells as a function of the index. 'make' as an equation for every world. No function of the program. Laws on rows of elements of several cells: copy, clear, append in place; a block behind stores. No program. A region that draws its order, whose operations read what lies below block B, and whose calls leave all below B as it was and hand back values that do not hang on the order. After Derived/Deep/Quiet.lean's theorem, at another class of worlds. A region that draws its order: one walk in an order of the prover's choosing serves every order, if what may be passed over only reads what lies below block B, and whatever makes or writes memory leaves all below B as it was and comes up alone. The eager rule for any preorder between worlds: an effect keeps what the reads that may be passed over read. The eager rule for any preorder between worlds; an operation may change whatever it likes if nothing but moves can still be pending when it runs (by chains of up to three edges). -/
import Derived.ProofKit
import Derived.OpenShut
import Derived.WalkKit
import Derived.Deep.Slices
import Derived.OneCell
import Derived.Lib.SmallJoins
import Derived.Laws.BitsLemmas
import Derived.Laws.BitsAllLaws
import Derived.Laws.Bits64
import Derived.RowKit
import Derived.IntWalk
import Derived.Test.YtdnpoomagjcpfaaGreatRows
import Derived.WalkSpells
import Derived.WalkLawsBesides
import Derived.Lib.Hide
import Derived.WalkSmall
import Derived.Laws.AppendOwn
import Derived.Laws.OwnMore
import Derived.OwnWalk
import Derived.Below
import Derived.Deep.OwnRows
import Derived.Laws.IdiomCopy
import Derived.Lib.AppendZerosOnto
import Derived.Lib.Overlaps
import Derived.BigQuiet
import Derived.Deep.QuietTactic
namespace Go.Proofs.YtdnpoomagjcpfaaGreat
open Go.RowKit
set_option linter.unusedVariables false
set_option linter.unusedSectionVars false

section
open Go.Joins Go.ChangeShapes Go.WideShapes Go.ChangeAt Go.RowKit Go.Deep
set_option linter.unusedVariables false

theorem wf_bounds_i64 {n : Int} (h : (Lit.int .i64 n).wf = true) : -9223372036854775808 ≤ n ∧ n ≤ 9223372036854775807 := by
  simp [Lit.wf, IntKind.min, IntKind.max, IntKind.signed, IntKind.bits] at h
  omega

/-- a slice that came in: its elements vs, each of sz cells -/
structure Came (w : World) (a : Option Addr) (len cap sz : Nat) (vs : List (List Value)) : Prop where
  count : vs.length = len
  le : len ≤ cap
  max : cap ≤ 9223372036854775807
  nil : a = none → len = 0 ∧ cap = 0
  size : ∀ v ∈ vs, v.length = sz
  cells : 0 < len → 0 < sz → ∃ b off, a = some ⟨b, off, none⟩ ∧ b < w.heap.size ∧ ∀ i v, vs[i]? = some v → ∀ j, j < sz → w.cell? ⟨b, off + (i * sz + j), none⟩ = v[j]?

theorem Came.below {w w' : World} {a : Option Addr} {len cap sz : Nat} {vs : List (List Value)} (h : Came w a len cap sz vs) (hb : Below w.heap.size w w') : Came w' a len cap sz vs := by
  refine ⟨h.count, h.le, h.max, h.nil, h.size, fun h0 h1 => ?_⟩
  obtain ⟨b, off, ha, hlt, hc⟩ := h.cells h0 h1
  exact ⟨b, off, ha, Nat.lt_of_lt_of_le hlt hb.size, fun i v hv j hj => (hb.cell (p := ⟨b, off + (i * sz + j), none⟩) hlt).trans (hc i v hv j hj)⟩

theorem exists_list {α : Type} (n : Nat) (P : Nat → α → Prop) (h : ∀ i, i < n → ∃ x, P i x) : ∃ l : List α, l.length = n ∧ ∀ i x, l[i]? = some x → P i x := by
  induction n with
  | zero => exact ⟨[], rfl, fun i x hx => by simp at hx⟩
  | succ n ih =>
    obtain ⟨l, hl, hp⟩ := ih fun i hi => h i (by omega)
    obtain ⟨x, hx⟩ := h n (by omega)
    refine ⟨l ++ [x], by simp [hl], fun i y hy => ?_⟩
    by_cases hi : i < n
    · exact hp i y (by rwa [List.getElem?_append_left (by omega)] at hy)
    · by_cases he : i = n
      · subst he
        rw [List.getElem?_append_right (by omega), hl, Nat.sub_self] at hy
        simp at hy; rw [← hy]; exact hx
      · rw [List.getElem?_append_right (by omega)] at hy
        have : i - l.length ≠ 0 := by omega
        obtain ⟨m, hm⟩ := Nat.exists_eq_succ_of_ne_zero this
        rw [hm] at hy; simp at hy

section
variable {H : Type} {enc : TypeId × Value → H} {P : Program} {w : World} {base : Nat} {held : Bool}

/-- a slice of whatever elements: E lays an element's cells out, Q is what is known of it -/
theorem come_slice {α : Type} {t e : TypeId} {a : Option Addr} {len cap sz : Nat} {d : DataW H} {p : List MemPlace} (E : α → List Value) (Q : α → Prop)
    (ht : P.underlying t = some (.slice e)) (hC : P.cellsOf e = sz)
    (hE : ∀ n cs x, DataW.trod enc P w base (fun _ => true) held n e cs = some x → ∃ z, cs = E z ∧ Q z)
    (h : DataW.Trod enc P w base (fun _ => true) held t (.slice a len cap) d p) :
    ∃ zs : List α, Came w a len cap sz (zs.map E) ∧ ∀ z ∈ zs, Q z := by
  obtain ⟨fuel, hf⟩ := h
  rcases open_slice ht hf with ⟨hcs, _⟩ | ⟨x, l, c, m, n, D, Pl, hcs, _, hl, hm, hmm, _, hi⟩
  · simp [Value.cells] at hcs
    obtain ⟨rfl, rfl, rfl⟩ := hcs
    exact ⟨[], ⟨rfl, Nat.le_refl _, by omega, fun _ => ⟨rfl, rfl⟩, fun v hv => by simp at hv, fun h => by omega⟩, fun z hz => by simp at hz⟩
  · simp [Value.cells] at hcs
    obtain ⟨rfl, rfl, rfl⟩ := hcs
    simp only [if_true] at hmm
    subst hmm
    rw [hC] at hi
    obtain ⟨zs, hzl, hzs⟩ := exists_list len (fun i z => w.cells? base (x.add (i * sz)) sz = some (E z) ∧ Q z) (fun i hil => by
      obtain ⟨cs', hc, htr⟩ := hi i (by omega)
      obtain ⟨z, rfl, hq⟩ := hE _ _ _ htr
      exact ⟨z, hc, hq⟩)
    have hrow : ∀ z ∈ zs, (E z).length = sz ∧ Q z := fun z hz => by
      obtain ⟨i, hi', rfl⟩ := List.getElem_of_mem hz
      obtain ⟨h1, h2⟩ := hzs i _ (List.getElem?_eq_getElem hi')
      exact ⟨(World.cells?_some h1).2.1, h2⟩
    refine ⟨zs, ⟨by simpa using hzl, hl, by unfold maxLen at hm; omega, fun h => by simp at h, ?_, ?_⟩, fun z hz => (hrow z hz).2⟩
    · intro v hv
      obtain ⟨z, hz, rfl⟩ := List.mem_map.1 hv
      exact (hrow z hz).1
    · intro h0 h1
      have hz0 : zs[0]? = some (zs[0]'(by omega)) := List.getElem?_eq_getElem (by omega)
      have hc0 := (World.cells?_some (hzs 0 _ hz0).1).2.2 0 h1
      have hl0 := (World.cells?_some (hzs 0 _ hz0).1).2.1
      rw [List.getElem?_eq_getElem (by omega)] at hc0
      obtain ⟨b, off, spot⟩ := x
      have hspot : spot = none := by simpa [Addr.add] using World.cell?_spot hc0
      subst hspot
      refine ⟨b, off, rfl, ?_, ?_⟩
      · have := World.block_lt_of_cell? w _ hc0; simpa [Addr.add_lit] using this
      · intro i v hv j hj
        rw [List.getElem?_map] at hv
        obtain ⟨z, hz, rfl⟩ := Option.map_eq_some_iff.1 hv
        have := (World.cells?_some (hzs i z hz).1).2.2 j hj
        simpa [Addr.add_lit, Nat.add_assoc] using this

def intCells (z : Int) : List Value := [.int .i64 z]
def boolCells (z : Bool) : List Value := [.bool z]
def I64 (n : Int) : Prop := -9223372036854775808 ≤ n ∧ n ≤ 9223372036854775807

theorem come_ints {t e : TypeId} {a : Option Addr} {len cap : Nat} {d : DataW H} {p : List MemPlace} (ht : P.underlying t = some (.slice e)) (he : P.underlying e = some (.int .i64)) (hC : P.cellsOf e = 1)
    (h : DataW.Trod enc P w base (fun _ => true) held t (.slice a len cap) d p) : ∃ zs : List Int, Came w a len cap 1 (zs.map intCells) ∧ ∀ z ∈ zs, I64 z :=
  come_slice intCells I64 ht hC (fun n cs x hx => by obtain ⟨z, hc, _, hw⟩ := DataW.trod_int he hx; exact ⟨z, hc, wf_bounds_i64 hw⟩) h

theorem come_bools {t e : TypeId} {a : Option Addr} {len cap : Nat} {d : DataW H} {p : List MemPlace} (ht : P.underlying t = some (.slice e)) (he : P.underlying e = some .bool) (hC : P.cellsOf e = 1)
    (h : DataW.Trod enc P w base (fun _ => true) held t (.slice a len cap) d p) : ∃ zs : List Bool, Came w a len cap 1 (zs.map boolCells) ∧ ∀ z ∈ zs, True :=
  come_slice boolCells (fun _ => True) ht hC (fun n cs x hx => by obtain ⟨z, hc, _⟩ := DataW.trod_bool he hx; exact ⟨z, hc, trivial⟩) h
end

section
variable {H : Type} {enc : TypeId × Value → H} {P : Program} {w : World} {base : Nat} {spare : Nat → Bool} {held : Bool}
theorem open_agg5 {r : Reach} {b0 : Nat} {t : TypeId} {f0 f1 f2 f3 f4 : Field} {v : Value} {d : DataW H} {p : List MemPlace} (hs : P.underlying t = some (.struct #[f0, f1, f2, f3, f4])) (hone : oneCellFields P #[f0, f1, f2, f3, f4] = true) (hC : P.cellsOf t = 5)
    (hv : Value.okWide P w r b0 t v) (h : DataW.Trod enc P w base spare held t v d p) :
    ∃ (v0 v1 v2 v3 v4 : Value) (y0 y1 y2 y3 y4 : DataW H × List MemPlace) (n : Nat), v = .agg #[v0, v1, v2, v3, v4] ∧ d = .agg [y0.1, y1.1, y2.1, y3.1, y4.1] ∧ p = y0.2 ++ (y1.2 ++ (y2.2 ++ (y3.2 ++ y4.2))) ∧
      DataW.trod enc P w base spare held n f0.type [v0] = some y0 ∧ DataW.trod enc P w base spare held n f1.type [v1] = some y1 ∧ DataW.trod enc P w base spare held n f2.type [v2] = some y2 ∧ DataW.trod enc P w base spare held n f3.type [v3] = some y3 ∧ DataW.trod enc P w base spare held n f4.type [v4] = some y4 := by
  obtain ⟨cs, rfl, hsz⟩ := okWide_struct hs hv
  obtain ⟨l⟩ := cs
  match l, hsz.trans hC with
  | [c0, c1, c2, c3, c4], _ =>
    obtain ⟨fuel, hf⟩ := h
    obtain ⟨xs, n, _, hx, _, hlen, hg⟩ := DataW.trod_struct hs hf
    obtain ⟨o0, k0⟩ := hone_of hone 0 f0 rfl
    obtain ⟨o1, k1⟩ := hone_of hone 1 f1 rfl
    obtain ⟨o2, k2⟩ := hone_of hone 2 f2 rfl
    obtain ⟨o3, k3⟩ := hone_of hone 3 f3 rfl
    obtain ⟨o4, k4⟩ := hone_of hone 4 f4 rfl
    match xs, hlen with
    | [y0, y1, y2, y3, y4], _ =>
      simp only [Prod.mk.injEq] at hx
      exact ⟨c0, c1, c2, c3, c4, y0, y1, y2, y3, y4, n, rfl, by simpa using hx.1, by simpa using hx.2, by simpa [Value.cells, o0, k0] using hg 0 f0 rfl, by simpa [Value.cells, o1, k1] using hg 1 f1 rfl, by simpa [Value.cells, o2, k2] using hg 2 f2 rfl, by simpa [Value.cells, o3, k3] using hg 3 f3 rfl, by simpa [Value.cells, o4, k4] using hg 4 f4 rfl⟩
end

theorem Came.ints {w : World} {a : Option Addr} {len cap : Nat} {zs : List Int} (h : Came w a len cap 1 (zs.map intCells)) (h0 : 0 < len) :
    ∃ b off, a = some ⟨b, off, none⟩ ∧ b < w.heap.size ∧ ∀ i (hi : i < zs.length), w.cell? ⟨b, off + i, none⟩ = some (.int .i64 zs[i]) := by
  obtain ⟨b, off, ha, hb, hc⟩ := h.cells h0 (by omega)
  refine ⟨b, off, ha, hb, fun i hi => ?_⟩
  have := hc i (intCells zs[i]) (by rw [List.getElem?_map, List.getElem?_eq_getElem hi]; rfl) 0 (by omega)
  simpa [intCells] using this

theorem Came.bools {w : World} {a : Option Addr} {len cap : Nat} {zs : List Bool} (h : Came w a len cap 1 (zs.map boolCells)) (h0 : 0 < len) :
    ∃ b off, a = some ⟨b, off, none⟩ ∧ b < w.heap.size ∧ ∀ i (hi : i < zs.length), w.cell? ⟨b, off + i, none⟩ = some (.bool zs[i]) := by
  obtain ⟨b, off, ha, hb, hc⟩ := h.cells h0 (by omega)
  refine ⟨b, off, ha, hb, fun i hi => ?_⟩
  have := hc i (boolCells zs[i]) (by rw [List.getElem?_map, List.getElem?_eq_getElem hi]; rfl) 0 (by omega)
  simpa [boolCells] using this

/-- what a call has gathered by append, as a slice that is handed on -/
theorem came_of_owns {w : World} {base : Nat} {e : TypeId} {a : Option Addr} {len cap n : Nat} {α : Type} {E : α → List Value} {zs : List α} (h1 : ∀ z, ∃ v, E z = [v]) (h : w.ownsRow base e 1 (.slice a len cap) n (zs.map fun z => (E z).headD undef)) :
    len = n ∧ Came w a len cap 1 (zs.map E) := by
  obtain ⟨hl, hr⟩ := h
  have hzl : zs.length = n := by simpa using hl
  have hsz : ∀ v ∈ zs.map E, v.length = 1 := by
    intro v hv
    obtain ⟨z, _, rfl⟩ := List.mem_map.1 hv
    obtain ⟨u, hu⟩ := h1 z
    rw [hu]; rfl
  rcases hr with ⟨hv, rfl⟩ | ⟨g, c, cur, hv, hg, hgg, hnc, hcm, hcs, htake⟩
  · simp only [Value.slice.injEq] at hv
    obtain ⟨rfl, rfl, rfl⟩ := hv
    exact ⟨rfl, by simpa using hzl, by omega, by omega, fun _ => ⟨rfl, rfl⟩, hsz, fun h => by omega⟩
  · simp only [Value.slice.injEq] at hv
    obtain ⟨rfl, rfl, rfl⟩ := hv
    refine ⟨rfl, by simpa using hzl, hnc, by unfold maxLen at hcm; omega, fun h => by simp at h, hsz, fun h0 _ => ⟨g, 0, rfl, lt_of_block hgg, fun i v hv j hj => ?_⟩⟩
    obtain rfl : j = 0 := by omega
    rw [List.getElem?_map] at hv
    obtain ⟨z, hz, rfl⟩ := Option.map_eq_some_iff.1 hv
    have hil : i < zs.length := (List.getElem?_eq_some_iff.1 hz).1
    have h2 : (cur.toList.take (len * 1))[i]? = some ((E z).headD undef) := by rw [htake, List.getElem?_map, hz]; rfl
    rw [List.getElem?_take, if_pos (by omega)] at h2
    obtain ⟨u, hu⟩ := h1 z
    rw [hu] at h2 ⊢
    simp only [World.cell?, hgg]
    simpa using h2
end

section
theorem modulo_emod (n m : Int) (hm : 0 < m) : n % m = if n.tmod m < 0 then n.tmod m + m else n.tmod m := by
  have h1 := Int.emod_nonneg n (show m ≠ 0 by omega)
  have h2 := Int.emod_lt_of_pos n hm
  rw [Int.tmod_eq_emod]
  by_cases h : 0 ≤ n ∨ m ∣ n
  · simp only [h, if_true]; split <;> omega
  · simp only [h, if_false]; split <;> omega

theorem tmod_bd (n m : Int) (hm : 0 < m) : -m < n.tmod m ∧ n.tmod m < m := by
  have h1 := Int.emod_nonneg n (show m ≠ 0 by omega)
  have h2 := Int.emod_lt_of_pos n hm
  rw [Int.tmod_eq_emod]
  split <;> omega

theorem ofInt_i64 (x : Int) : (BitVec.ofInt 64 x).toNat = (x % 18446744073709551616).toNat := by
  rw [BitVec.toNat_ofInt]; rfl

theorem nat_field (x k j : Nat) : x &&& (2 ^ k * (2 ^ j - 1)) = x / 2 ^ k % 2 ^ j * 2 ^ k := by
  apply Nat.eq_of_testBit_eq
  intro i
  rw [Nat.testBit_and, Nat.mul_comm (2 ^ k), ← Nat.shiftLeft_eq, ← Nat.shiftLeft_eq, Nat.testBit_shiftLeft, Nat.testBit_shiftLeft, Nat.testBit_two_pow_sub_one, Nat.testBit_mod_two_pow, Nat.testBit_div_two_pow]
  by_cases h : k ≤ i
  · have : i - k + k = i := by omega
    rw [this]
    simp [h]
    exact Bool.and_comm _ _
  · simp [h]

theorem and_nat (x : Int) (M r : Nat) (hM : M < 9223372036854775808) (hr : r < 9223372036854775808) (h : (x % 18446744073709551616).toNat &&& M = r) :
    bits .and .i64 x (M : Int) = (r : Int) := by
  have e1 : (BitVec.ofInt 64 (M : Int)).toNat = M := by rw [ofInt_i64]; omega
  show IntKind.i64.wrap ((BitVec.ofInt 64 x &&& BitVec.ofInt 64 (M : Int)).toNat : Nat) = _
  rw [BitVec.toNat_and, e1, ofInt_i64, h, IntKind.wrap_i64]
  omega

theorem and_1 (x : Int) : bits .and .i64 x 1 = x % 2 := by
  have h := nat_field (x % 18446744073709551616).toNat 0 1
  simp only [Nat.pow_zero, Nat.pow_one, Nat.reduceSub, Nat.mul_one, Nat.div_one] at h
  rw [show (1 : Int) = ((1 : Nat) : Int) from rfl, and_nat x 1 _ (by omega) (by omega) h]
  omega
theorem and_15 (x : Int) : bits .and .i64 x 15 = x % 16 := by
  have h := nat_field (x % 18446744073709551616).toNat 0 4
  simp only [Nat.pow_zero, Nat.reducePow, Nat.reduceSub, Nat.reduceMul, Nat.mul_one, Nat.div_one] at h
  rw [show (15 : Int) = ((15 : Nat) : Int) from rfl, and_nat x 15 _ (by omega) (by omega) h]
  omega
theorem and_255 (x : Int) : bits .and .i64 x 255 = x % 256 := by
  have h := nat_field (x % 18446744073709551616).toNat 0 8
  simp only [Nat.pow_zero, Nat.reducePow, Nat.reduceSub, Nat.reduceMul, Nat.mul_one, Nat.div_one] at h
  rw [show (255 : Int) = ((255 : Nat) : Int) from rfl, and_nat x 255 _ (by omega) (by omega) h]
  omega
theorem and_4095 (x : Int) : bits .and .i64 x 4095 = x % 4096 := by
  have h := nat_field (x % 18446744073709551616).toNat 0 12
  simp only [Nat.pow_zero, Nat.reducePow, Nat.reduceSub, Nat.reduceMul, Nat.mul_one, Nat.div_one] at h
  rw [show (4095 : Int) = ((4095 : Nat) : Int) from rfl, and_nat x 4095 _ (by omega) (by omega) h]
  omega
theorem and_u32 (x : Int) : bits .and .i64 x 4294967295 = x % 4294967296 := by
  have h := nat_field (x % 18446744073709551616).toNat 0 32
  simp only [Nat.pow_zero, Nat.reducePow, Nat.reduceSub, Nat.reduceMul, Nat.mul_one, Nat.div_one] at h
  rw [show (4294967295 : Int) = ((4294967295 : Nat) : Int) from rfl, and_nat x 4294967295 _ (by omega) (by omega) h]
  omega
theorem and_3f00 (x : Int) : bits .and .i64 x 16128 = x / 256 % 64 * 256 := by
  have h := nat_field (x % 18446744073709551616).toNat 8 6
  simp only [Nat.reducePow, Nat.reduceSub, Nat.reduceMul] at h
  rw [show (16128 : Int) = ((16128 : Nat) : Int) from rfl, and_nat x 16128 _ (by omega) (by omega) h]
  omega
theorem and_long (x : Int) : bits .and .i64 x 67108864 = x / 67108864 % 2 * 67108864 := by
  have h := nat_field (x % 18446744073709551616).toNat 26 1
  simp only [Nat.reducePow, Nat.reduceSub, Nat.pow_one, Nat.mul_one] at h
  rw [show (67108864 : Int) = ((67108864 : Nat) : Int) from rfl, and_nat x 67108864 _ (by omega) (by omega) h]
  omega

/-- '|' of two numbers without a common bit -/
theorem or_join (x y : Nat) (i : Nat) (hx : x % 2 ^ i = 0) (hy : y < 2 ^ i) (hs : x + y < 9223372036854775808) : bits .or .i64 (x : Int) (y : Int) = ((x + y : Nat) : Int) := by
  have e1 : (BitVec.ofInt 64 (x : Int)).toNat = x := by rw [ofInt_i64]; omega
  have e2 : (BitVec.ofInt 64 (y : Int)).toNat = y := by rw [ofInt_i64]; omega
  show IntKind.i64.wrap ((BitVec.ofInt 64 (x : Int) ||| BitVec.ofInt 64 (y : Int)).toNat : Nat) = _
  rw [BitVec.toNat_or, e1, e2, nat_join i x y hx hy, IntKind.wrap_i64]
  omega

theorem small_eq (n : Int) : wrap64 (wrap32 (IntKind.u64.wrap n % 4294967296)) = wrap32 n := by
  simp only [IntKind.wrap_u64, wrap32, wrap64]; omega
theorem wrap32_bd (n : Int) : -2147483648 ≤ wrap32 n ∧ wrap32 n ≤ 2147483647 := by unfold wrap32; omega
theorem wrap32_id (n : Int) (h : -2147483648 ≤ n ∧ n ≤ 2147483647) : wrap32 n = n := by unfold wrap32; omega
end

section
theorem ret_int {k : IntKind} {a b : Int} (h : a = b) : Ending.returned (.int k a) = .returned (.int k b) := by rw [h]
theorem ret_bool {a b : Bool} (h : a = b) : Ending.returned (.bool a) = .returned (.bool b) := by rw [h]

/-- what a call of Go's own small 'in' answers -/
def inB (n l h : Int) : Bool := decide (l ≤ n) && decide (n ≤ h)
theorem inB_true {n l h : Int} : inB n l h = true ↔ l ≤ n ∧ n ≤ h := by simp [inB]
theorem inB_false {n l h : Int} : inB n l h = false ↔ n < l ∨ h < n := by
  rw [← Bool.not_eq_true, inB_true]; omega

set_option maxHeartbeats 400000 in
theorem modulo_any (n m : Int) (w : World) (hm : 0 < m) (hm2 : m ≤ 1000000) :
    Calls Tryz.prog 27 #[.int .i64 n, .int .i64 m] w fun e w' => e = .returned (.int .i64 (n % m)) ∧ w = w' := by
  have h0 : (m == 0) = false := by simp; omega
  have h1 := tmod_bd n m hm
  have h2 := modulo_emod n m hm
  have H2 := Lib.hid h2; clear h2
  go_enter Tryz.func27, Tryz.ntmps27
  go_wp2
  · go_ret
    exact ⟨ret_int (by rw [H2.out, if_pos (by assumption)]), rfl⟩
  · go_ret
    exact ⟨ret_int (by rw [H2.out, if_neg (by omega)]), rfl⟩

set_option maxHeartbeats 400000 in
theorem rest_any (n m : Int) (w : World) (hm : 0 < m) (hm2 : m ≤ 1000000) :
    Calls Tryz.prog 9 #[.int .i64 n, .int .i64 m] w fun e w' => e = .returned (.int .i64 (n % m)) ∧ w = w' := by
  go_enter Tryz.func9, Tryz.ntmps9
  go_wp2_with (go_at_call 27; refine (modulo_any n m _ hm hm2).mono ?_; rintro e w' ⟨rfl, rfl⟩)
  go_ret
  exact ⟨rfl, rfl⟩

end

section
/-- block b holds the cells cs, of elements of type t, and may be written -/
def Blk (w : World) (b : Nat) (t : TypeId) (cs : List Value) : Prop := w.heap[b]? = some (.cells cs.toArray t (0, 0))

section
variable {w w' : World} {b : Nat} {t : TypeId} {cs : List Value}
theorem Blk.lt (h : Blk w b t cs) : b < w.heap.size := lt_of_block h
theorem Blk.cell (h : Blk w b t cs) (i : Nat) : w.cell? ⟨b, i, none⟩ = cs[i]? := by
  unfold Blk at h; simp [World.cell?, h]
theorem Blk.cellD (h : Blk w b t cs) {i : Nat} (hi : i < cs.length) : w.cell? ⟨b, i, none⟩ = some cs[i] := by
  rw [h.cell, List.getElem?_eq_getElem hi]
theorem Blk.free (h : Blk w b t cs) (i : Nat) : w.frozen? ⟨b, i, none⟩ = false := by
  unfold Blk at h; simp [World.frozen?, h]
theorem Blk.of_heap (h : Blk w b t cs) (e : w'.heap[b]? = w.heap[b]?) : Blk w' b t cs := e.trans h
theorem Blk.alloc (h : Blk w b t cs) (o : Obj) : Blk (w.alloc o) b t cs := h.of_heap (Below.heap_alloc _ _ _ h.lt)
theorem Blk.new (w : World) (cs : List Value) (t : TypeId) : Blk (w.alloc (.cells cs.toArray t)) w.heap.size t cs := heap_alloc_new w _
theorem Blk.drew (h : Blk w b t cs) : Blk w.drew b t cs := h
theorem Blk.set (h : Blk w b t cs) (i : Nat) (v : Value) : Blk (w.setCell ⟨b, i, none⟩ v) b t (cs.set i v) := by
  unfold Blk at h ⊢
  simp [World.setCell, Array.getElem?_modify, h]
theorem Blk.setOther (h : Blk w b t cs) {a : Addr} (ha : b ≠ a.block) (v : Value) : Blk (w.setCell a v) b t cs := h.of_heap (Below.heap_setCell _ _ _ _ ha)
theorem Blk.below {B : Nat} (h : Blk w b t cs) (hb : Below B w w') (hB : b < B) : Blk w' b t cs := h.of_heap (hb.block b hB)
end
theorem Blk.drewN {w : World} {b : Nat} {t : TypeId} {cs : List Value} (h : Blk w b t cs) (n : Nat) : Blk (w.drewN n) b t cs := h
theorem below_drewN_self (B : Nat) (w : World) (n : Nat) : Below B w (w.drewN n) := ⟨rfl, rfl, rfl, Nat.le_refl _, fun _ _ => rfl⟩
end

section
section
variable {w w' : World} {base base' : Nat} {e : TypeId} {size : Nat} {v : Value} {n : Nat} {l : List Value}
theorem ownG_shape (h : w.ownsRow base e size v n l) : ∃ a cap, v = .slice a n cap := by
  rcases h.2 with ⟨rfl, rfl⟩ | ⟨g, c, cur, rfl, _⟩
  · exact ⟨_, _, rfl⟩
  · exact ⟨_, _, rfl⟩
theorem ownG_has (h : w.ownsRow base e size v n l) (hn : 0 < n) : ∃ g cap, v = .slice (some ⟨g, 0, none⟩) n cap ∧ base ≤ g ∧ g < w.heap.size ∧ n ≤ cap ∧ cap ≤ maxLen := by
  rcases h.2 with ⟨rfl, rfl⟩ | ⟨g, c, cur, rfl, h1, h2, h3, h4, _⟩
  · omega
  · exact ⟨g, c, rfl, h1, lt_of_block h2, h3, h4⟩
theorem ownG_base (h : w.ownsRow base e size v n l) (hb : base' ≤ base) : w.ownsRow base' e size v n l := by
  refine ⟨h.1, ?_⟩
  rcases h.2 with hn | ⟨g, cap, cur, h1, h2, h3⟩
  · exact .inl hn
  · exact .inr ⟨g, cap, cur, h1, Nat.le_trans hb h2, h3⟩
theorem ownG_kept (h : w.ownsRow base e size v n l) (hb : ∀ g, v.ownBlock = some g → w'.heap[g]? = w.heap[g]?) : w'.ownsRow base e size v n l := by
  refine ⟨h.1, ?_⟩
  rcases h.2 with hn | ⟨g, cap, cur, rfl, h2, h3, h4⟩
  · exact .inl hn
  · exact .inr ⟨g, cap, cur, rfl, h2, (hb g rfl).trans h3, h4⟩
theorem ownG_below (h : w.ownsRow base e size v n l) (hb : Below w.heap.size w w') : w'.ownsRow base e size v n l := ownG_kept h fun g hg => hb.block g (h.lt g hg).2
theorem ownG_other {a : Addr} (h : w.ownsRow base e size v n l) (ha : v.ownBlock ≠ some a.block) (u : Value) : (w.setCell a u).ownsRow base e size v n l :=
  ownG_kept h fun g hg => Below.heap_setCell _ _ _ _ (fun e => ha (by rw [hg, e]))
end
/-- the cells of a list of elements, each of k cells -/
theorem flatN_len {α : Type} {E : α → List Value} {k : Nat} (hE : ∀ x, (E x).length = k) : ∀ l : List α, (l.flatMap E).length = l.length * k
  | [] => by simp
  | x :: r => by rw [List.flatMap_cons, List.length_append, hE, flatN_len hE r, List.length_cons, Nat.add_mul]; omega
theorem flatN_get {α : Type} {E : α → List Value} {k : Nat} (hE : ∀ x, (E x).length = k) : ∀ (l : List α) (i j : Nat) (hi : i < l.length), j < k → (l.flatMap E)[i * k + j]? = (E l[i])[j]?
  | [], i, j, hi, _ => by simp at hi
  | x :: r, 0, j, hi, hj => by rw [List.flatMap_cons, List.getElem?_append_left (by rw [hE]; omega)]; simp
  | x :: r, i + 1, j, hi, hj => by
    rw [List.flatMap_cons, List.getElem?_append_right (by rw [hE, Nat.add_mul]; omega), hE, show (i + 1) * k + j - k = i * k + j by rw [Nat.add_mul]; omega]
    simpa using flatN_get hE r i j (by simpa using hi) hj
theorem flatN_set {α : Type} {E : α → List Value} {k : Nat} (hE : ∀ x, (E x).length = k) : ∀ (l : List α) (i j : Nat) (v : Value) (y : α) (hi : i < l.length), j < k → (E l[i]).set j v = E y → (l.flatMap E).set (i * k + j) v = (l.set i y).flatMap E
  | [], i, j, v, y, hi, _, _ => by simp at hi
  | x :: r, 0, j, v, y, hi, hj, he => by
    rw [List.flatMap_cons, List.set_append_left _ _ (by rw [hE]; omega), List.set_cons_zero, List.flatMap_cons, ← he]
    simp
  | x :: r, i + 1, j, v, y, hi, hj, he => by
    rw [List.flatMap_cons, List.set_append_right _ _ (by rw [hE, Nat.add_mul]; omega), hE, show (i + 1) * k + j - k = i * k + j by rw [Nat.add_mul]; omega, List.set_cons_succ, List.flatMap_cons]
    rw [flatN_set hE r i j v y (by simpa using hi) hj (by simpa using he)]
end

section
open Go.RowKit Go.Deep
set_option linter.unusedVariables false

def rowL (n : Nat) (f : Nat → Value) : List Value := (List.range n).map f
theorem rowL_length (n : Nat) (f : Nat → Value) : (rowL n f).length = n := by simp [rowL]
theorem rowL_get {n : Nat} {f : Nat → Value} {i : Nat} (h : i < n) : (rowL n f)[i]? = some (f i) := by
  unfold rowL; rw [List.getElem?_map, List.getElem?_range h]; rfl
theorem rowL_congr {n : Nat} {f g : Nat → Value} (h : ∀ i, i < n → f i = g i) : rowL n f = rowL n g := by
  unfold rowL
  exact List.map_congr_left fun i hi => h i (List.mem_range.1 hi)
theorem rowL_set (n : Nat) (f : Nat → Value) (j : Nat) (v : Value) : (rowL n f).set j v = rowL n (fun i => if i = j then v else f i) := by
  apply List.ext_getElem?
  intro i
  rw [List.getElem?_set]
  by_cases hi : i < n
  · rw [rowL_get hi, rowL_get hi, rowL_length]
    by_cases e : j = i
    · subst e; simp [hi]
    · rw [if_neg e, if_neg (Ne.symm e)]
  · have h1 : (rowL n f)[i]? = none := List.getElem?_eq_none (by rw [rowL_length]; omega)
    have h2 : (rowL n (fun i => if i = j then v else f i))[i]? = none := List.getElem?_eq_none (by rw [rowL_length]; omega)
    rw [h1, h2, rowL_length]
    split
    · rw [if_neg (by omega)]
    · rfl
theorem rowL_rep (n : Nat) (z : Value) : List.replicate n z = rowL n (fun _ => z) := by
  unfold rowL
  apply List.ext_getElem?
  intro i
  by_cases hi : i < n
  · rw [List.getElem?_replicate, if_pos hi, List.getElem?_map, List.getElem?_range hi]; rfl
  · rw [List.getElem?_replicate, if_neg hi, List.getElem?_map, List.getElem?_eq_none (by simp; omega)]; rfl

theorem Blk.row {w : World} {b : Nat} {t : TypeId} {n : Nat} {f : Nat → Value} (h : Blk w b t (rowL n f)) {i : Nat} (hi : i < n) : w.cell? ⟨b, i, none⟩ = some (f i) := by
  rw [h.cell, rowL_get hi]
theorem Blk.rowSet {w : World} {b : Nat} {t : TypeId} {n : Nat} {f : Nat → Value} (h : Blk w b t (rowL n f)) (j : Nat) (v : Value) : Blk (w.setCell ⟨b, j, none⟩ v) b t (rowL n (fun i => if i = j then v else f i)) := by
  rw [← rowL_set]; exact h.set j v
theorem Blk.rowCongr {w : World} {b : Nat} {t : TypeId} {n : Nat} {f g : Nat → Value} (h : Blk w b t (rowL n f)) (e : ∀ i, i < n → f i = g i) : Blk w b t (rowL n g) := by
  rw [← rowL_congr e]; exact h

theorem madeCells_rep (z : Value) (n : Nat) : madeCells #[z] n = (List.replicate n z).toArray := by
  apply Array.ext
  · simp [size_madeCells]
  · intro i h1 h2
    simp [madeCells, Nat.mod_one]
theorem run_make_rep {P : Program} (t e : TypeId) (z : Value) (bytes : Nat) (ht : P.underlying t = some (.slice e)) (hinfo : (P.info? e).map (fun i => (i.zero, i.size, i.bytes)) = some (some z, 1, bytes)) (hz1 : z.cells = #[z])
    (n : Nat) (hbytes : bytes * n ≤ 281474976710656) (h63 : n ≤ 9223372036854775807) (w : World) :
    (Instr.makeSlice t (.int .i64 (n : Int)) (.int .i64 (n : Int))).run P w = .ok (.slice (some ⟨w.heap.size, 0, none⟩) n n) (w.alloc (.cells (rowL n (fun _ => z)).toArray e)) := by
  rw [run_make_row' t e z bytes ht hinfo hz1 .i64 .i64 n hbytes h63 w, madeCells_rep, rowL_rep]

/-- a made row, as a slice that is handed on -/
theorem came_of_row {w : World} {g : Nat} {t : TypeId} {n : Nat} {f : Nat → Value} (h : Blk w g t (rowL n f)) (hm : n ≤ 9223372036854775807) : Came w (some ⟨g, 0, none⟩) n n 1 ((rowL n f).map fun v => [v]) := by
  refine ⟨by simp [rowL_length], Nat.le_refl _, hm, fun h => by simp at h, ?_, fun _ _ => ⟨g, 0, rfl, h.lt, fun i v hv j hj => ?_⟩⟩
  · intro v hv
    obtain ⟨z, _, rfl⟩ := List.mem_map.1 hv
    rfl
  · obtain rfl : j = 0 := by omega
    rw [List.getElem?_map] at hv
    obtain ⟨z, hz, rfl⟩ := Option.map_eq_some_iff.1 hv
    rw [h.cell]
    simp [hz]
end

section
theorem setCells_heap (b : Nat) (t : TypeId) : ∀ (vs : List Value) (o : Nat) (w : World) (cur : Array Value), w.heap[b]? = some (.cells cur t (0, 0)) →
    ∃ cur' : Array Value, (w.setCells b o vs).heap[b]? = some (.cells cur' t (0, 0)) ∧ cur'.size = cur.size ∧ ∀ j, j < cur.size → cur'[j]? = if o ≤ j ∧ j < o + vs.length then vs[j - o]? else cur[j]?
  | [], o, w, cur, h => ⟨cur, h, rfl, fun j _ => by rw [if_neg (by simp)]⟩
  | v :: r, o, w, cur, h => by
    have h1 : (w.setCell ⟨b, o, none⟩ v).heap[b]? = some (.cells (cur.setIfInBounds o v) t (0, 0)) := by
      simp [World.setCell, Array.getElem?_modify, h]
    obtain ⟨cur', h2, h3, h4⟩ := setCells_heap b t r (o + 1) _ _ h1
    refine ⟨cur', h2, by rw [h3]; simp, fun j hj => ?_⟩
    rw [h4 j (by simpa using hj)]
    by_cases e : j = o
    · subst e
      rw [if_neg (by omega), if_pos (by simp)]
      simp [hj]
    · by_cases h9 : o + 1 ≤ j ∧ j < o + 1 + r.length
      · rw [if_pos h9, if_pos (by simp; omega)]
        obtain ⟨m, hm⟩ : ∃ m, j - o = m + 1 := ⟨j - o - 1, by omega⟩
        rw [hm, List.getElem?_cons_succ, show j - (o + 1) = m by omega]
      · rw [if_neg h9, if_neg (by simp; omega)]
        rw [Array.getElem?_setIfInBounds_ne (by omega)]
theorem setCells_grown (b : Nat) : ∀ (vs : List Value) (o : Nat) (w : World), w.grownBy (w.setCells b o vs) (some b)
  | [], _, w => ⟨rfl, rfl, rfl, Nat.le_refl _, fun _ _ _ => rfl⟩
  | v :: r, o, w => by
    have h := setCells_grown b r (o + 1) (w.setCell ⟨b, o, none⟩ v)
    refine ⟨h.os, h.tape, h.output, Nat.le_trans (by simp [World.setCell]) h.size, fun k hk hne => ?_⟩
    rw [World.setCells, h.block k (by simpa [World.setCell] using hk) hne]
    exact Below.heap_setCell _ _ _ _ (fun e => hne (by rw [e]))
theorem setCells_size (b : Nat) : ∀ (vs : List Value) (o : Nat) (w : World), (w.setCells b o vs).heap.size = w.heap.size
  | [], _, w => rfl
  | v :: r, o, w => by rw [World.setCells, setCells_size b r]; simp [World.setCell]

section
variable {P : Program} (w : World)
theorem run_copy_k (k : Nat) (dT sT ty elem : TypeId) (b o dLen dCap : Nat) (a : Addr) (sLen sCap : Nat) (cs : List Value)
    (hu : P.underlying dT = some (.slice elem)) (hs : (P.info? elem).map (·.size) = some k) (hn : cs.length = Nat.min sLen dLen * k)
    (hsrc : ∀ j v, cs[j]? = some v → w.cell? (a.add j) = some v) (hc : ∀ j, j < cs.length → (w.cell? ⟨b, o + j, none⟩).isSome = true) (hf : ∀ j, j < cs.length → w.frozen? ⟨b, o + j, none⟩ = false) (h1 : ∀ v ∈ cs, v.oneCell' = true) :
    (Builtin.copy_ #[dT, sT] ty #[.slice (some ⟨b, o, none⟩) dLen dCap, .slice (some a) sLen sCap]).run P w = .ok (goInt (Nat.min sLen dLen)) (w.setCells b o cs) := by
  have hl := run_loadCells_list (P := P) w a cs hsrc
  have hst := run_storeCells_cells (P := P) b o cs 0 w (by simpa using hc) (by simpa using hf) h1
  cases hq : P.info? elem with
  | none => simp [hq] at hs
  | some i =>
    have hi : i.size = k := by simpa [hq] using hs
    simp [Builtin.copy_, run_underlying hu, Builtin.lenOf, Builtin.firstCells, sizeOf, typeInfo, hq, hi, ← hn, hl, hst]
theorem run_clear_one (t e ty : TypeId) (z : Value) (ht : P.underlying t = some (.slice e)) (hv : ∀ w, (zeroValue e).run P w = .ok z w) (h1 : ∀ v ∈ (Builtin.zeroCells z.cells 1).toList, v.oneCell' = true) (b o c : Nat)
    (hc : ∀ j, j < (Builtin.zeroCells z.cells 1).toList.length → (w.cell? ⟨b, o + j, none⟩).isSome = true) (hf : ∀ j, j < (Builtin.zeroCells z.cells 1).toList.length → w.frozen? ⟨b, o + j, none⟩ = false) :
    (Builtin.clear_ #[t] ty #[.slice (some ⟨b, o, none⟩) 1 c]).run P w = .ok (.tuple #[]) (w.setCells b o (Builtin.zeroCells z.cells 1).toList) := by
  have hst := run_storeCells_cells (P := P) b o (Builtin.zeroCells z.cells 1).toList 0 w (by simpa using hc) (by simpa using hf) h1
  simp only [Nat.add_zero] at hst
  simp [Builtin.clear_, run_underlying ht, hv, hst]

theorem wp_append_eq {o : Oper} {a : Act} {K : Act → World → Prop} {Q : Exit → Act → World → Prop} (s x : Operand) (t t' : TypeId)
    (ho : o.op = .call { callee := .builtin .append, args := #[s, x], argTypes := #[t, t'] }) (v u : Value) (hd : a.eval s = v) (hs : a.eval x = u) {v' : Value} {w' : World}
    (hr : (Builtin.append_ #[t, t'] o.type #[v, u]).run P w = .ok v' w') (h : K (a.put o.dst v') w') : o.wp P a w K Q := by
  unfold Oper.wp execOp
  simp only [ho, resolve, invoke, builtin, Sem.run_bind, Sem.run_pure, Result.andThen_ok, List.map_toArray, List.map_cons, List.map_nil, hd, hs, hr]
  exact h
theorem wp_copy_eq {o : Oper} {a : Act} {K : Act → World → Prop} {Q : Exit → Act → World → Prop} (s x : Operand) (t t' : TypeId)
    (ho : o.op = .call { callee := .builtin .copy, args := #[s, x], argTypes := #[t, t'] }) (v u : Value) (hd : a.eval s = v) (hs : a.eval x = u) {v' : Value} {w' : World}
    (hr : (Builtin.copy_ #[t, t'] o.type #[v, u]).run P w = .ok v' w') (h : K (a.put o.dst v') w') : o.wp P a w K Q := by
  unfold Oper.wp execOp
  simp only [ho, resolve, invoke, builtin, Sem.run_bind, Sem.run_pure, Result.andThen_ok, List.map_toArray, List.map_cons, List.map_nil, hd, hs, hr]
  exact h
theorem wp_clear_eq {o : Oper} {a : Act} {K : Act → World → Prop} {Q : Exit → Act → World → Prop} (s : Operand) (t : TypeId)
    (ho : o.op = .call { callee := .builtin .clear, args := #[s], argTypes := #[t] }) (v : Value) (hd : a.eval s = v) {v' : Value} {w' : World}
    (hr : (Builtin.clear_ #[t] o.type #[v]).run P w = .ok v' w') (h : K (a.put o.dst v') w') : o.wp P a w K Q := by
  unfold Oper.wp execOp
  simp only [ho, resolve, invoke, builtin, Sem.run_bind, Sem.run_pure, Result.andThen_ok, List.map_toArray, List.map_cons, List.map_nil, hd, hr]
  exact h
theorem wpList_of_wp {ops : Array Oper} {rest : List Oper} {o : Oper} {a : Act} {Q : Exit → Act → World → Prop} (hgd : o.guard = none) {v' : Value} {w' : World}
    (hw : ∀ (K : Act → World → Prop) (Q' : Exit → Act → World → Prop), K (a.put o.dst v') w' → o.wp P a w K Q') (h : wpList P ops Q rest (a.put o.dst v') w') : wpList P ops Q (o :: rest) a w :=
  wpList_plain hgd fun _ hK => hw _ _ (hK _ _ h)
end
end

section
/-- a world in which all below block B is as it was in w -/
structure After (B : Nat) (w : World) where
  world : World
  below : Below B w world

instance (B : Nat) (w : World) : Nonempty (After B w) := ⟨⟨w, Below.refl _ _⟩⟩

theorem wp_region_after {P : Program} {id : Nat} {Q : Exit → Act → World → Prop} {a : Act} {w : World} {l : List Oper} (B : Nat) (hm : P.follows .mixedOrders = true) (hB : Region.lexB .any l.toArray = true)
    (h : wpQuiet P l.toArray (fun w' => ∃ x : After B w, w' = x.world) (fun a' => ∀ w', (∃ x : After B w, w' = x.world) → Q .normal a' w') l a) : (Code.region id l.toArray true).wp P Q a w :=
  wp_region_quiet (C := fun w' => ∃ x : After B w, w' = x.world) hm hB ⟨⟨w.drew, (Below.refl B w).drew⟩, rfl⟩ (by simpa using h)

/-- a contract met inside such a region -/
theorem After.call {P : Program} {f : FuncId} {args : Array Value} {B : Nat} {w : World} (x : After B w) {v : Value} (hB : B ≤ w.heap.size)
    (h : Calls P f args x.world fun e w' => e = .returned v ∧ Below x.world.heap.size x.world w') : Calls P f args x.world fun e w'' => e = .returned v ∧ ∃ y : After B w, w'' = y.world :=
  h.mono fun _ w' ⟨he, hb⟩ => ⟨he, ⟨w', x.below.trans (hb.mono (Nat.le_trans hB x.below.size))⟩, rfl⟩
end

section
theorem After.of_below {B : Nat} {b y : World} (h : Below B b y) : ∃ x : After B b, y = x.world := ⟨⟨y, h⟩, rfl⟩
def After.then {B : Nat} {b : World} (x : After B b) {y : World} (h : Below B x.world y) : After B b := ⟨y, x.below.trans h⟩

theorem run_v_ne {P : Program} (s : Sem Value) (w w' : World) (f : FuncId) (args : Array Value) : ((do pure (Next.value (← s))) : Sem Next).run P w ≠ .ok (.enter f args) w' := by
  rw [Sem.run_bind]
  cases s.run P w with
  | ok v w2 => simp
  | halt x w2 => simp

/-- operations that enter no function -/
def plainB : Op → Bool
  | .nilCheck _ | .move _ | .assign _ | .pick _ _ _ | .load _ _ | .fieldAddr _ _ _ | .field _ _ _ | .binOp _ _ _ _ _ | .unOp _ _ _ | .convert _ _ _ | .indexAddr _ _ _ | .index _ _ _ | .extract _ _ | .build _ _ | .slice _ _ _ _ _ => true
  | .call c => match c.callee with
    | .builtin .len | .builtin .cap | .builtin .max | .builtin .min => true
    | _ => false
  | _ => false

theorem plain_ne {P : Program} {o : Oper} (h : plainB o.op = true) (ρ : Operand → Value) (w w' : World) (f : FuncId) (args : Array Value) : (execOp ρ o).run P w ≠ .ok (.enter f args) w' := by
  obtain ⟨dst, op, type, pos, after, guard⟩ := o
  cases op <;> simp only [plainB, Bool.false_eq_true] at h <;> simp only [execOp] <;> first
    | exact run_v_ne _ _ _ _ _
    | (simp; done)
    | skip
  case nilCheck x =>
    have hp : (runtimePanic RuntimeError.nilDeref : Sem Next).run P w ≠ .ok (.enter f args) w' := by simp [runtimePanic, goPanic]
    have hb : ∀ {β : Type} (s : Sem β) (k : β → Sem Next) (_ : ∀ v w2, (k v).run P w2 ≠ .ok (.enter f args) w'), (s >>= k).run P w ≠ .ok (.enter f args) w' := by
      intro β s k hk
      rw [Sem.run_bind]
      cases s.run P w with
      | ok v w2 => exact hk v w2
      | halt z w2 => simp
    have hb2 : ∀ {β : Type} (s : Sem β) (k : β → Sem Next) (w : World) (_ : ∀ v w2, (k v).run P w2 ≠ .ok (.enter f args) w'), (s >>= k).run P w ≠ .ok (.enter f args) w' := by
      intro β s k w hk
      rw [Sem.run_bind]
      cases s.run P w with
      | ok v w2 => exact hk v w2
      | halt z w2 => simp
    split
    · exact hp
    · exact hp
    · exact hp
    · split
      · exact hp
      · refine hb2 _ _ _ fun v w2 => ?_
        refine hb2 _ _ _ fun v w2 => ?_
        split
        · refine hb2 _ _ _ fun v w2 => ?_
          simp
        · simp
      · simp
    · simp
  case pick c a b =>
    rw [Sem.run_bind]
    cases (asBool (ρ c)).run P w with
    | ok v w2 => simp
    | halt x w2 => simp
  case call c =>
    obtain ⟨callee, ars, ats⟩ := c
    cases callee with
    | value x => simp at h
    | invoke r m => simp at h
    | builtin b =>
      cases b <;> simp only [Bool.false_eq_true] at h <;> (simp only [resolve, Sem.run_bind, Sem.run_pure, invoke, builtin]; exact run_v_ne _ _ _ _ _)

section
variable {P : Program} {ops : Array Oper} {B : Nat}

def clsE (B : Nat) (b : World) : World → Prop := fun w' => ∃ x : After B b, w' = x.world
def NoWay (e : Exit) (a : Act) (w : World) : Prop := False

/-- an operation comes up: it is passed over; or it yields one value in every world of the class; or it is run in the world that stands -/
def opE (P : Program) (ops : Array Oper) (B : Nat) (i : Nat) (K : Act → World → Prop) (a : Act) (b : World) : Prop :=
  ∀ o, ops[i]? = some o →
    (Region.wanted o (yielded ops a.tmps) = true → (plainB o.op = true ∧ o.quiet P a (clsE B b) (fun a' => K a' b)) ∨ o.wp P a b (fun a' w' => Below B b w' ∧ K a' w') NoWay) ∧
    (Region.wanted o (yielded ops a.tmps) = false → K (a.put o.dst undef) b)

theorem opE_mono {i : Nat} {K K' : Act → World → Prop} {a : Act} {b : World} (h : ∀ a b', K a b' → K' a b') (hh : opE P ops B i K a b) : opE P ops B i K' a b := by
  intro o ho
  obtain ⟨h1, h2⟩ := hh o ho
  refine ⟨fun hw => ?_, fun hw => h _ _ (h2 hw)⟩
  rcases h1 hw with ⟨hp, h3⟩ | h3
  · exact .inl ⟨hp, Oper.quiet_mono (fun a' => h a' b) h3⟩
  · exact .inr (Oper.wp_mono (fun a' w' ⟨p, q⟩ => ⟨p, h _ _ q⟩) h3)

/-- whatever order is picked -/
def anyE (P : Program) (ops : Array Oper) (B : Nat) (Q : Act → World → Prop) : Nat → Array Bool → Act → World → Prop
  | 0, listed, a, b => Region.ready .any ops listed = [] ∧ Q a b
  | f + 1, listed, a, b => (Region.ready .any ops listed = [] → Q a b) ∧
    ∀ i ∈ Region.ready .any ops listed, opE P ops B i (anyE P ops B Q f (listed.setIfInBounds i true)) a b

theorem wp_noWay {o : Oper} {a : Act} {w : World} {K : Act → World → Prop} {Q : Exit → Act → World → Prop} (h : o.wp P a w K NoWay) : o.wp P a w K Q := by
  unfold Oper.wp at *
  generalize (execOp a.eval o).run P w = r at *
  cases r with
  | ok n w' =>
    cases n <;> simp only [Oper.upon] at h ⊢ <;> first
      | exact h
      | (refine Calls.mono h fun e w'' he => ?_
         cases e with
         | returned v => exact he
         | panicked c => exact he.elim
         | outgrown => obtain ⟨_, _, hf⟩ := he; exact hf.elim)
  | halt x w' =>
    cases x <;> simp only [Oper.upon] at h ⊢ <;> exact h.elim

theorem wp_of_plain {o : Oper} {a : Act} {b : World} {K : Act → Prop} {K' : Act → World → Prop} {Q : Exit → Act → World → Prop} (hp : plainB o.op = true) (h : o.quiet P a (clsE B b) K) (hk : ∀ a, K a → K' a b) : o.wp P a b K' Q := by
  obtain ⟨v, h1, h2⟩ := h
  have h9 := h1 b ⟨⟨b, Below.refl _ _⟩, rfl⟩
  have hne := plain_ne (P := P) hp a.eval b
  unfold Oper.quietAt at h9
  unfold Oper.wp
  generalize (execOp a.eval o).run P b = r at *
  cases r with
  | ok n w3 =>
    cases n <;> simp only [Oper.quietUpon] at h9 <;> simp only [Oper.upon]
    case enter f args => exact absurd rfl (hne w3 f args)
    case value u => obtain ⟨rfl, rfl⟩ := h9; exact hk _ h2
    case skip => obtain ⟨rfl, rfl⟩ := h9; exact hk _ h2
  | halt z w3 => exact h9.elim

theorem anyE_sound {Q : Act → World → Prop} {Q' : Exit → Act → World → Prop} (hQ : ∀ a w, Q a w → Q' .normal a w) : ∀ (f : Nat) (listed : Array Bool) (a : Act) (b : World),
    anyE P ops B Q f listed a b → wpAny P .any ops Q' f listed a b
  | 0, listed, a, b, h => ⟨h.1, hQ _ _ h.2⟩
  | f + 1, listed, a, b, h => by
    refine ⟨fun h0 => hQ _ _ (h.1 h0), fun i hi => ?_⟩
    have h2 := h.2 i hi
    unfold wpOp
    split
    · rename_i hn
      obtain ⟨_, o, ho, _⟩ := mem_ready.1 hi
      rw [ho] at hn; cases hn
    · rename_i o ho
      obtain ⟨h3, h4⟩ := h2 o ho
      split
      · rename_i hw
        rcases h3 hw with ⟨hp, h5⟩ | h5
        · exact .inl (wp_of_plain hp h5 fun a' hk => anyE_sound hQ f _ a' b hk)
        · exact .inl (wp_noWay (Oper.wp_mono (fun a' w' ⟨_, hk⟩ => anyE_sound hQ f _ a' w' hk) h5))
      · rename_i hw
        exact anyE_sound hQ f _ _ b (h4 (by simpa using hw))

theorem yields_later {o : Oper} {v : Value} {a : Act} {b w' : World} (hb : Below B b w') (hp : plainB o.op = true) (hy : YieldsIn P ops (clsE B b) o v a) : YieldsIn P ops (clsE B w') o v a := by
  rcases hy with ⟨p, q⟩ | hy'
  · refine .inl ⟨p, ?_⟩
    rintro w2 ⟨y, rfl⟩
    have h9 := q y.world ⟨⟨y.world, hb.trans y.below⟩, rfl⟩
    have hne := plain_ne (P := P) hp a.eval y.world
    unfold Oper.quietAt at h9 ⊢
    generalize (execOp a.eval o).run P y.world = r at *
    cases r with
    | ok n w3 =>
      cases n <;> simp only [Oper.quietUpon] at h9 ⊢
      case enter f args => exact absurd rfl (hne w3 f args)
      all_goals exact h9
    | halt z w3 => exact h9.elim
  · exact .inr hy'

/-- an operation apart from oi: whether oi's value lies in its slot already makes no difference -/
theorem opE_put {j : Nat} {oi : Oper} {v : Value} (hap : ∀ oj, ops[j]? = some oj → oi.apart ops oj = true) (hsi : ∀ cs b, oi.op ≠ .select cs b) (hsj : ∀ oj cs b, ops[j]? = some oj → oj.op ≠ .select cs b)
    (hp : plainB oi.op = true) {K : Act → World → Prop} {a : Act} {b : World} (hy : YieldsIn P ops (clsE B b) oi v a) (h : opE P ops B j K (a.put oi.dst v) b) :
    opE P ops B j (fun a' b' => YieldsIn P ops (clsE B b') oi v a' ∧ K (a'.put oi.dst v) b') a b := by
  intro oj hj
  obtain ⟨h1, h2, h3⟩ := Oper.apart_spec (hap oj hj)
  have keep : ∀ (a : Act) (b : World), YieldsIn P ops (clsE B b) oi v a → ∀ u, YieldsIn P ops (clsE B b) oi v (a.put oj.dst u) := fun a b hy u =>
    hy.of_same (execOp_put oi hsi a oj.dst u h3) (wanted_put oi a oj.dst u h3)
  obtain ⟨g1, g2⟩ := h oj hj
  rw [wanted_put oj a oi.dst v h1] at g1 g2
  refine ⟨fun hw => ?_, fun hw => ⟨keep a b hy _, by rw [← Act.put_comm a v undef h2]; exact g2 hw⟩⟩
  rcases g1 hw with ⟨hpj, u, hu, hn⟩ | g3
  · refine .inl ⟨hpj, u, fun w hw' => ?_, keep a b hy u, by rw [← Act.put_comm a v u h2]; exact hn⟩
    have := hu w hw'
    unfold Oper.quietAt at *
    rwa [execOp_put oj (fun cs b => hsj oj cs b hj) a oi.dst v h1] at this
  · refine .inr ?_
    have g4 := g3
    unfold Oper.wp at *
    rw [execOp_put oj (fun cs b => hsj oj cs b hj) a oi.dst v h1] at g4
    have hkeep : ∀ u w', Below B b w' ∧ K ((a.put oi.dst v).put oj.dst u) w' → Below B b w' ∧ YieldsIn P ops (clsE B w') oi v (a.put oj.dst u) ∧ K ((a.put oj.dst u).put oi.dst v) w' := fun u w' ⟨p, q⟩ =>
      ⟨p, yields_later p hp (keep a b hy u), by rw [← Act.put_comm a v u h2]; exact q⟩
    clear g3
    generalize (execOp a.eval oj).run P b = r at *
    cases r with
    | ok n w' =>
      cases n <;> simp only [Oper.upon] at g4 ⊢
      case value u => exact hkeep u w' g4
      case skip => exact hkeep undef w' g4
      case defer d =>
        refine ⟨g4.1, yields_later g4.1 hp ((hy.of_same (a' := { a with defers := d :: a.defers }) rfl rfl).of_same (execOp_put oi hsi _ oj.dst undef h3) (wanted_put oi _ oj.dst undef h3)), ?_⟩
        rw [← Act.put_comm _ v undef h2, ← Act.put_defers]
        exact g4.2
      case enter f args =>
        refine Calls.mono g4 fun e w'' he => ?_
        cases e with
        | returned u => exact hkeep u w'' he
        | panicked c => exact he
        | outgrown => exact he
      case row row args => exact Rows.mono g4 fun u w'' he => hkeep u w'' he
    | halt z w' =>
      cases z <;> simp only [Oper.upon] at g4 ⊢ <;> exact g4

theorem opE_of_yields {i : Nat} {o : Oper} {v : Value} {a : Act} {b : World} (hi : ops[i]? = some o) (hp : plainB o.op = true) (hy : YieldsIn P ops (clsE B b) o v a) {K : Act → World → Prop} (h : K (a.put o.dst v) b) : opE P ops B i K a b := by
  intro o' ho'
  obtain rfl : o = o' := Option.some.inj (hi.symm.trans ho')
  rcases hy with ⟨hw, hv⟩ | ⟨hw, rfl⟩
  · exact ⟨fun _ => .inl ⟨hp, v, hv, h⟩, fun hw' => (by rw [hw] at hw'; cases hw')⟩
  · exact ⟨fun hw' => (by rw [hw] at hw'; cases hw'), fun _ => h⟩

/-- what reads alone and may come up may be taken first -/
theorem anyE_first {Q : Act → World → Prop} {i : Nat} {oi : Oper} {v : Value} (hi : ops[i]? = some oi) (hp : plainB oi.op = true) (hsel : ∀ (j : Nat) (o : Oper) cs b, ops[j]? = some o → o.op ≠ .select cs b) :
    ∀ (f : Nat) (listed : Array Bool) (a : Act) (b : World),
      (∀ j oj, ops[j]? = some oj → j ≠ i → listed.getD j true = false → (∀ e ∈ oj.after, Region.binds .any e = true → e.on ≠ i) → oi.apart ops oj = true) →
      i ∈ Region.ready .any ops listed → YieldsIn P ops (clsE B b) oi v a →
      anyE P ops B Q f (listed.setIfInBounds i true) (a.put oi.dst v) b → anyE P ops B Q (f + 1) listed a b
  | 0, listed, a, b, hfree, hr, hy, H => by
    refine ⟨fun h => (by rw [h] at hr; cases hr), fun j hj => ?_⟩
    by_cases hji : j = i
    · subst hji; exact opE_of_yields hi hp hy H
    · have := ready_mono hj hji
      rw [H.1] at this
      cases this
  | f + 1, listed, a, b, hfree, hr, hy, H => by
    refine ⟨fun h => (by rw [h] at hr; cases hr), fun j hj => ?_⟩
    by_cases hji : j = i
    · subst hji; exact opE_of_yields hi hp hy H
    · have h1 := H.2 j (ready_mono hj hji)
      obtain ⟨hjun, oj, hoj, hall⟩ := mem_ready.1 hj
      have hnot : ∀ e ∈ oj.after, Region.binds .any e = true → e.on ≠ i := fun e he hb heq => by
        have h1 := hall e he hb
        have h0 := (mem_ready.1 hr).1
        rw [heq] at h1
        rcases Nat.lt_or_ge i listed.size with h' | h'
        · simp [h'] at h0 h1; rw [h0] at h1; cases h1
        · simp [Array.getElem?_eq_none h'] at h1
      have h2 := opE_put (v := v) (fun o' ho' => by obtain rfl : oj = o' := Option.some.inj (hoj.symm.trans ho'); exact hfree j oj hoj hji hjun hnot) (fun cs b => hsel i oi cs b hi) (fun o' cs b ho' => hsel j o' cs b ho') hp hy h1
      have hfree' : ∀ k ok, ops[k]? = some ok → k ≠ i → (listed.setIfInBounds j true).getD k true = false →
          (∀ e ∈ ok.after, Region.binds .any e = true → e.on ≠ i) → oi.apart ops ok = true := fun k ok hk hki hun hno => by
        refine hfree k ok hk hki ?_ hno
        by_cases hjk : j = k
        · subst hjk; exact hjun
        · rw [getD_set_ne true hjk] at hun; exact hun
      refine opE_mono (fun a' b' h3 => anyE_first hi hp hsel f (listed.setIfInBounds j true) a' b' hfree' (ready_mono hr (Ne.symm hji)) h3.1 ?_) h2
      rw [Array.setIfInBounds_comm _ _ hji]
      exact h3.2

/-- the walk in the prover's order: 'true': what reads alone; 'false': what makes or writes memory, and comes up alone -/
def eagW (P : Program) (ops : Array Oper) (B : Nat) (Q : Act → World → Prop) : List (Nat × Bool) → Act → World → Prop
  | [], a, b => Q a b
  | (i, p) :: rest, a, b => ∃ o, ops[i]? = some o ∧
    if Region.wanted o (yielded ops a.tmps) then
      (if p then o.quiet P a (clsE B b) (fun a' => eagW P ops B Q rest a' b) else o.wp P a b (fun a' w' => Below B b w' ∧ eagW P ops B Q rest a' w') NoWay)
    else eagW P ops B Q rest (a.put o.dst undef) b

def eagB (ops : Array Oper) : List (Nat × Bool) → Array Bool → Bool
  | [], listed => (Region.ready .any ops listed).isEmpty
  | (i, p) :: rest, listed => (Region.ready .any ops listed).contains i && (if p then Region.free .any ops listed i && ((ops[i]?).map fun o => plainB o.op).getD false else Region.ready .any ops listed == [i]) && eagB ops rest (listed.setIfInBounds i true)

theorem anyE_of_eag {Q : Act → World → Prop} (hs : Region.noSelect ops = true) : ∀ (l : List (Nat × Bool)) (listed : Array Bool) (a : Act) (b : World), eagB ops l listed = true → eagW P ops B Q l a b → anyE P ops B Q l.length listed a b
  | [], listed, a, b, hB, h => ⟨by simpa [eagB] using hB, h⟩
  | (i, p) :: rest, listed, a, b, hB, h => by
    simp only [eagB, Bool.and_eq_true] at hB
    obtain ⟨⟨hr, hf⟩, hB'⟩ := hB
    obtain ⟨o, ho, hw⟩ := h
    have hr' : i ∈ Region.ready .any ops listed := by simpa using hr
    cases p with
    | true =>
      simp only [if_true, Bool.and_eq_true, ho, Option.map_some, Option.getD_some] at hf hw
      obtain ⟨v, hy, hK⟩ := yieldsIn_of_qOp (K := fun a' => eagW P ops B Q rest a' b) ho (by unfold qOp; simp only [ho]; exact hw)
      exact anyE_first ho hf.2 (Region.noSelect_spec hs) rest.length listed a b (Region.free_spec ho hf.1) hr' hy (anyE_of_eag hs rest _ _ b hB' hK)
    | false =>
      simp only [Bool.false_eq_true, if_false, beq_iff_eq] at hf hw
      refine ⟨fun h0 => (by rw [h0] at hr'; cases hr'), fun j hj => ?_⟩
      obtain rfl : j = i := by rw [hf] at hj; simpa using hj
      intro o' ho'
      obtain rfl : o = o' := Option.some.inj (ho.symm.trans ho')
      refine ⟨fun h1 => .inr ?_, fun h1 => ?_⟩
      · rw [if_pos h1] at hw
        exact Oper.wp_mono (fun a' w' ⟨p, q⟩ => ⟨p, anyE_of_eag hs rest _ a' w' hB' q⟩) hw
      · rw [if_neg (by rw [h1]; simp)] at hw
        exact anyE_of_eag hs rest _ _ b hB' hw

theorem wp_region_eager {id : Nat} {Q : Exit → Act → World → Prop} {a : Act} {w : World} (B : Nat) (l : List (Nat × Bool)) (hm : P.follows .mixedOrders = true) (hB : (Region.noSelect ops && eagB ops l (Array.replicate ops.size false) && (l.length == ops.size)) = true)
    (h : eagW P ops B (fun a' w' => Q .normal a' w') l a w.drew) : (Code.region id ops true).wp P Q a w := by
  simp only [Bool.and_eq_true, beq_iff_eq] at hB
  obtain ⟨⟨h1, h2⟩, h3⟩ := hB
  refine wp_region_any hm ?_
  rw [← h3]
  have h4 := anyE_of_eag h1 l _ a w.drew h2 h
  rw [h3] at h4 ⊢
  exact anyE_sound (fun _ _ h => h) _ _ _ w.drew h4
end

section
variable {P : Program} {B : Nat} {l : List Oper} {Q : Act → World → Prop}

theorem eag_read {i : Nat} {rest : List (Nat × Bool)} {a : Act} {b : World} {o : Oper} (ho : l[i]? = some o)
    (h : wpQuiet P l.toArray (fun w' => ∃ x : After B b, w' = x.world) (fun a' => eagW P l.toArray B Q rest a' b) [o] a) : eagW P l.toArray B Q ((i, true) :: rest) a b := by
  refine ⟨o, by simpa using ho, ?_⟩
  rw [if_pos rfl]
  exact h

theorem eag_does {i : Nat} {rest : List (Nat × Bool)} {a : Act} {b : World} {o : Oper} (ho : l[i]? = some o) (hw : Region.wanted o (yielded l.toArray a.tmps) = true)
    (h : ∀ (K : Act → World → Prop), (∀ a' w', Below B b w' → eagW P l.toArray B Q rest a' w' → K a' w') → o.wp P a b K NoWay) : eagW P l.toArray B Q ((i, false) :: rest) a b := by
  refine ⟨o, by simpa using ho, ?_⟩
  rw [if_pos hw, if_neg (by decide)]
  exact h _ fun a' w' p q => ⟨p, q⟩

theorem eag_skip {i : Nat} {p : Bool} {rest : List (Nat × Bool)} {a : Act} {b : World} {o : Oper} (ho : l[i]? = some o) (hw : Region.wanted o (yielded l.toArray a.tmps) = false)
    (h : eagW P l.toArray B Q rest (a.put o.dst undef) b) : eagW P l.toArray B Q ((i, p) :: rest) a b := by
  refine ⟨o, by simpa using ho, ?_⟩
  rw [if_neg (by rw [hw]; decide)]
  exact h

theorem eag_end {a : Act} {b : World} (h : Q a b) : eagW P l.toArray B Q [] a b := h
end
end

section
class PreR (R : World → World → Prop) : Prop where
  refl : ∀ w, R w w
  trans : ∀ {a b c}, R a b → R b c → R a c
structure AfterR (R : World → World → Prop) (b : World) where
  world : World
  rel : R b world
instance {R : World → World → Prop} [PreR R] {b : World} : Nonempty (AfterR R b) := ⟨⟨b, PreR.refl b⟩⟩

/-- all below block B, and block p -/
def KeptB (B p : Nat) (w w' : World) : Prop := Below B w w' ∧ w'.heap[p]? = w.heap[p]?
instance (B p : Nat) : PreR (KeptB B p) := ⟨fun w => ⟨Below.refl _ _, rfl⟩, fun h k => ⟨h.1.trans k.1, k.2.trans h.2⟩⟩

section
variable {P : Program} {ops : Array Oper} {R : World → World → Prop} [PreR R]

def clsR (R : World → World → Prop) (b : World) : World → Prop := fun w' => ∃ x : AfterR R b, w' = x.world
/-- an operation comes up: it is passed over; or it yields one value in every world of the class; or it is run in the world that stands -/
def opR (P : Program) (ops : Array Oper) (R : World → World → Prop) (i : Nat) (K : Act → World → Prop) (a : Act) (b : World) : Prop :=
  ∀ o, ops[i]? = some o →
    (Region.wanted o (yielded ops a.tmps) = true → (plainB o.op = true ∧ o.quiet P a (clsR R b) (fun a' => K a' b)) ∨ o.wp P a b (fun a' w' => R b w' ∧ K a' w') NoWay) ∧
    (Region.wanted o (yielded ops a.tmps) = false → K (a.put o.dst undef) b)

theorem opR_mono {i : Nat} {K K' : Act → World → Prop} {a : Act} {b : World} (h : ∀ a b', K a b' → K' a b') (hh : opR P ops R i K a b) : opR P ops R i K' a b := by
  intro o ho
  obtain ⟨h1, h2⟩ := hh o ho
  refine ⟨fun hw => ?_, fun hw => h _ _ (h2 hw)⟩
  rcases h1 hw with ⟨hp, h3⟩ | h3
  · exact .inl ⟨hp, Oper.quiet_mono (fun a' => h a' b) h3⟩
  · exact .inr (Oper.wp_mono (fun a' w' ⟨p, q⟩ => ⟨p, h _ _ q⟩) h3)

/-- whatever order is picked -/
def anyR (P : Program) (ops : Array Oper) (R : World → World → Prop) (Q : Act → World → Prop) : Nat → Array Bool → Act → World → Prop
  | 0, listed, a, b => Region.ready .any ops listed = [] ∧ Q a b
  | f + 1, listed, a, b => (Region.ready .any ops listed = [] → Q a b) ∧
    ∀ i ∈ Region.ready .any ops listed, opR P ops R i (anyR P ops R Q f (listed.setIfInBounds i true)) a b

theorem wp_of_plainR {o : Oper} {a : Act} {b : World} {K : Act → Prop} {K' : Act → World → Prop} {Q : Exit → Act → World → Prop} (hp : plainB o.op = true) (h : o.quiet P a (clsR R b) K) (hk : ∀ a, K a → K' a b) : o.wp P a b K' Q := by
  obtain ⟨v, h1, h2⟩ := h
  have h9 := h1 b ⟨⟨b, PreR.refl _⟩, rfl⟩
  have hne := plain_ne (P := P) hp a.eval b
  unfold Oper.quietAt at h9
  unfold Oper.wp
  generalize (execOp a.eval o).run P b = r at *
  cases r with
  | ok n w3 =>
    cases n <;> simp only [Oper.quietUpon] at h9 <;> simp only [Oper.upon]
    case enter f args => exact absurd rfl (hne w3 f args)
    case value u => obtain ⟨rfl, rfl⟩ := h9; exact hk _ h2
    case skip => obtain ⟨rfl, rfl⟩ := h9; exact hk _ h2
  | halt z w3 => exact h9.elim

theorem anyR_sound {Q : Act → World → Prop} {Q' : Exit → Act → World → Prop} (hQ : ∀ a w, Q a w → Q' .normal a w) : ∀ (f : Nat) (listed : Array Bool) (a : Act) (b : World),
    anyR P ops R Q f listed a b → wpAny P .any ops Q' f listed a b
  | 0, listed, a, b, h => ⟨h.1, hQ _ _ h.2⟩
  | f + 1, listed, a, b, h => by
    refine ⟨fun h0 => hQ _ _ (h.1 h0), fun i hi => ?_⟩
    have h2 := h.2 i hi
    unfold wpOp
    split
    · rename_i hn
      obtain ⟨_, o, ho, _⟩ := mem_ready.1 hi
      rw [ho] at hn; cases hn
    · rename_i o ho
      obtain ⟨h3, h4⟩ := h2 o ho
      split
      · rename_i hw
        rcases h3 hw with ⟨hp, h5⟩ | h5
        · exact .inl (wp_of_plainR hp h5 fun a' hk => anyR_sound hQ f _ a' b hk)
        · exact .inl (wp_noWay (Oper.wp_mono (fun a' w' ⟨_, hk⟩ => anyR_sound hQ f _ a' w' hk) h5))
      · rename_i hw
        exact anyR_sound hQ f _ _ b (h4 (by simpa using hw))

theorem yieldsR_later {o : Oper} {v : Value} {a : Act} {b w' : World} (hb : R b w') (hp : plainB o.op = true) (hy : YieldsIn P ops (clsR R b) o v a) : YieldsIn P ops (clsR R w') o v a := by
  rcases hy with ⟨p, q⟩ | hy'
  · refine .inl ⟨p, ?_⟩
    rintro w2 ⟨y, rfl⟩
    have h9 := q y.world ⟨⟨y.world, PreR.trans hb y.rel⟩, rfl⟩
    have hne := plain_ne (P := P) hp a.eval y.world
    unfold Oper.quietAt at h9 ⊢
    generalize (execOp a.eval o).run P y.world = r at *
    cases r with
    | ok n w3 =>
      cases n <;> simp only [Oper.quietUpon] at h9 ⊢
      case enter f args => exact absurd rfl (hne w3 f args)
      all_goals exact h9
    | halt z w3 => exact h9.elim
  · exact .inr hy'

/-- an operation apart from oi: whether oi's value lies in its slot already makes no difference -/
theorem opR_put {j : Nat} {oi : Oper} {v : Value} (hap : ∀ oj, ops[j]? = some oj → oi.apart ops oj = true) (hsi : ∀ cs b, oi.op ≠ .select cs b) (hsj : ∀ oj cs b, ops[j]? = some oj → oj.op ≠ .select cs b)
    (hp : plainB oi.op = true) {K : Act → World → Prop} {a : Act} {b : World} (hy : YieldsIn P ops (clsR R b) oi v a) (h : opR P ops R j K (a.put oi.dst v) b) :
    opR P ops R j (fun a' b' => YieldsIn P ops (clsR R b') oi v a' ∧ K (a'.put oi.dst v) b') a b := by
  intro oj hj
  obtain ⟨h1, h2, h3⟩ := Oper.apart_spec (hap oj hj)
  have keep : ∀ (a : Act) (b : World), YieldsIn P ops (clsR R b) oi v a → ∀ u, YieldsIn P ops (clsR R b) oi v (a.put oj.dst u) := fun a b hy u =>
    hy.of_same (execOp_put oi hsi a oj.dst u h3) (wanted_put oi a oj.dst u h3)
  obtain ⟨g1, g2⟩ := h oj hj
  rw [wanted_put oj a oi.dst v h1] at g1 g2
  refine ⟨fun hw => ?_, fun hw => ⟨keep a b hy _, by rw [← Act.put_comm a v undef h2]; exact g2 hw⟩⟩
  rcases g1 hw with ⟨hpj, u, hu, hn⟩ | g3
  · refine .inl ⟨hpj, u, fun w hw' => ?_, keep a b hy u, by rw [← Act.put_comm a v u h2]; exact hn⟩
    have := hu w hw'
    unfold Oper.quietAt at *
    rwa [execOp_put oj (fun cs b => hsj oj cs b hj) a oi.dst v h1] at this
  · refine .inr ?_
    have g4 := g3
    unfold Oper.wp at *
    rw [execOp_put oj (fun cs b => hsj oj cs b hj) a oi.dst v h1] at g4
    have hkeep : ∀ u w', R b w' ∧ K ((a.put oi.dst v).put oj.dst u) w' → R b w' ∧ YieldsIn P ops (clsR R w') oi v (a.put oj.dst u) ∧ K ((a.put oj.dst u).put oi.dst v) w' := fun u w' ⟨p, q⟩ =>
      ⟨p, yieldsR_later p hp (keep a b hy u), by rw [← Act.put_comm a v u h2]; exact q⟩
    clear g3
    generalize (execOp a.eval oj).run P b = r at *
    cases r with
    | ok n w' =>
      cases n <;> simp only [Oper.upon] at g4 ⊢
      case value u => exact hkeep u w' g4
      case skip => exact hkeep undef w' g4
      case defer d =>
        refine ⟨g4.1, yieldsR_later g4.1 hp ((hy.of_same (a' := { a with defers := d :: a.defers }) rfl rfl).of_same (execOp_put oi hsi _ oj.dst undef h3) (wanted_put oi _ oj.dst undef h3)), ?_⟩
        rw [← Act.put_comm _ v undef h2, ← Act.put_defers]
        exact g4.2
      case enter f args =>
        refine Calls.mono g4 fun e w'' he => ?_
        cases e with
        | returned u => exact hkeep u w'' he
        | panicked c => exact he
        | outgrown => exact he
      case row row args => exact Rows.mono g4 fun u w'' he => hkeep u w'' he
    | halt z w' =>
      cases z <;> simp only [Oper.upon] at g4 ⊢ <;> exact g4

theorem opR_of_yields {i : Nat} {o : Oper} {v : Value} {a : Act} {b : World} (hi : ops[i]? = some o) (hp : plainB o.op = true) (hy : YieldsIn P ops (clsR R b) o v a) {K : Act → World → Prop} (h : K (a.put o.dst v) b) : opR P ops R i K a b := by
  intro o' ho'
  obtain rfl : o = o' := Option.some.inj (hi.symm.trans ho')
  rcases hy with ⟨hw, hv⟩ | ⟨hw, rfl⟩
  · exact ⟨fun _ => .inl ⟨hp, v, hv, h⟩, fun hw' => (by rw [hw] at hw'; cases hw')⟩
  · exact ⟨fun hw' => (by rw [hw] at hw'; cases hw'), fun _ => h⟩

/-- what reads alone and may come up may be taken first -/
theorem anyR_first {Q : Act → World → Prop} {i : Nat} {oi : Oper} {v : Value} (hi : ops[i]? = some oi) (hp : plainB oi.op = true) (hsel : ∀ (j : Nat) (o : Oper) cs b, ops[j]? = some o → o.op ≠ .select cs b) :
    ∀ (f : Nat) (listed : Array Bool) (a : Act) (b : World),
      (∀ j oj, ops[j]? = some oj → j ≠ i → listed.getD j true = false → (∀ e ∈ oj.after, Region.binds .any e = true → e.on ≠ i) → oi.apart ops oj = true) →
      i ∈ Region.ready .any ops listed → YieldsIn P ops (clsR R b) oi v a →
      anyR P ops R Q f (listed.setIfInBounds i true) (a.put oi.dst v) b → anyR P ops R Q (f + 1) listed a b
  | 0, listed, a, b, hfree, hr, hy, H => by
    refine ⟨fun h => (by rw [h] at hr; cases hr), fun j hj => ?_⟩
    by_cases hji : j = i
    · subst hji; exact opR_of_yields hi hp hy H
    · have := ready_mono hj hji
      rw [H.1] at this
      cases this
  | f + 1, listed, a, b, hfree, hr, hy, H => by
    refine ⟨fun h => (by rw [h] at hr; cases hr), fun j hj => ?_⟩
    by_cases hji : j = i
    · subst hji; exact opR_of_yields hi hp hy H
    · have h1 := H.2 j (ready_mono hj hji)
      obtain ⟨hjun, oj, hoj, hall⟩ := mem_ready.1 hj
      have hnot : ∀ e ∈ oj.after, Region.binds .any e = true → e.on ≠ i := fun e he hb heq => by
        have h1 := hall e he hb
        have h0 := (mem_ready.1 hr).1
        rw [heq] at h1
        rcases Nat.lt_or_ge i listed.size with h' | h'
        · simp [h'] at h0 h1; rw [h0] at h1; cases h1
        · simp [Array.getElem?_eq_none h'] at h1
      have h2 := opR_put (v := v) (fun o' ho' => by obtain rfl : oj = o' := Option.some.inj (hoj.symm.trans ho'); exact hfree j oj hoj hji hjun hnot) (fun cs b => hsel i oi cs b hi) (fun o' cs b ho' => hsel j o' cs b ho') hp hy h1
      have hfree' : ∀ k ok, ops[k]? = some ok → k ≠ i → (listed.setIfInBounds j true).getD k true = false →
          (∀ e ∈ ok.after, Region.binds .any e = true → e.on ≠ i) → oi.apart ops ok = true := fun k ok hk hki hun hno => by
        refine hfree k ok hk hki ?_ hno
        by_cases hjk : j = k
        · subst hjk; exact hjun
        · rw [getD_set_ne true hjk] at hun; exact hun
      refine opR_mono (fun a' b' h3 => anyR_first hi hp hsel f (listed.setIfInBounds j true) a' b' hfree' (ready_mono hr (Ne.symm hji)) h3.1 ?_) h2
      rw [Array.setIfInBounds_comm _ _ hji]
      exact h3.2

/-- the walk in the prover's order: 'true': what reads alone; 'false': what makes or writes memory, and comes up alone -/
def eagRW (P : Program) (ops : Array Oper) (R : World → World → Prop) (Q : Act → World → Prop) : List (Nat × Bool) → Act → World → Prop
  | [], a, b => Q a b
  | (i, p) :: rest, a, b => ∃ o, ops[i]? = some o ∧
    if Region.wanted o (yielded ops a.tmps) then
      (if p then o.quiet P a (clsR R b) (fun a' => eagRW P ops R Q rest a' b) else o.wp P a b (fun a' w' => R b w' ∧ eagRW P ops R Q rest a' w') NoWay)
    else eagRW P ops R Q rest (a.put o.dst undef) b

theorem anyR_of_eagR {Q : Act → World → Prop} (hs : Region.noSelect ops = true) : ∀ (l : List (Nat × Bool)) (listed : Array Bool) (a : Act) (b : World), eagB ops l listed = true → eagRW P ops R Q l a b → anyR P ops R Q l.length listed a b
  | [], listed, a, b, hB, h => ⟨by simpa [eagB] using hB, h⟩
  | (i, p) :: rest, listed, a, b, hB, h => by
    simp only [eagB, Bool.and_eq_true] at hB
    obtain ⟨⟨hr, hf⟩, hB'⟩ := hB
    obtain ⟨o, ho, hw⟩ := h
    have hr' : i ∈ Region.ready .any ops listed := by simpa using hr
    cases p with
    | true =>
      simp only [if_true, Bool.and_eq_true, ho, Option.map_some, Option.getD_some] at hf hw
      obtain ⟨v, hy, hK⟩ := yieldsIn_of_qOp (K := fun a' => eagRW P ops R Q rest a' b) ho (by unfold qOp; simp only [ho]; exact hw)
      exact anyR_first ho hf.2 (Region.noSelect_spec hs) rest.length listed a b (Region.free_spec ho hf.1) hr' hy (anyR_of_eagR hs rest _ _ b hB' hK)
    | false =>
      simp only [Bool.false_eq_true, if_false, beq_iff_eq] at hf hw
      refine ⟨fun h0 => (by rw [h0] at hr'; cases hr'), fun j hj => ?_⟩
      obtain rfl : j = i := by rw [hf] at hj; simpa using hj
      intro o' ho'
      obtain rfl : o = o' := Option.some.inj (ho.symm.trans ho')
      refine ⟨fun h1 => .inr ?_, fun h1 => ?_⟩
      · rw [if_pos h1] at hw
        exact Oper.wp_mono (fun a' w' ⟨p, q⟩ => ⟨p, anyR_of_eagR hs rest _ a' w' hB' q⟩) hw
      · rw [if_neg (by rw [h1]; simp)] at hw
        exact anyR_of_eagR hs rest _ _ b hB' hw

theorem wp_region_eagerR {id : Nat} {Q : Exit → Act → World → Prop} {a : Act} {w : World} (R : World → World → Prop) [PreR R] (l : List (Nat × Bool)) (hm : P.follows .mixedOrders = true) (hB : (Region.noSelect ops && eagB ops l (Array.replicate ops.size false) && (l.length == ops.size)) = true)
    (h : eagRW P ops R (fun a' w' => Q .normal a' w') l a w.drew) : (Code.region id ops true).wp P Q a w := by
  simp only [Bool.and_eq_true, beq_iff_eq] at hB
  obtain ⟨⟨h1, h2⟩, h3⟩ := hB
  refine wp_region_any hm ?_
  rw [← h3]
  have h4 := anyR_of_eagR h1 l _ a w.drew h2 h
  rw [h3] at h4 ⊢
  exact anyR_sound (fun _ _ h => h) _ _ _ w.drew h4
end

section
variable {P : Program} {R : World → World → Prop} [PreR R] {l : List Oper} {Q : Act → World → Prop}

theorem eagR_read {i : Nat} {rest : List (Nat × Bool)} {a : Act} {b : World} {o : Oper} (ho : l[i]? = some o)
    (h : wpQuiet P l.toArray (fun w' => ∃ x : AfterR R b, w' = x.world) (fun a' => eagRW P l.toArray R Q rest a' b) [o] a) : eagRW P l.toArray R Q ((i, true) :: rest) a b := by
  refine ⟨o, by simpa using ho, ?_⟩
  rw [if_pos rfl]
  exact h

theorem eagR_does {i : Nat} {rest : List (Nat × Bool)} {a : Act} {b : World} {o : Oper} (ho : l[i]? = some o) (hw : Region.wanted o (yielded l.toArray a.tmps) = true)
    (h : ∀ (K : Act → World → Prop), (∀ a' w', R b w' → eagRW P l.toArray R Q rest a' w' → K a' w') → o.wp P a b K NoWay) : eagRW P l.toArray R Q ((i, false) :: rest) a b := by
  refine ⟨o, by simpa using ho, ?_⟩
  rw [if_pos hw, if_neg (by decide)]
  exact h _ fun a' w' p q => ⟨p, q⟩

theorem eagR_skip {i : Nat} {p : Bool} {rest : List (Nat × Bool)} {a : Act} {b : World} {o : Oper} (ho : l[i]? = some o) (hw : Region.wanted o (yielded l.toArray a.tmps) = false)
    (h : eagRW P l.toArray R Q rest (a.put o.dst undef) b) : eagRW P l.toArray R Q ((i, p) :: rest) a b := by
  refine ⟨o, by simpa using ho, ?_⟩
  rw [if_neg (by rw [hw]; decide)]
  exact h

theorem eagR_end {a : Act} {b : World} (h : Q a b) : eagRW P l.toArray R Q [] a b := h
end
end

section
def moveT : Op → Bool
  | .move _ => true
  | _ => false
/-- j comes behind i, by a chain of edges -/
def depT (ops : Array Oper) : Nat → Nat → Nat → Bool
  | 0, _, _ => false
  | f + 1, i, j => ((ops[j]?).map fun o => o.after.any fun e => Region.binds .any e && (e.on == i || depT ops f i e.on)).getD false
def DownT (ops : Array Oper) (listed : Array Bool) : Prop := ∀ k o, ops[k]? = some o → listed.getD k false = true → ∀ e ∈ o.after, Region.binds .any e = true → listed.getD e.on false = true
theorem depT_listed {ops : Array Oper} {listed : Array Bool} (hd : DownT ops listed) {i : Nat} : ∀ (f j : Nat), (∀ o, ops[j]? = some o → ∀ e ∈ o.after, Region.binds .any e = true → listed.getD e.on false = true) → depT ops f i j = true → listed.getD i false = true
  | 0, j, _, h => by cases h
  | f + 1, j, hj, h => by
    unfold depT at h
    cases ho : ops[j]? with
    | none => rw [ho] at h; cases h
    | some o =>
      rw [ho] at h
      simp only [Option.map_some, Option.getD_some, Array.any_eq_true', Bool.and_eq_true, Bool.or_eq_true, beq_iff_eq] at h
      obtain ⟨e, he, hb, h1 | h1⟩ := h
      · rw [← h1]; exact hj o ho e he hb
      · exact depT_listed hd f e.on (fun o' ho' => hd e.on o' ho' (hj o ho e he hb)) h1
theorem DownT.set {ops : Array Oper} {listed : Array Bool} {j : Nat} (hd : DownT ops listed) (hr : j ∈ Region.ready .any ops listed) : DownT ops (listed.setIfInBounds j true) := by
  obtain ⟨_, o, ho, hall⟩ := mem_ready.1 hr
  intro k o' ho' hk e he hb
  by_cases h : j = k
  · subst h
    obtain rfl : o = o' := Option.some.inj (ho.symm.trans ho')
    exact getD_set_true (hall e he hb)
  · rw [getD_set_ne false h] at hk
    exact getD_set_true (hd k o' ho' hk e he hb)
theorem DownT.start (ops : Array Oper) (n : Nat) : DownT ops (Array.replicate n false) := by
  intro k o _ hk
  exfalso
  rw [Array.getD_eq_getD_getElem?, Array.getElem?_replicate] at hk
  split at hk <;> simp at hk
/-- whatever may still be pending when operation j runs is a move -/
def lodT (ops : Array Oper) (j : Nat) : Bool := (List.range ops.size).all fun i => i == j || (((ops[i]?).map fun o => moveT o.op || !plainB o.op || o.after.any fun e => Region.binds .any e && e.on == j).getD false) || depT ops 3 i j
theorem lodT_move {ops : Array Oper} {i j : Nat} {oi oj : Oper} (hi : ops[i]? = some oi) (hj : ops[j]? = some oj) (hij : j ≠ i) (hnot : depT ops 3 i j = false) (hnot2 : ∀ e ∈ oi.after, Region.binds .any e = true → e.on ≠ j)
    (hp : plainB oi.op = true) (h : lodT ops j = true) : ∃ x, oi.op = .move x := by
  unfold lodT at h
  rw [List.all_eq_true] at h
  have hlt : i < ops.size := by
    rcases Nat.lt_or_ge i ops.size with h' | h'
    · exact h'
    · rw [Array.getElem?_eq_none h'] at hi; cases hi
  have h1 := h i (List.mem_range.2 hlt)
  simp only [Bool.or_eq_true, beq_iff_eq, hi, Option.map_some, Option.getD_some, hp, Bool.not_true, Bool.false_eq_true, or_false, hnot] at h1
  rcases h1 with h1 | h1 | h1
  · exact absurd h1.symm hij
  · cases ho : oi.op <;> simp only [ho, moveT, Bool.false_eq_true] at h1
    exact ⟨_, rfl⟩
  · rw [Array.any_eq_true'] at h1
    obtain ⟨e, he, hb⟩ := h1
    simp only [Bool.and_eq_true, beq_iff_eq] at hb
    exact absurd hb.2 (hnot2 e he hb.1)
theorem yieldsT_move {P : Program} {ops : Array Oper} {o : Oper} {x : Operand} (ho : o.op = .move x) {v : Value} {a : Act} {C C' : World → Prop} (w0 : World) (hw0 : C w0) (h : YieldsIn P ops C o v a) : YieldsIn P ops C' o v a := by
  rcases h with ⟨p, q⟩ | h
  · refine .inl ⟨p, fun w _ => ?_⟩
    have h9 := q w0 hw0
    unfold Oper.quietAt at *
    simp [execOp, ho, Oper.quietUpon] at h9 ⊢
    exact h9
  · exact .inr h

section
variable {P : Program} {ops : Array Oper} {R : World → World → Prop} [PreR R]

def clsRT (R : World → World → Prop) (b : World) : World → Prop := fun w' => ∃ x : AfterR R b, w' = x.world
/-- an operation comes up: it is passed over; or it yields one value in every world of the class; or it is run in the world that stands -/
def opRT (P : Program) (ops : Array Oper) (R : World → World → Prop) (i : Nat) (K : Act → World → Prop) (a : Act) (b : World) : Prop :=
  ∀ o, ops[i]? = some o →
    (Region.wanted o (yielded ops a.tmps) = true → (plainB o.op = true ∧ o.quiet P a (clsRT R b) (fun a' => K a' b)) ∨ o.wp P a b (fun a' w' => (lodT ops i = false → R b w') ∧ K a' w') NoWay) ∧
    (Region.wanted o (yielded ops a.tmps) = false → K (a.put o.dst undef) b)

theorem opR_monoT {i : Nat} {K K' : Act → World → Prop} {a : Act} {b : World} (h : ∀ a b', K a b' → K' a b') (hh : opRT P ops R i K a b) : opRT P ops R i K' a b := by
  intro o ho
  obtain ⟨h1, h2⟩ := hh o ho
  refine ⟨fun hw => ?_, fun hw => h _ _ (h2 hw)⟩
  rcases h1 hw with ⟨hp, h3⟩ | h3
  · exact .inl ⟨hp, Oper.quiet_mono (fun a' => h a' b) h3⟩
  · exact .inr (Oper.wp_mono (fun a' w' ⟨p, q⟩ => ⟨p, h _ _ q⟩) h3)

/-- whatever order is picked -/
def anyRT (P : Program) (ops : Array Oper) (R : World → World → Prop) (Q : Act → World → Prop) : Nat → Array Bool → Act → World → Prop
  | 0, listed, a, b => Region.ready .any ops listed = [] ∧ Q a b
  | f + 1, listed, a, b => (Region.ready .any ops listed = [] → Q a b) ∧
    ∀ i ∈ Region.ready .any ops listed, opRT P ops R i (anyRT P ops R Q f (listed.setIfInBounds i true)) a b

theorem wp_of_plainRT {o : Oper} {a : Act} {b : World} {K : Act → Prop} {K' : Act → World → Prop} {Q : Exit → Act → World → Prop} (hp : plainB o.op = true) (h : o.quiet P a (clsRT R b) K) (hk : ∀ a, K a → K' a b) : o.wp P a b K' Q := by
  obtain ⟨v, h1, h2⟩ := h
  have h9 := h1 b ⟨⟨b, PreR.refl _⟩, rfl⟩
  have hne := plain_ne (P := P) hp a.eval b
  unfold Oper.quietAt at h9
  unfold Oper.wp
  generalize (execOp a.eval o).run P b = r at *
  cases r with
  | ok n w3 =>
    cases n <;> simp only [Oper.quietUpon] at h9 <;> simp only [Oper.upon]
    case enter f args => exact absurd rfl (hne w3 f args)
    case value u => obtain ⟨rfl, rfl⟩ := h9; exact hk _ h2
    case skip => obtain ⟨rfl, rfl⟩ := h9; exact hk _ h2
  | halt z w3 => exact h9.elim

theorem anyR_soundT {Q : Act → World → Prop} {Q' : Exit → Act → World → Prop} (hQ : ∀ a w, Q a w → Q' .normal a w) : ∀ (f : Nat) (listed : Array Bool) (a : Act) (b : World),
    anyRT P ops R Q f listed a b → wpAny P .any ops Q' f listed a b
  | 0, listed, a, b, h => ⟨h.1, hQ _ _ h.2⟩
  | f + 1, listed, a, b, h => by
    refine ⟨fun h0 => hQ _ _ (h.1 h0), fun i hi => ?_⟩
    have h2 := h.2 i hi
    unfold wpOp
    split
    · rename_i hn
      obtain ⟨_, o, ho, _⟩ := mem_ready.1 hi
      rw [ho] at hn; cases hn
    · rename_i o ho
      obtain ⟨h3, h4⟩ := h2 o ho
      split
      · rename_i hw
        rcases h3 hw with ⟨hp, h5⟩ | h5
        · exact .inl (wp_of_plainRT hp h5 fun a' hk => anyR_soundT hQ f _ a' b hk)
        · exact .inl (wp_noWay (Oper.wp_mono (fun a' w' ⟨_, hk⟩ => anyR_soundT hQ f _ a' w' hk) h5))
      · rename_i hw
        exact anyR_soundT hQ f _ _ b (h4 (by simpa using hw))

theorem yieldsR_laterT {o : Oper} {v : Value} {a : Act} {b w' : World} (hb : R b w') (hp : plainB o.op = true) (hy : YieldsIn P ops (clsRT R b) o v a) : YieldsIn P ops (clsRT R w') o v a := by
  rcases hy with ⟨p, q⟩ | hy'
  · refine .inl ⟨p, ?_⟩
    rintro w2 ⟨y, rfl⟩
    have h9 := q y.world ⟨⟨y.world, PreR.trans hb y.rel⟩, rfl⟩
    have hne := plain_ne (P := P) hp a.eval y.world
    unfold Oper.quietAt at h9 ⊢
    generalize (execOp a.eval o).run P y.world = r at *
    cases r with
    | ok n w3 =>
      cases n <;> simp only [Oper.quietUpon] at h9 ⊢
      case enter f args => exact absurd rfl (hne w3 f args)
      all_goals exact h9
    | halt z w3 => exact h9.elim
  · exact .inr hy'

/-- an operation apart from oi: whether oi's value lies in its slot already makes no difference -/
theorem opR_putT {j : Nat} {oi : Oper} {v : Value} (hfin : lodT ops j = true → ∃ x, oi.op = .move x) (hap : ∀ oj, ops[j]? = some oj → oi.apart ops oj = true) (hsi : ∀ cs b, oi.op ≠ .select cs b) (hsj : ∀ oj cs b, ops[j]? = some oj → oj.op ≠ .select cs b)
    (hp : plainB oi.op = true) {K : Act → World → Prop} {a : Act} {b : World} (hy : YieldsIn P ops (clsRT R b) oi v a) (h : opRT P ops R j K (a.put oi.dst v) b) :
    opRT P ops R j (fun a' b' => YieldsIn P ops (clsRT R b') oi v a' ∧ K (a'.put oi.dst v) b') a b := by
  intro oj hj
  obtain ⟨h1, h2, h3⟩ := Oper.apart_spec (hap oj hj)
  have yl : ∀ {w' : World} {a : Act}, (lodT ops j = false → R b w') → YieldsIn P ops (clsRT R b) oi v a → YieldsIn P ops (clsRT R w') oi v a := fun p hy => by
    cases hl : lodT ops j with
    | true =>
      obtain ⟨x, hx⟩ := hfin hl
      exact yieldsT_move hx b ⟨⟨b, PreR.refl _⟩, rfl⟩ hy
    | false => exact yieldsR_laterT (p hl) hp hy
  have keep : ∀ (a : Act) (b : World), YieldsIn P ops (clsRT R b) oi v a → ∀ u, YieldsIn P ops (clsRT R b) oi v (a.put oj.dst u) := fun a b hy u =>
    hy.of_same (execOp_put oi hsi a oj.dst u h3) (wanted_put oi a oj.dst u h3)
  obtain ⟨g1, g2⟩ := h oj hj
  rw [wanted_put oj a oi.dst v h1] at g1 g2
  refine ⟨fun hw => ?_, fun hw => ⟨keep a b hy _, by rw [← Act.put_comm a v undef h2]; exact g2 hw⟩⟩
  rcases g1 hw with ⟨hpj, u, hu, hn⟩ | g3
  · refine .inl ⟨hpj, u, fun w hw' => ?_, keep a b hy u, by rw [← Act.put_comm a v u h2]; exact hn⟩
    have := hu w hw'
    unfold Oper.quietAt at *
    rwa [execOp_put oj (fun cs b => hsj oj cs b hj) a oi.dst v h1] at this
  · refine .inr ?_
    have g4 := g3
    unfold Oper.wp at *
    rw [execOp_put oj (fun cs b => hsj oj cs b hj) a oi.dst v h1] at g4
    have hkeep : ∀ u w', (lodT ops j = false → R b w') ∧ K ((a.put oi.dst v).put oj.dst u) w' → (lodT ops j = false → R b w') ∧ YieldsIn P ops (clsRT R w') oi v (a.put oj.dst u) ∧ K ((a.put oj.dst u).put oi.dst v) w' := fun u w' ⟨p, q⟩ =>
      ⟨p, yl p (keep a b hy u), by rw [← Act.put_comm a v u h2]; exact q⟩
    clear g3
    generalize (execOp a.eval oj).run P b = r at *
    cases r with
    | ok n w' =>
      cases n <;> simp only [Oper.upon] at g4 ⊢
      case value u => exact hkeep u w' g4
      case skip => exact hkeep undef w' g4
      case defer d =>
        refine ⟨g4.1, yl g4.1 ((hy.of_same (a' := { a with defers := d :: a.defers }) rfl rfl).of_same (execOp_put oi hsi _ oj.dst undef h3) (wanted_put oi _ oj.dst undef h3)), ?_⟩
        rw [← Act.put_comm _ v undef h2, ← Act.put_defers]
        exact g4.2
      case enter f args =>
        refine Calls.mono g4 fun e w'' he => ?_
        cases e with
        | returned u => exact hkeep u w'' he
        | panicked c => exact he
        | outgrown => exact he
      case row row args => exact Rows.mono g4 fun u w'' he => hkeep u w'' he
    | halt z w' =>
      cases z <;> simp only [Oper.upon] at g4 ⊢ <;> exact g4

theorem opR_of_yieldsT {i : Nat} {o : Oper} {v : Value} {a : Act} {b : World} (hi : ops[i]? = some o) (hp : plainB o.op = true) (hy : YieldsIn P ops (clsRT R b) o v a) {K : Act → World → Prop} (h : K (a.put o.dst v) b) : opRT P ops R i K a b := by
  intro o' ho'
  obtain rfl : o = o' := Option.some.inj (hi.symm.trans ho')
  rcases hy with ⟨hw, hv⟩ | ⟨hw, rfl⟩
  · exact ⟨fun _ => .inl ⟨hp, v, hv, h⟩, fun hw' => (by rw [hw] at hw'; cases hw')⟩
  · exact ⟨fun hw' => (by rw [hw] at hw'; cases hw'), fun _ => h⟩

/-- what reads alone and may come up may be taken first -/
theorem anyR_firstT {Q : Act → World → Prop} {i : Nat} {oi : Oper} {v : Value} (hi : ops[i]? = some oi) (hp : plainB oi.op = true) (hsel : ∀ (j : Nat) (o : Oper) cs b, ops[j]? = some o → o.op ≠ .select cs b) :
    ∀ (f : Nat) (listed : Array Bool) (a : Act) (b : World),
      (∀ j oj, ops[j]? = some oj → j ≠ i → listed.getD j true = false → (∀ e ∈ oj.after, Region.binds .any e = true → e.on ≠ i) → oi.apart ops oj = true) →
      DownT ops listed → i ∈ Region.ready .any ops listed → YieldsIn P ops (clsRT R b) oi v a →
      anyRT P ops R Q f (listed.setIfInBounds i true) (a.put oi.dst v) b → anyRT P ops R Q (f + 1) listed a b
  | 0, listed, a, b, hfree, hdc, hr, hy, H => by
    refine ⟨fun h => (by rw [h] at hr; cases hr), fun j hj => ?_⟩
    by_cases hji : j = i
    · subst hji; exact opR_of_yieldsT hi hp hy H
    · have := ready_mono hj hji
      rw [H.1] at this
      cases this
  | f + 1, listed, a, b, hfree, hdc, hr, hy, H => by
    refine ⟨fun h => (by rw [h] at hr; cases hr), fun j hj => ?_⟩
    by_cases hji : j = i
    · subst hji; exact opR_of_yieldsT hi hp hy H
    · have h1 := H.2 j (ready_mono hj hji)
      obtain ⟨hjun, oj, hoj, hall⟩ := mem_ready.1 hj
      have hnot : ∀ e ∈ oj.after, Region.binds .any e = true → e.on ≠ i := fun e he hb heq => by
        have h1 := hall e he hb
        have h0 := (mem_ready.1 hr).1
        rw [heq] at h1
        rcases Nat.lt_or_ge i listed.size with h' | h'
        · simp [h'] at h0 h1; rw [h0] at h1; cases h1
        · simp [Array.getElem?_eq_none h'] at h1
      have hnot2 : ∀ e ∈ oi.after, Region.binds .any e = true → e.on ≠ j := fun e he hb heq => by
        obtain ⟨_, oi', hoi', hall'⟩ := mem_ready.1 hr
        obtain rfl : oi = oi' := Option.some.inj (hi.symm.trans hoi')
        have h1 := hall' e he hb
        rw [heq] at h1
        rcases Nat.lt_or_ge j listed.size with h' | h'
        · simp [h'] at hjun h1; rw [hjun] at h1; cases h1
        · simp [Array.getElem?_eq_none h'] at h1
      have hdep : depT ops 3 i j = false := by
        rw [← Bool.not_eq_true]
        intro h9
        have h8 := depT_listed hdc 3 j (fun o ho => by obtain rfl : oj = o := Option.some.inj (hoj.symm.trans ho); exact hall) h9
        have h0 := (mem_ready.1 hr).1
        rcases Nat.lt_or_ge i listed.size with h' | h'
        · simp [h'] at h0 h8; rw [h0] at h8; cases h8
        · simp [Array.getElem?_eq_none h'] at h8
      have h2 := opR_putT (v := v) (lodT_move hi hoj hji hdep hnot2 hp) (fun o' ho' => by obtain rfl : oj = o' := Option.some.inj (hoj.symm.trans ho'); exact hfree j oj hoj hji hjun hnot) (fun cs b => hsel i oi cs b hi) (fun o' cs b ho' => hsel j o' cs b ho') hp hy h1
      have hfree' : ∀ k ok, ops[k]? = some ok → k ≠ i → (listed.setIfInBounds j true).getD k true = false →
          (∀ e ∈ ok.after, Region.binds .any e = true → e.on ≠ i) → oi.apart ops ok = true := fun k ok hk hki hun hno => by
        refine hfree k ok hk hki ?_ hno
        by_cases hjk : j = k
        · subst hjk; exact hjun
        · rw [getD_set_ne true hjk] at hun; exact hun
      refine opR_monoT (fun a' b' h3 => anyR_firstT hi hp hsel f (listed.setIfInBounds j true) a' b' hfree' (hdc.set hj) (ready_mono hr (Ne.symm hji)) h3.1 ?_) h2
      rw [Array.setIfInBounds_comm _ _ hji]
      exact h3.2

/-- the walk in the prover's order: 'true': what reads alone; 'false': what makes or writes memory, and comes up alone -/
def eagRWT (P : Program) (ops : Array Oper) (R : World → World → Prop) (Q : Act → World → Prop) : List (Nat × Bool) → Act → World → Prop
  | [], a, b => Q a b
  | (i, p) :: rest, a, b => ∃ o, ops[i]? = some o ∧
    if Region.wanted o (yielded ops a.tmps) then
      (if p then o.quiet P a (clsRT R b) (fun a' => eagRWT P ops R Q rest a' b) else o.wp P a b (fun a' w' => (lodT ops i = false → R b w') ∧ eagRWT P ops R Q rest a' w') NoWay)
    else eagRWT P ops R Q rest (a.put o.dst undef) b

theorem anyR_of_eagRT {Q : Act → World → Prop} (hs : Region.noSelect ops = true) : ∀ (l : List (Nat × Bool)) (listed : Array Bool) (a : Act) (b : World), DownT ops listed → eagB ops l listed = true → eagRWT P ops R Q l a b → anyRT P ops R Q l.length listed a b
  | [], listed, a, b, hdc, hB, h => ⟨by simpa [eagB] using hB, h⟩
  | (i, p) :: rest, listed, a, b, hdc, hB, h => by
    simp only [eagB, Bool.and_eq_true] at hB
    obtain ⟨⟨hr, hf⟩, hB'⟩ := hB
    obtain ⟨o, ho, hw⟩ := h
    have hr' : i ∈ Region.ready .any ops listed := by simpa using hr
    cases p with
    | true =>
      simp only [if_true, Bool.and_eq_true, ho, Option.map_some, Option.getD_some] at hf hw
      obtain ⟨v, hy, hK⟩ := yieldsIn_of_qOp (K := fun a' => eagRWT P ops R Q rest a' b) ho (by unfold qOp; simp only [ho]; exact hw)
      exact anyR_firstT ho hf.2 (Region.noSelect_spec hs) rest.length listed a b (Region.free_spec ho hf.1) hdc hr' hy (anyR_of_eagRT hs rest _ _ b (hdc.set hr') hB' hK)
    | false =>
      simp only [Bool.false_eq_true, if_false, beq_iff_eq] at hf hw
      refine ⟨fun h0 => (by rw [h0] at hr'; cases hr'), fun j hj => ?_⟩
      obtain rfl : j = i := by rw [hf] at hj; simpa using hj
      intro o' ho'
      obtain rfl : o = o' := Option.some.inj (ho.symm.trans ho')
      refine ⟨fun h1 => .inr ?_, fun h1 => ?_⟩
      · rw [if_pos h1] at hw
        exact Oper.wp_mono (fun a' w' ⟨p, q⟩ => ⟨p, anyR_of_eagRT hs rest _ a' w' (hdc.set hr') hB' q⟩) hw
      · rw [if_neg (by rw [h1]; simp)] at hw
        exact anyR_of_eagRT hs rest _ _ b (hdc.set hr') hB' hw

theorem wp_region_eagerRT {id : Nat} {Q : Exit → Act → World → Prop} {a : Act} {w : World} (R : World → World → Prop) [PreR R] (l : List (Nat × Bool)) (hm : P.follows .mixedOrders = true) (hB : (Region.noSelect ops && eagB ops l (Array.replicate ops.size false) && (l.length == ops.size)) = true)
    (h : eagRWT P ops R (fun a' w' => Q .normal a' w') l a w.drew) : (Code.region id ops true).wp P Q a w := by
  simp only [Bool.and_eq_true, beq_iff_eq] at hB
  obtain ⟨⟨h1, h2⟩, h3⟩ := hB
  refine wp_region_any hm ?_
  rw [← h3]
  have h4 := anyR_of_eagRT h1 l _ a w.drew (DownT.start _ _) h2 h
  rw [h3] at h4 ⊢
  exact anyR_soundT (fun _ _ h => h) _ _ _ w.drew h4
end

section
variable {P : Program} {R : World → World → Prop} [PreR R] {l : List Oper} {Q : Act → World → Prop}

theorem eagR_readT {i : Nat} {rest : List (Nat × Bool)} {a : Act} {b : World} {o : Oper} (ho : l[i]? = some o)
    (h : wpQuiet P l.toArray (fun w' => ∃ x : AfterR R b, w' = x.world) (fun a' => eagRWT P l.toArray R Q rest a' b) [o] a) : eagRWT P l.toArray R Q ((i, true) :: rest) a b := by
  refine ⟨o, by simpa using ho, ?_⟩
  rw [if_pos rfl]
  exact h

theorem eagR_doesT {i : Nat} {rest : List (Nat × Bool)} {a : Act} {b : World} {o : Oper} (ho : l[i]? = some o) (hw : Region.wanted o (yielded l.toArray a.tmps) = true)
    (h : ∀ (K : Act → World → Prop), (∀ a' w', (lodT l.toArray i = false → R b w') → eagRWT P l.toArray R Q rest a' w' → K a' w') → o.wp P a b K NoWay) : eagRWT P l.toArray R Q ((i, false) :: rest) a b := by
  refine ⟨o, by simpa using ho, ?_⟩
  rw [if_pos hw, if_neg (by decide)]
  exact h _ fun a' w' p q => ⟨p, q⟩

/-- an effect behind which no read can still be pending -/
theorem eagR_freeT {i : Nat} {rest : List (Nat × Bool)} {a : Act} {b : World} {o : Oper} (ho : l[i]? = some o) (hw : Region.wanted o (yielded l.toArray a.tmps) = true) (hl : lodT l.toArray i = true)
    (h : ∀ (K : Act → World → Prop), (∀ a' w', eagRWT P l.toArray R Q rest a' w' → K a' w') → o.wp P a b K NoWay) : eagRWT P l.toArray R Q ((i, false) :: rest) a b := by
  refine eagR_doesT ho hw fun K hK => h K fun a' w' hq => hK a' w' (fun h9 => by rw [hl] at h9; cases h9) hq

theorem eagR_skipT {i : Nat} {p : Bool} {rest : List (Nat × Bool)} {a : Act} {b : World} {o : Oper} (ho : l[i]? = some o) (hw : Region.wanted o (yielded l.toArray a.tmps) = false)
    (h : eagRWT P l.toArray R Q rest (a.put o.dst undef) b) : eagRWT P l.toArray R Q ((i, p) :: rest) a b := by
  refine ⟨o, by simpa using ho, ?_⟩
  rw [if_neg (by rw [hw]; decide)]
  exact h

theorem eagR_endT {a : Act} {b : World} (h : Q a b) : eagRWT P l.toArray R Q [] a b := h
end
end
end Go.Proofs.YtdnpoomagjcpfaaGreat
