/- What a law's walk is handed of its arguments: bounds of integers; rows of cells of a slice that came in. -/
import Derived.ProofKit
import Derived.OpenShut
import Derived.WalkKit
import Derived.Deep.Slices
import Derived.OneCell
import Derived.Lib.SmallJoins
namespace Go.Proofs.Ytlaogkbdjkofaaa
open Go.Joins Go.ChangeShapes Go.WideShapes Go.ChangeAt Go.RowKit Go.Deep
set_option linter.unusedVariables false

theorem wf_bounds_i64 {n : Int} (h : (Lit.int .i64 n).wf = true) : -9223372036854775808 ≤ n ∧ n ≤ 9223372036854775807 := by
  simp [Lit.wf, IntKind.min, IntKind.max, IntKind.signed, IntKind.bits] at h
  omega

/-- a slice that came in: its elements vs, each of sz cells -/
structure Came (w : World) (a : Option Addr) (len cap sz : Nat) (vs : List (List Value)) : Prop where
  count : vs.length = len
  le : len ≤ cap
  max : cap ≤ 9223372036854775807
  nil : a = none → len = 0 ∧ cap = 0
  size : ∀ v ∈ vs, v.length = sz
  cells : 0 < len → 0 < sz → ∃ b off, a = some ⟨b, off, none⟩ ∧ b < w.heap.size ∧ ∀ i v, vs[i]? = some v → ∀ j, j < sz → w.cell? ⟨b, off + (i * sz + j), none⟩ = v[j]?

theorem Came.below {w w' : World} {a : Option Addr} {len cap sz : Nat} {vs : List (List Value)} (h : Came w a len cap sz vs) (hb : Below w.heap.size w w') : Came w' a len cap sz vs := by
  refine ⟨h.count, h.le, h.max, h.nil, h.size, fun h0 h1 => ?_⟩
  obtain ⟨b, off, ha, hlt, hc⟩ := h.cells h0 h1
  exact ⟨b, off, ha, Nat.lt_of_lt_of_le hlt hb.size, fun i v hv j hj => (hb.cell (p := ⟨b, off + (i * sz + j), none⟩) hlt).trans (hc i v hv j hj)⟩

theorem exists_list {α : Type} (n : Nat) (P : Nat → α → Prop) (h : ∀ i, i < n → ∃ x, P i x) : ∃ l : List α, l.length = n ∧ ∀ i x, l[i]? = some x → P i x := by
  induction n with
  | zero => exact ⟨[], rfl, fun i x hx => by simp at hx⟩
  | succ n ih =>
    obtain ⟨l, hl, hp⟩ := ih fun i hi => h i (by omega)
    obtain ⟨x, hx⟩ := h n (by omega)
    refine ⟨l ++ [x], by simp [hl], fun i y hy => ?_⟩
    by_cases hi : i < n
    · exact hp i y (by rwa [List.getElem?_append_left (by omega)] at hy)
    · by_cases he : i = n
      · subst he
        rw [List.getElem?_append_right (by omega), hl, Nat.sub_self] at hy
        simp at hy; rw [← hy]; exact hx
      · rw [List.getElem?_append_right (by omega)] at hy
        have : i - l.length ≠ 0 := by omega
        obtain ⟨m, hm⟩ := Nat.exists_eq_succ_of_ne_zero this
        rw [hm] at hy; simp at hy

section
variable {H : Type} {enc : TypeId × Value → H} {P : Program} {w : World} {base : Nat} {held : Bool}

/-- a slice of whatever elements: E lays an element's cells out, Q is what is known of it -/
theorem come_slice {α : Type} {t e : TypeId} {a : Option Addr} {len cap sz : Nat} {d : DataW H} {p : List MemPlace} (E : α → List Value) (Q : α → Prop)
    (ht : P.underlying t = some (.slice e)) (hC : P.cellsOf e = sz)
    (hE : ∀ n cs x, DataW.trod enc P w base (fun _ => true) held n e cs = some x → ∃ z, cs = E z ∧ Q z)
    (h : DataW.Trod enc P w base (fun _ => true) held t (.slice a len cap) d p) :
    ∃ zs : List α, Came w a len cap sz (zs.map E) ∧ ∀ z ∈ zs, Q z := by
  obtain ⟨fuel, hf⟩ := h
  rcases open_slice ht hf with ⟨hcs, _⟩ | ⟨x, l, c, m, n, D, Pl, hcs, _, hl, hm, hmm, _, hi⟩
  · simp [Value.cells] at hcs
    obtain ⟨rfl, rfl, rfl⟩ := hcs
    exact ⟨[], ⟨rfl, Nat.le_refl _, by omega, fun _ => ⟨rfl, rfl⟩, fun v hv => by simp at hv, fun h => by omega⟩, fun z hz => by simp at hz⟩
  · simp [Value.cells] at hcs
    obtain ⟨rfl, rfl, rfl⟩ := hcs
    simp only [if_true] at hmm
    subst hmm
    rw [hC] at hi
    obtain ⟨zs, hzl, hzs⟩ := exists_list len (fun i z => w.cells? base (x.add (i * sz)) sz = some (E z) ∧ Q z) (fun i hil => by
      obtain ⟨cs', hc, htr⟩ := hi i (by omega)
      obtain ⟨z, rfl, hq⟩ := hE _ _ _ htr
      exact ⟨z, hc, hq⟩)
    have hrow : ∀ z ∈ zs, (E z).length = sz ∧ Q z := fun z hz => by
      obtain ⟨i, hi', rfl⟩ := List.getElem_of_mem hz
      obtain ⟨h1, h2⟩ := hzs i _ (List.getElem?_eq_getElem hi')
      exact ⟨(World.cells?_some h1).2.1, h2⟩
    refine ⟨zs, ⟨by simpa using hzl, hl, by unfold maxLen at hm; omega, fun h => by simp at h, ?_, ?_⟩, fun z hz => (hrow z hz).2⟩
    · intro v hv
      obtain ⟨z, hz, rfl⟩ := List.mem_map.1 hv
      exact (hrow z hz).1
    · intro h0 h1
      have hz0 : zs[0]? = some (zs[0]'(by omega)) := List.getElem?_eq_getElem (by omega)
      have hc0 := (World.cells?_some (hzs 0 _ hz0).1).2.2 0 h1
      have hl0 := (World.cells?_some (hzs 0 _ hz0).1).2.1
      rw [List.getElem?_eq_getElem (by omega)] at hc0
      obtain ⟨b, off, spot⟩ := x
      have hspot : spot = none := by simpa [Addr.add] using World.cell?_spot hc0
      subst hspot
      refine ⟨b, off, rfl, ?_, ?_⟩
      · have := World.block_lt_of_cell? w _ hc0; simpa [Addr.add_lit] using this
      · intro i v hv j hj
        rw [List.getElem?_map] at hv
        obtain ⟨z, hz, rfl⟩ := Option.map_eq_some_iff.1 hv
        have := (World.cells?_some (hzs i z hz).1).2.2 j hj
        simpa [Addr.add_lit, Nat.add_assoc] using this

def intCells (z : Int) : List Value := [.int .i64 z]
def boolCells (z : Bool) : List Value := [.bool z]
def I64 (n : Int) : Prop := -9223372036854775808 ≤ n ∧ n ≤ 9223372036854775807

theorem come_ints {t e : TypeId} {a : Option Addr} {len cap : Nat} {d : DataW H} {p : List MemPlace} (ht : P.underlying t = some (.slice e)) (he : P.underlying e = some (.int .i64)) (hC : P.cellsOf e = 1)
    (h : DataW.Trod enc P w base (fun _ => true) held t (.slice a len cap) d p) : ∃ zs : List Int, Came w a len cap 1 (zs.map intCells) ∧ ∀ z ∈ zs, I64 z :=
  come_slice intCells I64 ht hC (fun n cs x hx => by obtain ⟨z, hc, _, hw⟩ := DataW.trod_int he hx; exact ⟨z, hc, wf_bounds_i64 hw⟩) h

theorem come_bools {t e : TypeId} {a : Option Addr} {len cap : Nat} {d : DataW H} {p : List MemPlace} (ht : P.underlying t = some (.slice e)) (he : P.underlying e = some .bool) (hC : P.cellsOf e = 1)
    (h : DataW.Trod enc P w base (fun _ => true) held t (.slice a len cap) d p) : ∃ zs : List Bool, Came w a len cap 1 (zs.map boolCells) ∧ ∀ z ∈ zs, True :=
  come_slice boolCells (fun _ => True) ht hC (fun n cs x hx => by obtain ⟨z, hc, _⟩ := DataW.trod_bool he hx; exact ⟨z, hc, trivial⟩) h
end

section
variable {H : Type} {enc : TypeId × Value → H} {P : Program} {w : World} {base : Nat} {spare : Nat → Bool} {held : Bool}
theorem open_agg5 {r : Reach} {b0 : Nat} {t : TypeId} {f0 f1 f2 f3 f4 : Field} {v : Value} {d : DataW H} {p : List MemPlace} (hs : P.underlying t = some (.struct #[f0, f1, f2, f3, f4])) (hone : oneCellFields P #[f0, f1, f2, f3, f4] = true) (hC : P.cellsOf t = 5)
    (hv : Value.okWide P w r b0 t v) (h : DataW.Trod enc P w base spare held t v d p) :
    ∃ (v0 v1 v2 v3 v4 : Value) (y0 y1 y2 y3 y4 : DataW H × List MemPlace) (n : Nat), v = .agg #[v0, v1, v2, v3, v4] ∧ d = .agg [y0.1, y1.1, y2.1, y3.1, y4.1] ∧ p = y0.2 ++ (y1.2 ++ (y2.2 ++ (y3.2 ++ y4.2))) ∧
      DataW.trod enc P w base spare held n f0.type [v0] = some y0 ∧ DataW.trod enc P w base spare held n f1.type [v1] = some y1 ∧ DataW.trod enc P w base spare held n f2.type [v2] = some y2 ∧ DataW.trod enc P w base spare held n f3.type [v3] = some y3 ∧ DataW.trod enc P w base spare held n f4.type [v4] = some y4 := by
  obtain ⟨cs, rfl, hsz⟩ := okWide_struct hs hv
  obtain ⟨l⟩ := cs
  match l, hsz.trans hC with
  | [c0, c1, c2, c3, c4], _ =>
    obtain ⟨fuel, hf⟩ := h
    obtain ⟨xs, n, _, hx, _, hlen, hg⟩ := DataW.trod_struct hs hf
    obtain ⟨o0, k0⟩ := hone_of hone 0 f0 rfl
    obtain ⟨o1, k1⟩ := hone_of hone 1 f1 rfl
    obtain ⟨o2, k2⟩ := hone_of hone 2 f2 rfl
    obtain ⟨o3, k3⟩ := hone_of hone 3 f3 rfl
    obtain ⟨o4, k4⟩ := hone_of hone 4 f4 rfl
    match xs, hlen with
    | [y0, y1, y2, y3, y4], _ =>
      simp only [Prod.mk.injEq] at hx
      exact ⟨c0, c1, c2, c3, c4, y0, y1, y2, y3, y4, n, rfl, by simpa using hx.1, by simpa using hx.2, by simpa [Value.cells, o0, k0] using hg 0 f0 rfl, by simpa [Value.cells, o1, k1] using hg 1 f1 rfl, by simpa [Value.cells, o2, k2] using hg 2 f2 rfl, by simpa [Value.cells, o3, k3] using hg 3 f3 rfl, by simpa [Value.cells, o4, k4] using hg 4 f4 rfl⟩
end

theorem Came.ints {w : World} {a : Option Addr} {len cap : Nat} {zs : List Int} (h : Came w a len cap 1 (zs.map intCells)) (h0 : 0 < len) :
    ∃ b off, a = some ⟨b, off, none⟩ ∧ b < w.heap.size ∧ ∀ i (hi : i < zs.length), w.cell? ⟨b, off + i, none⟩ = some (.int .i64 zs[i]) := by
  obtain ⟨b, off, ha, hb, hc⟩ := h.cells h0 (by omega)
  refine ⟨b, off, ha, hb, fun i hi => ?_⟩
  have := hc i (intCells zs[i]) (by rw [List.getElem?_map, List.getElem?_eq_getElem hi]; rfl) 0 (by omega)
  simpa [intCells] using this

theorem Came.bools {w : World} {a : Option Addr} {len cap : Nat} {zs : List Bool} (h : Came w a len cap 1 (zs.map boolCells)) (h0 : 0 < len) :
    ∃ b off, a = some ⟨b, off, none⟩ ∧ b < w.heap.size ∧ ∀ i (hi : i < zs.length), w.cell? ⟨b, off + i, none⟩ = some (.bool zs[i]) := by
  obtain ⟨b, off, ha, hb, hc⟩ := h.cells h0 (by omega)
  refine ⟨b, off, ha, hb, fun i hi => ?_⟩
  have := hc i (boolCells zs[i]) (by rw [List.getElem?_map, List.getElem?_eq_getElem hi]; rfl) 0 (by omega)
  simpa [boolCells] using this

/-- what a call has gathered by append, as a slice that is handed on -/
theorem came_of_owns {w : World} {base : Nat} {e : TypeId} {a : Option Addr} {len cap n : Nat} {α : Type} {E : α → List Value} {zs : List α} (h1 : ∀ z, ∃ v, E z = [v]) (h : w.ownsRow base e 1 (.slice a len cap) n (zs.map fun z => (E z).headD undef)) :
    len = n ∧ Came w a len cap 1 (zs.map E) := by
  obtain ⟨hl, hr⟩ := h
  have hzl : zs.length = n := by simpa using hl
  have hsz : ∀ v ∈ zs.map E, v.length = 1 := by
    intro v hv
    obtain ⟨z, _, rfl⟩ := List.mem_map.1 hv
    obtain ⟨u, hu⟩ := h1 z
    rw [hu]; rfl
  rcases hr with ⟨hv, rfl⟩ | ⟨g, c, cur, hv, hg, hgg, hnc, hcm, hcs, htake⟩
  · simp only [Value.slice.injEq] at hv
    obtain ⟨rfl, rfl, rfl⟩ := hv
    exact ⟨rfl, by simpa using hzl, by omega, by omega, fun _ => ⟨rfl, rfl⟩, hsz, fun h => by omega⟩
  · simp only [Value.slice.injEq] at hv
    obtain ⟨rfl, rfl, rfl⟩ := hv
    refine ⟨rfl, by simpa using hzl, hnc, by unfold maxLen at hcm; omega, fun h => by simp at h, hsz, fun h0 _ => ⟨g, 0, rfl, lt_of_block hgg, fun i v hv j hj => ?_⟩⟩
    obtain rfl : j = 0 := by omega
    rw [List.getElem?_map] at hv
    obtain ⟨z, hz, rfl⟩ := Option.map_eq_some_iff.1 hv
    have hil : i < zs.length := (List.getElem?_eq_some_iff.1 hz).1
    have h2 : (cur.toList.take (len * 1))[i]? = some ((E z).headD undef) := by rw [htake, List.getElem?_map, hz]; rfl
    rw [List.getElem?_take, if_pos (by omega)] at h2
    obtain ⟨u, hu⟩ := h1 z
    rw [hu] at h2 ⊢
    simp only [World.cell?, hgg]
    simpa using h2
end Go.Proofs.Ytlaogkbdjkofaaa
