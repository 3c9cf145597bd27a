/- What InsnStream needs: the records listed so far, and Encode and Long as one contract. -/
import Derived.Test.YtekckijcljgaoaaForks
import Derived.Test.YtekckijcljgaoaaComeOps
import Derived.Test.YtekckijcljgaoaaDecWords
import Derived.Test.YtekckijcljgaoaaDepends
import Derived.Test.YtekckijcljgaoaaInsnFact
namespace Go.Proofs.Ytekckijcljgaoaa
open Go.RowKit
set_option linter.unusedVariables false

theorem Try.infoT27 : (Try.prog.info? 27).map (fun i => (i.zero, i.size, i.bytes)) = some (some (.agg #[.int .i64 0, .int .i64 0, .int .i64 0, .int .i64 0, .int .i64 0]), 5, 40) := by kernel_rfl

structure Rec where
  o : Op5
  ws : List Int
structure RecOk (r : Rec) : Prop where
  dec : ∀ rest, decode (r.ws ++ rest) = ⟨r.o.op, r.o.d, r.o.a, r.o.b, r.o.n, (r.ws.length : Int), 0⟩
  pos : 1 ≤ r.ws.length
  two : r.ws.length ≤ 2
def codeE (E : List Rec) : List Int := E.flatMap fun r => r.ws
def opsE (E : List Rec) : List Op5 := E.map fun r => r.o
def sizesE (E : List Rec) : List Int := E.map fun r => (r.ws.length : Int)
theorem opsE_len (E : List Rec) : (opsE E).length = E.length := by simp [opsE]
theorem sizesE_len (E : List Rec) : (sizesE E).length = E.length := by simp [sizesE]
theorem codeE_len (E : List Rec) (h : ∀ r ∈ E, RecOk r) : (codeE E).length ≤ 2 * E.length := by
  induction E with
  | nil => simp [codeE]
  | cons r E ih =>
    have h1 := (h r List.mem_cons_self).two
    have h2 := ih fun x hx => h x (List.mem_cons_of_mem _ hx)
    unfold codeE at h2 ⊢
    rw [List.flatMap_cons, List.length_append, List.length_cons]
    omega

def EncTwo (o : Op5) (w : World) (e : Ending) (w' : World) : Prop :=
  (∃ ws g, RecOk ⟨o, ws⟩ ∧ e = .returned (.tuple #[.slice (some ⟨g, 0, none⟩) ws.length ws.length, .int .i64 0]) ∧ w'.heap[g]? = some (.cells (ws.map (Value.int .i64)).toArray 3 (0, 0)) ∧ w.heap.size ≤ g ∧ Below w.heap.size w w') ∨
  (∃ c, (c == 0) = false ∧ e = .returned (.tuple #[.slice none 0 0, .int .i64 c]) ∧ Below w.heap.size w w')

theorem rec_ok {op d a b n : Int} {l : Bool} (hc : checkE op d a b n = 0) (hs : l = false → shortB n = true) : RecOk ⟨⟨op, d, a, b, n⟩, refWords op d a b n l⟩ := by
  have hl : ((refWords op d a b n l).length : Int) = if l = true then 2 else 1 := by unfold refWords longWords; cases l <;> simp
  have hb : 1 ≤ (refWords op d a b n l).length ∧ (refWords op d a b n l).length ≤ 2 := by unfold refWords longWords; cases l <;> simp
  refine ⟨fun rest => ?_, ?_, ?_⟩
  · rw [decode_words hc hs rest, hl]
  · exact hb.1
  · exact hb.2

theorem enc_two (op d a b n : Int) (w : World) : Calls Try.prog 16 #[.agg #[.int .i64 op, .int .i64 d, .int .i64 a, .int .i64 b, .int .i64 n]] w (EncTwo ⟨op, d, a, b, n⟩ w) := by
  by_cases hc : checkE op d a b n = 0
  · refine (enc_ok op d a b n w hc).mono ?_
    rintro e w' ⟨g, rfl, hb, hg, hb2⟩
    rw [← refWords_enc] at hb ⊢
    exact .inl ⟨_, g, rec_ok hc (fun h => by simpa using h), rfl, hb, hg, hb2⟩
  · refine (enc_err op d a b n w hc).mono ?_
    rintro e w' ⟨rfl, hb2⟩
    exact .inr ⟨_, by rw [beq_eq_false_iff_ne]; exact hc, rfl, hb2⟩
theorem long_two (op d a b n : Int) (w : World) : Calls Try.prog 17 #[.agg #[.int .i64 op, .int .i64 d, .int .i64 a, .int .i64 b, .int .i64 n]] w (EncTwo ⟨op, d, a, b, n⟩ w) := by
  by_cases hc : checkE op d a b n = 0
  · refine (long_ok op d a b n w hc).mono ?_
    rintro e w' ⟨g, rfl, hb, hg, hb2⟩
    exact .inl ⟨refWords op d a b n true, g, rec_ok hc (fun h => by cases h), rfl, hb, hg, hb2⟩
  · refine (long_err op d a b n w hc).mono ?_
    rintro e w' ⟨rfl, hb2⟩
    exact .inr ⟨_, by rw [beq_eq_false_iff_ne]; exact hc, rfl, hb2⟩

def RowsE (B : Nat) (w : World) (va vo vs : Value) (E : List Rec) : Prop :=
  Rows3 B 3 27 w va vo vs ((codeE E).map (Value.int .i64)) (codeE E).length ((opsE E).flatMap opC) E.length ((sizesE E).map (Value.int .i64)) E.length []
theorem rowsE_nil (B : Nat) (w : World) : RowsE B w (.slice none 0 0) (.slice none 0 0) (.slice none 0 0) [] :=
  ⟨World.ownsRow_nil _ _ _ _, World.ownsRow_nil _ _ _ _, World.ownsRow_nil _ _ _ _, (fun k h => by cases h), (fun k h => by cases h), (fun k h => by cases h), (fun x h => by cases h)⟩
theorem rowsE_snoc {B : Nat} {w : World} {va vo vs : Value} {E : List Rec} {o : Op5} {ws : List Int} {G : List (Nat × Array Value × TypeId)}
    (h : Rows3 B 3 27 w va vo vs ((codeE E).map (Value.int .i64) ++ ws.map (Value.int .i64)) ((codeE E).length + ws.length) ((opsE E).flatMap opC ++ opC o) (E.length + 1) ((sizesE E).map (Value.int .i64) ++ [.int .i64 (ws.length : Int)]) (E.length + 1) G) :
    RowsE B w va vo vs (E ++ [⟨o, ws⟩]) := by
  have h1 := h.bare
  unfold RowsE
  have e1 : codeE (E ++ [⟨o, ws⟩]) = codeE E ++ ws := by simp [codeE]
  have e2 : opsE (E ++ [⟨o, ws⟩]) = opsE E ++ [o] := by simp [opsE]
  have e3 : sizesE (E ++ [⟨o, ws⟩]) = sizesE E ++ [(ws.length : Int)] := by simp [sizesE]
  rw [e1, e2, e3, List.map_append, List.length_append, List.flatMap_append, List.map_append, List.length_append]
  simpa using h1
theorem Rows3.add {B : Nat} {te tf : TypeId} {w w' : World} {va vo vs : Value} {A O S : List Value} {na no ns : Nat} {G : List (Nat × Array Value × TypeId)} {g : Nat} {c : Array Value} {t : TypeId}
    (h : Rows3 B te tf w va vo vs A na O no S ns G) (hb : Below w.heap.size w w') (hg : w'.heap[g]? = some (.cells c t (0, 0))) (hge : w.heap.size ≤ g) : Rows3 B te tf w' va vo vs A na O no S ns ((g, c, t) :: G) := by
  have h1 := h.later hb
  refine ⟨h1.ra, h1.ro, h1.rs, h1.d1, h1.d2, h1.d3, fun x hx => ?_⟩
  rcases List.mem_cons.1 hx with rfl | hx
  · refine ⟨hg, fun e => ?_, fun e => ?_, fun e => ?_⟩
    · have := (h.ra.lt _ e).2; simp only at this; omega
    · have := (h.ro.lt _ e).2; simp only at this; omega
    · have := (h.rs.lt _ e).2; simp only at this; omega
  · exact h1.gs x hx

theorem came_dropS {w : World} {g off : Nat} {len cap : Nat} {zs : List Int} (h : Came w (some ⟨g, off, none⟩) len cap 1 (zs.map intCells)) (k : Nat) (hk : k ≤ len) : Came w (some ⟨g, off + k, none⟩) (len - k) (cap - k) 1 ((zs.drop k).map intCells) := by
  have hc := h.count
  have hle := h.le
  have hmx := h.max
  refine ⟨by simp at hc ⊢; omega, by omega, by omega, fun h => by simp at h, ?_, fun h0 _ => ?_⟩
  · intro v hv
    obtain ⟨z, _, rfl⟩ := List.mem_map.1 hv
    rfl
  · obtain ⟨b, o, ha, hb, hcell⟩ := h.cells (by omega) (by omega)
    simp only [Option.some.injEq, Addr.mk.injEq, and_true] at ha
    obtain ⟨rfl, rfl⟩ := ha
    refine ⟨g, off + k, rfl, hb, fun i v hv j hj => ?_⟩
    have := hcell (k + i) v (by rw [List.getElem?_map] at hv ⊢; rw [List.getElem?_drop] at hv; exact hv) j hj
    rw [← this]
    congr 2
    omega
theorem came_takeS {w : World} {a : Option Addr} {len cap s : Nat} {vs : List (List Value)} (h : Came w a len cap s vs) (n : Nat) (hn : n ≤ len) : Came w a n cap s (vs.take n) := by
  have hc := h.count
  have hle := h.le
  have hmx := h.max
  refine ⟨by simp; omega, by omega, by omega, fun ha => ⟨by have := (h.nil ha).1; omega, (h.nil ha).2⟩, fun v hv => h.size v (List.mem_of_mem_take hv), fun h0 h1 => ?_⟩
  obtain ⟨b, o, ha, hb, hcell⟩ := h.cells (by omega) h1
  refine ⟨b, o, ha, hb, fun i v hv j hj => hcell i v ?_ j hj⟩
  rw [List.getElem?_take] at hv
  split at hv
  · exact hv
  · cases hv

/-- what is left of the code at record j -/
theorem codeE_drop {E : List Rec} {j : Nat} (hj : j < E.length) : codeE (E.drop j) = E[j].ws ++ codeE (E.drop (j + 1)) := by
  rw [List.drop_eq_getElem_cons hj]; rfl
theorem codeE_drop2 {E : List Rec} {j : Nat} (hj : j < E.length) : (codeE (E.drop j)).drop E[j].ws.length = codeE (E.drop (j + 1)) := by
  rw [codeE_drop hj]; simp
end Go.Proofs.Ytekckijcljgaoaa
