/- The state of a collection in memory; the contracts of the heap's object (where there is none) and of move.value. -/
import Derived.Test.YtkpeeemnholmnaaGcB
import Derived.Test.YtkpeeemnholmnaaHeapC
import Derived.Test.YtkpeeemnholmnaaEagerF
import Derived.Test.YtkpeeemnholmnaaRow2
import Derived.Test.YtkpeeemnholmnaaOwn
import Derived.Maps.OwnSet
import Derived.Maps.OwnOps
namespace Go.Proofs.Ytkpeeemnholmnaa
open Go.RowKit Go.Maps
set_option linter.unusedVariables false
set_option linter.unusedSimpArgs false

theorem Try.keyed3 : Keyed Try.prog 3 := int_keyed Try.underlying3
theorem Try.zeroI3 (w : World) : (zeroValue 3).run Try.prog w = .ok (.int .i64 0) w := by kernel_rfl

set_option maxHeartbeats 400000 in
theorem object_no (w : World) (p : Nat) (v : Int) (hv : v ≤ 0 ∨ v % 2 = 1) :
    Calls Try.prog 34 #[.pointer (some ⟨p, 0, none⟩), .int .i64 v] w fun e w' => e = .returned (.int .i64 (-1)) ∧ w' = w := by
  have e1 := and_1 v
  by_cases h1 : v ≤ 0
  · have t1 : decide (v ≤ 0) = true := decide_eq_true h1
    go_enter Try.func34, Try.ntmps34
    go_wp2_with fail
    go_ret
    exact ⟨rfl, rfl⟩
  · have h2 : v % 2 = 1 := by omega
    have t1 : decide (v ≤ 0) = false := decide_eq_false h1
    rw [h2] at e1
    clear h2 hv
    go_enter Try.func34, Try.ntmps34
    go_wp2_with fail
    go_ret
    exact ⟨rfl, rfl⟩

/-- the map of the copied objects -/
def MapC (w : World) (kb : Nat) (m0 : Nat → Int) (b : Nat) (cp : List Nat) : Prop :=
  ∃ D : DataW Unit, w.ownsMap Try.prog 3 (plainElem Try.prog 3) kb cp.length D ∧ (∀ i : Nat, i ∈ cp → Maps.has D (.int .i64 (i : Int)) = true ∧ D.atKey (.int .i64 (i : Int)) (.lit (.int .i64 0)) = .lit (.int .i64 (addrC m0 b cp i : Int))) ∧
    ∀ i : Nat, i ∉ cp → Maps.has D (.int .i64 (i : Int)) = false
theorem MapC.keep {w w' : World} {kb : Nat} {m0 : Nat → Int} {b : Nat} {cp : List Nat} (h : MapC w kb m0 b cp) (hb : w'.heap[kb]? = w.heap[kb]?) : MapC w' kb m0 b cp := by
  obtain ⟨D, h1, h2, h3⟩ := h
  obtain ⟨es, clock, g1, g2, g3, g4⟩ := h1
  exact ⟨D, ⟨es, clock, hb.trans g1, g2, g3, g4⟩, h2, h3⟩
theorem MapC.lt {w : World} {kb : Nat} {m0 : Nat → Int} {b : Nat} {cp : List Nat} (h : MapC w kb m0 b cp) : kb < w.heap.size := by
  obtain ⟨D, h1, _, _⟩ := h
  exact h1.lt
theorem mapC_put {w : World} {kb : Nat} {m0 : Nat → Int} {b : Nat} {cp : List Nat} {x : Nat} {D : DataW Unit} (hx : x ∉ cp) (hm : IsMap D) (h2 : ∀ i : Nat, i ∈ cp → Maps.has D (.int .i64 (i : Int)) = true ∧ D.atKey (.int .i64 (i : Int)) (.lit (.int .i64 0)) = .lit (.int .i64 (addrC m0 b cp i : Int)))
    (h3 : ∀ i : Nat, i ∉ cp → Maps.has D (.int .i64 (i : Int)) = false) (ho : w.ownsMap Try.prog 3 (plainElem Try.prog 3) kb (cp.length + 1) (D.put (.int .i64 (x : Int)) (.lit (.int .i64 ((b + tot m0 cp : Nat) : Int))))) : MapC w kb m0 b (cp ++ [x]) := by
  have hk : WideAt.IsKeyLit (.int .i64 (x : Int)) := trivial
  refine ⟨_, by rw [List.length_append]; exact ho, fun i hi => ?_, fun i hi => ?_⟩
  · by_cases e : i = x
    · subst e
      exact ⟨has_put_same hm hk _, by rw [atKey_put_same hm hk, addrC_new hx]⟩
    · have hne : (Lit.int .i64 (i : Int)) ≠ .int .i64 (x : Int) := fun e2 => e (by injection e2 with _ e3; omega)
      have hi2 : i ∈ cp := by
        rcases List.mem_append.1 hi with h | h
        · exact h
        · simp at h; exact absurd h e
      rw [has_put_other hne, atKey_put_other hne, addrC_old hi2]
      exact h2 i hi2
  · have hne : (Lit.int .i64 (i : Int)) ≠ .int .i64 (x : Int) := fun e2 => hi (by injection e2 with _ e3; have : i = x := by omega
                                                                                  rw [this]; simp)
    rw [has_put_other hne]
    exact h3 i fun h => hi (List.mem_append_left _ h)

/-- certain blocks are as they were -/
def KeepL (l : List Nat) (w w' : World) : Prop := ∀ k ∈ l, w'.heap[k]? = w.heap[k]?
instance (l : List Nat) : PreR (KeepL l) := ⟨fun w k _ => rfl, fun h k b hb => (k b hb).trans (h b hb)⟩
theorem KeepL.cell {l : List Nat} {w w' : World} (h : KeepL l w w') {a : Addr} (ha : a.block ∈ l) : w'.cell? a = w.cell? a := World.cell?_of_block (h _ ha)
structure MvSt (w : World) (q kb p mb : Nat) (rv : Value) (S : HS) (yo : Bool) (L b : Nat) (cp : List Nat) (d : Nat → Bool) : Prop where
  st : Blk w q 69 [.pointer (some ⟨p, 0, none⟩), .int .i64 ((b + tot S.m cp : Nat) : Int), .int .i64 (L : Int), .map (some kb), .bool yo, .bool false]
  mp : MapC w kb S.m b cp
  hp : HeapSt w p mb rv { S with m := memC S.m b cp d }
  n1 : q ≠ kb
  n2 : q ≠ p
  n3 : q ≠ mb
  n4 : kb ≠ p
  n5 : kb ≠ mb
  n6 : rv.ownBlock ≠ some q
  n7 : rv.ownBlock ≠ some kb
structure MvFull (w : World) (q kb p mb : Nat) (rv : Value) (S : HS) (b L : Nat) : Prop where
  st : ∃ fr : Nat, fr ≤ 65536 ∧ ∃ yo, Blk w q 69 [.pointer (some ⟨p, 0, none⟩), .int .i64 (fr : Int), .int .i64 (L : Int), .map (some kb), .bool yo, .bool true]
  hp : ∃ m' : Nat → Int, HeapSt w p mb rv { S with m := m' } ∧ ∀ i, (i < b ∨ L ≤ i) → m' i = S.m i
  n2 : q ≠ p
  n3 : q ≠ mb
  n6 : rv.ownBlock ≠ some q
/-- what a step of a collection may have changed -/
structure Fr3 (q kb mb : Nat) (w w' : World) : Prop where
  os : w'.os = w.os
  tape : w'.tape = w.tape
  output : w'.output = w.output
  size : w.heap.size ≤ w'.heap.size
  block : ∀ k, k < w.heap.size → k ≠ q → k ≠ kb → k ≠ mb → w'.heap[k]? = w.heap[k]?
theorem Fr3.refl (q kb mb : Nat) (w : World) : Fr3 q kb mb w w := ⟨rfl, rfl, rfl, Nat.le_refl _, fun _ _ _ _ _ => rfl⟩
theorem Fr3.trans {q kb mb : Nat} {w w' w'' : World} (h : Fr3 q kb mb w w') (k : Fr3 q kb mb w' w'') : Fr3 q kb mb w w'' :=
  ⟨k.os.trans h.os, k.tape.trans h.tape, k.output.trans h.output, Nat.le_trans h.size k.size, fun b hb h1 h2 h3 => (k.block b (Nat.lt_of_lt_of_le hb h.size) h1 h2 h3).trans (h.block b hb h1 h2 h3)⟩
theorem Fr3.of_below {q kb mb : Nat} {w w' : World} (h : Below w.heap.size w w') : Fr3 q kb mb w w' := ⟨h.os, h.tape, h.output, h.size, fun k hk _ _ _ => h.block k hk⟩
theorem Fr3.set {q kb mb : Nat} {w : World} {a : Addr} (h : a.block = q ∨ a.block = mb) (u : Value) : Fr3 q kb mb w (w.setCell a u) :=
  ⟨rfl, rfl, rfl, by simp, fun k _ h1 _ h3 => Below.heap_setCell _ _ _ _ (fun e => by rcases h with h | h; exact h1 (e.trans h); exact h3 (e.trans h))⟩
section
variable {w w' : World} {q kb p mb : Nat} {rv : Value} {S : HS} {yo : Bool} {L b : Nat} {cp : List Nat} {d : Nat → Bool}
theorem MvSt.later (h : MvSt w q kb p mb rv S yo L b cp d) (hb : Below w.heap.size w w') : MvSt w' q kb p mb rv S yo L b cp d :=
  ⟨h.st.below hb h.st.lt, h.mp.keep (hb.block _ h.mp.lt), h.hp.later hb, h.n1, h.n2, h.n3, h.n4, h.n5, h.n6, h.n7⟩
theorem MvFull.later (h : MvFull w q kb p mb rv S b L) (hb : Below w.heap.size w w') : MvFull w' q kb p mb rv S b L := by
  obtain ⟨⟨fr, h0, y, h1⟩, ⟨m', h2, h3⟩, h4, h5, h6⟩ := h
  exact ⟨⟨fr, h0, y, h1.below hb h1.lt⟩, ⟨m', h2.later hb, h3⟩, h4, h5, h6⟩
end
/-- a row of words behind the writing of several of them -/
theorem rowSetCells {b : Nat} {t : TypeId} {n : Nat} : ∀ (vs : List Value) (o : Nat) (w : World) (f : Nat → Value), Blk w b t (rowL n f) → Blk (w.setCells b o vs) b t (rowL n fun i => if o ≤ i ∧ i < o + vs.length then vs.getD (i - o) undef else f i)
  | [], o, w, f, h => h.rowCongr fun i _ => by rw [if_neg (by simp)]
  | v :: r, o, w, f, h => by
    have h1 := rowSetCells r (o + 1) (w.setCell ⟨b, o, none⟩ v) _ (h.rowSet o v)
    refine h1.rowCongr fun i _ => ?_
    by_cases e : i = o
    · subst e
      rw [if_neg (by omega), if_pos rfl, if_pos (by simp)]
      simp
    · by_cases h9 : o + 1 ≤ i ∧ i < o + 1 + r.length
      · rw [if_pos h9, if_pos (by simp; omega)]
        obtain ⟨k, hk⟩ : ∃ k, i - o = k + 1 := ⟨i - o - 1, by omega⟩
        rw [hk, show i - (o + 1) = k by omega]
        rfl
      · rw [if_neg h9, if_neg e, if_neg (by rw [List.length_cons]; omega)]
end Go.Proofs.Ytkpeeemnholmnaa
