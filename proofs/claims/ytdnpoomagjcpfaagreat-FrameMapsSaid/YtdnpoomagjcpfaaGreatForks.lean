/- A drawn region stepped op by op, with forks where several effects may come next. -/
import Derived.Test.YtdnpoomagjcpfaaGreatBase
import Derived.Deep.AppendLies
namespace Go.Proofs.YtdnpoomagjcpfaaGreat
open Go.RowKit
set_option linter.unusedVariables false
set_option linter.unusedSectionVars false

section
variable {P : Program} {ops : Array Oper} {R : World → World → Prop} [PreR R]

theorem wp_region_forks {id : Nat} {Q : Exit → Act → World → Prop} {a : Act} {w : World} (R : World → World → Prop) [PreR R] (n : Nat) (hn : ops.size = n) (hm : P.follows .mixedOrders = true)
    (h : anyR P ops R (fun a' w' => Q .normal a' w') n (Array.replicate n false) a w.drew) : (Code.region id ops true).wp P Q a w := by
  subst hn
  exact wp_region_any hm (anyR_sound (fun _ _ h => h) _ _ _ w.drew h)

theorem forks_read {l : List Oper} {Q : Act → World → Prop} {f : Nat} {listed : Array Bool} {a : Act} {b : World} (i : Nat) {o : Oper} (ho : l[i]? = some o)
    (hB : (Region.noSelect l.toArray && (Region.ready .any l.toArray listed).contains i && Region.free .any l.toArray listed i && plainB o.op) = true)
    (hw : wpQuiet P l.toArray (fun w' => ∃ x : AfterR R b, w' = x.world) (fun a' => anyR P l.toArray R Q f (listed.setIfInBounds i true) a' b) [o] a) : anyR P l.toArray R Q (f + 1) listed a b := by
  simp only [Bool.and_eq_true] at hB
  obtain ⟨⟨⟨hs, hr⟩, hf⟩, hp⟩ := hB
  have ho' : l.toArray[i]? = some o := by simpa using ho
  have hr' : i ∈ Region.ready .any l.toArray listed := by simpa using hr
  obtain ⟨v, hy, hK⟩ := yieldsIn_of_qOp (C := clsR R b) (K := fun a' => anyR P l.toArray R Q f (listed.setIfInBounds i true) a' b) ho' (by unfold qOp; simp only [ho']; exact hw)
  exact anyR_first ho' hp (Region.noSelect_spec hs) f listed a b (Region.free_spec ho' hf) hr' hy hK

theorem forks_end {Q : Act → World → Prop} {f : Nat} {listed : Array Bool} {a : Act} {b : World} (h0 : Region.ready .any ops listed = []) (h : Q a b) : anyR P ops R Q f listed a b := by
  cases f with
  | zero => exact ⟨h0, h⟩
  | succ f => exact ⟨fun _ => h, fun i hi => by rw [h0] at hi; cases hi⟩

/-- one of those that may come next, and it makes or writes memory -/
def Does (P : Program) (ops : Array Oper) (R : World → World → Prop) (Q : Act → World → Prop) (f : Nat) (listed : Array Bool) (a : Act) (b : World) (i : Nat) : Prop :=
  ∃ o, ops[i]? = some o ∧ Region.wanted o (yielded ops a.tmps) = true ∧ o.wp P a b (fun a' w' => R b w' ∧ anyR P ops R Q f (listed.setIfInBounds i true) a' w') NoWay

theorem does_op {Q : Act → World → Prop} {f : Nat} {listed : Array Bool} {a : Act} {b : World} {i : Nat} (h : Does P ops R Q f listed a b i) : opR P ops R i (anyR P ops R Q f (listed.setIfInBounds i true)) a b := by
  obtain ⟨o, ho, hw, h⟩ := h
  intro o' ho'
  obtain rfl : o = o' := Option.some.inj (ho.symm.trans ho')
  exact ⟨fun _ => .inr h, fun h1 => by rw [hw] at h1; cases h1⟩

theorem forks_does {Q : Act → World → Prop} {f : Nat} {listed : Array Bool} {a : Act} {b : World} (l : List Nat) (hl : Region.ready .any ops listed = l) (h0 : l ≠ [])
    (h : ∀ i ∈ l, Does P ops R Q f listed a b i) : anyR P ops R Q (f + 1) listed a b :=
  ⟨fun h1 => absurd (hl.symm.trans h1) h0, fun i hi => does_op (h i (by rw [← hl]; exact hi))⟩

theorem forks_one {Q : Act → World → Prop} {f : Nat} {listed : Array Bool} {a : Act} {b : World} (i : Nat) (hl : Region.ready .any ops listed = [i])
    (h : Does P ops R Q f listed a b i) : anyR P ops R Q (f + 1) listed a b :=
  forks_does [i] hl (by simp) (by simpa using h)
theorem forks_two {Q : Act → World → Prop} {f : Nat} {listed : Array Bool} {a : Act} {b : World} (i j : Nat) (hl : Region.ready .any ops listed = [i, j])
    (h1 : Does P ops R Q f listed a b i) (h2 : Does P ops R Q f listed a b j) : anyR P ops R Q (f + 1) listed a b :=
  forks_does [i, j] hl (by simp) (by intro k hk; simp at hk; rcases hk with rfl | rfl <;> assumption)
theorem forks_three {Q : Act → World → Prop} {f : Nat} {listed : Array Bool} {a : Act} {b : World} (i j k : Nat) (hl : Region.ready .any ops listed = [i, j, k])
    (h1 : Does P ops R Q f listed a b i) (h2 : Does P ops R Q f listed a b j) (h3 : Does P ops R Q f listed a b k) : anyR P ops R Q (f + 1) listed a b :=
  forks_does [i, j, k] hl (by simp) (by intro m hm; simp at hm; rcases hm with rfl | rfl | rfl <;> assumption)

theorem does_intro {l : List Oper} {Q : Act → World → Prop} {f : Nat} {listed : Array Bool} {a : Act} {b : World} {i : Nat} {o : Oper} (ho : l[i]? = some o) (hw : Region.wanted o (yielded l.toArray a.tmps) = true)
    (h : ∀ (K : Act → World → Prop), (∀ a' w', R b w' → anyR P l.toArray R Q f (listed.setIfInBounds i true) a' w' → K a' w') → o.wp P a b K NoWay) : Does P l.toArray R Q f listed a b i :=
  ⟨o, by simpa using ho, hw, h _ fun a' w' p q => ⟨p, q⟩⟩
end

/-- three rows that the call itself grows, apart from each other; blocks that stand as they were made -/
structure Rows3 (B : Nat) (te tf : TypeId) (w : World) (va vo vs : Value) (A : List Value) (na : Nat) (O : List Value) (no : Nat) (S : List Value) (ns : Nat) (G : List (Nat × Array Value × TypeId)) : Prop where
  ra : w.ownsRow B te 1 va na A
  ro : w.ownsRow B tf 5 vo no O
  rs : w.ownsRow B te 1 vs ns S
  d1 : ∀ k, va.ownBlock = some k → vo.ownBlock ≠ some k
  d2 : ∀ k, va.ownBlock = some k → vs.ownBlock ≠ some k
  d3 : ∀ k, vo.ownBlock = some k → vs.ownBlock ≠ some k
  gs : ∀ x ∈ G, w.heap[x.1]? = some (.cells x.2.1 x.2.2 (0, 0)) ∧ va.ownBlock ≠ some x.1 ∧ vo.ownBlock ≠ some x.1 ∧ vs.ownBlock ≠ some x.1

theorem owns_keep {w w' : World} {B : Nat} {e : TypeId} {size : Nat} {v : Value} {n : Nat} {l : List Value} (h : w.ownsRow B e size v n l) (hb : ∀ k, v.ownBlock = some k → w'.heap[k]? = w.heap[k]?) : w'.ownsRow B e size v n l := by
  obtain ⟨h1, h2⟩ := h
  refine ⟨h1, ?_⟩
  rcases h2 with h2 | ⟨g, cap, cur, hv, hg, hh, r⟩
  · exact .inl h2
  · exact .inr ⟨g, cap, cur, hv, hg, by rw [hb g (by rw [hv]; rfl)]; exact hh, r⟩

section
variable {B : Nat} {te tf : TypeId} {w w' : World} {va vo vs : Value} {A O S : List Value} {na no ns : Nat} {G : List (Nat × Array Value × TypeId)}

theorem Rows3.later (h : Rows3 B te tf w va vo vs A na O no S ns G) (hb : Below w.heap.size w w') : Rows3 B te tf w' va vo vs A na O no S ns G := by
  refine ⟨owns_keep h.ra fun k hk => hb.block k (h.ra.lt k hk).2, owns_keep h.ro fun k hk => hb.block k (h.ro.lt k hk).2, owns_keep h.rs fun k hk => hb.block k (h.rs.lt k hk).2, h.d1, h.d2, h.d3, fun x hx => ?_⟩
  obtain ⟨g1, g2⟩ := h.gs x hx
  refine ⟨?_, g2⟩
  rw [hb.block x.1 (Array.getElem?_eq_some_iff.1 g1).1]; exact g1
theorem Rows3.alloc (h : Rows3 B te tf w va vo vs A na O no S ns G) (c : Array Value) (t : TypeId) : Rows3 B te tf (w.alloc (.cells c t)) va vo vs A na O no S ns ((w.heap.size, c, t) :: G) := by
  have h1 := h.later (w' := w.alloc (.cells c t)) ((Below.refl _ _).alloc (Nat.le_refl _) _)
  refine ⟨h1.ra, h1.ro, h1.rs, h1.d1, h1.d2, h1.d3, fun x hx => ?_⟩
  rcases List.mem_cons.1 hx with rfl | hx
  · refine ⟨heap_alloc_new w _, fun e => ?_, fun e => ?_, fun e => ?_⟩
    · exact absurd (h.ra.lt _ e).2 (Nat.lt_irrefl _)
    · exact absurd (h.ro.lt _ e).2 (Nat.lt_irrefl _)
    · exact absurd (h.rs.lt _ e).2 (Nat.lt_irrefl _)
  · exact h1.gs x hx
theorem Rows3.less {x : Nat × Array Value × TypeId} (h : Rows3 B te tf w va vo vs A na O no S ns (x :: G)) : Rows3 B te tf w va vo vs A na O no S ns G :=
  ⟨h.ra, h.ro, h.rs, h.d1, h.d2, h.d3, fun y hy => h.gs y (List.mem_cons_of_mem _ hy)⟩
theorem Rows3.bare (h : Rows3 B te tf w va vo vs A na O no S ns G) : Rows3 B te tf w va vo vs A na O no S ns [] :=
  ⟨h.ra, h.ro, h.rs, h.d1, h.d2, h.d3, fun y hy => by cases hy⟩

/-- a row has grown: where its block lies -/
theorem fresh_ne {v : Value} {g : Nat} {l : List Value} {e : TypeId} {size n : Nat} {u : Value} (hv : w.ownsRow B e size v n l) (hd : ∀ k, u.ownBlock = some k → v.ownBlock ≠ some k) (hat : u.ownBlock = some g ∨ g = w.heap.size) : v.ownBlock ≠ some g := by
  rcases hat with h | rfl
  · exact hd g h
  · intro h; exact absurd (hv.lt _ h).2 (Nat.lt_irrefl _)

theorem Rows3.growA (h : Rows3 B te tf w va vo vs A na O no S ns G) {A' : List Value} {na' g cap : Nat} (hown : w'.ownsRow B te 1 (.slice (some ⟨g, 0, none⟩) na' cap) na' A') (hg : w.grownBy w' va.ownBlock) (hat : va.ownBlock = some g ∨ g = w.heap.size) :
    Rows3 B te tf w' (.slice (some ⟨g, 0, none⟩) na' cap) vo vs A' na' O no S ns G := by
  have e1 : ∀ k, vo.ownBlock = some k → some k ≠ va.ownBlock := fun k hk e => h.d1 k e.symm hk
  have e2 : ∀ k, vs.ownBlock = some k → some k ≠ va.ownBlock := fun k hk e => h.d2 k e.symm hk
  refine ⟨hown, owns_keep h.ro fun k hk => hg.block k (h.ro.lt k hk).2 (e1 k hk), owns_keep h.rs fun k hk => hg.block k (h.rs.lt k hk).2 (e2 k hk), fun k hk => ?_, fun k hk => ?_, h.d3, fun x hx => ?_⟩
  · obtain rfl : g = k := by simpa [Value.ownBlock] using hk
    exact fresh_ne h.ro h.d1 hat
  · obtain rfl : g = k := by simpa [Value.ownBlock] using hk
    exact fresh_ne h.rs h.d2 hat
  · obtain ⟨g1, g2, g3, g4⟩ := h.gs x hx
    have hlt := (Array.getElem?_eq_some_iff.1 g1).1
    refine ⟨(hg.block x.1 hlt (fun e => g2 e.symm)).trans g1, fun e => ?_, g3, g4⟩
    obtain rfl : g = x.1 := by simpa [Value.ownBlock] using e
    rcases hat with h9 | h9
    · exact g2 h9
    · omega
theorem Rows3.growO (h : Rows3 B te tf w va vo vs A na O no S ns G) {O' : List Value} {no' g cap : Nat} (hown : w'.ownsRow B tf 5 (.slice (some ⟨g, 0, none⟩) no' cap) no' O') (hg : w.grownBy w' vo.ownBlock) (hat : vo.ownBlock = some g ∨ g = w.heap.size) :
    Rows3 B te tf w' va (.slice (some ⟨g, 0, none⟩) no' cap) vs A na O' no' S ns G := by
  have e1 : ∀ k, va.ownBlock = some k → some k ≠ vo.ownBlock := fun k hk e => h.d1 k hk e.symm
  have e2 : ∀ k, vs.ownBlock = some k → some k ≠ vo.ownBlock := fun k hk e => h.d3 k e.symm hk
  refine ⟨owns_keep h.ra fun k hk => hg.block k (h.ra.lt k hk).2 (e1 k hk), hown, owns_keep h.rs fun k hk => hg.block k (h.rs.lt k hk).2 (e2 k hk), fun k hk hk2 => ?_, h.d2, fun k hk => ?_, fun x hx => ?_⟩
  · obtain rfl : g = k := by simpa [Value.ownBlock] using hk2
    rcases hat with h9 | rfl
    · exact h.d1 _ hk h9
    · exact absurd (h.ra.lt _ hk).2 (Nat.lt_irrefl _)
  · obtain rfl : g = k := by simpa [Value.ownBlock] using hk
    exact fresh_ne h.rs h.d3 hat
  · obtain ⟨g1, g2, g3, g4⟩ := h.gs x hx
    have hlt := (Array.getElem?_eq_some_iff.1 g1).1
    refine ⟨(hg.block x.1 hlt (fun e => g3 e.symm)).trans g1, g2, fun e => ?_, g4⟩
    obtain rfl : g = x.1 := by simpa [Value.ownBlock] using e
    rcases hat with h9 | h9
    · exact g3 h9
    · omega
theorem Rows3.growS (h : Rows3 B te tf w va vo vs A na O no S ns G) {S' : List Value} {ns' g cap : Nat} (hown : w'.ownsRow B te 1 (.slice (some ⟨g, 0, none⟩) ns' cap) ns' S') (hg : w.grownBy w' vs.ownBlock) (hat : vs.ownBlock = some g ∨ g = w.heap.size) :
    Rows3 B te tf w' va vo (.slice (some ⟨g, 0, none⟩) ns' cap) A na O no S' ns' G := by
  have e1 : ∀ k, va.ownBlock = some k → some k ≠ vs.ownBlock := fun k hk e => h.d2 k hk e.symm
  have e2 : ∀ k, vo.ownBlock = some k → some k ≠ vs.ownBlock := fun k hk e => h.d3 k hk e.symm
  refine ⟨owns_keep h.ra fun k hk => hg.block k (h.ra.lt k hk).2 (e1 k hk), owns_keep h.ro fun k hk => hg.block k (h.ro.lt k hk).2 (e2 k hk), hown, h.d1, fun k hk hk2 => ?_, fun k hk hk2 => ?_, fun x hx => ?_⟩
  · obtain rfl : g = k := by simpa [Value.ownBlock] using hk2
    rcases hat with h9 | rfl
    · exact h.d2 _ hk h9
    · exact absurd (h.ra.lt _ hk).2 (Nat.lt_irrefl _)
  · obtain rfl : g = k := by simpa [Value.ownBlock] using hk2
    rcases hat with h9 | rfl
    · exact h.d3 _ hk h9
    · exact absurd (h.ro.lt _ hk).2 (Nat.lt_irrefl _)
  · obtain ⟨g1, g2, g3, g4⟩ := h.gs x hx
    have hlt := (Array.getElem?_eq_some_iff.1 g1).1
    refine ⟨(hg.block x.1 hlt (fun e => g4 e.symm)).trans g1, g2, g3, fun e => ?_⟩
    obtain rfl : g = x.1 := by simpa [Value.ownBlock] using e
    rcases hat with h9 | h9
    · exact g4 h9
    · omega
end
theorem kept_grown {w w' : World} {row : Option Nat} {p B : Nat} (hg : w.grownBy w' row) (hp : p < w.heap.size) (hr : row ≠ some p) (hB : B ≤ w.heap.size) (hb : ∀ k, row = some k → B ≤ k) : KeptB B p w w' :=
  ⟨(Below.refl _ _).grown hg hB hb, hg.block p hp (fun e => hr e.symm)⟩
theorem kept_alloc {w : World} {p B : Nat} (hp : p < w.heap.size) (hB : B ≤ w.heap.size) (o : Obj) : KeptB B p w (w.alloc o) :=
  ⟨(Below.refl _ _).alloc hB o, ((Below.refl w.heap.size w).alloc (Nat.le_refl _) o).block p hp⟩
end Go.Proofs.YtdnpoomagjcpfaaGreat
