/- sched's order, from build's contract. -/
import Derived.Test.YtnfgjcdiophphabSchedPick
import Derived.Test.YtnfgjcdiophphabEagerF
import Derived.Deep.AppendLies
namespace Go.Proofs.Ytnfgjcdiophphab
open Go.RowKit
set_option linter.unusedVariables false
set_option linter.unusedSimpArgs false

def Keep1 (a : Nat) (w w' : World) : Prop := w'.heap[a]? = w.heap[a]?
instance (a : Nat) : PreR (Keep1 a) := ⟨fun w => rfl, fun h k => Eq.trans k h⟩
theorem Keep1.cell {a i : Nat} {w w' : World} (h : Keep1 a w w') : w'.cell? ⟨a, i, none⟩ = w.cell? ⟨a, i, none⟩ := World.cell?_of_block (a := ⟨a, i, none⟩) h

structure BuiltAt (D : Nat → Nat → Bool) (n : Nat) (w w' : World) (go ga gf : Nat) (rows : Nat → Value) (far : Nat → Int) : Prop where
  o : Blk w' go 3 (rowL n fun j => .int .i64 (openC D [] j : Int))
  a : Blk w' ga 24 (rowL n rows)
  f : Blk w' gf 3 (rowL n fun j => .int .i64 (far j))
  r : ∀ i, i < n → OwnI w' w.heap.size (rows i) (wrL (afterU D i n)) ∧ ∀ g, (rows i).ownBlock = some g → g ≠ go ∧ g ≠ ga ∧ g ≠ gf
  lo : w.heap.size ≤ go
  la : w.heap.size ≤ ga
  lf : w.heap.size ≤ gf
  oa : go ≠ ga
  of : go ≠ gf
  af : ga ≠ gf
  bel : Below w.heap.size w w'
def BuildPost (D : Nat → Nat → Bool) (n : Nat) (w : World) (e : Ending) (w' : World) : Prop :=
  ∃ go ga gf rows far, e = .returned (.agg #[.slice (some ⟨go, 0, none⟩) n n, .slice (some ⟨ga, 0, none⟩) n n, .slice (some ⟨gf, 0, none⟩) n n]) ∧ BuiltAt D n w w' go ga gf rows far

/-- the blocks of an order that is being made -/
structure Fix (w : World) (n gb go ga gf gd sb B0 : Nat) (rows : Nat → Value) : Prop where
  lo : w.heap.size ≤ go ∧ go < gb
  la : w.heap.size ≤ ga ∧ ga < gb
  lf : w.heap.size ≤ gf ∧ gf < gb
  oa : go ≠ ga
  of : go ≠ gf
  af : ga ≠ gf
  bd : gb < gd ∧ gd < sb ∧ sb < B0
  r : ∀ i, i < n → ∀ g, (rows i).ownBlock = some g → g < gb ∧ g ≠ go ∧ g ≠ ga ∧ g ≠ gf
structure OrdSt (D : Nat → Nat → Bool) (n : Nat) (w wr : World) (gb go ga gf gd sb B0 : Nat) (rows : Nat → Value) (far : Nat → Int) (op : Nat → Int) (dn : Nat → Bool) (out : List Nat) (v wv : Value) (S : TS) : Prop where
  b : Blk wr gb 195 [.slice (some ⟨go, 0, none⟩) n n, .slice (some ⟨ga, 0, none⟩) n n, .slice (some ⟨gf, 0, none⟩) n n]
  o : Blk wr go 3 (rowL n fun j => .int .i64 (op j))
  a : Blk wr ga 24 (rowL n rows)
  f : Blk wr gf 3 (rowL n fun j => .int .i64 (far j))
  d : Blk wr gd 4 (rowL n fun j => .bool (dn j))
  s : Blk wr sb 190 (stCells S wv)
  r : ∀ i, i < n → OwnI wr w.heap.size (rows i) (wrL (afterU D i n))
  hwv : OwnI wr B0 wv (wrL S.wr)
  hv : OwnI wr B0 v (wrL out)
  ne : ∀ g, wv.ownBlock = some g → v.ownBlock ≠ some g
  bel : Below w.heap.size w wr

section
variable {D : Nat → Nat → Bool} {n : Nat} {w wr w' : World} {gb go ga gf gd sb B0 : Nat} {rows : Nat → Value} {far op : Nat → Int} {dn : Nat → Bool} {out : List Nat} {v wv : Value} {S : TS}
theorem OrdSt.later (h : OrdSt D n w wr gb go ga gf gd sb B0 rows far op dn out v wv S) (hb : Below wr.heap.size wr w') : OrdSt D n w w' gb go ga gf gd sb B0 rows far op dn out v wv S :=
  ⟨h.b.below hb h.b.lt, h.o.below hb h.o.lt, h.a.below hb h.a.lt, h.f.below hb h.f.lt, h.d.below hb h.d.lt, h.s.below hb h.s.lt, fun i hi => ownsRow_below (h.r i hi) hb, ownsRow_below h.hwv hb, ownsRow_below h.hv hb, h.ne, h.bel.trans (hb.mono h.bel.size)⟩
/-- one of the row's cells is written -/
theorem OrdSt.setD (h : OrdSt D n w wr gb go ga gf gd sb B0 rows far op dn out v wv S) (hf : Fix w n gb go ga gf gd sb B0 rows) (i : Nat) : OrdSt D n w (wr.setCell ⟨gd, i, none⟩ (.bool true)) gb go ga gf gd sb B0 rows far op (fun j => if j = i then true else dn j) out v wv S := by
  have h1 := hf.lo
  have h2 := hf.la
  have h3 := hf.lf
  have h4 := hf.bd
  refine ⟨h.b.setOther (a := ⟨gd, i, none⟩) (by show gb ≠ gd; omega) _, h.o.setOther (a := ⟨gd, i, none⟩) (by show go ≠ gd; omega) _, h.a.setOther (a := ⟨gd, i, none⟩) (by show ga ≠ gd; omega) _, h.f.setOther (a := ⟨gd, i, none⟩) (by show gf ≠ gd; omega) _, ?_, h.s.setOther (a := ⟨gd, i, none⟩) (by show sb ≠ gd; omega) _, fun j hj => ?_, ?_, ?_, h.ne, h.bel.setCell (p := ⟨gd, i, none⟩) (by show _ ≤ gd; omega) _⟩
  · exact (h.d.rowSet i (.bool true)).rowCongr fun j hj => by by_cases e : j = i <;> simp [e]
  · exact ownsRow_setCell_other (h.r j hj) (fun e => by have := (hf.r j hj gd e).1; omega) _
  · exact ownI_setOther h.hwv (p := ⟨gd, i, none⟩) (by show gd < B0; omega) _
  · exact ownI_setOther h.hv (p := ⟨gd, i, none⟩) (by show gd < B0; omega) _
theorem OrdSt.setO (h : OrdSt D n w wr gb go ga gf gd sb B0 rows far op dn out v wv S) (hf : Fix w n gb go ga gf gd sb B0 rows) (i : Nat) (x : Int) : OrdSt D n w (wr.setCell ⟨go, i, none⟩ (.int .i64 x)) gb go ga gf gd sb B0 rows far (fun j => if j = i then x else op j) dn out v wv S := by
  have h1 := hf.lo
  have h2 := hf.oa
  have h3 := hf.of
  have h4 := hf.bd
  refine ⟨h.b.setOther (a := ⟨go, i, none⟩) (by show gb ≠ go; omega) _, ?_, h.a.setOther (a := ⟨go, i, none⟩) (by show ga ≠ go; omega) _, h.f.setOther (a := ⟨go, i, none⟩) (by show gf ≠ go; omega) _, h.d.setOther (a := ⟨go, i, none⟩) (by show gd ≠ go; omega) _, h.s.setOther (a := ⟨go, i, none⟩) (by show sb ≠ go; omega) _, fun j hj => ?_, ?_, ?_, h.ne, h.bel.setCell (p := ⟨go, i, none⟩) (by show _ ≤ go; omega) _⟩
  · exact (h.o.rowSet i (.int .i64 x)).rowCongr fun j hj => by by_cases e : j = i <;> simp [e]
  · exact ownsRow_setCell_other (h.r j hj) (fun e => (hf.r j hj go e).2.1 rfl) _
  · exact ownI_setOther h.hwv (p := ⟨go, i, none⟩) (by show go < B0; omega) _
  · exact ownI_setOther h.hv (p := ⟨go, i, none⟩) (by show go < B0; omega) _
/-- the state is stored anew -/
theorem OrdSt.setS (h : OrdSt D n w wr gb go ga gf gd sb B0 rows far op dn out v wv S) (hf : Fix w n gb go ga gf gd sb B0 rows) (S' : TS) (wv' : Value) (hw : OwnI wr B0 wv' (wrL S'.wr)) (hne : ∀ g, wv'.ownBlock = some g → v.ownBlock ≠ some g) :
    OrdSt D n w (wr.setRow sb (stCells S' wv').toArray) gb go ga gf gd sb B0 rows far op dn out v wv' S' := by
  have h1 := hf.lo
  have h2 := hf.la
  have h3 := hf.lf
  have h4 := hf.bd
  have hgr := setRowGr wr sb (stCells S' wv').toArray
  have hoth : ∀ {k : Nat} {t : TypeId} {cs : List Value}, Blk wr k t cs → k ≠ sb → Blk (wr.setRow sb (stCells S' wv').toArray) k t cs := fun hk hne => hk.of_heap (hgr.block _ hk.lt (by simpa using hne))
  have hown : ∀ {base : Nat} {u : Value} {zs : List Int}, OwnI wr base u zs → u.ownBlock ≠ some sb → OwnI (wr.setRow sb (stCells S' wv').toArray) base u zs := fun hu hne => World.ownsRow.kept hu hgr (.inr hne)
  have hB : ∀ {u : Value} {zs : List Int}, OwnI wr B0 u zs → u.ownBlock ≠ some sb := fun hu e => by have := (World.ownsRow.lt hu sb e).1; omega
  refine ⟨hoth h.b (by omega), hoth h.o (by omega), hoth h.a (by omega), hoth h.f (by omega), hoth h.d (by omega), setRowBlk h.s _, fun j hj => hown (h.r j hj) (fun e => by have := (hf.r j hj sb e).1; omega), hown hw (hB hw), hown h.hv (hB h.hv), hne, ?_⟩
  exact h.bel.trans (grown_below hgr (fun g hg => by simp at hg; omega) h.bel.size)
theorem OrdSt.congrO {op' : Nat → Int} (h : OrdSt D n w wr gb go ga gf gd sb B0 rows far op dn out v wv S) (e : ∀ j, j < n → op j = op' j) : OrdSt D n w wr gb go ga gf gd sb B0 rows far op' dn out v wv S :=
  ⟨h.b, h.o.rowCongr fun j hj => by rw [e j hj], h.a, h.f, h.d, h.s, h.r, h.hwv, h.hv, h.ne, h.bel⟩
theorem OrdSt.grow (h : OrdSt D n w wr gb go ga gf gd sb B0 rows far op dn out v wv S) (hf : Fix w n gb go ga gf gd sb B0 rows) (hg : wr.grownBy w' v.ownBlock) {g m cap : Nat} {out' : List Nat} (hown : OwnI w' B0 (.slice (some ⟨g, 0, none⟩) m cap) (wrL out')) (hl : v.ownBlock = some g ∨ g = wr.heap.size) :
    OrdSt D n w w' gb go ga gf gd sb B0 rows far op dn out' (.slice (some ⟨g, 0, none⟩) m cap) wv S := by
  have h1 := hf.lo
  have h2 := hf.la
  have h3 := hf.lf
  have h4 := hf.bd
  have hv : ∀ k, v.ownBlock = some k → B0 ≤ k := fun k hk => (World.ownsRow.lt h.hv k hk).1
  have hoth : ∀ {k : Nat} {t : TypeId} {cs : List Value}, Blk wr k t cs → k < B0 → Blk w' k t cs := fun hk hlt => hk.of_heap (hg.block _ hk.lt (fun e => by have := hv _ e.symm; omega))
  refine ⟨hoth h.b (by omega), hoth h.o (by omega), hoth h.a (by omega), hoth h.f (by omega), hoth h.d (by omega), hoth h.s (by omega), fun j hj => World.ownsRow.kept (h.r j hj) hg ?_, World.ownsRow.kept h.hwv hg ?_, hown, fun k hk e => ?_, ?_⟩
  · cases hb : (rows j).ownBlock with
    | none => exact .inl rfl
    | some k => exact .inr (fun e => by have := hv k e.symm; have := (hf.r j hj k hb).1; omega)
  · cases hb : wv.ownBlock with
    | none => exact .inl rfl
    | some k => exact .inr (fun e => h.ne k hb e.symm)
  · simp only [Value.ownBlock, Option.some.injEq] at e
    subst e
    rcases hl with hl | hl
    · exact h.ne _ hk hl
    · have := (World.ownsRow.lt h.hwv _ hk).2
      omega
  · exact h.bel.trans (grown_below hg (fun k hk => by have := hv k hk; omega) h.bel.size)
end

theorem take_mem {A : List Nat} {q j : Nat} (hq : q < A.length) : j ∈ A.take (q + 1) ↔ j ∈ A.take q ∨ j = A[q] := by
  rw [List.take_succ_eq_append_getElem hq, List.mem_append, List.mem_singleton]
theorem nodup_take {A : List Nat} {q : Nat} (h : A.Nodup) (hq : q < A.length) : A[q] ∉ A.take q := by
  intro hm
  obtain ⟨i, hi, he⟩ := List.mem_take_iff_getElem.1 hm
  exact List.pairwise_iff_getElem.mp h i q (by omega) hq (by omega) he

theorem zeroOk : zeroTS.Ok 0 := ⟨Nat.le_refl _, Nat.le_refl _, Nat.le_refl _, fun _ => Nat.le_refl _, fun x h => by simp [zeroTS] at h, List.Pairwise.nil, by simp [zeroTS]⟩
def IsSched (D : Nat → Nat → Bool) (n : Nat) (out : List Nat) : Prop := Ord D n out ∧ out.length = n
def OrderPost (D : Nat → Nat → Bool) (n : Nat) (w : World) (e : Ending) (w' : World) : Prop :=
  ∃ v out, e = .returned v ∧ IsSched D n out ∧ OwnI w' w.heap.size v (wrL out) ∧ Below w.heap.size w w'
theorem Try.infoB4 : (Try.prog.info? 4).map (fun i => (i.zero, i.size, i.bytes)) = some (some (.bool false), 1, 1) := by kernel_rfl

theorem OrdSt.start {D : Nat → Nat → Bool} {n : Nat} {w w2 : World} {go ga gf : Nat} {rows : Nat → Value} {far : Nat → Int} (h : BuiltAt D n w w2 go ga gf rows far) :
    OrdSt D n w (((w2.alloc (.cells #[.slice (some ⟨go, 0, none⟩) n n, .slice (some ⟨ga, 0, none⟩) n n, .slice (some ⟨gf, 0, none⟩) n n] 195)).alloc (.cells (rowL n fun _ => Value.bool false).toArray 4)).alloc (.cells #[.int .i64 0, .int .i64 0, .int .i64 0, .int .i64 0, .int .i64 0, .int .i64 0, .int .i64 0, .int .i64 0, .int .i64 0, .int .i64 0, .int .i64 0, .int .i64 0, .int .i64 0, .int .i64 0, .int .i64 0, .int .i64 0, .int .i64 0, .int .i64 0, .int .i64 0, .slice none 0 0] 190)) w2.heap.size go ga gf (w2.heap.size + 1) (w2.heap.size + 2) (w2.heap.size + 3) rows far (fun j => (openC D [] j : Int)) (fun j => ([] : List Nat).contains j) [] (.slice none 0 0) (.slice none 0 0) zeroTS ∧ Fix w n w2.heap.size go ga gf (w2.heap.size + 1) (w2.heap.size + 2) (w2.heap.size + 3) rows := by
  have hb : Below w2.heap.size w2 (((w2.alloc (.cells #[.slice (some ⟨go, 0, none⟩) n n, .slice (some ⟨ga, 0, none⟩) n n, .slice (some ⟨gf, 0, none⟩) n n] 195)).alloc (.cells (rowL n fun _ => Value.bool false).toArray 4)).alloc (.cells #[.int .i64 0, .int .i64 0, .int .i64 0, .int .i64 0, .int .i64 0, .int .i64 0, .int .i64 0, .int .i64 0, .int .i64 0, .int .i64 0, .int .i64 0, .int .i64 0, .int .i64 0, .int .i64 0, .int .i64 0, .int .i64 0, .int .i64 0, .int .i64 0, .int .i64 0, .slice none 0 0] 190)) := (((Below.refl _ _).alloc (Nat.le_refl _) _).alloc (by simp) _).alloc (by simp; omega) _
  have h1 := ((Blk.new w2 [.slice (some ⟨go, 0, none⟩) n n, .slice (some ⟨ga, 0, none⟩) n n, .slice (some ⟨gf, 0, none⟩) n n] 195).alloc (.cells (rowL n fun _ => Value.bool false).toArray 4)).alloc (.cells #[.int .i64 0, .int .i64 0, .int .i64 0, .int .i64 0, .int .i64 0, .int .i64 0, .int .i64 0, .int .i64 0, .int .i64 0, .int .i64 0, .int .i64 0, .int .i64 0, .int .i64 0, .int .i64 0, .int .i64 0, .int .i64 0, .int .i64 0, .int .i64 0, .int .i64 0, .slice none 0 0] 190)
  have h2 := (Blk.new (w2.alloc (.cells #[.slice (some ⟨go, 0, none⟩) n n, .slice (some ⟨ga, 0, none⟩) n n, .slice (some ⟨gf, 0, none⟩) n n] 195)) (rowL n fun _ => Value.bool false) 4).alloc (.cells #[.int .i64 0, .int .i64 0, .int .i64 0, .int .i64 0, .int .i64 0, .int .i64 0, .int .i64 0, .int .i64 0, .int .i64 0, .int .i64 0, .int .i64 0, .int .i64 0, .int .i64 0, .int .i64 0, .int .i64 0, .int .i64 0, .int .i64 0, .int .i64 0, .int .i64 0, .slice none 0 0] 190)
  have h3 := Blk.new ((w2.alloc (.cells #[.slice (some ⟨go, 0, none⟩) n n, .slice (some ⟨ga, 0, none⟩) n n, .slice (some ⟨gf, 0, none⟩) n n] 195)).alloc (.cells (rowL n fun _ => Value.bool false).toArray 4)) zCells 190
  rw [World.size_alloc] at h2
  rw [World.size_alloc, World.size_alloc] at h3
  exact ⟨⟨h1, h.o.below hb h.o.lt, h.a.below hb h.a.lt, h.f.below hb h.f.lt, h2, h3, fun i hi => ownsRow_below (h.r i hi).1 hb, World.ownsRow_nil _ _ _ _, World.ownsRow_nil _ _ _ _, fun g hg => by simp [Value.ownBlock] at hg, h.bel.trans (hb.mono h.bel.size)⟩,
    ⟨⟨h.lo, h.o.lt⟩, ⟨h.la, h.a.lt⟩, ⟨h.lf, h.f.lt⟩, h.oa, h.of, h.af, by omega, fun i hi g hg => ⟨(World.ownsRow.lt (h.r i hi).1 g hg).2, (h.r i hi).2 g hg⟩⟩⟩

set_option maxRecDepth 100000 in
set_option maxHeartbeats 8000000 in
theorem order_ok (os : List Op5) (a : Option Addr) (n c : Nat) (w : World) (h : Came w a n c 5 (os.map opC)) (hn : n ≤ 256) (hg : ∀ o ∈ os, GoodOp o)
    (HBU : ∀ w, Came w a n c 5 (os.map opC) → Calls Try.prog 111 #[.slice a n c] w (BuildPost (depB os) n w)) :
    Calls Try.prog 97 #[.slice a n c] w (OrderPost (depB os) n w) := by
  have hl : os.length = n := by simpa using h.count
  have HL := Lib.hid hl
  have HC := Lib.hid h
  have HG := Lib.hid hg
  have hle := h.le
  have hmx := h.max
  have HBW := Lib.hid (HBU w h)
  obtain ⟨D, hD⟩ : ∃ D, D = depB os := ⟨_, rfl⟩
  rw [← hD] at HBW ⊢
  have hmk := run_make_rep (P := Try.prog) 25 4 (.bool false) 1 Try.underlying25 Try.infoB4 rfl n (by omega) (by omega)
  clear hD HBU h hl hg
  go_enter Try.func97, Try.ntmps97
  go_wp2_with fail
  refine HBW.out.mono ?_
  rintro e w2 ⟨go, ga, gf, rows, far, rfl, hb⟩
  have HB2 := Lib.hid hb
  have l1 := hb.o.lt
  have l2 := hb.a.lt
  have l3 := hb.f.lt
  have hs2 := hb.bel.size
  clear hb HBW
  go_upto_region 6 with fail
  obtain ⟨hst, hfx⟩ := OrdSt.start HB2.out
  generalize ((w2.alloc (.cells #[.slice (some ⟨go, 0, none⟩) n n, .slice (some ⟨ga, 0, none⟩) n n, .slice (some ⟨gf, 0, none⟩) n n] 195)).alloc (.cells (rowL n fun _ => Value.bool false).toArray 4)).alloc (.cells #[.int .i64 0, .int .i64 0, .int .i64 0, .int .i64 0, .int .i64 0, .int .i64 0, .int .i64 0, .int .i64 0, .int .i64 0, .int .i64 0, .int .i64 0, .int .i64 0, .int .i64 0, .int .i64 0, .int .i64 0, .int .i64 0, .int .i64 0, .int .i64 0, .int .i64 0, .slice none 0 0] 190) = w3 at hst ⊢
  obtain ⟨gb, hgb⟩ : ∃ g, g = w2.heap.size := ⟨_, rfl⟩
  rw [← hgb] at hst hfx l1 l2 l3 hs2 ⊢
  obtain ⟨gd, hgd⟩ : ∃ g, g = gb + 1 := ⟨_, rfl⟩
  obtain ⟨sb, hsb⟩ : ∃ g, g = gb + 2 := ⟨_, rfl⟩
  obtain ⟨B0, hB0⟩ : ∃ g, g = gb + 3 := ⟨_, rfl⟩
  rw [← hgd, ← hsb, ← hB0] at hst hfx
  rw [show gb + 1 + 1 = sb by omega, ← hgd]
  have HST := Lib.hid hst
  have HFX := Lib.hid hfx
  have hB0s : B0 ≤ w3.heap.size := by have := hst.s.lt; omega
  clear hst hfx hgb hgd hsb hB0 HB2 hmk l1 l2 l3 hs2
  go_loopw [6, 17] (fun v u wx => ∃ (k : Nat) (out : List Nat) (wv : Value) (S : TS), k ≤ n ∧ u = .int .i64 (k : Int) ∧ Ord D n out ∧ out.length = k ∧ S.Ok (k * 20016) ∧ S.wr.length ≤ k ∧ OrdSt D n w wx gb go ga gf gd sb B0 rows far (fun j => (openC D out j : Int)) (fun j => out.contains j) out v wv S ∧ B0 ≤ wx.heap.size) (fun _ u _ => n - (intOf u).toNat)
  case atStart => exact ⟨0, [], .slice none 0 0, zeroTS, Nat.zero_le _, rfl, Ord.nil D n, rfl, by rw [Nat.zero_mul]; exact zeroOk, Nat.le_refl _, HST.out, hB0s⟩
  case round =>
    clear HST hB0s
    obtain ⟨k, out, wv, S, hk, rfl, hord, hol, hok, hwl, hst, hB0w⟩ := hrel
    have HST := Lib.hid hst
    have HOR := Lib.hid hord
    by_cases hlt : k < n
    · have hb0 := hst.b.cell 0
      have hb1 := hst.b.cell 1
      have hb2 := hst.b.cell 2
      simp only [List.getElem?_cons_zero, List.getElem?_cons_succ] at hb0 hb1 hb2
      have HSB := Lib.hid hst.s
      have HSZ : Hid ((Try.prog.info? 190).map (·.size) = some (stCells S wv).toArray.size) := by unfold Hid; kernel_rfl
      have hcw := HC.out.below hst.bel
      have HPI := Lib.hid (pick_ok os a n c S wv go ga gf gd (fun j => (openC D out j : Int)) far (fun j => out.contains j) (k * 20016) wr hcw (by omega) HG.out (by omega) hok (wrAt_own hst.hwv) hst.o hst.f hst.d)
      unfold PickPost at HPI
      clear hord hst hcw
      go_wp2_with (refine wpList_load_row rfl 190 _ rfl sb rfl _ (stCells S wv).toArray _ _ HSB.out Try.underlying190 rfl HSZ.out ?_)
      refine HPI.out.mono ?_
      rintro e w4 ⟨r, rfl, hb4, hpk⟩
      have hpi : ∃ i : Nat, r = (i : Int) ∧ i < n ∧ i ∉ out ∧ openC D out i = 0 := by
        rcases hpk with ⟨_, h2⟩ | ⟨i, h1, h2, h3, h4⟩
        · obtain ⟨i, h3, h4, h5⟩ := HOR.out.open (by omega)
          rcases h2 i h3 with h6 | h6
          · exact absurd (by simpa using h6) h4
          · have h7 : 0 < (openC D out i : Int) := h6
            omega
        · have h7 : ¬ 0 < (openC D out i : Int) := h4
          exact ⟨i, h1, h2, by simpa using h3, by omega⟩
      obtain ⟨i, rfl, hin, hno, hop⟩ := hpi
      have hB04 : B0 ≤ w4.heap.size := by have := hb4.size; omega
      have HS4 := Lib.hid (HST.out.later hb4)
      clear hpk HPI HST hb4 hb0 hb1 hb2 HSB hB0w
      have d4 := HS4.out.d.row hin
      have fd4 := HS4.out.d.free i
      go_upto_region 9 with fail
      have hs5 := HS4.out.setD HFX.out i
      have hsz5 : B0 ≤ (w4.setCell ⟨gd, i, none⟩ (.bool true)).heap.size := by simpa using hB04
      generalize w4.setCell ⟨gd, i, none⟩ (.bool true) = w5 at hs5 hsz5 ⊢
      clear d4 fd4 HS4 hB04
      have hdn : (fun j => if j = i then true else out.contains j) = (fun j => (out ++ [i]).contains j) := by
        funext j
        by_cases e : j = i <;> simp [e]
      rw [hdn] at hs5
      clear hdn
      have hil : i < os.length := by have := HL.out; omega
      obtain ⟨b', off, ea, _, hcell⟩ := came_ops (HC.out.below hs5.bel) (by omega)
      subst ea
      have hbw : b' < w.heap.size := by
        obtain ⟨b2, off2, ea2, hbl2, _⟩ := came_ops HC.out (by omega)
        simp only [Option.some.injEq, Addr.mk.injEq, and_true] at ea2
        rw [ea2.1]; exact hbl2
      have ho := hcell i hil
      have hgo := HG.out _ (List.getElem_mem hil)
      generalize os[i] = oo at ho hgo
      obtain ⟨o, d, aa, bb, nn⟩ := oo
      obtain ⟨c0, c1, c2, c3, c4⟩ := ho
      obtain ⟨hck, _⟩ := hgo
      simp only [] at c0 c1 c2 c3 c4 hck
      obtain ⟨rd, ra, rb⟩ := good_regs hck
      have HI := fun w h => Lib.hid (issue_ok S wv o d aa bb nn 0 w (k * 20016) (by omega) (by omega) hck rd ra rb hok h)
      have HNX := Lib.hid (nextS_ok hok o d aa bb 0 (by omega) (by omega))
      unfold IssuePost at HI
      simp only [show ((0 : Nat) : Int) = 0 from rfl] at HI
      obtain ⟨S', hS'⟩ : ∃ S', S' = nextS S o d aa bb 0 := ⟨_, rfl⟩
      obtain ⟨t, ht⟩ : ∃ t, t = startOf S o d aa bb (latOf o + 0) := ⟨_, rfl⟩
      rw [← hS', ← ht] at HI
      rw [← hS'] at HNX
      clear hS' ht hck rd ra rb hcell
      have hbsb : b' < sb := by have := HFX.out.bd; have := HFX.out.lo; omega
      refine wp_region_eagerRF (Keep1 b') [(1, true), (2, true), (3, true), (4, true), (0, false), (5, false), (6, true), (7, true), (8, true), (9, true), (10, false)] (by kernel_rfl) (by kernel_rfl) ?_
      have hde : Below w5.heap.size w5 w5.drew := (Below.refl _ _).drew
      have HS6 := Lib.hid (hs5.later hde)
      have hsz6 : B0 ≤ w5.drew.heap.size := hsz5
      have r0 : ∀ y : AfterR (Keep1 b') w5.drew, y.world.cell? ⟨b', off + i * 5, none⟩ = some (.int .i64 o) := fun y => (Keep1.cell y.rel).trans c0
      have r1 : ∀ y : AfterR (Keep1 b') w5.drew, y.world.cell? ⟨b', off + i * 5 + 1, none⟩ = some (.int .i64 d) := fun y => (Keep1.cell y.rel).trans c1
      have r2 : ∀ y : AfterR (Keep1 b') w5.drew, y.world.cell? ⟨b', off + i * 5 + 2, none⟩ = some (.int .i64 aa) := fun y => (Keep1.cell y.rel).trans c2
      have r3 : ∀ y : AfterR (Keep1 b') w5.drew, y.world.cell? ⟨b', off + i * 5 + 3, none⟩ = some (.int .i64 bb) := fun y => (Keep1.cell y.rel).trans c3
      have r4 : ∀ y : AfterR (Keep1 b') w5.drew, y.world.cell? ⟨b', off + i * 5 + 4, none⟩ = some (.int .i64 nn) := fun y => (Keep1.cell y.rel).trans c4
      clear c0 c1 c2 c3 c4 hde hs5 hsz5
      generalize w5.drew = w6 at *
      repeat (refine eagR_readF rfl ?_; go_big_quiet_step (fail); refine wpQuiet_nil ?_)
      clear r0 r1 r2 r3 r4
      refine eagR_doesF rfl rfl ?_
      intro K hK
      refine wp_load_row 190 _ rfl sb rfl _ (stCells S wv).toArray _ _ HS6.out.s Try.underlying190 rfl HSZ.out ?_
      refine hK _ _ (fun _ => PreR.refl _) ?_
      clear hK K
      go_simp
      refine eagR_doesF rfl rfl ?_
      intro K hK
      go_simp
      refine (HI w6 (wrAt_own HS6.out.hwv)).out.mono ?_
      rintro e w7 ⟨wv', rfl, hown, hb7⟩
      obtain ⟨va, vl, vc, rfl⟩ := owns_shape hown
      have hb6w : b' < w6.heap.size := by have := HFX.out.bd; have := HFX.out.lo; omega
      refine hK _ _ (fun _ => hb7.block b' hb6w) ?_
      clear hK K
      go_simp
      have hsz7 : B0 ≤ w7.heap.size := by have := hb7.size; omega
      have HS7 := Lib.hid (HS6.out.later hb7)
      have HW7 := Lib.hid (owns_base hown hsz6)
      have hne : ∀ g, (Value.slice va vl vc).ownBlock = some g → u6.ownBlock ≠ some g := fun g hg e => by
        have h1 := (World.ownsRow.lt hown g hg).1
        have h2 := (World.ownsRow.lt HS6.out.hv g e).2
        omega
      have HNE := Lib.hid hne
      have HSZ7 : Hid ((Try.prog.info? 190).map (·.size) = some (stCells S' (.slice va vl vc)).toArray.size) := by unfold Hid; kernel_rfl
      clear hown hb7 hne HI HS6 hb6w hsz6
      repeat (refine eagR_readF rfl ?_; go_big_quiet_step (fail); refine wpQuiet_nil ?_)
      refine eagR_doesF rfl rfl ?_
      intro K hK
      refine wp_store_row 190 _ _ rfl sb (stCells S' (.slice va vl vc)).toArray rfl rfl _ _ HS7.out.s HSZ7.out rfl (st_one _ _ rfl) ?_
      refine hK _ _ (fun _ => (setRowGr w7 sb _).block b' (by have := HFX.out.bd; have := HFX.out.lo; omega) (by simp; omega)) ?_
      clear hK K
      go_simp
      refine eagR_endF ?_
      have hs8 := HS7.out.setS HFX.out S' (.slice va vl vc) HW7.out HNE.out
      have hsz8 : B0 ≤ (w7.setRow sb (stCells S' (.slice va vl vc)).toArray).heap.size := Nat.le_trans hsz7 (setRowGr w7 sb _).size
      generalize w7.setRow sb (stCells S' (.slice va vl vc)).toArray = w8 at hs8 hsz8 ⊢
      have HS8 := Lib.hid hs8
      clear HS7 HW7 HNE HSZ7 hs8 hsz7
      obtain ⟨ra', rm, rc, hrv⟩ := owns_shape (HS8.out.r i hin)
      have hrow := ownI_came (hrv ▸ HS8.out.r i hin)
      obtain ⟨hrm, hrcm⟩ := hrow
      have hrm' : rm = (afterU D i n).length := by simpa [wrL] using hrm
      have HRM := Lib.hid hrm'
      have HRC := Lib.hid hrcm
      have hrle := hrcm.le
      have hrmx := hrcm.max
      have hb1 := HS8.out.b.cell 1
      have ha1 := HS8.out.a.row hin
      rw [hrv] at ha1
      simp only [List.getElem?_cons_zero, List.getElem?_cons_succ] at hb1
      clear hrm hrm' hrcm
      go_wp2_with fail
      clear hb1 ha1 HRC
      obtain ⟨A, hA⟩ : ∃ A, A = afterU D i n := ⟨_, rfl⟩
      have HA := Lib.hid hA
      have hAN : A.Nodup := by rw [hA]; exact afterU_nodup D i n
      have hAM : ∀ j, j ∈ A ↔ j < n ∧ i < j ∧ D i j = true := fun j => by rw [hA]; exact afterU_mem
      have HAN := Lib.hid hAN
      have HAM := Lib.hid hAM
      rw [← hA] at HRM
      clear hA hAN hAM
      go_loopw [43] (fun u wx => ∃ q : Nat, q ≤ rm ∧ u = .int .i64 (q : Int) ∧ OrdSt D n w wx gb go ga gf gd sb B0 rows far (fun j => (openC D out j : Int) - (if j ∈ A.take q then 1 else 0)) (fun j => (out ++ [i]).contains j) out u6 (.slice va vl vc) S' ∧ B0 ≤ wx.heap.size) (fun u _ => rm - (intOf u).toNat)
      case atStart => exact ⟨0, Nat.zero_le _, rfl, HS8.out.congrO fun j _ => by simp, hsz8⟩
      case round =>
        clear HS8 hsz8
        obtain ⟨q, hq, rfl, hs9, hsz9⟩ := hrel
        have HS9 := Lib.hid hs9
        clear hs9
        by_cases hlq : q < rm
        · have hqA : q < A.length := by have := HRM.out; omega
          have hrc := (ownI_came (hrv ▸ HS9.out.r i hin)).2
          rw [← HA.out] at hrc
          obtain ⟨b2, o2, ea2, hb2l, hc2⟩ := hrc.ints (by omega)
          subst ea2
          have cl := hc2 q (by simp [wrL]; exact hqA)
          obtain ⟨j, hj⟩ : ∃ j, j = A[q] := ⟨_, rfl⟩
          have cl2 : wr.cell? ⟨b2, o2 + q, none⟩ = some (.int .i64 (j : Int)) := by rw [cl, hj]; simp [wrL]
          have hjm := (HAM.out j).1 (by rw [hj]; exact List.getElem_mem hqA)
          have hnt := nodup_take HAN.out hqA
          have htm := fun jj => take_mem (j := jj) hqA
          rw [← hj] at hnt htm
          have hco := HS9.out.o.row hjm.1
          simp only [if_neg hnt, Int.sub_zero] at hco
          have hsn := openC_snoc (D := D) hno j
          rw [if_pos hjm.2] at hsn
          have hcl := openC_le D out j
          have hjn := hjm.1
          obtain ⟨x, hx⟩ : ∃ x, x = openC D out j := ⟨_, rfl⟩
          rw [← hx] at hco hsn hcl
          have HX := Lib.hid hx
          have HNT := Lib.hid hnt
          have HTM := Lib.hid htm
          have gb0 := HS9.out.b.cell 0
          simp only [List.getElem?_cons_zero, List.getElem?_cons_succ] at gb0
          have fo := HS9.out.o.free j
          have hx1 : 1 ≤ x := by omega
          clear cl hc2 hj hjm hx hnt htm hrc hsn
          go_wp2_with fail
          go_roundw
          case rel =>
            refine ⟨q + 1, by omega, by go_num, (HS9.out.setO HFX.out j ((x : Int) - 1)).congrO fun jj _ => ?_, by simpa using hsz9⟩
            by_cases e : jj = j
            · subst e
              simp only [if_true, if_pos ((HTM.out jj).2 (.inr rfl)), HX.out]
            · simp only [if_neg e]
              by_cases e2 : jj ∈ A.take q
              · rw [if_pos e2, if_pos ((HTM.out jj).2 (.inl e2))]
              · rw [if_neg e2, if_neg (fun e3 => by
                  rcases (HTM.out jj).1 e3 with e4 | e4
                  · exact e2 e4
                  · exact e e4)]
          case measure => simp [intOf]; omega
        · have eq : q = rm := by omega
          have hs10 : OrdSt D n w wr gb go ga gf gd sb B0 rows far (fun j => (openC D (out ++ [i]) j : Int)) (fun j => (out ++ [i]).contains j) out u6 (.slice va vl vc) S' := HS9.out.congrO fun j hj => by
            rw [List.take_of_length_le (by have := HRM.out; omega)]
            have hsn := openC_snoc (D := D) hno j
            by_cases e : j ∈ A
            · rw [if_pos e]
              rw [if_pos ((HAM.out j).1 e).2] at hsn
              omega
            · rw [if_neg e]
              rw [if_neg (fun e2 => e ((HAM.out j).2 ⟨hj, e2⟩))] at hsn
              omega
          have hba : Below wr.heap.size wr (wr.alloc (.cells #[.int .i64 (i : Int)] 3)) := (Below.refl _ _).alloc (Nat.le_refl _) _
          have HS11 := Lib.hid (hs10.later hba)
          have HA2 := Lib.hid (cell_one_new wr (.int .i64 (i : Int)) 3)
          have HA3 : Hid (∀ u ∈ ([Value.int .i64 (i : Int)] : List Value), u.oneCell' = true) := by intro u hu; simp at hu; subst hu; rfl
          have hwol : (wrL out).length ≤ 256 := by simp [wrL]; omega
          obtain ⟨i0, hi0, hz0, hz1, hz2⟩ := info_parts Try.infoT3
          clear hs10 hba HS9
          go_wp2_with (at_builtin; refine wpList_append_lies _ rfl _ _ 24 rfl B0 3 i0 (.int .i64 0) 1 8 Try.underlying24 hi0 hz0 hz1 hz2 rfl (by decide) _ _ _ rfl HS11.out.hv ⟨wr.heap.size, 0, none⟩ 1 1 [.int .i64 (i : Int)] rfl rfl HA2.out HA3.out (by decide) (by unfold maxLen; omega) (by omega) (by simp; omega) (wr.heap.size + 1) (by simp) ?_)
          intro g cap w12 hown12 hgr12 hlie12 hlt12
          have how : OwnI w12 B0 (.slice (some ⟨g, 0, none⟩) ((wrL out).length + 1) cap) (wrL (out ++ [i])) := by
            rw [wrL_append]
            unfold OwnI
            rw [List.length_append, intVs_append]
            exact hown12
          have HS12 := Lib.hid (HS11.out.grow HFX.out hgr12 how (by simpa using hlie12))
          have hsz12 : B0 ≤ w12.heap.size := by have := hgr12.size; simp at this; omega
          clear hown12 hgr12 hlie12 hlt12 how HS11 HA2 HA3
          go_wp2_with fail
          go_roundw
          case rel => exact ⟨k + 1, out ++ [i], _, _, by omega, by go_num, HOR.out.next hno hin hop, by simp; omega, by rw [Nat.add_mul, Nat.one_mul]; exact HNX.out.1, by have := HNX.out.2; omega, HS12.out, hsz12⟩
          case measure => simp [intOf]; omega
    · have ek : k = n := by omega
      subst ek
      have HV := Lib.hid hst.hv
      have HBE := Lib.hid hst.bel
      have hB0' : w.heap.size ≤ B0 := by have := HFX.out.bd; have := HFX.out.lo; omega
      clear hst HST
      go_wp2_with fail
      go_ret
      exact ⟨u6, out, rfl, ⟨hord, hol⟩, owns_base HV.out hB0', HBE.out⟩
end Go.Proofs.Ytnfgjcdiophphab
