/- sched's build. -/
import Derived.Test.YtnfgjcdiophphabSchedOrder
import Derived.Test.YtnfgjcdiophphabForks
namespace Go.Proofs.Ytnfgjcdiophphab
open Go.RowKit
set_option linter.unusedVariables false
set_option linter.unusedSimpArgs false

theorem split_region {P : Program} {c : Code} {Q : Exit → Act → World → Prop} {a : Act} {w : World} (F : Nat → Nat → Nat → Nat → World → Prop) (A : Nat → Nat → Nat → Nat → Act)
    (h1 : Code.wp P c (fun e a' w' => ∃ g0 g1 g2 g3, e = .normal ∧ a' = A g0 g1 g2 g3 ∧ F g0 g1 g2 g3 w') a w) (h2 : ∀ g0 g1 g2 g3 w', F g0 g1 g2 g3 w' → Q .normal (A g0 g1 g2 g3) w') : Code.wp P c Q a w :=
  Code.wp_mono (fun e a' w' h => by obtain ⟨g0, g1, g2, g3, rfl, rfl, h⟩ := h; exact h2 _ _ _ _ _ h) h1
def Keep2 (a b : Nat) (w w' : World) : Prop := w'.heap[a]? = w.heap[a]? ∧ w'.heap[b]? = w.heap[b]?
instance (a b : Nat) : PreR (Keep2 a b) := ⟨fun w => ⟨rfl, rfl⟩, fun h k => ⟨k.1.trans h.1, k.2.trans h.2⟩⟩
theorem Keep2.cell1 {a b i : Nat} {w w' : World} (h : Keep2 a b w w') : w'.cell? ⟨a, i, none⟩ = w.cell? ⟨a, i, none⟩ := World.cell?_of_block (a := ⟨a, i, none⟩) h.1
theorem Keep2.cell2 {a b i : Nat} {w w' : World} (h : Keep2 a b w w') : w'.cell? ⟨b, i, none⟩ = w.cell? ⟨b, i, none⟩ := World.cell?_of_block (a := ⟨b, i, none⟩) h.2
def Keep3 (a b c : Nat) (w w' : World) : Prop := w'.heap[a]? = w.heap[a]? ∧ w'.heap[b]? = w.heap[b]? ∧ w'.heap[c]? = w.heap[c]?
instance (a b c : Nat) : PreR (Keep3 a b c) := ⟨fun w => ⟨rfl, rfl, rfl⟩, fun h k => ⟨k.1.trans h.1, k.2.1.trans h.2.1, k.2.2.trans h.2.2⟩⟩
theorem Keep3.cell1 {a b c i : Nat} {w w' : World} (h : Keep3 a b c w w') : w'.cell? ⟨a, i, none⟩ = w.cell? ⟨a, i, none⟩ := World.cell?_of_block (a := ⟨a, i, none⟩) h.1
theorem Keep3.cell2 {a b c i : Nat} {w w' : World} (h : Keep3 a b c w w') : w'.cell? ⟨b, i, none⟩ = w.cell? ⟨b, i, none⟩ := World.cell?_of_block (a := ⟨b, i, none⟩) h.2.1
theorem Keep3.cell3 {a b c i : Nat} {w w' : World} (h : Keep3 a b c w w') : w'.cell? ⟨c, i, none⟩ = w.cell? ⟨c, i, none⟩ := World.cell?_of_block (a := ⟨c, i, none⟩) h.2.2
theorem good_op {o : Op5} (h : GoodOp o) : 0 ≤ o.op ∧ o.op ≤ 24 := by
  have := h.2
  simp only [strB, Bool.or_eq_true, decide_eq_true_eq, beq_iff_eq] at this
  omega
def AnyW (_ _ : World) : Prop := True
instance : PreR AnyW := ⟨fun _ => trivial, fun _ _ => trivial⟩
theorem forks_four {P : Program} {ops : Array Oper} {R : World → World → Prop} [PreR R] {Q : Act → World → Prop} {f : Nat} {listed : Array Bool} {a : Act} {b : World} (i j k l : Nat) (hl : Region.ready .any ops listed = [i, j, k, l])
    (h1 : Does P ops R Q f listed a b i) (h2 : Does P ops R Q f listed a b j) (h3 : Does P ops R Q f listed a b k) (h4 : Does P ops R Q f listed a b l) : anyR P ops R Q (f + 1) listed a b :=
  forks_does [i, j, k, l] hl (by simp) (by intro m hm; simp at hm; rcases hm with rfl | rfl | rfl | rfl <;> assumption)

section
variable (w : World) (c0 c1 c2 c3 : List Value) (t0 t1 t2 t3 : TypeId)
theorem blk0 : Blk ((((w.alloc (.cells c0.toArray t0)).alloc (.cells c1.toArray t1)).alloc (.cells c2.toArray t2)).alloc (.cells c3.toArray t3)) w.heap.size t0 c0 := (((Blk.new w c0 t0).alloc _).alloc _).alloc _
theorem blk1 : Blk ((((w.alloc (.cells c0.toArray t0)).alloc (.cells c1.toArray t1)).alloc (.cells c2.toArray t2)).alloc (.cells c3.toArray t3)) (w.heap.size + 1) t1 c1 := by
  have h := ((Blk.new (w.alloc (.cells c0.toArray t0)) c1 t1).alloc (.cells c2.toArray t2)).alloc (.cells c3.toArray t3)
  rw [World.size_alloc] at h
  exact h
theorem blk2 : Blk ((((w.alloc (.cells c0.toArray t0)).alloc (.cells c1.toArray t1)).alloc (.cells c2.toArray t2)).alloc (.cells c3.toArray t3)) (w.heap.size + 1 + 1) t2 c2 := by
  have h := (Blk.new ((w.alloc (.cells c0.toArray t0)).alloc (.cells c1.toArray t1)) c2 t2).alloc (.cells c3.toArray t3)
  rw [World.size_alloc, World.size_alloc] at h
  exact h
theorem blk3 : Blk ((((w.alloc (.cells c0.toArray t0)).alloc (.cells c1.toArray t1)).alloc (.cells c2.toArray t2)).alloc (.cells c3.toArray t3)) (w.heap.size + 1 + 1 + 1) t3 c3 := by
  have h := Blk.new (((w.alloc (.cells c0.toArray t0)).alloc (.cells c1.toArray t1)).alloc (.cells c2.toArray t2)) c3 t3
  rw [World.size_alloc, World.size_alloc, World.size_alloc] at h
  exact h
end
structure Made4 (n : Nat) (w : World) (go ga gf gg : Nat) (w' : World) : Prop where
  o : Blk w' go 3 (rowL n fun _ => .int .i64 0)
  a : Blk w' ga 24 (rowL n fun _ => .slice none 0 0)
  f : Blk w' gf 3 (rowL n fun _ => .int .i64 0)
  g : Blk w' gg 195 [.slice (some ⟨go, 0, none⟩) n n, .slice (some ⟨ga, 0, none⟩) n n, .slice (some ⟨gf, 0, none⟩) n n]
  lo : w.heap.size ≤ go
  la : w.heap.size ≤ ga
  lf : w.heap.size ≤ gf
  lg : w.heap.size ≤ gg
  oa : go ≠ ga
  of : go ≠ gf
  og : go ≠ gg
  af : ga ≠ gf
  ag : ga ≠ gg
  fg : gf ≠ gg
  bel : Below w.heap.size w w'
theorem Try.infoR24 : (Try.prog.info? 24).map (fun i => (i.zero, i.size, i.bytes)) = some (some (.slice none 0 0), 1, 24) := by kernel_rfl

/-- the graph while it is being built -/
structure FixB (w : World) (go ga gf gg gr B1 : Nat) : Prop where
  lo : w.heap.size ≤ go ∧ go < B1
  la : w.heap.size ≤ ga ∧ ga < B1
  lf : w.heap.size ≤ gf ∧ gf < B1
  lg : w.heap.size ≤ gg ∧ gg < B1
  lr : w.heap.size ≤ gr ∧ gr < B1
  oa : go ≠ ga
  of : go ≠ gf
  og : go ≠ gg
  af : ga ≠ gf
  ag : ga ≠ gg
  fg : gf ≠ gg
  ro : gr ≠ go
  ra : gr ≠ ga
  rf : gr ≠ gf
  rg : gr ≠ gg
structure BSt (n : Nat) (w wr : World) (go ga gf gg gr B1 : Nat) (rows : Nat → Value) (L : Nat → List Nat) (op far : Nat → Int) : Prop where
  o : Blk wr go 3 (rowL n fun j => .int .i64 (op j))
  a : Blk wr ga 24 (rowL n rows)
  f : Blk wr gf 3 (rowL n fun j => .int .i64 (far j))
  g : Blk wr gg 195 [.slice (some ⟨go, 0, none⟩) n n, .slice (some ⟨ga, 0, none⟩) n n, .slice (some ⟨gf, 0, none⟩) n n]
  s : Blk wr gr 195 [.slice none 0 0, .slice none 0 0, .slice none 0 0]
  r : ∀ j, j < n → OwnI wr B1 (rows j) (wrL (L j))
  dj : ∀ j j', j < n → j' < n → j ≠ j' → ∀ k, (rows j).ownBlock = some k → (rows j').ownBlock ≠ some k
  bel : Below w.heap.size w wr
section
variable {n : Nat} {w wr w' : World} {go ga gf gg gr B1 : Nat} {rows : Nat → Value} {L : Nat → List Nat} {op far : Nat → Int}
theorem BSt.later (h : BSt n w wr go ga gf gg gr B1 rows L op far) (hb : Below wr.heap.size wr w') : BSt n w w' go ga gf gg gr B1 rows L op far :=
  ⟨h.o.below hb h.o.lt, h.a.below hb h.a.lt, h.f.below hb h.f.lt, h.g.below hb h.g.lt, h.s.below hb h.s.lt, fun j hj => ownsRow_below (h.r j hj) hb, h.dj, h.bel.trans (hb.mono h.bel.size)⟩
theorem BSt.congr {L' : Nat → List Nat} {op' : Nat → Int} (h : BSt n w wr go ga gf gg gr B1 rows L op far) (e : ∀ j, j < n → op j = op' j) (e2 : ∀ j, j < n → L j = L' j) : BSt n w wr go ga gf gg gr B1 rows L' op' far :=
  ⟨h.o.rowCongr fun j hj => by rw [e j hj], h.a, h.f, h.g, h.s, fun j hj => by rw [← e2 j hj]; exact h.r j hj, h.dj, h.bel⟩
theorem BSt.setO (h : BSt n w wr go ga gf gg gr B1 rows L op far) (hf : FixB w go ga gf gg gr B1) (i : Nat) (x : Int) : BSt n w (wr.setCell ⟨go, i, none⟩ (.int .i64 x)) go ga gf gg gr B1 rows L (fun j => if j = i then x else op j) far := by
  have h1 := hf.lo
  refine ⟨?_, h.a.setOther (a := ⟨go, i, none⟩) (fun e => hf.oa (by exact e.symm)) _, h.f.setOther (a := ⟨go, i, none⟩) (fun e => hf.of (by exact e.symm)) _, h.g.setOther (a := ⟨go, i, none⟩) (fun e => hf.og (by exact e.symm)) _, h.s.setOther (a := ⟨go, i, none⟩) (fun e => hf.ro (by exact e)) _, fun j hj => ownI_setOther (h.r j hj) (p := ⟨go, i, none⟩) (by show go < B1; omega) _, h.dj, h.bel.setCell (p := ⟨go, i, none⟩) (by show _ ≤ go; omega) _⟩
  exact (h.o.rowSet i (.int .i64 x)).rowCongr fun j hj => by by_cases e : j = i <;> simp [e]
theorem BSt.setF (h : BSt n w wr go ga gf gg gr B1 rows L op far) (hf : FixB w go ga gf gg gr B1) (i : Nat) (x : Int) : BSt n w (wr.setCell ⟨gf, i, none⟩ (.int .i64 x)) go ga gf gg gr B1 rows L op (fun j => if j = i then x else far j) := by
  have h1 := hf.lf
  refine ⟨h.o.setOther (a := ⟨gf, i, none⟩) (fun e => hf.of (by exact e)) _, h.a.setOther (a := ⟨gf, i, none⟩) (fun e => hf.af (by exact e)) _, ?_, h.g.setOther (a := ⟨gf, i, none⟩) (fun e => hf.fg (by exact e.symm)) _, h.s.setOther (a := ⟨gf, i, none⟩) (fun e => hf.rf (by exact e)) _, fun j hj => ownI_setOther (h.r j hj) (p := ⟨gf, i, none⟩) (by show gf < B1; omega) _, h.dj, h.bel.setCell (p := ⟨gf, i, none⟩) (by show _ ≤ gf; omega) _⟩
  exact (h.f.rowSet i (.int .i64 x)).rowCongr fun j hj => by by_cases e : j = i <;> simp [e]
/-- row i has grown, and is laid into its place -/
theorem BSt.addA (h : BSt n w wr go ga gf gg gr B1 rows L op far) (hf : FixB w go ga gf gg gr B1) {i : Nat} (hi : i < n) (hg : wr.grownBy w' (rows i).ownBlock) {g m cap : Nat} {l : List Nat} (hown : OwnI w' B1 (.slice (some ⟨g, 0, none⟩) m cap) (wrL l)) (hl : (rows i).ownBlock = some g ∨ g = wr.heap.size) (hB : B1 ≤ wr.heap.size) :
    BSt n w (w'.setCell ⟨ga, i, none⟩ (.slice (some ⟨g, 0, none⟩) m cap)) go ga gf gg gr B1 (fun j => if j = i then .slice (some ⟨g, 0, none⟩) m cap else rows j) (fun j => if j = i then l else L j) op far := by
  have h1 := hf.lo
  have h2 := hf.la
  have h3 := hf.lf
  have h4 := hf.lg
  have h5 := hf.lr
  have hv : ∀ k, (rows i).ownBlock = some k → B1 ≤ k := fun k hk => (World.ownsRow.lt (h.r i hi) k hk).1
  have hgB : B1 ≤ g := by
    rcases hl with hl | hl
    · exact hv g hl
    · omega
  have hoth : ∀ {k : Nat} {t : TypeId} {cs : List Value}, Blk wr k t cs → k < B1 → Blk w' k t cs := fun hk hlt => hk.of_heap (hg.block _ hk.lt (fun e => by have := hv _ e.symm; omega))
  refine ⟨(hoth h.o (by omega)).setOther (a := ⟨ga, i, none⟩) (fun e => hf.oa (by exact e)) _, ?_, (hoth h.f (by omega)).setOther (a := ⟨ga, i, none⟩) (fun e => hf.af (by exact e.symm)) _, (hoth h.g (by omega)).setOther (a := ⟨ga, i, none⟩) (fun e => hf.ag (by exact e.symm)) _, (hoth h.s (by omega)).setOther (a := ⟨ga, i, none⟩) (fun e => hf.ra (by exact e)) _, fun j hj => ?_, fun j j' hj hj' hne k hk => ?_, ?_⟩
  · exact ((hoth h.a (by omega)).rowSet i _)
  · refine ownI_setOther (p := ⟨ga, i, none⟩) ?_ (by show ga < B1; omega) _
    by_cases e : j = i
    · simp only [if_pos e]; exact hown
    · simp only [if_neg e]
      refine World.ownsRow.kept (h.r j hj) hg ?_
      cases hb : (rows j).ownBlock with
      | none => exact .inl rfl
      | some k => exact .inr (fun e2 => h.dj j i hj hi e k hb e2.symm)
  · by_cases e : j = i
    · simp only [if_pos e, Value.ownBlock, Option.some.injEq] at hk
      subst hk
      have e' : j' ≠ i := fun e2 => hne (by rw [e, e2])
      simp only [if_neg e']
      rcases hl with hl | hl
      · exact h.dj i j' hi hj' (fun e2 => e' e2.symm) _ hl
      · intro e2; have := (World.ownsRow.lt (h.r j' hj') _ e2).2; omega
    · simp only [if_neg e] at hk
      by_cases e' : j' = i
      · simp only [if_pos e', Value.ownBlock, ne_eq, Option.some.injEq]
        intro e2
        subst e2
        rcases hl with hl | hl
        · exact h.dj i j hi hj (fun e3 => e e3.symm) _ hl hk
        · have := (World.ownsRow.lt (h.r j hj) _ hk).2; omega
      · simp only [if_neg e']
        exact h.dj j j' hj hj' hne k hk
  · exact (h.bel.trans (grown_below hg (fun k hk => by have := hv k hk; omega) h.bel.size)).setCell (p := ⟨ga, i, none⟩) (by show _ ≤ ga; omega) _
theorem BSt.final {D : Nat → Nat → Bool} (h : BSt n w wr go ga gf gg gr B1 rows L (fun j => (openF D 0 j : Int)) far) (hf : FixB w go ga gf gg gr B1) (hL : ∀ j, j < n → L j = afterU D j n) {cs : Array Value} : BuiltAt D n w (wr.setRow gr cs) go ga gf rows far := by
  have hgr := setRowGr wr gr cs
  have hoth : ∀ {k : Nat} {t : TypeId} {cs' : List Value}, Blk wr k t cs' → k ≠ gr → Blk (wr.setRow gr cs) k t cs' := fun hk hne => hk.of_heap (hgr.block _ hk.lt (by simpa using hne))
  have h1 := hf.lo
  have h2 := hf.la
  have h3 := hf.lf
  have h5 := hf.lr
  refine ⟨(hoth h.o (fun e => hf.ro e.symm)).rowCongr fun j hj => by rw [openF_zero], hoth h.a (fun e => hf.ra e.symm), hoth h.f (fun e => hf.rf e.symm), fun j hj => ?_, h1.1, h2.1, h3.1, hf.oa, hf.of, hf.af, h.bel.trans (grown_below hgr (fun g hg => by simp at hg; omega) h.bel.size)⟩
  have hr := h.r j hj
  rw [hL j hj] at hr
  have hlt : ∀ g, (rows j).ownBlock = some g → B1 ≤ g := fun g hg => (World.ownsRow.lt hr g hg).1
  refine ⟨owns_base (World.ownsRow.kept hr hgr ?_) (by omega), fun g hg => ?_⟩
  · cases hb : (rows j).ownBlock with
    | none => exact .inl rfl
    | some k => exact .inr (fun e => by have := hlt k hb; simp at e; omega)
  · have := hlt g hg
    exact ⟨by omega, by omega, by omega⟩
end

set_option maxRecDepth 100000 in
set_option maxHeartbeats 8000000 in
theorem build_ok (os : List Op5) (a : Option Addr) (n c : Nat) (w : World) (h : Came w a n c 5 (os.map opC)) (hn : n ≤ 256) (hg : ∀ o ∈ os, GoodOp o) :
    Calls Try.prog 111 #[.slice a n c] w (BuildPost (depB os) n w) := by
  have hl : os.length = n := by simpa using h.count
  have HL := Lib.hid hl
  have HC := Lib.hid h
  have HG := Lib.hid hg
  have hle := h.le
  have hmx := h.max
  have hmk1 := run_make_rep (P := Try.prog) 24 3 (.int .i64 0) 8 Try.underlying24 Try.infoT3 rfl n (by omega) (by omega)
  have hmk2 := run_make_rep (P := Try.prog) 193 24 (.slice none 0 0) 24 Try.underlying193 Try.infoR24 rfl n (by omega) (by omega)
  obtain ⟨D, hD⟩ : ∃ D, D = depB os := ⟨_, rfl⟩
  have HDE : Hid (∀ i k (hi : i < os.length) (hk : k < os.length), D i k = depOf os[i].op os[i].d os[i].a os[i].b os[k].op os[k].d os[k].a os[k].b) := fun i k hi hk => by rw [hD]; unfold depB; rw [opAt0_get hi, opAt0_get hk]
  rw [← hD]
  clear h hl hg hD
  have HR := Lib.hid (Blk.new w [.slice none 0 0, .slice none 0 0, .slice none 0 0] 195)
  have HB := Lib.hid ((Below.refl w.heap.size w).alloc (Nat.le_refl _) (.cells #[.slice none 0 0, .slice none 0 0, .slice none 0 0] 195))
  go_enter Try.func111, Try.ntmps111
  go_upto_region 1 with fail
  obtain ⟨gr, hgr⟩ : ∃ g, g = w.heap.size := ⟨_, rfl⟩
  rw [← hgr] at HR ⊢
  have HGR := Lib.hid hgr
  clear hgr
  generalize w.alloc (.cells #[.slice none 0 0, .slice none 0 0, .slice none 0 0] 195) = w1 at HR HB ⊢
  refine split_region (fun go ga gf gg w' => Made4 n w1 go ga gf gg w') (fun go ga gf gg => { tmps := #[.slice a n c, undef, .pointer (some ⟨gr, 0, none⟩), .pointer (some ⟨gg, 0, none⟩), undef, undef, .slice a n c, .int .i64 (n : Int), .slice (some ⟨go, 0, none⟩) n n, .slice a n c, .int .i64 (n : Int), .slice (some ⟨ga, 0, none⟩) n n, .slice a n c, .int .i64 (n : Int), .slice (some ⟨gf, 0, none⟩) n n, .agg #[.slice (some ⟨go, 0, none⟩) n n, .slice (some ⟨ga, 0, none⟩) n n, .slice (some ⟨gf, 0, none⟩) n n], undef, undef, undef, undef, undef, undef, undef, undef, undef, undef, undef, undef, undef, undef, undef, undef, undef, undef, undef, undef, undef, undef, undef, undef, undef, undef, undef, undef, undef, undef, undef, undef, undef, undef, undef, undef, undef, undef, undef, undef, undef, undef, undef, undef, undef, undef, undef, undef, undef, undef, undef, undef, undef, undef, undef, undef, undef, undef, undef, undef, undef, undef, undef, undef, undef, undef, undef, undef, undef, undef, undef, undef, undef, undef, undef, undef], defers := [] }) ?_ ?_
  · refine wp_region_forks AnyW 12 rfl (by kernel_rfl) ?_
    have hde : Below w1.heap.size w1 w1.drew := (Below.refl _ _).drew
    have HDS : Hid (w1.drew.heap.size = w1.heap.size) := rfl
    generalize w1.drew = w2 at hde HDS ⊢
    refine forks_read 0 rfl (by kernel_rfl) ?_
    go_big_quiet_step (fail)
    refine wpQuiet_nil ?_
    refine forks_read 1 rfl (by kernel_rfl) ?_
    go_big_quiet_step (fail)
    refine wpQuiet_nil ?_
    refine forks_read 3 rfl (by kernel_rfl) ?_
    go_big_quiet_step (fail)
    refine wpQuiet_nil ?_
    refine forks_read 4 rfl (by kernel_rfl) ?_
    go_big_quiet_step (fail)
    refine wpQuiet_nil ?_
    refine forks_read 6 rfl (by kernel_rfl) ?_
    go_big_quiet_step (fail)
    refine wpQuiet_nil ?_
    refine forks_read 7 rfl (by kernel_rfl) ?_
    go_big_quiet_step (fail)
    refine wpQuiet_nil ?_
    refine forks_four 2 5 8 10 (by kernel_rfl) ?_ ?_ ?_ ?_
    · refine does_intro rfl rfl ?_
      intro K hK
      go_simp
      refine hK _ _ trivial ?_
      clear hK K
      go_simp
      refine forks_three 5 8 10 (by kernel_rfl) ?_ ?_ ?_
      · refine does_intro rfl rfl ?_
        intro K hK
        go_simp
        refine hK _ _ trivial ?_
        clear hK K
        go_simp
        refine forks_two 8 10 (by kernel_rfl) ?_ ?_
        · refine does_intro rfl rfl ?_
          intro K hK
          go_simp
          refine hK _ _ trivial ?_
          clear hK K
          go_simp
          refine forks_read 9 rfl (by kernel_rfl) ?_
          go_big_quiet_step (fail)
          refine wpQuiet_nil ?_
          refine forks_one 10 (by kernel_rfl) ?_
          refine does_intro rfl rfl ?_
          intro K hK
          go_simp
          refine hK _ _ trivial ?_
          clear hK K
          go_simp
          refine forks_one 11 (by kernel_rfl) ?_
          refine does_intro rfl rfl ?_
          intro K hK
          go_simp
          refine hK _ _ trivial ?_
          clear hK K
          go_simp
          refine forks_end (by kernel_rfl) ?_
          refine ⟨_, _, _, _, rfl, ?_⟩
          refine ⟨?_, ?_, ?_, ?_, by have := HDS.out; omega, by have := HDS.out; omega, by have := HDS.out; omega, by have := HDS.out; omega, by omega, by omega, by omega, by omega, by omega, by omega, hde.trans (Below.mono ((((((Below.refl _ _).alloc (Nat.le_refl _) _).alloc (by simp) _).alloc (by simp; omega) _).alloc (by simp; omega) _)) (by have := HDS.out; omega))⟩
          all_goals first
            | exact blk0 _ _ _ _ _ _ _ _ _
            | exact blk1 _ _ _ _ _ _ _ _ _
            | exact blk2 _ _ _ _ _ _ _ _ _
            | exact blk3 _ _ _ _ _ _ _ _ _
        · refine does_intro rfl rfl ?_
          intro K hK
          go_simp
          refine hK _ _ trivial ?_
          clear hK K
          go_simp
          refine forks_one 8 (by kernel_rfl) ?_
          refine does_intro rfl rfl ?_
          intro K hK
          go_simp
          refine hK _ _ trivial ?_
          clear hK K
          go_simp
          refine forks_read 9 rfl (by kernel_rfl) ?_
          go_big_quiet_step (fail)
          refine wpQuiet_nil ?_
          refine forks_one 11 (by kernel_rfl) ?_
          refine does_intro rfl rfl ?_
          intro K hK
          go_simp
          refine hK _ _ trivial ?_
          clear hK K
          go_simp
          refine forks_end (by kernel_rfl) ?_
          refine ⟨_, _, _, _, rfl, ?_⟩
          refine ⟨?_, ?_, ?_, ?_, by have := HDS.out; omega, by have := HDS.out; omega, by have := HDS.out; omega, by have := HDS.out; omega, by omega, by omega, by omega, by omega, by omega, by omega, hde.trans (Below.mono ((((((Below.refl _ _).alloc (Nat.le_refl _) _).alloc (by simp) _).alloc (by simp; omega) _).alloc (by simp; omega) _)) (by have := HDS.out; omega))⟩
          all_goals first
            | exact blk0 _ _ _ _ _ _ _ _ _
            | exact blk1 _ _ _ _ _ _ _ _ _
            | exact blk2 _ _ _ _ _ _ _ _ _
            | exact blk3 _ _ _ _ _ _ _ _ _
      · refine does_intro rfl rfl ?_
        intro K hK
        go_simp
        refine hK _ _ trivial ?_
        clear hK K
        go_simp
        refine forks_two 5 10 (by kernel_rfl) ?_ ?_
        · refine does_intro rfl rfl ?_
          intro K hK
          go_simp
          refine hK _ _ trivial ?_
          clear hK K
          go_simp
          refine forks_read 9 rfl (by kernel_rfl) ?_
          go_big_quiet_step (fail)
          refine wpQuiet_nil ?_
          refine forks_one 10 (by kernel_rfl) ?_
          refine does_intro rfl rfl ?_
          intro K hK
          go_simp
          refine hK _ _ trivial ?_
          clear hK K
          go_simp
          refine forks_one 11 (by kernel_rfl) ?_
          refine does_intro rfl rfl ?_
          intro K hK
          go_simp
          refine hK _ _ trivial ?_
          clear hK K
          go_simp
          refine forks_end (by kernel_rfl) ?_
          refine ⟨_, _, _, _, rfl, ?_⟩
          refine ⟨?_, ?_, ?_, ?_, by have := HDS.out; omega, by have := HDS.out; omega, by have := HDS.out; omega, by have := HDS.out; omega, by omega, by omega, by omega, by omega, by omega, by omega, hde.trans (Below.mono ((((((Below.refl _ _).alloc (Nat.le_refl _) _).alloc (by simp) _).alloc (by simp; omega) _).alloc (by simp; omega) _)) (by have := HDS.out; omega))⟩
          all_goals first
            | exact blk0 _ _ _ _ _ _ _ _ _
            | exact blk1 _ _ _ _ _ _ _ _ _
            | exact blk2 _ _ _ _ _ _ _ _ _
            | exact blk3 _ _ _ _ _ _ _ _ _
        · refine does_intro rfl rfl ?_
          intro K hK
          go_simp
          refine hK _ _ trivial ?_
          clear hK K
          go_simp
          refine forks_one 5 (by kernel_rfl) ?_
          refine does_intro rfl rfl ?_
          intro K hK
          go_simp
          refine hK _ _ trivial ?_
          clear hK K
          go_simp
          refine forks_read 9 rfl (by kernel_rfl) ?_
          go_big_quiet_step (fail)
          refine wpQuiet_nil ?_
          refine forks_one 11 (by kernel_rfl) ?_
          refine does_intro rfl rfl ?_
          intro K hK
          go_simp
          refine hK _ _ trivial ?_
          clear hK K
          go_simp
          refine forks_end (by kernel_rfl) ?_
          refine ⟨_, _, _, _, rfl, ?_⟩
          refine ⟨?_, ?_, ?_, ?_, by have := HDS.out; omega, by have := HDS.out; omega, by have := HDS.out; omega, by have := HDS.out; omega, by omega, by omega, by omega, by omega, by omega, by omega, hde.trans (Below.mono ((((((Below.refl _ _).alloc (Nat.le_refl _) _).alloc (by simp) _).alloc (by simp; omega) _).alloc (by simp; omega) _)) (by have := HDS.out; omega))⟩
          all_goals first
            | exact blk0 _ _ _ _ _ _ _ _ _
            | exact blk1 _ _ _ _ _ _ _ _ _
            | exact blk2 _ _ _ _ _ _ _ _ _
            | exact blk3 _ _ _ _ _ _ _ _ _
      · refine does_intro rfl rfl ?_
        intro K hK
        go_simp
        refine hK _ _ trivial ?_
        clear hK K
        go_simp
        refine forks_two 5 8 (by kernel_rfl) ?_ ?_
        · refine does_intro rfl rfl ?_
          intro K hK
          go_simp
          refine hK _ _ trivial ?_
          clear hK K
          go_simp
          refine forks_one 8 (by kernel_rfl) ?_
          refine does_intro rfl rfl ?_
          intro K hK
          go_simp
          refine hK _ _ trivial ?_
          clear hK K
          go_simp
          refine forks_read 9 rfl (by kernel_rfl) ?_
          go_big_quiet_step (fail)
          refine wpQuiet_nil ?_
          refine forks_one 11 (by kernel_rfl) ?_
          refine does_intro rfl rfl ?_
          intro K hK
          go_simp
          refine hK _ _ trivial ?_
          clear hK K
          go_simp
          refine forks_end (by kernel_rfl) ?_
          refine ⟨_, _, _, _, rfl, ?_⟩
          refine ⟨?_, ?_, ?_, ?_, by have := HDS.out; omega, by have := HDS.out; omega, by have := HDS.out; omega, by have := HDS.out; omega, by omega, by omega, by omega, by omega, by omega, by omega, hde.trans (Below.mono ((((((Below.refl _ _).alloc (Nat.le_refl _) _).alloc (by simp) _).alloc (by simp; omega) _).alloc (by simp; omega) _)) (by have := HDS.out; omega))⟩
          all_goals first
            | exact blk0 _ _ _ _ _ _ _ _ _
            | exact blk1 _ _ _ _ _ _ _ _ _
            | exact blk2 _ _ _ _ _ _ _ _ _
            | exact blk3 _ _ _ _ _ _ _ _ _
        · refine does_intro rfl rfl ?_
          intro K hK
          go_simp
          refine hK _ _ trivial ?_
          clear hK K
          go_simp
          refine forks_one 5 (by kernel_rfl) ?_
          refine does_intro rfl rfl ?_
          intro K hK
          go_simp
          refine hK _ _ trivial ?_
          clear hK K
          go_simp
          refine forks_read 9 rfl (by kernel_rfl) ?_
          go_big_quiet_step (fail)
          refine wpQuiet_nil ?_
          refine forks_one 11 (by kernel_rfl) ?_
          refine does_intro rfl rfl ?_
          intro K hK
          go_simp
          refine hK _ _ trivial ?_
          clear hK K
          go_simp
          refine forks_end (by kernel_rfl) ?_
          refine ⟨_, _, _, _, rfl, ?_⟩
          refine ⟨?_, ?_, ?_, ?_, by have := HDS.out; omega, by have := HDS.out; omega, by have := HDS.out; omega, by have := HDS.out; omega, by omega, by omega, by omega, by omega, by omega, by omega, hde.trans (Below.mono ((((((Below.refl _ _).alloc (Nat.le_refl _) _).alloc (by simp) _).alloc (by simp; omega) _).alloc (by simp; omega) _)) (by have := HDS.out; omega))⟩
          all_goals first
            | exact blk0 _ _ _ _ _ _ _ _ _
            | exact blk1 _ _ _ _ _ _ _ _ _
            | exact blk2 _ _ _ _ _ _ _ _ _
            | exact blk3 _ _ _ _ _ _ _ _ _
    · refine does_intro rfl rfl ?_
      intro K hK
      go_simp
      refine hK _ _ trivial ?_
      clear hK K
      go_simp
      refine forks_three 2 8 10 (by kernel_rfl) ?_ ?_ ?_
      · refine does_intro rfl rfl ?_
        intro K hK
        go_simp
        refine hK _ _ trivial ?_
        clear hK K
        go_simp
        refine forks_two 8 10 (by kernel_rfl) ?_ ?_
        · refine does_intro rfl rfl ?_
          intro K hK
          go_simp
          refine hK _ _ trivial ?_
          clear hK K
          go_simp
          refine forks_read 9 rfl (by kernel_rfl) ?_
          go_big_quiet_step (fail)
          refine wpQuiet_nil ?_
          refine forks_one 10 (by kernel_rfl) ?_
          refine does_intro rfl rfl ?_
          intro K hK
          go_simp
          refine hK _ _ trivial ?_
          clear hK K
          go_simp
          refine forks_one 11 (by kernel_rfl) ?_
          refine does_intro rfl rfl ?_
          intro K hK
          go_simp
          refine hK _ _ trivial ?_
          clear hK K
          go_simp
          refine forks_end (by kernel_rfl) ?_
          refine ⟨_, _, _, _, rfl, ?_⟩
          refine ⟨?_, ?_, ?_, ?_, by have := HDS.out; omega, by have := HDS.out; omega, by have := HDS.out; omega, by have := HDS.out; omega, by omega, by omega, by omega, by omega, by omega, by omega, hde.trans (Below.mono ((((((Below.refl _ _).alloc (Nat.le_refl _) _).alloc (by simp) _).alloc (by simp; omega) _).alloc (by simp; omega) _)) (by have := HDS.out; omega))⟩
          all_goals first
            | exact blk0 _ _ _ _ _ _ _ _ _
            | exact blk1 _ _ _ _ _ _ _ _ _
            | exact blk2 _ _ _ _ _ _ _ _ _
            | exact blk3 _ _ _ _ _ _ _ _ _
        · refine does_intro rfl rfl ?_
          intro K hK
          go_simp
          refine hK _ _ trivial ?_
          clear hK K
          go_simp
          refine forks_one 8 (by kernel_rfl) ?_
          refine does_intro rfl rfl ?_
          intro K hK
          go_simp
          refine hK _ _ trivial ?_
          clear hK K
          go_simp
          refine forks_read 9 rfl (by kernel_rfl) ?_
          go_big_quiet_step (fail)
          refine wpQuiet_nil ?_
          refine forks_one 11 (by kernel_rfl) ?_
          refine does_intro rfl rfl ?_
          intro K hK
          go_simp
          refine hK _ _ trivial ?_
          clear hK K
          go_simp
          refine forks_end (by kernel_rfl) ?_
          refine ⟨_, _, _, _, rfl, ?_⟩
          refine ⟨?_, ?_, ?_, ?_, by have := HDS.out; omega, by have := HDS.out; omega, by have := HDS.out; omega, by have := HDS.out; omega, by omega, by omega, by omega, by omega, by omega, by omega, hde.trans (Below.mono ((((((Below.refl _ _).alloc (Nat.le_refl _) _).alloc (by simp) _).alloc (by simp; omega) _).alloc (by simp; omega) _)) (by have := HDS.out; omega))⟩
          all_goals first
            | exact blk0 _ _ _ _ _ _ _ _ _
            | exact blk1 _ _ _ _ _ _ _ _ _
            | exact blk2 _ _ _ _ _ _ _ _ _
            | exact blk3 _ _ _ _ _ _ _ _ _
      · refine does_intro rfl rfl ?_
        intro K hK
        go_simp
        refine hK _ _ trivial ?_
        clear hK K
        go_simp
        refine forks_two 2 10 (by kernel_rfl) ?_ ?_
        · refine does_intro rfl rfl ?_
          intro K hK
          go_simp
          refine hK _ _ trivial ?_
          clear hK K
          go_simp
          refine forks_read 9 rfl (by kernel_rfl) ?_
          go_big_quiet_step (fail)
          refine wpQuiet_nil ?_
          refine forks_one 10 (by kernel_rfl) ?_
          refine does_intro rfl rfl ?_
          intro K hK
          go_simp
          refine hK _ _ trivial ?_
          clear hK K
          go_simp
          refine forks_one 11 (by kernel_rfl) ?_
          refine does_intro rfl rfl ?_
          intro K hK
          go_simp
          refine hK _ _ trivial ?_
          clear hK K
          go_simp
          refine forks_end (by kernel_rfl) ?_
          refine ⟨_, _, _, _, rfl, ?_⟩
          refine ⟨?_, ?_, ?_, ?_, by have := HDS.out; omega, by have := HDS.out; omega, by have := HDS.out; omega, by have := HDS.out; omega, by omega, by omega, by omega, by omega, by omega, by omega, hde.trans (Below.mono ((((((Below.refl _ _).alloc (Nat.le_refl _) _).alloc (by simp) _).alloc (by simp; omega) _).alloc (by simp; omega) _)) (by have := HDS.out; omega))⟩
          all_goals first
            | exact blk0 _ _ _ _ _ _ _ _ _
            | exact blk1 _ _ _ _ _ _ _ _ _
            | exact blk2 _ _ _ _ _ _ _ _ _
            | exact blk3 _ _ _ _ _ _ _ _ _
        · refine does_intro rfl rfl ?_
          intro K hK
          go_simp
          refine hK _ _ trivial ?_
          clear hK K
          go_simp
          refine forks_one 2 (by kernel_rfl) ?_
          refine does_intro rfl rfl ?_
          intro K hK
          go_simp
          refine hK _ _ trivial ?_
          clear hK K
          go_simp
          refine forks_read 9 rfl (by kernel_rfl) ?_
          go_big_quiet_step (fail)
          refine wpQuiet_nil ?_
          refine forks_one 11 (by kernel_rfl) ?_
          refine does_intro rfl rfl ?_
          intro K hK
          go_simp
          refine hK _ _ trivial ?_
          clear hK K
          go_simp
          refine forks_end (by kernel_rfl) ?_
          refine ⟨_, _, _, _, rfl, ?_⟩
          refine ⟨?_, ?_, ?_, ?_, by have := HDS.out; omega, by have := HDS.out; omega, by have := HDS.out; omega, by have := HDS.out; omega, by omega, by omega, by omega, by omega, by omega, by omega, hde.trans (Below.mono ((((((Below.refl _ _).alloc (Nat.le_refl _) _).alloc (by simp) _).alloc (by simp; omega) _).alloc (by simp; omega) _)) (by have := HDS.out; omega))⟩
          all_goals first
            | exact blk0 _ _ _ _ _ _ _ _ _
            | exact blk1 _ _ _ _ _ _ _ _ _
            | exact blk2 _ _ _ _ _ _ _ _ _
            | exact blk3 _ _ _ _ _ _ _ _ _
      · refine does_intro rfl rfl ?_
        intro K hK
        go_simp
        refine hK _ _ trivial ?_
        clear hK K
        go_simp
        refine forks_two 2 8 (by kernel_rfl) ?_ ?_
        · refine does_intro rfl rfl ?_
          intro K hK
          go_simp
          refine hK _ _ trivial ?_
          clear hK K
          go_simp
          refine forks_one 8 (by kernel_rfl) ?_
          refine does_intro rfl rfl ?_
          intro K hK
          go_simp
          refine hK _ _ trivial ?_
          clear hK K
          go_simp
          refine forks_read 9 rfl (by kernel_rfl) ?_
          go_big_quiet_step (fail)
          refine wpQuiet_nil ?_
          refine forks_one 11 (by kernel_rfl) ?_
          refine does_intro rfl rfl ?_
          intro K hK
          go_simp
          refine hK _ _ trivial ?_
          clear hK K
          go_simp
          refine forks_end (by kernel_rfl) ?_
          refine ⟨_, _, _, _, rfl, ?_⟩
          refine ⟨?_, ?_, ?_, ?_, by have := HDS.out; omega, by have := HDS.out; omega, by have := HDS.out; omega, by have := HDS.out; omega, by omega, by omega, by omega, by omega, by omega, by omega, hde.trans (Below.mono ((((((Below.refl _ _).alloc (Nat.le_refl _) _).alloc (by simp) _).alloc (by simp; omega) _).alloc (by simp; omega) _)) (by have := HDS.out; omega))⟩
          all_goals first
            | exact blk0 _ _ _ _ _ _ _ _ _
            | exact blk1 _ _ _ _ _ _ _ _ _
            | exact blk2 _ _ _ _ _ _ _ _ _
            | exact blk3 _ _ _ _ _ _ _ _ _
        · refine does_intro rfl rfl ?_
          intro K hK
          go_simp
          refine hK _ _ trivial ?_
          clear hK K
          go_simp
          refine forks_one 2 (by kernel_rfl) ?_
          refine does_intro rfl rfl ?_
          intro K hK
          go_simp
          refine hK _ _ trivial ?_
          clear hK K
          go_simp
          refine forks_read 9 rfl (by kernel_rfl) ?_
          go_big_quiet_step (fail)
          refine wpQuiet_nil ?_
          refine forks_one 11 (by kernel_rfl) ?_
          refine does_intro rfl rfl ?_
          intro K hK
          go_simp
          refine hK _ _ trivial ?_
          clear hK K
          go_simp
          refine forks_end (by kernel_rfl) ?_
          refine ⟨_, _, _, _, rfl, ?_⟩
          refine ⟨?_, ?_, ?_, ?_, by have := HDS.out; omega, by have := HDS.out; omega, by have := HDS.out; omega, by have := HDS.out; omega, by omega, by omega, by omega, by omega, by omega, by omega, hde.trans (Below.mono ((((((Below.refl _ _).alloc (Nat.le_refl _) _).alloc (by simp) _).alloc (by simp; omega) _).alloc (by simp; omega) _)) (by have := HDS.out; omega))⟩
          all_goals first
            | exact blk0 _ _ _ _ _ _ _ _ _
            | exact blk1 _ _ _ _ _ _ _ _ _
            | exact blk2 _ _ _ _ _ _ _ _ _
            | exact blk3 _ _ _ _ _ _ _ _ _
    · refine does_intro rfl rfl ?_
      intro K hK
      go_simp
      refine hK _ _ trivial ?_
      clear hK K
      go_simp
      refine forks_three 2 5 10 (by kernel_rfl) ?_ ?_ ?_
      · refine does_intro rfl rfl ?_
        intro K hK
        go_simp
        refine hK _ _ trivial ?_
        clear hK K
        go_simp
        refine forks_two 5 10 (by kernel_rfl) ?_ ?_
        · refine does_intro rfl rfl ?_
          intro K hK
          go_simp
          refine hK _ _ trivial ?_
          clear hK K
          go_simp
          refine forks_read 9 rfl (by kernel_rfl) ?_
          go_big_quiet_step (fail)
          refine wpQuiet_nil ?_
          refine forks_one 10 (by kernel_rfl) ?_
          refine does_intro rfl rfl ?_
          intro K hK
          go_simp
          refine hK _ _ trivial ?_
          clear hK K
          go_simp
          refine forks_one 11 (by kernel_rfl) ?_
          refine does_intro rfl rfl ?_
          intro K hK
          go_simp
          refine hK _ _ trivial ?_
          clear hK K
          go_simp
          refine forks_end (by kernel_rfl) ?_
          refine ⟨_, _, _, _, rfl, ?_⟩
          refine ⟨?_, ?_, ?_, ?_, by have := HDS.out; omega, by have := HDS.out; omega, by have := HDS.out; omega, by have := HDS.out; omega, by omega, by omega, by omega, by omega, by omega, by omega, hde.trans (Below.mono ((((((Below.refl _ _).alloc (Nat.le_refl _) _).alloc (by simp) _).alloc (by simp; omega) _).alloc (by simp; omega) _)) (by have := HDS.out; omega))⟩
          all_goals first
            | exact blk0 _ _ _ _ _ _ _ _ _
            | exact blk1 _ _ _ _ _ _ _ _ _
            | exact blk2 _ _ _ _ _ _ _ _ _
            | exact blk3 _ _ _ _ _ _ _ _ _
        · refine does_intro rfl rfl ?_
          intro K hK
          go_simp
          refine hK _ _ trivial ?_
          clear hK K
          go_simp
          refine forks_one 5 (by kernel_rfl) ?_
          refine does_intro rfl rfl ?_
          intro K hK
          go_simp
          refine hK _ _ trivial ?_
          clear hK K
          go_simp
          refine forks_read 9 rfl (by kernel_rfl) ?_
          go_big_quiet_step (fail)
          refine wpQuiet_nil ?_
          refine forks_one 11 (by kernel_rfl) ?_
          refine does_intro rfl rfl ?_
          intro K hK
          go_simp
          refine hK _ _ trivial ?_
          clear hK K
          go_simp
          refine forks_end (by kernel_rfl) ?_
          refine ⟨_, _, _, _, rfl, ?_⟩
          refine ⟨?_, ?_, ?_, ?_, by have := HDS.out; omega, by have := HDS.out; omega, by have := HDS.out; omega, by have := HDS.out; omega, by omega, by omega, by omega, by omega, by omega, by omega, hde.trans (Below.mono ((((((Below.refl _ _).alloc (Nat.le_refl _) _).alloc (by simp) _).alloc (by simp; omega) _).alloc (by simp; omega) _)) (by have := HDS.out; omega))⟩
          all_goals first
            | exact blk0 _ _ _ _ _ _ _ _ _
            | exact blk1 _ _ _ _ _ _ _ _ _
            | exact blk2 _ _ _ _ _ _ _ _ _
            | exact blk3 _ _ _ _ _ _ _ _ _
      · refine does_intro rfl rfl ?_
        intro K hK
        go_simp
        refine hK _ _ trivial ?_
        clear hK K
        go_simp
        refine forks_two 2 10 (by kernel_rfl) ?_ ?_
        · refine does_intro rfl rfl ?_
          intro K hK
          go_simp
          refine hK _ _ trivial ?_
          clear hK K
          go_simp
          refine forks_read 9 rfl (by kernel_rfl) ?_
          go_big_quiet_step (fail)
          refine wpQuiet_nil ?_
          refine forks_one 10 (by kernel_rfl) ?_
          refine does_intro rfl rfl ?_
          intro K hK
          go_simp
          refine hK _ _ trivial ?_
          clear hK K
          go_simp
          refine forks_one 11 (by kernel_rfl) ?_
          refine does_intro rfl rfl ?_
          intro K hK
          go_simp
          refine hK _ _ trivial ?_
          clear hK K
          go_simp
          refine forks_end (by kernel_rfl) ?_
          refine ⟨_, _, _, _, rfl, ?_⟩
          refine ⟨?_, ?_, ?_, ?_, by have := HDS.out; omega, by have := HDS.out; omega, by have := HDS.out; omega, by have := HDS.out; omega, by omega, by omega, by omega, by omega, by omega, by omega, hde.trans (Below.mono ((((((Below.refl _ _).alloc (Nat.le_refl _) _).alloc (by simp) _).alloc (by simp; omega) _).alloc (by simp; omega) _)) (by have := HDS.out; omega))⟩
          all_goals first
            | exact blk0 _ _ _ _ _ _ _ _ _
            | exact blk1 _ _ _ _ _ _ _ _ _
            | exact blk2 _ _ _ _ _ _ _ _ _
            | exact blk3 _ _ _ _ _ _ _ _ _
        · refine does_intro rfl rfl ?_
          intro K hK
          go_simp
          refine hK _ _ trivial ?_
          clear hK K
          go_simp
          refine forks_one 2 (by kernel_rfl) ?_
          refine does_intro rfl rfl ?_
          intro K hK
          go_simp
          refine hK _ _ trivial ?_
          clear hK K
          go_simp
          refine forks_read 9 rfl (by kernel_rfl) ?_
          go_big_quiet_step (fail)
          refine wpQuiet_nil ?_
          refine forks_one 11 (by kernel_rfl) ?_
          refine does_intro rfl rfl ?_
          intro K hK
          go_simp
          refine hK _ _ trivial ?_
          clear hK K
          go_simp
          refine forks_end (by kernel_rfl) ?_
          refine ⟨_, _, _, _, rfl, ?_⟩
          refine ⟨?_, ?_, ?_, ?_, by have := HDS.out; omega, by have := HDS.out; omega, by have := HDS.out; omega, by have := HDS.out; omega, by omega, by omega, by omega, by omega, by omega, by omega, hde.trans (Below.mono ((((((Below.refl _ _).alloc (Nat.le_refl _) _).alloc (by simp) _).alloc (by simp; omega) _).alloc (by simp; omega) _)) (by have := HDS.out; omega))⟩
          all_goals first
            | exact blk0 _ _ _ _ _ _ _ _ _
            | exact blk1 _ _ _ _ _ _ _ _ _
            | exact blk2 _ _ _ _ _ _ _ _ _
            | exact blk3 _ _ _ _ _ _ _ _ _
      · refine does_intro rfl rfl ?_
        intro K hK
        go_simp
        refine hK _ _ trivial ?_
        clear hK K
        go_simp
        refine forks_two 2 5 (by kernel_rfl) ?_ ?_
        · refine does_intro rfl rfl ?_
          intro K hK
          go_simp
          refine hK _ _ trivial ?_
          clear hK K
          go_simp
          refine forks_one 5 (by kernel_rfl) ?_
          refine does_intro rfl rfl ?_
          intro K hK
          go_simp
          refine hK _ _ trivial ?_
          clear hK K
          go_simp
          refine forks_read 9 rfl (by kernel_rfl) ?_
          go_big_quiet_step (fail)
          refine wpQuiet_nil ?_
          refine forks_one 11 (by kernel_rfl) ?_
          refine does_intro rfl rfl ?_
          intro K hK
          go_simp
          refine hK _ _ trivial ?_
          clear hK K
          go_simp
          refine forks_end (by kernel_rfl) ?_
          refine ⟨_, _, _, _, rfl, ?_⟩
          refine ⟨?_, ?_, ?_, ?_, by have := HDS.out; omega, by have := HDS.out; omega, by have := HDS.out; omega, by have := HDS.out; omega, by omega, by omega, by omega, by omega, by omega, by omega, hde.trans (Below.mono ((((((Below.refl _ _).alloc (Nat.le_refl _) _).alloc (by simp) _).alloc (by simp; omega) _).alloc (by simp; omega) _)) (by have := HDS.out; omega))⟩
          all_goals first
            | exact blk0 _ _ _ _ _ _ _ _ _
            | exact blk1 _ _ _ _ _ _ _ _ _
            | exact blk2 _ _ _ _ _ _ _ _ _
            | exact blk3 _ _ _ _ _ _ _ _ _
        · refine does_intro rfl rfl ?_
          intro K hK
          go_simp
          refine hK _ _ trivial ?_
          clear hK K
          go_simp
          refine forks_one 2 (by kernel_rfl) ?_
          refine does_intro rfl rfl ?_
          intro K hK
          go_simp
          refine hK _ _ trivial ?_
          clear hK K
          go_simp
          refine forks_read 9 rfl (by kernel_rfl) ?_
          go_big_quiet_step (fail)
          refine wpQuiet_nil ?_
          refine forks_one 11 (by kernel_rfl) ?_
          refine does_intro rfl rfl ?_
          intro K hK
          go_simp
          refine hK _ _ trivial ?_
          clear hK K
          go_simp
          refine forks_end (by kernel_rfl) ?_
          refine ⟨_, _, _, _, rfl, ?_⟩
          refine ⟨?_, ?_, ?_, ?_, by have := HDS.out; omega, by have := HDS.out; omega, by have := HDS.out; omega, by have := HDS.out; omega, by omega, by omega, by omega, by omega, by omega, by omega, hde.trans (Below.mono ((((((Below.refl _ _).alloc (Nat.le_refl _) _).alloc (by simp) _).alloc (by simp; omega) _).alloc (by simp; omega) _)) (by have := HDS.out; omega))⟩
          all_goals first
            | exact blk0 _ _ _ _ _ _ _ _ _
            | exact blk1 _ _ _ _ _ _ _ _ _
            | exact blk2 _ _ _ _ _ _ _ _ _
            | exact blk3 _ _ _ _ _ _ _ _ _
    · refine does_intro rfl rfl ?_
      intro K hK
      go_simp
      refine hK _ _ trivial ?_
      clear hK K
      go_simp
      refine forks_three 2 5 8 (by kernel_rfl) ?_ ?_ ?_
      · refine does_intro rfl rfl ?_
        intro K hK
        go_simp
        refine hK _ _ trivial ?_
        clear hK K
        go_simp
        refine forks_two 5 8 (by kernel_rfl) ?_ ?_
        · refine does_intro rfl rfl ?_
          intro K hK
          go_simp
          refine hK _ _ trivial ?_
          clear hK K
          go_simp
          refine forks_one 8 (by kernel_rfl) ?_
          refine does_intro rfl rfl ?_
          intro K hK
          go_simp
          refine hK _ _ trivial ?_
          clear hK K
          go_simp
          refine forks_read 9 rfl (by kernel_rfl) ?_
          go_big_quiet_step (fail)
          refine wpQuiet_nil ?_
          refine forks_one 11 (by kernel_rfl) ?_
          refine does_intro rfl rfl ?_
          intro K hK
          go_simp
          refine hK _ _ trivial ?_
          clear hK K
          go_simp
          refine forks_end (by kernel_rfl) ?_
          refine ⟨_, _, _, _, rfl, ?_⟩
          refine ⟨?_, ?_, ?_, ?_, by have := HDS.out; omega, by have := HDS.out; omega, by have := HDS.out; omega, by have := HDS.out; omega, by omega, by omega, by omega, by omega, by omega, by omega, hde.trans (Below.mono ((((((Below.refl _ _).alloc (Nat.le_refl _) _).alloc (by simp) _).alloc (by simp; omega) _).alloc (by simp; omega) _)) (by have := HDS.out; omega))⟩
          all_goals first
            | exact blk0 _ _ _ _ _ _ _ _ _
            | exact blk1 _ _ _ _ _ _ _ _ _
            | exact blk2 _ _ _ _ _ _ _ _ _
            | exact blk3 _ _ _ _ _ _ _ _ _
        · refine does_intro rfl rfl ?_
          intro K hK
          go_simp
          refine hK _ _ trivial ?_
          clear hK K
          go_simp
          refine forks_one 5 (by kernel_rfl) ?_
          refine does_intro rfl rfl ?_
          intro K hK
          go_simp
          refine hK _ _ trivial ?_
          clear hK K
          go_simp
          refine forks_read 9 rfl (by kernel_rfl) ?_
          go_big_quiet_step (fail)
          refine wpQuiet_nil ?_
          refine forks_one 11 (by kernel_rfl) ?_
          refine does_intro rfl rfl ?_
          intro K hK
          go_simp
          refine hK _ _ trivial ?_
          clear hK K
          go_simp
          refine forks_end (by kernel_rfl) ?_
          refine ⟨_, _, _, _, rfl, ?_⟩
          refine ⟨?_, ?_, ?_, ?_, by have := HDS.out; omega, by have := HDS.out; omega, by have := HDS.out; omega, by have := HDS.out; omega, by omega, by omega, by omega, by omega, by omega, by omega, hde.trans (Below.mono ((((((Below.refl _ _).alloc (Nat.le_refl _) _).alloc (by simp) _).alloc (by simp; omega) _).alloc (by simp; omega) _)) (by have := HDS.out; omega))⟩
          all_goals first
            | exact blk0 _ _ _ _ _ _ _ _ _
            | exact blk1 _ _ _ _ _ _ _ _ _
            | exact blk2 _ _ _ _ _ _ _ _ _
            | exact blk3 _ _ _ _ _ _ _ _ _
      · refine does_intro rfl rfl ?_
        intro K hK
        go_simp
        refine hK _ _ trivial ?_
        clear hK K
        go_simp
        refine forks_two 2 8 (by kernel_rfl) ?_ ?_
        · refine does_intro rfl rfl ?_
          intro K hK
          go_simp
          refine hK _ _ trivial ?_
          clear hK K
          go_simp
          refine forks_one 8 (by kernel_rfl) ?_
          refine does_intro rfl rfl ?_
          intro K hK
          go_simp
          refine hK _ _ trivial ?_
          clear hK K
          go_simp
          refine forks_read 9 rfl (by kernel_rfl) ?_
          go_big_quiet_step (fail)
          refine wpQuiet_nil ?_
          refine forks_one 11 (by kernel_rfl) ?_
          refine does_intro rfl rfl ?_
          intro K hK
          go_simp
          refine hK _ _ trivial ?_
          clear hK K
          go_simp
          refine forks_end (by kernel_rfl) ?_
          refine ⟨_, _, _, _, rfl, ?_⟩
          refine ⟨?_, ?_, ?_, ?_, by have := HDS.out; omega, by have := HDS.out; omega, by have := HDS.out; omega, by have := HDS.out; omega, by omega, by omega, by omega, by omega, by omega, by omega, hde.trans (Below.mono ((((((Below.refl _ _).alloc (Nat.le_refl _) _).alloc (by simp) _).alloc (by simp; omega) _).alloc (by simp; omega) _)) (by have := HDS.out; omega))⟩
          all_goals first
            | exact blk0 _ _ _ _ _ _ _ _ _
            | exact blk1 _ _ _ _ _ _ _ _ _
            | exact blk2 _ _ _ _ _ _ _ _ _
            | exact blk3 _ _ _ _ _ _ _ _ _
        · refine does_intro rfl rfl ?_
          intro K hK
          go_simp
          refine hK _ _ trivial ?_
          clear hK K
          go_simp
          refine forks_one 2 (by kernel_rfl) ?_
          refine does_intro rfl rfl ?_
          intro K hK
          go_simp
          refine hK _ _ trivial ?_
          clear hK K
          go_simp
          refine forks_read 9 rfl (by kernel_rfl) ?_
          go_big_quiet_step (fail)
          refine wpQuiet_nil ?_
          refine forks_one 11 (by kernel_rfl) ?_
          refine does_intro rfl rfl ?_
          intro K hK
          go_simp
          refine hK _ _ trivial ?_
          clear hK K
          go_simp
          refine forks_end (by kernel_rfl) ?_
          refine ⟨_, _, _, _, rfl, ?_⟩
          refine ⟨?_, ?_, ?_, ?_, by have := HDS.out; omega, by have := HDS.out; omega, by have := HDS.out; omega, by have := HDS.out; omega, by omega, by omega, by omega, by omega, by omega, by omega, hde.trans (Below.mono ((((((Below.refl _ _).alloc (Nat.le_refl _) _).alloc (by simp) _).alloc (by simp; omega) _).alloc (by simp; omega) _)) (by have := HDS.out; omega))⟩
          all_goals first
            | exact blk0 _ _ _ _ _ _ _ _ _
            | exact blk1 _ _ _ _ _ _ _ _ _
            | exact blk2 _ _ _ _ _ _ _ _ _
            | exact blk3 _ _ _ _ _ _ _ _ _
      · refine does_intro rfl rfl ?_
        intro K hK
        go_simp
        refine hK _ _ trivial ?_
        clear hK K
        go_simp
        refine forks_two 2 5 (by kernel_rfl) ?_ ?_
        · refine does_intro rfl rfl ?_
          intro K hK
          go_simp
          refine hK _ _ trivial ?_
          clear hK K
          go_simp
          refine forks_one 5 (by kernel_rfl) ?_
          refine does_intro rfl rfl ?_
          intro K hK
          go_simp
          refine hK _ _ trivial ?_
          clear hK K
          go_simp
          refine forks_read 9 rfl (by kernel_rfl) ?_
          go_big_quiet_step (fail)
          refine wpQuiet_nil ?_
          refine forks_one 11 (by kernel_rfl) ?_
          refine does_intro rfl rfl ?_
          intro K hK
          go_simp
          refine hK _ _ trivial ?_
          clear hK K
          go_simp
          refine forks_end (by kernel_rfl) ?_
          refine ⟨_, _, _, _, rfl, ?_⟩
          refine ⟨?_, ?_, ?_, ?_, by have := HDS.out; omega, by have := HDS.out; omega, by have := HDS.out; omega, by have := HDS.out; omega, by omega, by omega, by omega, by omega, by omega, by omega, hde.trans (Below.mono ((((((Below.refl _ _).alloc (Nat.le_refl _) _).alloc (by simp) _).alloc (by simp; omega) _).alloc (by simp; omega) _)) (by have := HDS.out; omega))⟩
          all_goals first
            | exact blk0 _ _ _ _ _ _ _ _ _
            | exact blk1 _ _ _ _ _ _ _ _ _
            | exact blk2 _ _ _ _ _ _ _ _ _
            | exact blk3 _ _ _ _ _ _ _ _ _
        · refine does_intro rfl rfl ?_
          intro K hK
          go_simp
          refine hK _ _ trivial ?_
          clear hK K
          go_simp
          refine forks_one 2 (by kernel_rfl) ?_
          refine does_intro rfl rfl ?_
          intro K hK
          go_simp
          refine hK _ _ trivial ?_
          clear hK K
          go_simp
          refine forks_read 9 rfl (by kernel_rfl) ?_
          go_big_quiet_step (fail)
          refine wpQuiet_nil ?_
          refine forks_one 11 (by kernel_rfl) ?_
          refine does_intro rfl rfl ?_
          intro K hK
          go_simp
          refine hK _ _ trivial ?_
          clear hK K
          go_simp
          refine forks_end (by kernel_rfl) ?_
          refine ⟨_, _, _, _, rfl, ?_⟩
          refine ⟨?_, ?_, ?_, ?_, by have := HDS.out; omega, by have := HDS.out; omega, by have := HDS.out; omega, by have := HDS.out; omega, by omega, by omega, by omega, by omega, by omega, by omega, hde.trans (Below.mono ((((((Below.refl _ _).alloc (Nat.le_refl _) _).alloc (by simp) _).alloc (by simp; omega) _).alloc (by simp; omega) _)) (by have := HDS.out; omega))⟩
          all_goals first
            | exact blk0 _ _ _ _ _ _ _ _ _
            | exact blk1 _ _ _ _ _ _ _ _ _
            | exact blk2 _ _ _ _ _ _ _ _ _
            | exact blk3 _ _ _ _ _ _ _ _ _
  · --second
    intro go ga gf gg w3 hm4
    have HFX : Hid (FixB w go ga gf gg gr w3.heap.size) := by
      have h1 := HB.out.size
      have h2 := HR.out.lt
      have h3 := HGR.out
      exact ⟨⟨by have := hm4.lo; omega, hm4.o.lt⟩, ⟨by have := hm4.la; omega, hm4.a.lt⟩, ⟨by have := hm4.lf; omega, hm4.f.lt⟩, ⟨by have := hm4.lg; omega, hm4.g.lt⟩, ⟨by omega, by have := hm4.bel.size; omega⟩, hm4.oa, hm4.of, hm4.og, hm4.af, hm4.ag, hm4.fg, by have := hm4.lo; omega, by have := hm4.la; omega, by have := hm4.lf; omega, by have := hm4.lg; omega⟩
    have hbs : BSt n w w3 go ga gf gg gr w3.heap.size (fun _ => .slice none 0 0) (fun _ => []) (fun j => (openF D n j : Int)) (fun _ => 0) :=
      ⟨hm4.o.rowCongr fun j hj => by rw [openF_top D (Nat.le_of_lt hj)]; rfl, hm4.a, hm4.f, hm4.g, HR.out.below hm4.bel HR.out.lt, fun j _ => World.ownsRow_nil _ _ _ _, fun j j' _ _ _ k hk => by simp [Value.ownBlock] at hk, HB.out.trans (hm4.bel.mono HB.out.size)⟩
    have HBS := Lib.hid hbs
    obtain ⟨B1, hB1⟩ : ∃ B, B = w3.heap.size := ⟨_, rfl⟩
    rw [← hB1] at HFX HBS
    have hB1l : B1 ≤ w3.heap.size := by omega
    clear hm4 hbs HR HB HGR hB1 hmk1 hmk2
    go_wp2_with fail
    go_loopw [4] (fun u wx => ∃ (m : Nat) (rows : Nat → Value) (L : Nat → List Nat) (far : Nat → Int), m ≤ n ∧ u = .int .i64 ((m : Int) - 1) ∧ BSt n w wx go ga gf gg gr B1 rows L (fun j => (openF D m j : Int)) far ∧ (∀ j, j < n → L j = if m ≤ j then afterU D j n else []) ∧ (∀ j, j < n → 0 ≤ far j ∧ far j ≤ 8 * ((n : Int) - j)) ∧ B1 ≤ wx.heap.size) (fun u _ => (intOf u + 1).toNat)
    case atStart => exact ⟨n, fun _ => .slice none 0 0, fun _ => [], fun _ => 0, Nat.le_refl _, rfl, HBS.out, fun j hj => by rw [if_neg (by omega)], fun j hj => ⟨Int.le_refl _, by show (0 : Int) ≤ 8 * ((n : Int) - j); omega⟩, hB1l⟩
    case round =>
      clear HBS hB1l
      obtain ⟨m, rows, L, far, hm, rfl, hbs, hL, hfar, hsz⟩ := hrel
      have HBS := Lib.hid hbs
      have HLL := Lib.hid hL
      have HFA := Lib.hid hfar
      clear hbs hL hfar
      by_cases hm0 : 0 < m
      · obtain ⟨i, rfl⟩ : ∃ i, m = i + 1 := ⟨m - 1, by omega⟩
        have ei : ((i + 1 : Nat) : Int) - 1 = (i : Int) := by omega
        rw [ei]
        clear ei hm0
        have hin : i < n := by omega
        have hil : i < os.length := by have := HL.out; omega
        have hcr := HC.out.below HBS.out.bel
        obtain ⟨b', off, ea, _, hcell⟩ := came_ops hcr (by omega)
        subst ea
        have hbw : b' < w.heap.size := by
          obtain ⟨b2, off2, ea2, hbl2, _⟩ := came_ops HC.out (by omega)
          simp only [Option.some.injEq, Addr.mk.injEq, and_true] at ea2
          rw [ea2.1]; exact hbl2
        have hc0 := (hcell i hil).c0
        obtain ⟨oi, hoi⟩ : ∃ o, o = os[i].op := ⟨_, rfl⟩
        rw [← hoi] at hc0
        have HOI := Lib.hid hoi
        have HCELL := Lib.hid hcell
        clear hoi hcell hcr
        have hg2 := HBS.out.g.cell 2
        have hfi := HBS.out.f.row hin
        have ffi := HBS.out.f.free i
        have hfl := HBS.out.f.lt
        simp only [List.getElem?_cons_zero, List.getElem?_cons_succ] at hg2
        go_upto_region 5 with fail
        have r0 : ∀ y : AfterR (Keep2 gg b') wr.drew, y.world.cell? ⟨gg, 2, none⟩ = some (.slice (some ⟨gf, 0, none⟩) n n) := fun y => (Keep2.cell1 y.rel).trans hg2
        have r1 : ∀ y : AfterR (Keep2 gg b') wr.drew, y.world.cell? ⟨b', off + i * 5, none⟩ = some (.int .i64 oi) := fun y => (Keep2.cell2 y.rel).trans hc0
        refine wp_region_eagerRF (Keep2 gg b') [(0, true), (1, true), (2, true), (3, true), (4, true), (5, true), (6, true), (7, true), (8, false), (9, true), (10, false)] (by kernel_rfl) (by kernel_rfl) ?_
        repeat (refine eagR_readF rfl ?_; go_big_quiet_step (fail); refine wpQuiet_nil ?_)
        refine eagR_doesF rfl rfl ?_
        intro K hK
        go_simp
        refine (latency_any oi _).mono ?_
        rintro e w' ⟨rfl, rfl⟩
        refine hK _ _ (fun _ => PreR.refl _) ?_
        clear hK K
        go_simp
        refine eagR_readF rfl ?_
        go_big_quiet_step (fail)
        refine wpQuiet_nil ?_
        clear r0 r1 hg2 hc0
        refine eagR_doesF rfl rfl ?_
        intro K hK
        go_simp
        refine hK _ _ (fun h => False.elim (Bool.false_ne_true (h.symm.trans (by kernel_rfl)))) ?_
        clear hK K
        go_simp
        refine eagR_endF ?_
        have hb4 := (HBS.out.setF HFX.out i (latOf oi : Int)).later (w' := (wr.setCell ⟨gf, i, none⟩ (.int .i64 (latOf oi : Int))).drew) ((Below.refl _ _).drew)
        have hsz4 : B1 ≤ (wr.setCell ⟨gf, i, none⟩ (.int .i64 (latOf oi : Int))).drew.heap.size := by show B1 ≤ (wr.setCell _ _).heap.size; simpa using hsz
        have hlb := latOf_bd oi
        have hfar1 : ∀ j, j < n → 0 ≤ (fun j => if j = i then (latOf oi : Int) else far j) j ∧ (fun j => if j = i then (latOf oi : Int) else far j) j ≤ 8 * ((n : Int) - j) := fun j hj => by
          show 0 ≤ (if j = i then (latOf oi : Int) else far j) ∧ (if j = i then (latOf oi : Int) else far j) ≤ 8 * ((n : Int) - j)
          by_cases e : j = i
          · rw [if_pos e]; omega
          · rw [if_neg e]; exact HFA.out j hj
        have HB4 := Lib.hid hb4
        have HF4 := Lib.hid hfar1
        generalize (wr.setCell ⟨gf, i, none⟩ (.int .i64 (latOf oi : Int))).drew = w4 at HB4 hsz4 ⊢
        clear hb4 hfar1 HBS hsz HFA hfi ffi hfl HCELL HOI hlb
        generalize (fun j => if j = i then (latOf oi : Int) else far j) = far4 at HB4 HF4
        go_wp2_with fail
        go_loopw [5] (fun u wx => ∃ (k : Nat) (rows : Nat → Value) (L : Nat → List Nat) (far : Nat → Int), i + 1 ≤ k ∧ k ≤ n ∧ u = .int .i64 (k : Int) ∧ BSt n w wx go ga gf gg gr B1 rows L (fun j => (openF D (i + 1) j : Int) + (if j < k ∧ i < j ∧ D i j = true then 1 else 0)) far ∧ (∀ j, j < n → L j = if i + 1 ≤ j then afterU D j n else if j = i then afterU D i k else []) ∧ (∀ j, j < n → 0 ≤ far j ∧ far j ≤ 8 * ((n : Int) - j)) ∧ B1 ≤ wx.heap.size) (fun u _ => n - (intOf u).toNat)
        case atStart =>
          refine ⟨i + 1, rows, L, far4, Nat.le_refl _, hm, by go_num, HB4.out.congr (fun j hj => ?_) (fun _ _ => rfl), fun j hj => ?_, HF4.out, hsz4⟩
          · rw [if_neg (by omega), Int.add_zero]
          · rw [HLL.out j hj]
            by_cases e1 : i + 1 ≤ j
            · rw [if_pos e1, if_pos e1]
            · rw [if_neg e1, if_neg e1]
              by_cases e2 : j = i
              · rw [if_pos e2, afterU_start]
              · rw [if_neg e2]
        case round =>
          clear HB4 HF4 hsz4 HLL
          obtain ⟨k, rows, L, far, hik, hk, rfl, hbs, hL, hfar, hsz⟩ := hrel
          have HBS := Lib.hid hbs
          have HLL := Lib.hid hL
          have HFA := Lib.hid hfar
          clear hbs hL hfar
          by_cases hlk : k < n
          · have hkl : k < os.length := by have := HL.out; omega
            obtain ⟨b2, off2, ea2, hbl2, hcell⟩ := came_ops (HC.out.below HBS.out.bel) (by omega)
            simp only [Option.some.injEq, Addr.mk.injEq, and_true] at ea2
            obtain ⟨rfl, rfl⟩ := ea2
            have hi5 := hcell i hil
            have hk5 := hcell k hkl
            have hgi := HG.out _ (List.getElem_mem hil)
            have hgk := HG.out _ (List.getElem_mem hkl)
            have hdik := HDE.out i k hil hkl
            generalize os[i] = oo at hi5 hgi hdik
            generalize os[k] = ok at hk5 hgk hdik
            obtain ⟨o1, d1, a1, x1, n1⟩ := oo
            obtain ⟨o2, d2, a2, x2, n2⟩ := ok
            obtain ⟨p0, p1, p2, p3, p4⟩ := hi5
            obtain ⟨q0, q1, q2, q3, q4⟩ := hk5
            simp only [] at p0 p1 p2 p3 p4 q0 q1 q2 q3 q4 hgi hgk hdik
            have hr1 := good_op hgi
            have hr2 := good_op hgk
            simp only [] at hr1 hr2
            have HDP := fun w => Lib.hid (depends_any o1 d1 a1 x1 n1 o2 d2 a2 x2 n2 w hr1 hr2)
            unfold DepPost at HDP
            rw [← hdik] at HDP
            clear hcell hgi hgk hdik hr1 hr2
            go_upto_region 9 with fail
            have r0 : ∀ y : AfterR (Keep1 b') wr.drew, y.world.cell? ⟨b', off + i * 5, none⟩ = some (.int .i64 o1) := fun y => (Keep1.cell y.rel).trans p0
            have r1 : ∀ y : AfterR (Keep1 b') wr.drew, y.world.cell? ⟨b', off + i * 5 + 1, none⟩ = some (.int .i64 d1) := fun y => (Keep1.cell y.rel).trans p1
            have r2 : ∀ y : AfterR (Keep1 b') wr.drew, y.world.cell? ⟨b', off + i * 5 + 2, none⟩ = some (.int .i64 a1) := fun y => (Keep1.cell y.rel).trans p2
            have r3 : ∀ y : AfterR (Keep1 b') wr.drew, y.world.cell? ⟨b', off + i * 5 + 3, none⟩ = some (.int .i64 x1) := fun y => (Keep1.cell y.rel).trans p3
            have r4 : ∀ y : AfterR (Keep1 b') wr.drew, y.world.cell? ⟨b', off + i * 5 + 4, none⟩ = some (.int .i64 n1) := fun y => (Keep1.cell y.rel).trans p4
            have s0 : ∀ y : AfterR (Keep1 b') wr.drew, y.world.cell? ⟨b', off + k * 5, none⟩ = some (.int .i64 o2) := fun y => (Keep1.cell y.rel).trans q0
            have s1 : ∀ y : AfterR (Keep1 b') wr.drew, y.world.cell? ⟨b', off + k * 5 + 1, none⟩ = some (.int .i64 d2) := fun y => (Keep1.cell y.rel).trans q1
            have s2 : ∀ y : AfterR (Keep1 b') wr.drew, y.world.cell? ⟨b', off + k * 5 + 2, none⟩ = some (.int .i64 a2) := fun y => (Keep1.cell y.rel).trans q2
            have s3 : ∀ y : AfterR (Keep1 b') wr.drew, y.world.cell? ⟨b', off + k * 5 + 3, none⟩ = some (.int .i64 x2) := fun y => (Keep1.cell y.rel).trans q3
            have s4 : ∀ y : AfterR (Keep1 b') wr.drew, y.world.cell? ⟨b', off + k * 5 + 4, none⟩ = some (.int .i64 n2) := fun y => (Keep1.cell y.rel).trans q4
            clear p1 p2 p3 p4 q0 q1 q2 q3 q4
            refine wp_region_eagerRF (Keep1 b') [(0, true), (1, true), (2, true), (3, true), (4, true), (5, true), (6, true), (7, true), (8, false)] (by kernel_rfl) (by kernel_rfl) ?_
            repeat (refine eagR_readF rfl ?_; go_big_quiet_step (fail); refine wpQuiet_nil ?_)
            clear r0 r1 r2 r3 r4 s0 s1 s2 s3 s4
            refine eagR_doesF rfl rfl ?_
            intro K hK
            go_simp
            refine (HDP _).out.mono ?_
            rintro e w5 ⟨rfl, hb5⟩
            refine hK _ _ (fun _ => hb5.block b' hbl2) ?_
            clear hK K HDP
            go_simp
            refine eagR_endF ?_
            have hb5' : Below wr.heap.size wr w5 := ((Below.refl wr.heap.size wr).drew).trans hb5
            have HB5 := Lib.hid (HBS.out.later hb5')
            have hsz5 : B1 ≤ w5.heap.size := by have := hb5'.size; omega
            have hp0 : w5.cell? ⟨b', off + i * 5, none⟩ = some (.int .i64 o1) := (hb5'.cell (p := ⟨b', off + i * 5, none⟩) hbl2).trans p0
            clear hb5 hb5' p0 HBS hsz
            by_cases hdep : D i k = true
            · rw [hdep]
              have HDEP := Lib.hid hdep
              clear hdep
              have kl : w5.heap.size = w5.drew.heap.size := rfl
              have hde5 : Below w5.heap.size w5 w5.drew := (Below.refl _ _).drew
              have h1 := HB5.out.g.cell 1
              have h2 := HB5.out.a.row hin
              simp only [List.getElem?_cons_zero, List.getElem?_cons_succ] at h1
              go_upto_region 10 with fail
              have r1 : ∀ y : AfterR (Keep2 gg ga) w5.drew, y.world.cell? ⟨gg, 1, none⟩ = some (.slice (some ⟨ga, 0, none⟩) n n) := fun y => (Keep2.cell1 y.rel).trans h1
              have r2 : ∀ y : AfterR (Keep2 gg ga) w5.drew, y.world.cell? ⟨ga, i, none⟩ = some (rows i) := fun y => (Keep2.cell2 y.rel).trans h2
              refine wp_region_eagerRF (Keep2 gg ga) [(0, true), (1, true), (2, true), (3, true), (4, true), (5, true), (6, true), (7, true), (8, true), (9, false), (10, false), (11, true), (12, false)] (by kernel_rfl) (by kernel_rfl) ?_
              have HB6 := Lib.hid (HB5.out.later hde5)
              have hp6 : w5.drew.cell? ⟨b', off + i * 5, none⟩ = some (.int .i64 o1) := hp0
              have hsz6 : B1 ≤ w5.drew.heap.size := hsz5
              clear kl hde5 h1 h2 HB5 hp0 hsz5
              generalize w5.drew = w6 at *
              repeat (refine eagR_readF rfl ?_; go_big_quiet_step (fail); refine wpQuiet_nil ?_)
              clear r1 r2
              refine eagR_doesF rfl rfl ?_
              intro K hK
              go_simp
              refine hK _ _ (fun _ => ⟨Below.heap_alloc w6 _ _ HB6.out.g.lt, Below.heap_alloc w6 _ _ HB6.out.a.lt⟩) ?_
              clear hK K
              go_simp
              have hba : Below w6.heap.size w6 (w6.alloc (.cells #[.int .i64 (k : Int)] 3)) := (Below.refl _ _).alloc (Nat.le_refl _) _
              have HB7 := Lib.hid (HB6.out.later hba)
              have hbb6 : b' < w6.heap.size := World.block_lt_of_cell? w6 _ hp6
              have hp7 : (w6.alloc (.cells #[.int .i64 (k : Int)] 3)).cell? ⟨b', off + i * 5, none⟩ = some (.int .i64 o1) := (hba.cell (p := ⟨b', off + i * 5, none⟩) hbb6).trans hp6
              have hsz7 : B1 ≤ (w6.alloc (.cells #[.int .i64 (k : Int)] 3)).heap.size := by simp; omega
              have HA2 := Lib.hid (cell_one_new w6 (.int .i64 (k : Int)) 3)
              have HA3 : Hid (∀ u ∈ ([Value.int .i64 (k : Int)] : List Value), u.oneCell' = true) := by intro u hu; simp at hu; subst hu; rfl
              obtain ⟨gw, hgw⟩ : ∃ g, g = w6.heap.size := ⟨_, rfl⟩
              rw [← hgw] at HA2 ⊢
              clear hba hgw HB6 hp6 hsz6 hbb6
              generalize w6.alloc (.cells #[.int .i64 (k : Int)] 3) = w7 at *
              obtain ⟨i0, hi0, hz0, hz1, hz2⟩ := info_parts Try.infoT3
              have hLi := HLL.out i hin
              rw [if_neg (by omega), if_pos rfl] at hLi
              have hlen := afterU_len D i k
              have hwl : (wrL (L i)).length ≤ 256 := by rw [hLi]; simp [wrL]; omega
              have HLI := Lib.hid hLi
              clear hLi
              refine eagR_doesF rfl rfl ?_
              intro K hK
              refine wp_append_lies _ _ _ 24 rfl B1 3 i0 (.int .i64 0) 1 8 Try.underlying24 hi0 hz0 hz1 hz2 rfl (by decide) _ _ _ rfl (HB7.out.r i hin) ⟨gw, 0, none⟩ 1 1 [.int .i64 (k : Int)] rfl rfl HA2.out HA3.out (by decide) (by unfold maxLen; omega) (by omega) hsz7 _ rfl ?_
              intro g cap w8 hown8 hgr8 hlie8 hlt8
              have hvB : ∀ q, (rows i).ownBlock = some q → B1 ≤ q := fun q hq => (World.ownsRow.lt (HB7.out.r i hin) q hq).1
              have how : OwnI w8 B1 (.slice (some ⟨g, 0, none⟩) ((wrL (L i)).length + 1) cap) (wrL (L i ++ [k])) := by
                rw [wrL_append]
                unfold OwnI
                rw [List.length_append, intVs_append]
                exact hown8
              have hkeep : ∀ q, q < B1 → w8.heap[q]? = w7.heap[q]? := fun q hq => hgr8.block q (by omega) (fun e => by have := hvB _ e.symm; omega)
              have hgB := HFX.out.lg.2
              have haB := HFX.out.la.2
              refine hK _ _ (fun _ => ⟨hkeep gg hgB, hkeep ga haB⟩) ?_
              clear hK K
              go_simp
              have HAD := Lib.hid (HB7.out.addA HFX.out hin hgr8 how hlie8 hsz7)
              have a8 := HB7.out.a.of_heap (hkeep ga haB)
              have c8 := a8.row hin
              have f8 := a8.free i
              have hp8 : w8.cell? ⟨b', off + i * 5, none⟩ = some (.int .i64 o1) := (World.cell?_of_block (a := ⟨b', off + i * 5, none⟩) (hkeep b' (by have := HFX.out.lo; omega))).trans hp7
              have hsz8 : B1 ≤ w8.heap.size := by have := hgr8.size; omega
              have hga8 : ga < w8.heap.size := a8.lt
              clear hown8 hgr8 hlie8 hlt8 hvB how hkeep HB7 hp7 hsz7 HA2 HA3 a8
              refine eagR_readF rfl ?_
              go_big_quiet_step (fail)
              refine wpQuiet_nil ?_
              refine eagR_doesF rfl rfl ?_
              intro K hK
              go_simp
              refine hK _ _ (fun h => False.elim (Bool.false_ne_true (h.symm.trans (by kernel_rfl)))) ?_
              clear hK K
              go_simp
              refine eagR_endF ?_
              have hp9 : (w8.setCell ⟨ga, i, none⟩ (.slice (some ⟨g, 0, none⟩) ((wrL (L i)).length + 1) cap)).cell? ⟨b', off + i * 5, none⟩ = some (.int .i64 o1) := by
                rw [World.cell?_of_block (a := ⟨b', off + i * 5, none⟩) (Below.heap_setCell w8 ⟨ga, i, none⟩ _ b' (fun e => by have e2 : b' = ga := e; have := HFX.out.la; omega))]
                exact hp8
              have hsz9 : B1 ≤ (w8.setCell ⟨ga, i, none⟩ (.slice (some ⟨g, 0, none⟩) ((wrL (L i)).length + 1) cap)).heap.size := by simpa using hsz8
              generalize w8.setCell ⟨ga, i, none⟩ (.slice (some ⟨g, 0, none⟩) ((wrL (L i)).length + 1) cap) = w9 at HAD hp9 hsz9 ⊢
              clear c8 f8 hp8 hsz8 hga8 hi0 hz0 hz1 hz2 hwl hlen
              have o0 := HAD.out.g.cell 0
              have o1' := HAD.out.o.row hlk
              have of1 := HAD.out.o.free k
              simp only [List.getElem?_cons_zero, List.getElem?_cons_succ] at o0
              rw [if_neg (by omega), Int.add_zero] at o1'
              have hole := openF_le D (i + 1) k
              obtain ⟨x, hx⟩ : ∃ x, x = openF D (i + 1) k := ⟨_, rfl⟩
              rw [← hx] at o1' hole
              have HX := Lib.hid hx
              clear hx
              go_upto_region 12 with fail
              clear o0 o1' of1
              have hxw : ((x : Int) + 1) = ((x + 1 : Nat) : Int) := by omega
              have hb10 := HAD.out.setO HFX.out k ((x : Int) + 1)
              have hp10 : (w9.setCell ⟨go, k, none⟩ (.int .i64 ((x : Int) + 1))).cell? ⟨b', off + i * 5, none⟩ = some (.int .i64 o1) := by
                rw [World.cell?_of_block (a := ⟨b', off + i * 5, none⟩) (Below.heap_setCell w9 ⟨go, k, none⟩ _ b' (fun e => by have e2 : b' = go := e; have := HFX.out.lo; omega))]
                exact hp9
              have hsz10 : B1 ≤ (w9.setCell ⟨go, k, none⟩ (.int .i64 ((x : Int) + 1))).heap.size := by simpa using hsz9
              try rw [hxw]
              rw [hxw] at hb10 hp10 hsz10
              generalize w9.setCell ⟨go, k, none⟩ (.int .i64 ((x + 1 : Nat) : Int)) = w10 at hb10 hp10 hsz10 ⊢
              have HBT := Lib.hid hb10
              clear hb10 HAD hp9 hsz9 hxw
              have t2 := HBT.out.g.cell 2
              have ti := HBT.out.f.row hin
              have tk := HBT.out.f.row hlk
              have ff := HBT.out.f.free i
              simp only [List.getElem?_cons_zero, List.getElem?_cons_succ] at t2
              have bfi := HFA.out i hin
              have bfk := HFA.out k hlk
              have blo := latOf_bd o1
              obtain ⟨fi, hfi⟩ : ∃ x, x = far i := ⟨_, rfl⟩
              obtain ⟨fk, hfk⟩ : ∃ x, x = far k := ⟨_, rfl⟩
              rw [← hfi] at ti bfi
              rw [← hfk] at tk bfk
              clear hfi hfk
              have r2 : ∀ y : AfterR (Keep3 gg gf b') w10.drew, y.world.cell? ⟨gg, 2, none⟩ = some (.slice (some ⟨gf, 0, none⟩) n n) := fun y => (Keep3.cell1 y.rel).trans t2
              have r3 : ∀ y : AfterR (Keep3 gg gf b') w10.drew, y.world.cell? ⟨gf, i, none⟩ = some (.int .i64 fi) := fun y => (Keep3.cell2 y.rel).trans ti
              have r4 : ∀ y : AfterR (Keep3 gg gf b') w10.drew, y.world.cell? ⟨gf, k, none⟩ = some (.int .i64 fk) := fun y => (Keep3.cell2 y.rel).trans tk
              have r5 : ∀ y : AfterR (Keep3 gg gf b') w10.drew, y.world.cell? ⟨b', off + i * 5, none⟩ = some (.int .i64 o1) := fun y => (Keep3.cell3 y.rel).trans hp10
              refine wp_region_eagerRF (Keep3 gg gf b') [(0, true), (1, true), (2, true), (3, true), (4, true), (5, true), (6, true), (7, true), (8, true), (9, true), (10, true), (11, true), (12, true), (14, true), (15, true), (16, true), (17, true), (18, true), (13, false), (19, true), (20, true), (21, true), (22, false)] (by kernel_rfl) (by kernel_rfl) ?_
              repeat (refine eagR_readF rfl ?_; go_big_quiet_step (fail); refine wpQuiet_nil ?_)
              refine eagR_doesF rfl rfl ?_
              intro K hK
              go_simp
              refine (latency_any o1 _).mono ?_
              rintro e w' ⟨rfl, rfl⟩
              refine hK _ _ (fun _ => PreR.refl _) ?_
              clear hK K
              go_simp
              repeat (refine eagR_readF rfl ?_; go_big_quiet_step (fail); refine wpQuiet_nil ?_)
              clear r2 r3 r4 r5
              have hgf10 := HBT.out.f.lt
              refine eagR_doesF rfl rfl ?_
              intro K hK
              go_simp
              refine hK _ _ (fun h => False.elim (Bool.false_ne_true (h.symm.trans (by kernel_rfl)))) ?_
              clear hK K
              go_simp
              refine eagR_endF ?_
              have hmx : 0 ≤ (if fi < (latOf o1 : Int) + fk then (latOf o1 : Int) + fk else fi) ∧ (if fi < (latOf o1 : Int) + fk then (latOf o1 : Int) + fk else fi) ≤ 8 * ((n : Int) - i) := by split <;> omega
              generalize (if fi < (latOf o1 : Int) + fk then (latOf o1 : Int) + fk else fi) = vm at hmx ⊢
              have hb11 := (HBT.out.setF HFX.out i vm).later (w' := (w10.setCell ⟨gf, i, none⟩ (.int .i64 vm)).drew) ((Below.refl _ _).drew)
              have hsz11 : B1 ≤ (w10.setCell ⟨gf, i, none⟩ (.int .i64 vm)).drew.heap.size := by show B1 ≤ (w10.setCell _ _).heap.size; simpa using hsz10
              generalize (w10.setCell ⟨gf, i, none⟩ (.int .i64 vm)).drew = w11 at hb11 hsz11 ⊢
              have HBV := Lib.hid hb11
              have HMX := Lib.hid hmx
              clear hb11 HBT t2 ti tk ff bfi bfk blo hp10 hsz10 hgf10 hmx
              go_wp2_with fail
              go_roundw
              case rel =>
                refine ⟨k + 1, _, _, _, by omega, by omega, by go_num, HBV.out.congr (L' := fun j => if j = i then L i ++ [k] else L j) (fun j hj => ?_) (fun _ _ => rfl), fun j hj => ?_, fun j hj => ?_, hsz11⟩
                · by_cases e : j = k
                  · subst e
                    rw [if_pos rfl, if_pos ⟨by omega, by omega, HDEP.out⟩, HX.out]
                    omega
                  · rw [if_neg e]
                    have : (j < k ∧ i < j ∧ D i j = true) ↔ (j < k + 1 ∧ i < j ∧ D i j = true) := ⟨fun h => ⟨by omega, h.2⟩, fun h => ⟨by omega, h.2⟩⟩
                    simp only [this]
                · show (if j = i then L i ++ [k] else L j) = _
                  by_cases e2 : j = i
                  · subst e2
                    rw [if_pos rfl, if_neg (by omega), if_pos rfl, HLI.out, afterU_succ, if_pos ⟨by omega, HDEP.out⟩]
                  · rw [if_neg e2, HLL.out j hj]
                    by_cases e1 : i + 1 ≤ j
                    · rw [if_pos e1, if_pos e1]
                    · rw [if_neg e1, if_neg e2, if_neg e1, if_neg e2]
                · show 0 ≤ (if j = i then vm else far j) ∧ (if j = i then vm else far j) ≤ _
                  by_cases e2 : j = i
                  · subst e2
                    rw [if_pos rfl]; exact HMX.out
                  · rw [if_neg e2]; exact HFA.out j hj
              case measure => simp [intOf]; omega
            · have hdf : D i k = false := by simpa using hdep
              rw [hdf]
              have HDF := Lib.hid hdf
              clear hdep hdf
              go_wp2_with fail
              go_roundw
              case rel =>
                refine ⟨k + 1, rows, L, far, by omega, by omega, by go_num, HB5.out.congr (fun j hj => ?_) (fun _ _ => rfl), fun j hj => ?_, HFA.out, hsz5⟩
                · have : (j < k ∧ i < j ∧ D i j = true) ↔ (j < k + 1 ∧ i < j ∧ D i j = true) := by
                    constructor
                    · exact fun h => ⟨by omega, h.2⟩
                    · intro h
                      refine ⟨?_, h.2⟩
                      by_cases e : j = k
                      · subst e
                        have := HDF.out
                        rw [this] at h
                        exact absurd h.2.2 (by simp)
                      · omega
                  simp only [this]
                · rw [HLL.out j hj]
                  by_cases e1 : i + 1 ≤ j
                  · rw [if_pos e1, if_pos e1]
                  · rw [if_neg e1, if_neg e1]
                    by_cases e2 : j = i
                    · rw [if_pos e2, if_pos e2, afterU_succ, if_neg (fun h => by rw [HDF.out] at h; exact absurd h.2 (by simp)), List.append_nil]
                    · rw [if_neg e2, if_neg e2]
              case measure => simp [intOf]; omega
          · have ek : k = n := by omega
            subst ek
            clear HDE HG
            go_wp2_with fail
            go_roundw
            case rel =>
              refine ⟨i, rows, L, far, by omega, rfl, HBS.out.congr (fun j hj => ?_) (fun _ _ => rfl), fun j hj => ?_, HFA.out, hsz⟩
              · rw [openF_succ D i j]
                by_cases e : i < j ∧ D i j = true
                · rw [if_pos e, if_pos ⟨hj, e⟩]; omega
                · rw [if_neg e, if_neg (fun h => e h.2)]; omega
              · rw [HLL.out j hj]
                by_cases e1 : i + 1 ≤ j
                · rw [if_pos e1, if_pos (by omega)]
                · rw [if_neg e1]
                  by_cases e2 : j = i
                  · subst e2
                    rw [if_pos rfl, if_pos (Nat.le_refl _)]
                  · rw [if_neg e2, if_neg (by omega)]
            case measure => first | (simp [intOf]; done) | (simp [intOf]; omega)
      · have hm0' : m = 0 := by omega
        subst hm0'
        have HSZ : Hid ((Try.prog.info? 195).map (·.size) = some 3) := by unfold Hid; kernel_rfl
        have HFN := Lib.hid (HBS.out.final (cs := #[.slice (some ⟨go, 0, none⟩) n n, .slice (some ⟨ga, 0, none⟩) n n, .slice (some ⟨gf, 0, none⟩) n n]) HFX.out (fun j hj => by rw [HLL.out j hj, if_pos (Nat.zero_le _)]))
        have HBG := Lib.hid HBS.out.g
        have HBR := Lib.hid HBS.out.s
        clear HBS HLL HFA HDE HG hsz
        go_wp2_with (first
          | (refine wpList_load_row rfl 195 _ rfl gg rfl _ #[.slice (some ⟨go, 0, none⟩) n n, .slice (some ⟨ga, 0, none⟩) n n, .slice (some ⟨gf, 0, none⟩) n n] _ _ HBG.out Try.underlying195 rfl HSZ.out ?_)
          | (refine wpList_store_rowTo rfl 195 _ _ rfl rfl gr #[.slice (some ⟨go, 0, none⟩) n n, .slice (some ⟨ga, 0, none⟩) n n, .slice (some ⟨gf, 0, none⟩) n n] rfl rfl _ _ HBR.out HSZ.out rfl (by simp [Value.oneCell']) ?_))
        have hr4 := setRowBlk HBR.out [.slice (some ⟨go, 0, none⟩) n n, .slice (some ⟨ga, 0, none⟩) n n, .slice (some ⟨gf, 0, none⟩) n n]
        exact bodyPost_ret (results_cell_row rfl _ _ gr _ _ _ _ rfl hr4 Try.underlying195 rfl HSZ.out) rfl ⟨go, ga, gf, rows, far, rfl, HFN.out⟩
end Go.Proofs.Ytnfgjcdiophphab
