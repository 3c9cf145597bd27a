/- linear.Allocate at the law's function of one parameter: the parameter gets register 1. -/
import Derived.Test.YtdnpoomagjcpfaaGreatLinRw
import Derived.Test.YtdnpoomagjcpfaaGreatVFact
import Derived.LoopN
namespace Go.Proofs.YtdnpoomagjcpfaaGreat
open Go.RowKit
set_option linter.unusedVariables false
set_option linter.unusedSimpArgs false

theorem ixn_any (w : World) (a : Option Addr) (c : Nat) (fv : Value) : Calls Tryz.prog 92 #[.slice a 0 c, fv] w (fun e w' => e = .returned (.int .i64 (-1)) ∧ w = w') := by
 go_enter Tryz.func92, Tryz.ntmps92
 go_wp2_with fail
 refine wp_loop_rounds 1 ?_
 rw [rounds_succ]
 go_wp2_with fail
 go_ret
 exact ⟨rfl, rfl⟩
theorem deln_any (w : World) (a : Option Addr) (c : Nat) (fv : Value) : Calls Tryz.prog 64 #[.slice a 0 c, fv] w (fun e w' => e = .returned (.slice a 0 c) ∧ w = w') := by
 have HX := fun w => Lib.hid (ixn_any w a c fv)
 go_enter Tryz.func64, Tryz.ntmps64
 go_wp2_with fail
 refine (HX _).out.mono ?_
 rintro e w1 ⟨rfl, rfl⟩
 go_wp2_with fail
 go_ret
 exact ⟨rfl, rfl⟩
theorem conn_any (w : World) (a : Option Addr) (c : Nat) (fv : Value) : Calls Tryz.prog 95 #[.slice a 0 c, fv] w (fun e w' => e = .returned (.bool false) ∧ w = w') := by
 have HX := fun w => Lib.hid (ixn_any w a c fv)
 go_enter Tryz.func95, Tryz.ntmps95
 go_wp2_with fail
 refine (HX _).out.mono ?_
 rintro e w1 ⟨rfl, rfl⟩
 go_wp2_with fail
 go_ret
 exact ⟨rfl, rfl⟩
theorem iso1_any (w : World) (a : Option Addr) (c : Nat) (fv : Value) : Calls Tryz.prog 130 #[.slice a 1 c, .int .i64 0, .int .i64 1, fv] w (fun e w' => e = .returned (.tuple #[]) ∧ w = w') := by
 go_enter Tryz.func130, Tryz.ntmps130
 go_wp2_with fail
 refine wp_loop_rounds 1 ?_
 rw [rounds_succ]
 go_wp2_with fail
 exact bodyPost_end (results_none rfl _ _ _) rfl ⟨rfl, rfl⟩
theorem sta1_any (w : World) (a : Option Addr) (c : Nat) (fv : Value) : Calls Tryz.prog 116 #[.slice a 1 c, .int .i64 1, fv] w (fun e w' => e = .returned (.tuple #[]) ∧ w = w') := by
 have HX := fun w => Lib.hid (iso1_any w a c fv)
 go_enter Tryz.func116, Tryz.ntmps116
 go_wp2_with fail
 refine wp_loop_rounds 1 ?_
 rw [rounds_succ]
 go_wp2_with fail
 refine (HX _).out.mono ?_
 rintro e w1 ⟨rfl, rfl⟩
 go_wp2_with fail
 refine wp_loop_rounds 1 ?_
 rw [rounds_succ]
 go_wp2_with fail
 exact bodyPost_end (results_none rfl _ _ _) rfl ⟨rfl, rfl⟩
theorem sort1_any (w : World) (a : Option Addr) (c : Nat) (fv : Value) : Calls Tryz.prog 109 #[.slice a 1 c, fv] w (fun e w' => e = .returned (.tuple #[]) ∧ w = w') := by
 have HX := fun w => Lib.hid (sta1_any w a c fv)
 go_enter Tryz.func109, Tryz.ntmps109
 go_wp2_with fail
 refine (HX _).out.mono ?_
 rintro e w1 ⟨rfl, rfl⟩
 go_wp2_with fail
 exact bodyPost_end (results_none rfl _ _ _) rfl ⟨rfl, rfl⟩
theorem RgRow.cells2 {w : World} {base g c : Nat} {x y : RG} (h : RgRow w base (some ⟨g, 0, none⟩) c [x, y]) : (w.cell? ⟨g, 0, none⟩ = some (.int .i64 x.r) ∧ w.cell? ⟨g, 1, none⟩ = some (.int .i64 x.b) ∧ w.cell? ⟨g, 2, none⟩ = some (.int .i64 x.e) ∧ w.cell? ⟨g, 3, none⟩ = some (.bool x.s)) ∧ w.cell? ⟨g, 4, none⟩ = some (.int .i64 y.r) ∧ w.cell? ⟨g, 5, none⟩ = some (.int .i64 y.b) ∧ w.cell? ⟨g, 6, none⟩ = some (.int .i64 y.e) ∧ w.cell? ⟨g, 7, none⟩ = some (.bool y.s) := ⟨h.cells (i := 0) (by simp), h.cells (i := 1) (by simp)⟩
set_option maxRecDepth 100000 in
set_option maxHeartbeats 8000000 in
theorem ix2_any (w : World) (base g : Nat) (x0 x1 : RG) (h : RgRow w base (some ⟨g, 0, none⟩) 2 [x0, x1]) (h0 : x0.r = 0) :
  Calls Tryz.prog 92 #[.slice (some ⟨g, 0, none⟩) 2 2, .func (.func 108) #[] #[]] w (fun e w' => e = .returned (.int .i64 0) ∧ Below w.heap.size w w') := by
 obtain ⟨⟨c0, c1, c2, c3⟩, _⟩ := h.cells2
 have hg := (h.lt g rfl).2
 have HG := fun wx => Lib.hid (gone_any wx x0)
 rw [show gone x0 = true by unfold gone; simp [h0]] at HG
 unfold rgV at HG
 clear h h0
 go_enter Tryz.func92, Tryz.ntmps92
 go_wp2_with fail
 refine wp_loop_rounds 1 ?_
 rw [rounds_succ]
 go_wp2_with fail
 refine (HG _).out.mono ?_
 rintro e w1 ⟨rfl, hb⟩
 have HB := Lib.hid hb
 clear hb HG c0 c1 c2 c3
 go_wp2_with fail
 go_ret
 exact ⟨rfl, HB.out⟩
set_option maxRecDepth 100000 in
set_option maxHeartbeats 8000000 in
theorem del2_any (w : World) (base g : Nat) (x0 x1 : RG) (h : RgRow w base (some ⟨g, 0, none⟩) 2 [x0, x1]) (h0 : x0.r = 0) (h1 : x1.r = 1) (hb : 0 ≤ x1.b) :
  Calls Tryz.prog 64 #[.slice (some ⟨g, 0, none⟩) 2 2, .func (.func 108) #[] #[]] w (fun e w' => e = .returned (.slice (some ⟨g, 0, none⟩) 1 2) ∧ RgRow w' base (some ⟨g, 0, none⟩) 2 [x1] ∧ RestS (fun k => k = g) w w') := by
 have HX := Lib.hid (ix2_any w base g x0 x1 h h0)
 have HG := fun wx => Lib.hid (gone_any wx x1)
 rw [show gone x1 = false by unfold gone; simp [h1]; omega] at HG
 unfold rgV at HG
 have H := Lib.hid h
 clear h h0 h1 hb
 go_enter Tryz.func64, Tryz.ntmps64
 go_wp2_with fail
 refine HX.out.mono ?_
 rintro e w1 ⟨rfl, hb1⟩
 have H1 := Lib.hid (H.out.below hb1)
 have HR1 := Lib.hid (below_refl_of hb1 (fun k => k = g))
 obtain ⟨_, c0, c1, c2, c3⟩ := H1.out.cells2
 have hg := (H1.out.lt g rfl).2
 clear hb1 HX H
 go_wp2_with fail
 refine wp_loop_rounds 2 ?_
 rw [rounds_succ]
 go_wp2_with fail
 refine (HG _).out.mono ?_
 rintro e w7 ⟨rfl, hb7⟩
 have HB7 : Hid (Below w1.heap.size w1 w7) := ((Below.refl _ _).alloc (Nat.le_refl _) _).trans (hb7.mono (by simp))
 have d0 := hb7.cell (p := ⟨w1.heap.size, 0, none⟩) (by simp)
 have d1 := hb7.cell (p := ⟨w1.heap.size, 1, none⟩) (by simp)
 have d2 := hb7.cell (p := ⟨w1.heap.size, 2, none⟩) (by simp)
 have d3 := hb7.cell (p := ⟨w1.heap.size, 3, none⟩) (by simp)
 simp [go_sem, rgC] at d0 d1 d2 d3
 have hr7 := H1.out.below HB7.out
 obtain ⟨⟨e0, e1, e2, e3⟩, _⟩ := hr7.cells2
 have f0 : w7.frozen? ⟨g, 0, none⟩ = false := hr7.frees (i := 0) (by simp) 0 (by omega)
 have f1 : w7.frozen? ⟨g, 1, none⟩ = false := hr7.frees (i := 0) (by simp) 1 (by omega)
 have f2 : w7.frozen? ⟨g, 2, none⟩ = false := hr7.frees (i := 0) (by simp) 2 (by omega)
 have f3 : w7.frozen? ⟨g, 3, none⟩ = false := hr7.frees (i := 0) (by simp) 3 (by omega)
 have HP : Hid (RgRow ((((w7.setCell ⟨g, 0, none⟩ (.int .i64 x1.r)).setCell ⟨g, 1, none⟩ (.int .i64 x1.b)).setCell ⟨g, 2, none⟩ (.int .i64 x1.e)).setCell ⟨g, 3, none⟩ (.bool x1.s)) base (some ⟨g, 0, none⟩) 2 [x1, x1]) := hr7.put (i := 0) (by simp) x1
 have HR7 := Lib.hid ((HR1.out.trans (below_refl_of HB7.out _)).put4 0 1 2 3 (.int .i64 x1.r) (.int .i64 x1.b) (.int .i64 x1.e) (.bool x1.s))
 clear hb7 hr7 HG H1 HR1 c0 c1 c2 c3
 go_wp2_with fail
 rw [rounds_succ]
 generalize (((w7.setCell ⟨g, 0, none⟩ (.int .i64 x1.r)).setCell ⟨g, 1, none⟩ (.int .i64 x1.b)).setCell ⟨g, 2, none⟩ (.int .i64 x1.e)).setCell ⟨g, 3, none⟩ (.bool x1.s) = w8 at HP HR7 ⊢
 obtain ⟨w9, hcl, hrow, hrest⟩ := clear_rg w8 base g 2 1 2 [x1, x1] HP.out rfl (by omega)
 have HCL := Lib.hid hcl
 have HROW := Lib.hid hrow
 have HREST := Lib.hid (HR7.out.trans hrest)
 clear hcl hrow hrest HP HR7 HB7 d0 d1 d2 d3 e0 e1 e2 e3 f0 f1 f2 f3
 go_wp2_with (refine wpList_of_wp _ rfl (fun K Q' hk => wp_clear_eq _ _ 114 rfl _ rfl (HCL.out _) hk) ?_)
 go_ret
 exact ⟨rfl, HROW.out, HREST.out⟩
/-- what Ranges keeps: its row of two ranges, and cells that stay -/
structure L1 (w0 w : World) (ab g : Nat) (K : List (Addr × Value)) : Prop where
 be : Below w0.heap.size w0 w
 box : Blk w ab 114 [.slice (some ⟨g, 0, none⟩) 2 2]
 row : ∃ x0 x1, RgRow w w0.heap.size (some ⟨g, 0, none⟩) 2 [x0, x1] ∧ x0.r = 0 ∧ x1.r = 1 ∧ x1.s = false ∧ (-1 ≤ x0.b ∧ x0.b ≤ 1000000000 ∧ 0 ≤ x0.e ∧ x0.e ≤ 1000000000) ∧ -1 ≤ x1.b ∧ x1.b ≤ 1000000000 ∧ 0 ≤ x1.e ∧ x1.e ≤ 1000000000
 kept : ∀ c ∈ K, (c.1.block ≠ g ∧ c.1.block < w.heap.size) ∧ w.cell? c.1 = some c.2
theorem tyne_rg {w : World} {base g b c : Nat} {xs : List RG} {cur : Array Value} {t : TypeId} (hr : RgRow w base (some ⟨g, 0, none⟩) c xs) (hb : w.heap[b]? = some (.cells cur t (0, 0))) (ht : t ≠ 121) : b ≠ g := fun e => by
 obtain ⟨cur', h⟩ := own_blkTy hr rfl
 rw [e, h] at hb
 injection hb with hb
 injection hb with _ hb _
 exact ht hb.symm
section
variable {w0 w w' : World} {ab g : Nat} {K : List (Addr × Value)}
theorem L1.below (h : L1 w0 w ab g K) (hb : Below w.heap.size w w') : L1 w0 w' ab g K := by
 obtain ⟨x0, x1, h1, h2⟩ := h.row
 exact ⟨h.be.trans (hb.mono h.be.size), h.box.below hb h.box.lt, ⟨x0, x1, h1.below hb, h2⟩, fun c hc => ⟨⟨(h.kept c hc).1.1, Nat.lt_of_lt_of_le (h.kept c hc).1.2 hb.size⟩, (hb.cell (p := c.1) (h.kept c hc).1.2).trans (h.kept c hc).2⟩⟩
theorem L1.gt (h : L1 w0 w ab g K) : w0.heap.size ≤ g ∧ g < w.heap.size := by
 obtain ⟨x0, x1, h1, h2⟩ := h.row
 exact h1.lt g rfl
/-- cells of a block of another type are kept as well -/
theorem L1.keep (h : L1 w0 w ab g K) {b : Nat} {cur : Array Value} {t : TypeId} (hb : w.heap[b]? = some (.cells cur t (0, 0))) (ht : t ≠ 121) (L : List (Addr × Value)) (hL : ∀ c ∈ L, c.1.block = b ∧ w.cell? c.1 = some c.2) : L1 w0 w ab g (L ++ K) := by
 refine ⟨h.be, h.box, h.row, fun c hc => ?_⟩
 rcases List.mem_append.1 hc with hc | hc
 ·obtain ⟨h1, h2⟩ := hL c hc
  obtain ⟨x0, x1, h3, _⟩ := h.row
  refine ⟨⟨by rw [h1]; exact tyne_rg h3 hb ht, ?_⟩, h2⟩
  rw [h1]
  exact (Array.getElem?_eq_some_iff.mp hb).1
 ·exact h.kept c hc
theorem L1.at_ (h : L1 w0 w ab g K) {a : Addr} {v : Value} (hm : (a, v) ∈ K) : w.cell? a = some v := (h.kept _ hm).2
theorem L1.ext (h : L1 w0 w ab g K) (r : Nat) (t : Int) (hr : r < 2) (ht : 0 ≤ t ∧ t ≤ 1000000000) :
  Calls Tryz.prog 90 #[.int .i64 (r : Int), .int .i64 t, .pointer (some ⟨ab, 0, none⟩)] w (fun e w' => e = .returned (.tuple #[]) ∧ L1 w0 w' ab g K ∧ (r = 1 → ∃ x0 x1, RgRow w' w0.heap.size (some ⟨g, 0, none⟩) 2 [x0, x1] ∧ x0.r = 0 ∧ x1.r = 1 ∧ x1.s = false ∧ 0 ≤ x1.b)) := by
 obtain ⟨x0, x1, h1, h2, h3, h4, h5, h6⟩ := h.row
 have hk : ∀ (x : RG), (-1 ≤ x.b ∧ x.b ≤ 1000000000 ∧ 0 ≤ x.e ∧ x.e ≤ 1000000000) → (extR x t).r = x.r ∧ (extR x t).s = x.s ∧ 0 ≤ (extR x t).b ∧ (extR x t).b ≤ 1000000000 ∧ 0 ≤ (extR x t).e ∧ (extR x t).e ≤ 1000000000 := fun x hx => by
  unfold extR
  by_cases hn : x.b < 0
  ·rw [if_pos hn]
   exact ⟨rfl, rfl, ht.1, ht.2, ht.1, ht.2⟩
  ·rw [if_neg hn]
   refine ⟨rfl, rfl, ?_, ?_, ?_, ?_⟩ <;> simp only <;> omega
 refine (extend_any w w0.heap.size ab _ 2 [x0, x1] h.box h1 r t hr ht ?_).mono ?_
 ·rcases r with _ | _ | r
  ·exact h5
  ·exact h6
  ·omega
 rintro e w' ⟨rfl, hrow, hrs⟩
 have hne : ∀ k, k ≠ g → ¬ (Value.slice (some ⟨g, 0, none⟩) ([x0, x1] : List RG).length 2).ownBlock = some k := fun k hk e => by
  injection e with e; exact hk e.symm
 have hbx : ab ≠ g := tyne_rg h1 h.box (by decide)
 have hgt := h1.lt g rfl
 have hkept : ∀ c ∈ K, (c.1.block ≠ g ∧ c.1.block < w'.heap.size) ∧ w'.cell? c.1 = some c.2 := fun c hc => by
  obtain ⟨⟨k1, k2⟩, k3⟩ := h.kept c hc
  exact ⟨⟨k1, Nat.lt_of_lt_of_le k2 hrs.size⟩, (World.cell?_of_block (a := c.1) (hrs.block _ k2 (hne _ k1))).trans k3⟩
 have hbe : Below w0.heap.size w0 w' := h.be.trans (hrs.toBelow (fun k e => by injection e with e; rw [← e]; exact hgt.1) h.be.size)
 have hbox := Blk.of_heap h.box (hrs.block _ h.box.lt (hne _ hbx))
 rcases r with _ | _ | r
 ·obtain ⟨a1, a2, a3, a4⟩ := hk x0 h5
  exact ⟨rfl, ⟨hbe, hbox, ⟨extR x0 t, x1, hrow, a1.trans h2, h3, h4, ⟨by omega, a4⟩, h6⟩, hkept⟩, fun e => absurd e (by omega)⟩
 ·obtain ⟨a1, a2, a3, a4⟩ := hk x1 h6
  exact ⟨rfl, ⟨hbe, hbox, ⟨x0, extR x1 t, hrow, h2, a1.trans h3, a2.trans h4, h5, by omega, a4⟩, hkept⟩, fun _ => ⟨x0, extR x1 t, hrow, h2, a1.trans h3, a2.trans h4, a3⟩⟩
 ·omega
end
def fVC (p q : Nat) : List Value := [.int .i64 0, .slice (some ⟨p, 0, none⟩) 1 1, .int .i64 2, .slice (some ⟨q, 0, none⟩) 1 1]
theorem b1_cells {w0 w : World} {p q : Nat} (hf : (f1V p q).Ok w0) (hb : Below w0.heap.size w0 w) : q < w0.heap.size ∧ w.cell? ⟨q, 0, none⟩ = some (.slice none 0 0) ∧ w.cell? ⟨q, 1, none⟩ = some (.int .i64 0) ∧ w.cell? ⟨q, 2, none⟩ = some (.int .i64 0) ∧ w.cell? ⟨q, 3, none⟩ = some (.int .i64 1) ∧ w.cell? ⟨q, 4, none⟩ = some (.int .i64 0) ∧ w.cell? ⟨q, 5, none⟩ = some (.int .i64 0) ∧ w.cell? ⟨q, 6, none⟩ = some (.slice none 0 0) := by
 obtain ⟨g, off, e, hg, d0, d1, d2, d3, d4, d5, d6⟩ := hf.cells hb (i := 0) (by show 0 < 1; omega)
 have e' : (some ⟨q, 0, none⟩ : Option Addr) = some ⟨g, off, none⟩ := e
 injection e' with e'
 injection e' with e1 e2 _
 subst e1 e2
 exact ⟨hg, d0, d1, d2, d3, d4, d5, d6⟩
theorem p1_cell {w0 w : World} {p q : Nat} (hf : (f1V p q).Ok w0) (hb : Below w0.heap.size w0 w) : p < w0.heap.size ∧ w.cell? ⟨p, 0, none⟩ = some (.int .i64 1) := by
 obtain ⟨g, off, e, hg, h⟩ := (hf.pcame.below hb).ints (by show 0 < 1; omega)
 have e' : (some ⟨p, 0, none⟩ : Option Addr) = some ⟨g, off, none⟩ := e
 injection e' with e'
 injection e' with e1 e2 _
 subst e1 e2
 obtain ⟨_, _, e3, hg2, _⟩ := hf.pcame.ints (by show 0 < 1; omega)
 have e4 : (some ⟨p, 0, none⟩ : Option Addr) = _ := e3
 injection e4 with e4
 injection e4 with e5 _ _
 exact ⟨by rw [e5]; exact hg2, h 0 (by show 0 < 1; omega)⟩
set_option maxRecDepth 100000 in
set_option maxHeartbeats 8000000 in
theorem fin1_any (w0 w : World) (p q : Nat) (hf : (f1V p q).Ok w0) (hbe : Below w0.heap.size w0 w) (g : Nat) (x0 x1 : RG) (h : RgRow w w0.heap.size (some ⟨g, 0, none⟩) 2 [x0, x1]) (h0 : x0.r = 0) (h1 : x1.r = 1) (hb : 0 ≤ x1.b) :
  Calls Tryz.prog 91 #[.agg #[.int .i64 0, .slice (some ⟨p, 0, none⟩) 1 1, .int .i64 2, .slice (some ⟨q, 0, none⟩) 1 1], .slice (some ⟨g, 0, none⟩) 2 2] w (fun e w' => e = .returned (.slice (some ⟨g, 0, none⟩) 1 2) ∧ RgRow w' w0.heap.size (some ⟨g, 0, none⟩) 2 [x1] ∧ Below w0.heap.size w0 w') := by
 have HD := fun wx (hr : RgRow wx w0.heap.size (some ⟨g, 0, none⟩) 2 [x0, x1]) => Lib.hid (del2_any wx w0.heap.size g x0 x1 hr h0 h1 hb)
 have HS := fun wx fv => Lib.hid (sort1_any wx (some ⟨g, 0, none⟩) 2 fv)
 have hb1 : Below w.heap.size w (w.alloc (.cells #[.int .i64 0, .slice (some ⟨p, 0, none⟩) 1 1, .int .i64 2, .slice (some ⟨q, 0, none⟩) 1 1] 25)) := (Below.refl _ _).alloc (Nat.le_refl _) _
 have HR1 := Lib.hid (h.below hb1)
 have HB1 := Lib.hid (hbe.trans (hb1.mono hbe.size))
 have hmf : ∀ (fn : Fn) (first cap : Array Value) (w : World), (Instr.makeFunc fn first cap).run Tryz.prog w = .ok (.func fn first cap) w := fun _ _ _ _ => rfl
 have HF := Lib.hid hf
 have HBX := Lib.hid (Blk.new w [.int .i64 0, .slice (some ⟨p, 0, none⟩) 1 1, .int .i64 2, .slice (some ⟨q, 0, none⟩) 1 1] 25)
 clear h h0 h1 hb hb1 hbe hf
 go_enter Tryz.func91, Tryz.ntmps91
 go_upto_region 1 with fail
 obtain ⟨pf, hpf⟩ : ∃ x, x = w.heap.size := ⟨_, rfl⟩
 rw [← hpf] at HBX ⊢
 change Hid (Blk (w.alloc (.cells #[.int .i64 0, .slice (some ⟨p, 0, none⟩) 1 1, .int .i64 2, .slice (some ⟨q, 0, none⟩) 1 1] 25)) pf _ _) at HBX
 clear hpf
 generalize w.alloc (.cells #[.int .i64 0, .slice (some ⟨p, 0, none⟩) 1 1, .int .i64 2, .slice (some ⟨q, 0, none⟩) 1 1] 25) = w1 at HR1 HB1 HBX ⊢
 have c3 := HBX.out.cell 3
 simp only [List.getElem?_cons_zero, List.getElem?_cons_succ] at c3
 obtain ⟨hq, d0, d1, d2, d3, d4, d5, d6⟩ := b1_cells HF.out HB1.out
 go_wp2_with fail
 refine wp_loop_rounds 2 ?_
 rw [rounds_succ]
 go_upto_region 5 with fail
 have hb2 : Below w1.heap.size w1 (w1.alloc (.cells #[.slice none 0 0, .int .i64 0, .int .i64 0, .int .i64 1, .int .i64 0, .int .i64 0, .slice none 0 0] 46)) := (Below.refl _ _).alloc (Nat.le_refl _) _
 have HR2 := Lib.hid (HR1.out.below hb2)
 have HB2 := Lib.hid (HB1.out.trans (hb2.mono HB1.out.size))
 have v0 := (Blk.new w1 [.slice none 0 0, .int .i64 0, .int .i64 0, .int .i64 1, .int .i64 0, .int .i64 0, .slice none 0 0] 46).cell 0
 change (w1.alloc (.cells #[.slice none 0 0, .int .i64 0, .int .i64 0, .int .i64 1, .int .i64 0, .int .i64 0, .slice none 0 0] 46)).cell? _ = _ at v0
 simp only [List.getElem?_cons_zero] at v0
 obtain ⟨vb, hvb⟩ : ∃ x, x = w1.heap.size := ⟨_, rfl⟩
 rw [← hvb] at v0 ⊢
 clear hvb hb2 HR1 HB1 HBX d0 d1 d2 d3 d4 d5 d6 c3
 generalize w1.alloc (.cells #[.slice none 0 0, .int .i64 0, .int .i64 0, .int .i64 1, .int .i64 0, .int .i64 0, .slice none 0 0] 46) = w2 at HR2 HB2 v0 ⊢
 go_wp2_with fail
 refine wp_loop_rounds 1 ?_
 rw [rounds_succ]
 go_wp2_with fail
 rw [rounds_succ]
 go_wp2_with fail
 refine (HD _ HR2.out).out.mono ?_
 rintro e w3 ⟨rfl, hr3, hs3⟩
 have HR3 := Lib.hid hr3
 have HB3 := Lib.hid (HB2.out.trans (hs3.toBelow (fun k e => by rw [e]; exact (HR2.out.lt g rfl).1) HB2.out.size))
 clear hr3 hs3 HD HR2 HB2
 go_wp2_with fail
 refine (HS _ _).out.mono ?_
 rintro e w4 ⟨rfl, rfl⟩
 go_wp2_with fail
 go_ret
 exact ⟨rfl, HR3.out, HB3.out⟩
set_option maxRecDepth 100000 in
set_option maxHeartbeats 8000000 in
theorem rng1_any (w : World) (p q : Nat) (hf : (f1V p q).Ok w) :
  Calls Tryz.prog 63 #[.agg #[.int .i64 0, .slice (some ⟨p, 0, none⟩) 1 1, .int .i64 2, .slice (some ⟨q, 0, none⟩) 1 1]] w (fun e w' => ∃ g x1, e = .returned (.tuple #[.slice (some ⟨g, 0, none⟩) 1 2, .int .i64 0]) ∧ RgRow w' w.heap.size (some ⟨g, 0, none⟩) 2 [x1] ∧ x1.r = 1 ∧ x1.s = false ∧ Below w.heap.size w w') := by
 have hb1 : Below w.heap.size w (w.alloc (.cells #[.int .i64 0, .slice (some ⟨p, 0, none⟩) 1 1, .int .i64 2, .slice (some ⟨q, 0, none⟩) 1 1] 25)) := (Below.refl _ _).alloc (Nat.le_refl _) _
 have HB1 := Lib.hid hb1
 have HBX := Lib.hid (Blk.new w [.int .i64 0, .slice (some ⟨p, 0, none⟩) 1 1, .int .i64 2, .slice (some ⟨q, 0, none⟩) 1 1] 25)
 have hmf : ∀ (fn : Fn) (first cap : Array Value) (w : World), (Instr.makeFunc fn first cap).run Tryz.prog w = .ok (.func fn first cap) w := fun _ _ _ _ => rfl
 have HF := Lib.hid hf
 have HCK := Lib.hid fun wx (h : Below w.heap.size w wx) => vcheck_any wx (f1V p q) (hf.below h)
 rw [f1V_fn p q] at HCK
 have HLV := Lib.hid fun wx (h : Below w.heap.size w wx) => liveC_any wx (f1V p q) (hf.below h) 2 (fun _ => rfl)
 have HEU := Lib.hid fun wx (h : b1V.e.Ok wx) => endUses_any b1V.e wx h
 have HEO := Lib.hid fun wx (h : Below w.heap.size w wx) => ((hf.below h).blocks b1V (by show b1V ∈ [b1V]; simp)).e
 have HFI := Lib.hid (fun wx g x0 x1 (h : Below w.heap.size w wx) => fin1_any w wx p q hf h g x0 x1)
 change Hid (∀ wx, Below w.heap.size w wx → Calls Tryz.prog 21 #[.agg #[.int .i64 0, .slice (some ⟨p, 0, none⟩) 1 1, .int .i64 2, .slice (some ⟨q, 0, none⟩) 1 1]] wx (IntPost 0 wx)) at HCK
 change Hid (∀ wx, Below w.heap.size w wx → Calls Tryz.prog 29 #[.agg #[.int .i64 0, .slice (some ⟨p, 0, none⟩) 1 1, .int .i64 2, .slice (some ⟨q, 0, none⟩) 1 1]] wx (LiveCPost (f1V p q) 2 wx)) at HLV
 change Hid (∀ wx, b1V.e.Ok wx → Calls Tryz.prog 42 #[.agg #[.int .i64 0, .int .i64 0, .int .i64 1, .int .i64 0, .int .i64 0, .slice none 0 0]] wx (VList [1] wx)) at HEU
 clear hb1 hf
 go_enter Tryz.func63, Tryz.ntmps63
 go_upto_region 1 with fail
 obtain ⟨pf, hpf⟩ : ∃ x, x = w.heap.size := ⟨_, rfl⟩
 rw [← hpf] at HBX ⊢
 change Hid (Blk (w.alloc (.cells #[.int .i64 0, .slice (some ⟨p, 0, none⟩) 1 1, .int .i64 2, .slice (some ⟨q, 0, none⟩) 1 1] 25)) pf _ _) at HBX
 clear hpf
 generalize w.alloc (.cells #[.int .i64 0, .slice (some ⟨p, 0, none⟩) 1 1, .int .i64 2, .slice (some ⟨q, 0, none⟩) 1 1] 25) = w1 at HB1 HBX ⊢
 have c0 := HBX.out.cell 0
 have c1 := HBX.out.cell 1
 have c2 := HBX.out.cell 2
 have c3 := HBX.out.cell 3
 simp only [List.getElem?_cons_zero, List.getElem?_cons_succ] at c0 c1 c2 c3
 go_wp2_with fail
 refine (HCK.out _ HB1.out).mono ?_
 rintro e w2 ⟨rfl, hb2⟩
 have HB2 := Lib.hid (HB1.out.trans (hb2.mono HB1.out.size))
 have HBX2 := Lib.hid (HBX.out.below hb2 HBX.out.lt)
 clear hb2 HCK HB1 HBX c0 c1 c2 c3
 have hmk : ∀ w : World, (Instr.makeSlice 114 (.int .i64 2) (.int .i64 2)).run Tryz.prog w = .ok (.slice (some ⟨w.heap.size, 0, none⟩) 2 2) (w.alloc (.cells (rgZ 2) 121)) := fun w => make_rg 2 (by omega) w
 have c2 := HBX2.out.cell 2
 simp only [List.getElem?_cons_zero, List.getElem?_cons_succ] at c2
 go_upto_region 5 with fail
 have hr3 := made_row w2 w.heap.size 2 HB2.out.size (by omega)
 change RgRow _ _ _ _ [zR, zR] at hr3
 have hb3 : Below w2.heap.size w2 (w2.alloc (.cells (rgZ 2) 121)) := (Below.refl _ _).alloc (Nat.le_refl _) _
 have hb4 : Below (w2.alloc (.cells (rgZ 2) 121)).heap.size (w2.alloc (.cells (rgZ 2) 121)) ((w2.alloc (.cells (rgZ 2) 121)).alloc (.cells #[.slice (some ⟨w2.heap.size, 0, none⟩) 2 2] 114)) := (Below.refl _ _).alloc (Nat.le_refl _) _
 have hbx := Blk.new (w2.alloc (.cells (rgZ 2) 121)) [.slice (some ⟨w2.heap.size, 0, none⟩) 2 2] 114
 rw [World.size_alloc] at hbx
 have hbw := HB2.out.trans (hb3.mono HB2.out.size)
 have HBE := Lib.hid (hbw.trans (hb4.mono hbw.size))
 have HBF := Lib.hid ((HBX2.out.below hb3 HBX2.out.lt).below hb4 (by have := HBX2.out.lt; simp; omega))
 have HBO := Lib.hid hbx
 have HRW := Lib.hid (hr3.below hb4)
 obtain ⟨g, hg⟩ : ∃ g, g = w2.heap.size := ⟨_, rfl⟩
 obtain ⟨ab, hab⟩ : ∃ ab, ab = g + 1 := ⟨_, rfl⟩
 change Hid (Blk ((w2.alloc (.cells (rgZ 2) 121)).alloc (.cells #[.slice (some ⟨w2.heap.size, 0, none⟩) 2 2] 114)) _ _ _) at HBO
 rw [← hg] at HBO HRW HBE HBF ⊢
 rw [← hab] at HBO ⊢
 clear hr3 hb3 hb4 hbx hbw hg hab c2 HB2 HBX2 hmk
 generalize (w2.alloc (.cells (rgZ 2) 121)).alloc (.cells #[.slice (some ⟨g, 0, none⟩) 2 2] 114) = w4 at HBE HBF HBO HRW ⊢
 have x0 := HBO.out.cell 0
 simp only [List.getElem?_cons_zero] at x0
 obtain ⟨⟨c0, c1, c2, c3⟩, d0, d1, d2, d3⟩ := HRW.out.cells2
 have f0 : w4.frozen? ⟨g, 0, none⟩ = false := HRW.out.frees (i := 0) (by simp) 0 (by omega)
 have f1 : w4.frozen? ⟨g, 1, none⟩ = false := HRW.out.frees (i := 0) (by simp) 1 (by omega)
 have f2 : w4.frozen? ⟨g, 2, none⟩ = false := HRW.out.frees (i := 0) (by simp) 2 (by omega)
 have f3 : w4.frozen? ⟨g, 3, none⟩ = false := HRW.out.frees (i := 0) (by simp) 3 (by omega)
 have hgw := (HRW.out.lt g rfl).2
 go_wp2_with fail
 refine wp_loop_rounds 3 ?_
 rw [rounds_succ]
 have HAB : Hid (ab ≠ g) := tyne_rg HRW.out HBO.out (by decide)
 have HPF : Hid (pf ≠ g) := tyne_rg HRW.out HBF.out (by decide)
 have HGL := Lib.hid (HRW.out.lt g rfl).1
 go_upto_region 8 with fail
 clear d0 d1 d2 d3
 go_upto_region 9 with fail
 clear c0 c1 c2 c3 f0 f1 f2 f3 x0
 have HP1 : Hid (RgRow ((((w4.setCell ⟨g, 0, none⟩ (.int .i64 0)).setCell ⟨g, 1, none⟩ (.int .i64 (-1))).setCell ⟨g, 2, none⟩ (.int .i64 0)).setCell ⟨g, 3, none⟩ (.bool false)) w.heap.size (some ⟨g, 0, none⟩) 2 [⟨0, -1, 0, false⟩, zR]) := HRW.out.put (i := 0) (by simp) ⟨0, -1, 0, false⟩
 have HR1 := Lib.hid ((RestS.refl (fun k => k = g) w4).put4 0 1 2 3 (.int .i64 0) (.int .i64 (-1)) (.int .i64 0) (.bool false))
 go_wp2_with fail
 generalize (((w4.setCell ⟨g, 0, none⟩ (.int .i64 0)).setCell ⟨g, 1, none⟩ (.int .i64 (-1))).setCell ⟨g, 2, none⟩ (.int .i64 0)).setCell ⟨g, 3, none⟩ (.bool false) = w5 at HP1 HR1 ⊢
 have HB5 := Lib.hid (Blk.of_heap HBO.out (HR1.out.block _ HBO.out.lt HAB.out))
 have HF5 := Lib.hid (Blk.of_heap HBF.out (HR1.out.block _ HBF.out.lt HPF.out))
 have HE5 := Lib.hid (HBE.out.trans (HR1.out.toBelow (fun k e => by rw [e]; exact HGL.out) HBE.out.size))
 have x0 := HB5.out.cell 0
 simp only [List.getElem?_cons_zero] at x0
 obtain ⟨_, c0, c1, c2, c3⟩ := HP1.out.cells2
 have f0 : w5.frozen? ⟨g, 4, none⟩ = false := HP1.out.frees (i := 1) (by simp) 0 (by omega)
 have f1 : w5.frozen? ⟨g, 5, none⟩ = false := HP1.out.frees (i := 1) (by simp) 1 (by omega)
 have f2 : w5.frozen? ⟨g, 6, none⟩ = false := HP1.out.frees (i := 1) (by simp) 2 (by omega)
 have f3 : w5.frozen? ⟨g, 7, none⟩ = false := HP1.out.frees (i := 1) (by simp) 3 (by omega)
 have hgw := (HP1.out.lt g rfl).2
 clear HR1 HBO HBF HBE HRW
 rw [rounds_succ]
 go_upto_region 9 with fail
 clear c0 c1 c2 c3 f0 f1 f2 f3 x0
 have HP2 : Hid (RgRow ((((w5.setCell ⟨g, 4, none⟩ (.int .i64 1)).setCell ⟨g, 5, none⟩ (.int .i64 (-1))).setCell ⟨g, 6, none⟩ (.int .i64 0)).setCell ⟨g, 7, none⟩ (.bool false)) w.heap.size (some ⟨g, 0, none⟩) 2 [⟨0, -1, 0, false⟩, ⟨1, -1, 0, false⟩]) := HP1.out.put (i := 1) (by simp) ⟨1, -1, 0, false⟩
 have HR2 := Lib.hid ((RestS.refl (fun k => k = g) w5).put4 4 5 6 7 (.int .i64 1) (.int .i64 (-1)) (.int .i64 0) (.bool false))
 go_wp2_with fail
 generalize (((w5.setCell ⟨g, 4, none⟩ (.int .i64 1)).setCell ⟨g, 5, none⟩ (.int .i64 (-1))).setCell ⟨g, 6, none⟩ (.int .i64 0)).setCell ⟨g, 7, none⟩ (.bool false) = w6 at HP2 HR2 ⊢
 have HB6 := Blk.of_heap HB5.out (HR2.out.block _ HB5.out.lt HAB.out)
 have HF6 := Blk.of_heap HF5.out (HR2.out.block _ HF5.out.lt HPF.out)
 have HE6 := HE5.out.trans (HR2.out.toBelow (fun k e => by rw [e]; exact HGL.out) HE5.out.size)
 have hL0 : L1 w w6 ab g [] := ⟨HE6, HB6, ⟨_, _, HP2.out, rfl, rfl, rfl, by simp, by simp⟩, fun c hc => by cases hc⟩
 have HL := Lib.hid (hL0.keep HF6 (by decide) [((⟨pf, 0, none⟩ : Addr), .int .i64 0), (⟨pf, 1, none⟩, .slice (some ⟨p, 0, none⟩) 1 1), (⟨pf, 2, none⟩, .int .i64 2), (⟨pf, 3, none⟩, .slice (some ⟨q, 0, none⟩) 1 1)] (fun c hc => by
  simp only [List.mem_cons, List.not_mem_nil, or_false] at hc
  rcases hc with rfl | rfl | rfl | rfl
  ·exact ⟨rfl, HF6.cell 0⟩
  ·exact ⟨rfl, HF6.cell 1⟩
  ·exact ⟨rfl, HF6.cell 2⟩
  ·exact ⟨rfl, HF6.cell 3⟩))
 clear hL0 HB6 HF6 HE6 HB5 HF5 HE5 HP1 HP2 HR2 HAB HPF hgw HGL
 rw [rounds_succ]
 have c0 := HL.out.at_ (a := ⟨pf, 0, none⟩) (v := .int .i64 0) (by simp)
 have c1 := HL.out.at_ (a := ⟨pf, 1, none⟩) (v := .slice (some ⟨p, 0, none⟩) 1 1) (by simp)
 have c2 := HL.out.at_ (a := ⟨pf, 2, none⟩) (v := .int .i64 2) (by simp)
 have c3 := HL.out.at_ (a := ⟨pf, 3, none⟩) (v := .slice (some ⟨q, 0, none⟩) 1 1) (by simp)
 go_wp2_with fail
 refine (HLV.out _ HL.out.be).mono ?_
 rintro e w7 ⟨hb7, h | ⟨_, G, bs, X, v, es, rfl, hR, hX, hE⟩⟩
 ·exact absurd (f1V_fn p q) h.1
 have HL7 := HL.out.below hb7
 have hE2 : EndV w6 w7 v 2 [aftF [] X] es := hE
 obtain ⟨a, c, rfl⟩ := ownG_shape hE2.own
 obtain ⟨ge, ce, hve, _, hge, _, _⟩ := ownG_has hE2.own (by simp)
 injection hve with e1 e2 e3
 subst e1 e3
 have hRB := hR.blk
 have hRR := hR.row 0 (by show 0 < 1; omega)
 have hEB := own_blkTy hE2.own rfl
 obtain ⟨ecur, hEB⟩ := hEB
 have hER := hE2.row 0 (by simp)
 have cE := hE2.own.cellAt 0 (by simp)
 simp only [List.length_cons, List.length_nil, Nat.zero_add] at cE
 rw [show ((List.range 1).map fun i => Value.slice (some ⟨es i, 0, none⟩) 2 2)[0]? = some (.slice (some ⟨es 0, 0, none⟩) 2 2) from rfl] at cE
 obtain ⟨y0, y1, hy⟩ : ∃ y0 y1, y0 = X 0 0 ∧ y1 = X 0 1 := ⟨_, _, rfl, rfl⟩
 have k1 := HL7.keep hRB (by decide) [((⟨G, 0, none⟩ : Addr), .slice (some ⟨bs 0, 0, none⟩) 2 2)] (fun c hc => by
  rw [List.mem_singleton.1 hc]
  exact ⟨rfl, Blk.row hRB (i := 0) (by show 0 < 1; omega)⟩)
 have k2 := k1.keep hRR (by decide) [((⟨bs 0, 0, none⟩ : Addr), .bool y0), (⟨bs 0, 1, none⟩, .bool y1)] (fun c hc => by
  simp only [List.mem_cons, List.not_mem_nil, or_false] at hc
  rcases hc with rfl | rfl
  ·exact ⟨rfl, by rw [hy.1]; exact hRR.cell (i := 0) (by omega)⟩
  ·exact ⟨rfl, by rw [hy.2]; exact hRR.cell (i := 1) (by omega)⟩)
 have k3 := k2.keep hEB (by decide) [((⟨ge, 0, none⟩ : Addr), .slice (some ⟨es 0, 0, none⟩) 2 2)] (fun c hc => by
  rw [List.mem_singleton.1 hc]
  exact ⟨rfl, cE⟩)
 have k4 := k3.keep hER (by decide) [((⟨es 0, 0, none⟩ : Addr), .bool false), (⟨es 0, 1, none⟩, .bool false)] (fun c hc => by
  simp only [List.mem_cons, List.not_mem_nil, or_false] at hc
  rcases hc with rfl | rfl
  ·exact ⟨rfl, hER.cell (i := 0) (by omega)⟩
  ·exact ⟨rfl, hER.cell (i := 1) (by omega)⟩)
 obtain ⟨bb, hbb⟩ : ∃ x, x = bs 0 := ⟨_, rfl⟩
 obtain ⟨eb, heb⟩ : ∃ x, x = es 0 := ⟨_, rfl⟩
 rw [← hbb, ← heb] at k4
 simp only [List.cons_append, List.nil_append, List.append_nil] at k4
 obtain ⟨K, hK⟩ : ∃ K : List (Addr × Value), K = [(⟨eb, 0, none⟩, .bool false), (⟨eb, 1, none⟩, .bool false), (⟨ge, 0, none⟩, .slice (some ⟨eb, 0, none⟩) 2 2), (⟨bb, 0, none⟩, .bool y0), (⟨bb, 1, none⟩, .bool y1), (⟨G, 0, none⟩, .slice (some ⟨bb, 0, none⟩) 2 2), (⟨pf, 0, none⟩, .int .i64 0), (⟨pf, 1, none⟩, .slice (some ⟨p, 0, none⟩) 1 1), (⟨pf, 2, none⟩, .int .i64 2), (⟨pf, 3, none⟩, .slice (some ⟨q, 0, none⟩) 1 1)] := ⟨_, rfl⟩
 rw [← hK] at k4
 have HK4 := Lib.hid k4
 have KE : Hid ((((⟨eb, 0, none⟩ : Addr), Value.bool false) ∈ K ∧ ((⟨eb, 1, none⟩ : Addr), Value.bool false) ∈ K ∧ ((⟨ge, 0, none⟩ : Addr), Value.slice (some ⟨eb, 0, none⟩) 2 2) ∈ K) ∧ (((⟨bb, 0, none⟩ : Addr), Value.bool y0) ∈ K ∧ ((⟨bb, 1, none⟩ : Addr), Value.bool y1) ∈ K ∧ ((⟨G, 0, none⟩ : Addr), Value.slice (some ⟨bb, 0, none⟩) 2 2) ∈ K) ∧ (((⟨pf, 0, none⟩ : Addr), Value.int .i64 0) ∈ K ∧ ((⟨pf, 1, none⟩ : Addr), Value.slice (some ⟨p, 0, none⟩) 1 1) ∈ K) ∧ ((⟨pf, 2, none⟩ : Addr), Value.int .i64 2) ∈ K ∧ ((⟨pf, 3, none⟩ : Addr), Value.slice (some ⟨q, 0, none⟩) 1 1) ∈ K) := by
  rw [hK]
  refine ⟨⟨?_, ?_, ?_⟩, ⟨?_, ?_, ?_⟩, ⟨?_, ?_⟩, ?_, ?_⟩ <;> simp
 have hsn : (f1V p q).sn = 1 := rfl
 simp only [hsn, List.length_cons, List.length_nil, Nat.zero_add]
 clear hb7 hR hX hE hE2 hRB hRR hEB hER cE k1 k2 k3 k4 HL7 HL hK hbb heb hy hge c0 c1 c2 c3 HLV hsn
 have c3 := HK4.out.at_ KE.out.2.2.2.2
 obtain ⟨hq, d0, d1, d2, d3, d4, d5, d6⟩ := b1_cells HF.out HK4.out.be
 go_wp2_with fail
 refine wp_loop_rounds 2 ?_
 rw [rounds_succ]
 go_upto_region 16 with fail
 have hb8 : Below w7.heap.size w7 (w7.alloc (.cells #[.slice none 0 0, .int .i64 0, .int .i64 0, .int .i64 1, .int .i64 0, .int .i64 0, .slice none 0 0] 46)) := (Below.refl _ _).alloc (Nat.le_refl _) _
 have hBV := Blk.new w7 [.slice none 0 0, .int .i64 0, .int .i64 0, .int .i64 1, .int .i64 0, .int .i64 0, .slice none 0 0] 46
 obtain ⟨vb, hvb⟩ : ∃ x, x = w7.heap.size := ⟨_, rfl⟩
 rw [← hvb] at hBV ⊢
 have k8 := (HK4.out.below hb8).keep hBV (by decide) [((⟨vb, 0, none⟩ : Addr), .slice none 0 0), (⟨vb, 1, none⟩, .int .i64 0), (⟨vb, 2, none⟩, .int .i64 0), (⟨vb, 3, none⟩, .int .i64 1), (⟨vb, 4, none⟩, .int .i64 0), (⟨vb, 5, none⟩, .int .i64 0), (⟨vb, 6, none⟩, .slice none 0 0)] (fun c hc => by
  simp only [List.mem_cons, List.not_mem_nil, or_false] at hc
  rcases hc with rfl | rfl | rfl | rfl | rfl | rfl | rfl
  ·exact ⟨rfl, hBV.cell 0⟩
  ·exact ⟨rfl, hBV.cell 1⟩
  ·exact ⟨rfl, hBV.cell 2⟩
  ·exact ⟨rfl, hBV.cell 3⟩
  ·exact ⟨rfl, hBV.cell 4⟩
  ·exact ⟨rfl, hBV.cell 5⟩
  ·exact ⟨rfl, hBV.cell 6⟩)
 change L1 w (w7.alloc (.cells #[.slice none 0 0, .int .i64 0, .int .i64 0, .int .i64 1, .int .i64 0, .int .i64 0, .slice none 0 0] 46)) _ _ _ at k8
 obtain ⟨K2, hK2⟩ : ∃ K2 : List (Addr × Value), K2 = [((⟨vb, 0, none⟩ : Addr), Value.slice none 0 0), (⟨vb, 1, none⟩, .int .i64 0), (⟨vb, 2, none⟩, .int .i64 0), (⟨vb, 3, none⟩, .int .i64 1), (⟨vb, 4, none⟩, .int .i64 0), (⟨vb, 5, none⟩, .int .i64 0), (⟨vb, 6, none⟩, .slice none 0 0)] ++ K := ⟨_, rfl⟩
 rw [← hK2] at k8
 have HK8 := Lib.hid k8
 have HS : Hid (∀ c ∈ K, c ∈ K2) := fun c hc => by rw [hK2]; exact List.mem_append_right _ hc
 have KV : Hid ((((⟨vb, 0, none⟩ : Addr), Value.slice none 0 0) ∈ K2 ∧ ((⟨vb, 1, none⟩ : Addr), Value.int .i64 0) ∈ K2 ∧ ((⟨vb, 2, none⟩ : Addr), Value.int .i64 0) ∈ K2) ∧ ((⟨vb, 3, none⟩ : Addr), Value.int .i64 1) ∈ K2 ∧ ((⟨vb, 4, none⟩ : Addr), Value.int .i64 0) ∈ K2 ∧ ((⟨vb, 5, none⟩ : Addr), Value.int .i64 0) ∈ K2 ∧ ((⟨vb, 6, none⟩ : Addr), Value.slice none 0 0) ∈ K2) := by
  rw [hK2]
  refine ⟨⟨?_, ?_, ?_⟩, ?_, ?_, ?_, ?_⟩ <;> simp
 clear hb8 hBV k8 hvb hK2 d0 d1 d2 d3 d4 d5 d6 c3 HK4 hq
 generalize w7.alloc (.cells #[.slice none 0 0, .int .i64 0, .int .i64 0, .int .i64 1, .int .i64 0, .int .i64 0, .slice none 0 0] 46) = w8 at HK8 ⊢
 have g0 := HK8.out.at_ (HS.out _ KE.out.2.1.2.2)
 go_wp2_with fail
 clear g0
 go_loopw [65] (fun u wr => ∃ k : Nat, k ≤ 2 ∧ u = .int .i64 (k : Int) ∧ L1 w wr ab g K2) (fun u _ => 2 - (intOf u).toNat)
 case atStart => exact ⟨0, by omega, rfl, HK8.out⟩
 case round =>
  clear HK8
  obtain ⟨k, hk, rfl, hl⟩ := hrel
  have HL := Lib.hid hl
  by_cases hlt : k < 2
  ·obtain ⟨b, hb⟩ : ∃ b, wr.cell? ⟨bb, k, none⟩ = some (.bool b) := by
    have : k = 0 ∨ k = 1 := by omega
    rcases this with rfl | rfl
    ·exact ⟨_, hl.at_ (HS.out _ KE.out.2.1.1)⟩
    ·exact ⟨_, hl.at_ (HS.out _ KE.out.2.1.2.1)⟩
   have HEX := Lib.hid (hl.ext k 0 hlt (by omega))
   have hki : (k : Int) < 2 := by omega
   clear hl
   cases b with
   | true =>
    go_wp2_with fail
    refine HEX.out.mono ?_
    rintro e w9 ⟨rfl, h9, _⟩
    have H9 := Lib.hid h9
    clear h9 HEX hb
    go_wp2_with fail
    go_roundw
    case rel => exact ⟨k + 1, by omega, by go_num, H9.out⟩
    case measure => simp [intOf]; omega
   | false =>
    clear HEX
    go_wp2_with fail
    go_roundw
    case rel => exact ⟨k + 1, by omega, by go_num, HL.out⟩
    case measure => simp [intOf]; omega
  have ek : k = 2 := by omega
  subst ek
  have v0 := hl.at_ KV.out.1.1
  clear hl hlt
  go_wp2_with fail
  refine wp_loop_rounds 1 ?_
  rw [rounds_succ]
  have v1 := HL.out.at_ KV.out.1.2.1
  have v2 := HL.out.at_ KV.out.1.2.2
  have v3 := HL.out.at_ KV.out.2.1
  have v4 := HL.out.at_ KV.out.2.2.1
  have v5 := HL.out.at_ KV.out.2.2.2.1
  have v6 := HL.out.at_ KV.out.2.2.2.2
  go_wp2_with fail
  refine (HEU.out _ (HEO.out _ HL.out.be)).mono ?_
  rintro e w9 ⟨v9, rfl, ho9, hb9⟩
  obtain ⟨gu, cu, hv9, _, hgu, hcu1, hcu2⟩ := ownG_has ho9 (by simp)
  subst hv9
  unfold maxLen at hcu2
  have cU := World.ownsRow.cellAt ho9 0 (by simp)
  simp only [List.map_cons, List.map_nil, List.getElem?_cons_zero] at cU
  obtain ⟨ucur, hUB⟩ := own_blkTy ho9 rfl
  have k9 := (HL.out.below hb9).keep hUB (by decide) [((⟨gu, 0, none⟩ : Addr), .int .i64 1)] (fun c hc => by
   rw [List.mem_singleton.1 hc]
   exact ⟨rfl, cU⟩)
  rw [List.singleton_append] at k9
  have HK9 := Lib.hid k9
  simp only [List.length_cons, List.length_nil, Nat.zero_add] at hcu1 ⊢
  clear hb9 ho9 hUB k9 HL v0 v1 v2 v3 v4 v5 v6
  go_wp2_with fail
  refine wp_loop_rounds 2 ?_
  rw [rounds_succ]
  have HEX : Hid (Calls Tryz.prog 90 #[.int .i64 1, .int .i64 0, .pointer (some ⟨ab, 0, none⟩)] w9 (fun e w' => e = .returned (.tuple #[]) ∧ L1 w w' ab g ((⟨gu, 0, none⟩, .int .i64 1) :: K2) ∧ _)) := HK9.out.ext 1 0 (by omega) (by omega)
  go_wp2_with fail
  refine HEX.out.mono ?_
  rintro e w10 ⟨rfl, h10, _⟩
  have H10 := Lib.hid h10
  clear h10 HEX HK9 cU
  go_wp2_with fail
  rw [rounds_succ]
  have g1 := H10.out.at_ (List.mem_cons_of_mem _ (HS.out _ KE.out.1.2.2))
  go_wp2_with fail
  clear g1
  go_loopw [122] (fun u wr => ∃ k : Nat, k ≤ 2 ∧ u = .int .i64 (k : Int) ∧ L1 w wr ab g ((⟨gu, 0, none⟩, .int .i64 1) :: K2)) (fun u _ => 2 - (intOf u).toNat)
  case atStart => exact ⟨0, by omega, rfl, H10.out⟩
  case round =>
   clear H10
   obtain ⟨k, hk, rfl, hl⟩ := hrel
   have HL := Lib.hid hl
   by_cases hlt : k < 2
   ·have hb : wr.cell? ⟨eb, k, none⟩ = some (.bool false) := by
     have : k = 0 ∨ k = 1 := by omega
     rcases this with rfl | rfl
     ·exact hl.at_ (List.mem_cons_of_mem _ (HS.out _ KE.out.1.1))
     ·exact hl.at_ (List.mem_cons_of_mem _ (HS.out _ KE.out.1.2.1))
    have hki : (k : Int) < 2 := by omega
    clear hl
    go_wp2_with fail
    go_roundw
    case rel => exact ⟨k + 1, by omega, by go_num, HL.out⟩
    case measure => simp [intOf]; omega
   have ek : k = 2 := by omega
   subst ek
   clear hl hlt
   go_wp2_with fail
   rw [rounds_succ]
   have c1 := HL.out.at_ (List.mem_cons_of_mem _ (HS.out _ KE.out.2.2.1.2))
   go_wp2_with fail
   refine wp_loop_rounds 2 ?_
   rw [rounds_succ]
   obtain ⟨hpl, cp⟩ := p1_cell HF.out HL.out.be
   have HEX : Hid (Calls Tryz.prog 90 #[.int .i64 1, .int .i64 0, .pointer (some ⟨ab, 0, none⟩)] wr (fun e w' => e = .returned (.tuple #[]) ∧ L1 w w' ab g ((⟨gu, 0, none⟩, .int .i64 1) :: K2) ∧ (1 = 1 → ∃ x0 x1, RgRow w' w.heap.size (some ⟨g, 0, none⟩) 2 [x0, x1] ∧ x0.r = 0 ∧ x1.r = 1 ∧ x1.s = false ∧ 0 ≤ x1.b))) := HL.out.ext 1 0 (by omega) (by omega)
   go_wp2_with fail
   refine HEX.out.mono ?_
   rintro e w11 ⟨rfl, h11, hx11⟩
   obtain ⟨x0, x1, hr, hx0, hx1, hxs, hxb⟩ := hx11 trivial
   have HFC := Lib.hid (HFI.out w11 g x0 x1 h11.be hr hx0 hx1 hxb)
   have HX1 := Lib.hid (And.intro hx1 hxs)
   have H11 := Lib.hid h11
   clear hx11 hr hx0 hx1 hxs hxb h11 HEX cp c1 hpl
   go_wp2_with fail
   rw [rounds_succ]
   have c0 := H11.out.at_ (List.mem_cons_of_mem _ (HS.out _ KE.out.2.2.1.1))
   have c1 := H11.out.at_ (List.mem_cons_of_mem _ (HS.out _ KE.out.2.2.1.2))
   have c2 := H11.out.at_ (List.mem_cons_of_mem _ (HS.out _ KE.out.2.2.2.1))
   have c3 := H11.out.at_ (List.mem_cons_of_mem _ (HS.out _ KE.out.2.2.2.2))
   have x0 := H11.out.box.cell 0
   simp only [List.getElem?_cons_zero] at x0
   go_wp2_with fail
   refine HFC.out.mono ?_
   rintro e w12 ⟨rfl, hr12, hb12⟩
   have HR12 := Lib.hid hr12
   have HB12 := Lib.hid hb12
   clear hr12 hb12 HFC c0 c1 c2 c3 x0
   go_wp2_with fail
   exact bodyPost_ret (v := .tuple #[.slice (some ⟨g, 0, none⟩) 1 2, .int .i64 0]) (by simp [results, Tryz.results63, go_sem]) rfl ⟨g, x1, rfl, HR12.out, HX1.out.1, HX1.out.2, HB12.out⟩
end Go.Proofs.YtdnpoomagjcpfaaGreat
