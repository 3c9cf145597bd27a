/- Rows of linear's ranges: their memory, a point that is added to a range, clear and make. -/
import Derived.Test.YtdnpoomagjcpfaaGreatColLaw
import Derived.BigRegion
namespace Go.Proofs.YtdnpoomagjcpfaaGreat
open Go.RowKit
set_option linter.unusedVariables false
set_option linter.unusedSimpArgs false

section
/-- a range: its register, its beginning, its end, whether it is live after a call -/
structure RG where
 (r b e : Int) (s : Bool)
def rgC (x : RG) : List Value := [.int .i64 x.r, .int .i64 x.b, .int .i64 x.e, .bool x.s]
theorem rgC_len (x : RG) : (rgC x).length = 4 := rfl
def RgRow (w : World) (base : Nat) (a : Option Addr) (c : Nat) (xs : List RG) : Prop := w.ownsRow base 121 4 (.slice a xs.length c) xs.length (xs.flatMap rgC)
theorem rgs_len (xs : List RG) : (xs.flatMap rgC).length = xs.length * 4 := flatN_len rgC_len xs
section
variable {w w' : World} {base : Nat} {a : Option Addr} {c : Nat} {xs : List RG}
theorem RgRow.has (h : RgRow w base a c xs) (h0 : 0 < xs.length) : ∃ g, a = some ⟨g, 0, none⟩ ∧ base ≤ g ∧ g < w.heap.size ∧ xs.length ≤ c ∧ c ≤ maxLen := by
 obtain ⟨g, cap, hv, h1, h2, h3, h4⟩ := ownG_has h h0
 injection hv with e1 _ e3
 subst e1 e3
 exact ⟨g, rfl, h1, h2, h3, h4⟩
theorem RgRow.cells {g : Nat} (h : RgRow w base (some ⟨g, 0, none⟩) c xs) {i : Nat} (hi : i < xs.length) : w.cell? ⟨g, i * 4, none⟩ = some (.int .i64 xs[i].r) ∧ w.cell? ⟨g, i * 4 + 1, none⟩ = some (.int .i64 xs[i].b) ∧ w.cell? ⟨g, i * 4 + 2, none⟩ = some (.int .i64 xs[i].e) ∧ w.cell? ⟨g, i * 4 + 3, none⟩ = some (.bool xs[i].s) := by
 have key : ∀ j, j < 4 → w.cell? ⟨g, i * 4 + j, none⟩ = (rgC xs[i])[j]? := fun j hj => by
  rw [(ownR_cellAt h (j := i * 4 + j) (by omega)).1]
  exact flatN_get rgC_len xs i j hi hj
 exact ⟨key 0 (by omega), key 1 (by omega), key 2 (by omega), key 3 (by omega)⟩
theorem RgRow.frees {g : Nat} (h : RgRow w base (some ⟨g, 0, none⟩) c xs) {i : Nat} (hi : i < xs.length) (j : Nat) (hj : j < 4) : w.frozen? ⟨g, i * 4 + j, none⟩ = false := (ownR_cellAt h (j := i * 4 + j) (by omega)).2
theorem RgRow.set {g : Nat} (h : RgRow w base (some ⟨g, 0, none⟩) c xs) {i : Nat} (hi : i < xs.length) (j : Nat) (hj : j < 4) (v : Value) (y : RG) (hy : (rgC xs[i]).set j v = rgC y) : RgRow (w.setCell ⟨g, i * 4 + j, none⟩ v) base (some ⟨g, 0, none⟩) c (xs.set i y) := by
 have h1 := ownR_set h (i * 4 + j) v (by omega)
 rw [flatN_set rgC_len xs i j v y hi hj hy] at h1
 unfold RgRow
 rw [List.length_set]
 exact h1
theorem RgRow.below (h : RgRow w base a c xs) (hb : Below w.heap.size w w') : RgRow w' base a c xs := ownG_below h hb
end
/-- a point is added to a range -/
def extR (x : RG) (t : Int) : RG := if x.b < 0 then { x with b := t, e := t } else { x with b := min x.b t, e := max x.e t }
def ExtPost (base : Nat) (a : Option Addr) (c : Nat) (xs : List RG) (w : World) (e : Ending) (w' : World) : Prop :=
 e = .returned (.tuple #[]) ∧ RgRow w' base a c xs ∧ RestS (fun k => (Value.slice a xs.length c).ownBlock = some k) w w'
set_option maxRecDepth 100000 in
set_option maxHeartbeats 4000000 in
theorem extend_any (w : World) (base ab : Nat) (a : Option Addr) (c : Nat) (xs : List RG) (hbox : Blk w ab 114 [.slice a xs.length c]) (h : RgRow w base a c xs) (r : Nat) (t : Int) (hr : r < xs.length) (ht : 0 ≤ t ∧ t ≤ 1000000000) (hx : -1 ≤ xs[r].b ∧ xs[r].b ≤ 1000000000 ∧ 0 ≤ xs[r].e ∧ xs[r].e ≤ 1000000000) :
  Calls Tryz.prog 90 #[.int .i64 (r : Int), .int .i64 t, .pointer (some ⟨ab, 0, none⟩)] w (ExtPost base a c (xs.set r (extR xs[r] t)) w) := by
 obtain ⟨g, rfl, hg1, hg2, hg3, hg4⟩ := h.has (by omega)
 unfold maxLen at hg4
 obtain ⟨c0, c1, c2, c3⟩ := h.cells hr
 have f1 := h.frees hr 1 (by omega)
 have f2 := h.frees hr 2 (by omega)
 have b0 := hbox.cell 0
 simp only [List.getElem?_cons_zero] at b0
 have hbg : ab ≠ g := fun e => by
  obtain ⟨cur, h1⟩ := own_blkTy h (g := g) rfl
  have h2 : w.heap[ab]? = _ := hbox
  rw [e, h1] at h2
  injection h2 with h2
  injection h2 with _ h2 _
  exact absurd h2 (by decide)
 have H := Lib.hid h
 have HB := Lib.hid hbox
 obtain ⟨x, hx0⟩ : ∃ x, x = xs[r] := ⟨_, rfl⟩
 rw [← hx0] at c0 c1 c2 c3 hx ⊢
 have HX := Lib.hid hx0
 obtain ⟨n, hn⟩ : ∃ n, n = xs.length := ⟨_, rfl⟩
 rw [← hn] at hr hg3 b0
 have HN := Lib.hid hn
 have hr' : r < xs.length := by rw [← hn]; exact hr
 clear hbox h hx0 hn
 by_cases hneg : x.b < 0
 ·have q1 : decide (x.b < 0) = true := by simp [hneg]
  have hsz : min t t = t ∧ max t t = t := by omega
  go_enter Tryz.func90, Tryz.ntmps90
  go_upto_region 3 with fail
  go_region
  all_goals go_wp2_with fail
  have e1 : extR x t = { x with b := t, e := t } := if_pos hneg
  have h1 := H.out.set hr' 1 (by omega) (.int .i64 t) { x with b := t } (by rw [← HX.out]; rfl)
  have h2 := h1.set (i := r) (by rw [List.length_set]; exact hr') 2 (by omega) (.int .i64 t) { x with b := t, e := t } (by rw [List.getElem_set_self]; rfl)
  have h3 := h2.set (i := r) (by rw [List.length_set, List.length_set]; exact hr') 1 (by omega) (.int .i64 t) { x with b := t, e := t } (by rw [List.getElem_set_self]; rfl)
  have h4 := h3.set (i := r) (by rw [List.length_set, List.length_set, List.length_set]; exact hr') 2 (by omega) (.int .i64 t) { x with b := t, e := t } (by rw [List.getElem_set_self]; rfl)
  rw [List.set_set, List.set_set, List.set_set] at h4
  rw [← e1] at h4
  have hrs := ((((RestS.refl (fun k => (Value.slice (some ⟨g, 0, none⟩) xs.length c).ownBlock = some k) w).set (p := ⟨g, r * 4 + 1, none⟩) rfl (.int .i64 t)).set (p := ⟨g, r * 4 + 2, none⟩) rfl (.int .i64 t)).set (p := ⟨g, r * 4 + 1, none⟩) rfl (.int .i64 t)).set (p := ⟨g, r * 4 + 2, none⟩) rfl (.int .i64 t)
  have hb9 := (Below.refl ((((w.setCell ⟨g, r * 4 + 1, none⟩ (.int .i64 t)).setCell ⟨g, r * 4 + 2, none⟩ (.int .i64 t)).setCell ⟨g, r * 4 + 1, none⟩ (.int .i64 t)).setCell ⟨g, r * 4 + 2, none⟩ (.int .i64 t)).heap.size ((((w.setCell ⟨g, r * 4 + 1, none⟩ (.int .i64 t)).setCell ⟨g, r * 4 + 2, none⟩ (.int .i64 t)).setCell ⟨g, r * 4 + 1, none⟩ (.int .i64 t)).setCell ⟨g, r * 4 + 2, none⟩ (.int .i64 t))).drew
  refine bodyPost_end (results_none rfl _ _ _) rfl ?_
  exact ⟨rfl, h4.below hb9, hrs.trans (below_refl_of hb9 _)⟩
 ·have q1 : decide (x.b < 0) = false := by simp; omega
  have e1 : extR x t = { x with b := min x.b t, e := max x.e t } := if_neg hneg
  have h1 := H.out.set hr' 1 (by omega) (.int .i64 (min x.b t)) { x with b := min x.b t } (by rw [← HX.out]; rfl)
  have h2 := h1.set (i := r) (by rw [List.length_set]; exact hr') 2 (by omega) (.int .i64 (max x.e t)) { x with b := min x.b t, e := max x.e t } (by rw [List.getElem_set_self]; rfl)
  rw [List.set_set] at h2
  rw [← e1] at h2
  have hrs := ((RestS.refl (fun k => (Value.slice (some ⟨g, 0, none⟩) xs.length c).ownBlock = some k) w).set (p := ⟨g, r * 4 + 1, none⟩) rfl (.int .i64 (min x.b t))).set (p := ⟨g, r * 4 + 2, none⟩) rfl (.int .i64 (max x.e t))
  have hb9 := (Below.refl ((w.setCell ⟨g, r * 4 + 1, none⟩ (.int .i64 (min x.b t))).setCell ⟨g, r * 4 + 2, none⟩ (.int .i64 (max x.e t))).heap.size ((w.setCell ⟨g, r * 4 + 1, none⟩ (.int .i64 (min x.b t))).setCell ⟨g, r * 4 + 2, none⟩ (.int .i64 (max x.e t)))).drew
  have H2 := Lib.hid (h2.below hb9)
  have HRS := Lib.hid (hrs.trans (below_refl_of hb9 _))
  clear h1 h2 hrs hb9 e1
  have hm1 : (t < x.b ∧ min x.b t = t) ∨ (¬ t < x.b ∧ min x.b t = x.b) := by omega
  have hm2 : (x.e < t ∧ max x.e t = t) ∨ (¬ x.e < t ∧ max x.e t = x.e) := by omega
  rcases hm1 with ⟨m1, m2⟩ | ⟨m1, m2⟩ <;> rcases hm2 with ⟨m3, m4⟩ | ⟨m3, m4⟩
  all_goals
   rw [m2, m4] at H2 HRS
   clear m2 m4
   go_enter Tryz.func90, Tryz.ntmps90
   go_upto_region 3 with fail
   go_region
   all_goals go_wp2_with fail
   refine bodyPost_end (results_none rfl _ _ _) rfl ?_
   exact ⟨rfl, H2.out, HRS.out⟩
end
def rgV (x : RG) : Value := .agg #[.int .i64 x.r, .int .i64 x.b, .int .i64 x.e, .bool x.s]
/-- four stores of a range -/
theorem RgRow.put {w : World} {base g c : Nat} {xs : List RG} (h : RgRow w base (some ⟨g, 0, none⟩) c xs) {i : Nat} (hi : i < xs.length) (y : RG) :
  RgRow ((((w.setCell ⟨g, i * 4, none⟩ (.int .i64 y.r)).setCell ⟨g, i * 4 + 1, none⟩ (.int .i64 y.b)).setCell ⟨g, i * 4 + 2, none⟩ (.int .i64 y.e)).setCell ⟨g, i * 4 + 3, none⟩ (.bool y.s)) base (some ⟨g, 0, none⟩) c (xs.set i y) := by
 have h1 := h.set hi 0 (by omega) (.int .i64 y.r) { xs[i] with r := y.r } rfl
 have h2 := h1.set (i := i) (by rw [List.length_set]; exact hi) 1 (by omega) (.int .i64 y.b) { xs[i] with r := y.r, b := y.b } (by rw [List.getElem_set_self]; rfl)
 have h3 := h2.set (i := i) (by rw [List.length_set, List.length_set]; exact hi) 2 (by omega) (.int .i64 y.e) { xs[i] with r := y.r, b := y.b, e := y.e } (by rw [List.getElem_set_self]; rfl)
 have h4 := h3.set (i := i) (by rw [List.length_set, List.length_set, List.length_set]; exact hi) 3 (by omega) (.bool y.s) y (by rw [List.getElem_set_self]; rfl)
 rw [List.set_set, List.set_set, List.set_set] at h4
 exact h4
def gone (x : RG) : Bool := decide (x.b < 0) || decide (x.r = 0)
def GonePost (b : Bool) (w : World) (e : Ending) (w' : World) : Prop := e = .returned (.bool b) ∧ Below w.heap.size w w'
set_option maxRecDepth 100000 in
set_option maxHeartbeats 8000000 in
theorem gone_any (w : World) (x : RG) : Calls Tryz.prog 108 #[rgV x] w (GonePost (gone x) w) := by
  have hb : Below w.heap.size w (w.alloc (.cells (rgC x).toArray 121)) := (Below.refl _ _).alloc (Nat.le_refl _) _
  have HB := Lib.hid hb
  unfold rgV
  clear hb
  by_cases h1 : x.b < 0
  · have e1 : gone x = true := by simp [gone, h1]
    rw [e1]
    clear e1
    go_enter Tryz.func108, Tryz.ntmps108
    go_wp2_with fail
    go_ret
    exact ⟨rfl, HB.out⟩
  · by_cases h2 : x.r = 0
    · have e1 : gone x = true := by simp [gone, h2]
      have e2 : (x.r == 0) = true := by simp [h2]
      have H2 := Lib.hid h2
      rw [e1]
      clear e1 h2
      go_enter Tryz.func108, Tryz.ntmps108
      go_wp2_with fail
      go_ret
      exact ⟨rfl, HB.out⟩
    · have e1 : gone x = false := by simp [gone, h1, h2]
      have e2 : (x.r == 0) = false := by simp [h2]
      rw [e1]
      clear e1
      go_enter Tryz.func108, Tryz.ntmps108
      go_wp2_with fail
      go_ret
      exact ⟨rfl, HB.out⟩
/-- the beginning of an own row, where what lies behind has been overwritten -/
theorem RgRow.cut {w : World} {base g c i : Nat} {ys : List RG} (h : RgRow w base (some ⟨g, 0, none⟩) c ys) (hi : i ≤ ys.length) (vs : List Value) :
    RgRow (w.setCells g (i * 4) vs) base (some ⟨g, 0, none⟩) c (ys.take i) := by
  have hl4 := rgs_len ys
  have hlt := rgs_len (ys.take i)
  have hti : (ys.take i).length = i := by rw [List.length_take]; omega
  have hft : (ys.take i).flatMap rgC = (ys.flatMap rgC).take (i * 4) := by
    have h9 : ys.flatMap rgC = (ys.take i).flatMap rgC ++ (ys.drop i).flatMap rgC := by rw [← List.flatMap_append, List.take_append_drop]
    rw [h9, List.take_left' (by rw [hlt, hti])]
  obtain ⟨_, h2⟩ := h
  rcases h2 with ⟨h0, _⟩ | ⟨g', cap', cur, hv, hg, hh, hn, hcap, hsz, htake⟩
  · cases h0
  · cases hv
    obtain ⟨cur', k1, k2, k3⟩ := setCells_heap g 121 vs (i * 4) w cur hh
    unfold RgRow
    rw [hti]
    refine ⟨by rw [hlt, hti], .inr ⟨g, c, cur', rfl, hg, k1, by omega, hcap, by omega, ?_⟩⟩
    apply List.ext_getElem?
    intro j
    by_cases hj : j < i * 4
    · have h3 : (cur.toList.take (ys.length * 4))[j]? = (ys.flatMap rgC)[j]? := by rw [htake]
      rw [List.getElem?_take_of_lt (by omega)] at h3
      rw [List.getElem?_take_of_lt (by omega), Array.getElem?_toList, k3 j (by omega), if_neg (by omega), hft, List.getElem?_take_of_lt hj, ← h3, Array.getElem?_toList]
    · rw [List.getElem?_eq_none (by rw [List.length_take]; omega), List.getElem?_eq_none (by rw [hlt, hti]; omega)]
theorem Tryz.zeroRg (w : World) : (zeroValue 121).run Tryz.prog w = .ok (.agg #[.int .i64 0, .int .i64 0, .int .i64 0, .bool false]) w := by kernel_rfl
def zRG : Value := .agg #[.int .i64 0, .int .i64 0, .int .i64 0, .bool false]
theorem zRG_cells : zRG.cells = #[.int .i64 0, .int .i64 0, .int .i64 0, .bool false] := by kernel_rfl
theorem zeroRg_len (n : Nat) : (Builtin.zeroCells zRG.cells n).toList.length = n * 4 := by
  rw [zRG_cells]; simp [Builtin.zeroCells]
theorem zeroRg_one (n : Nat) : ∀ v ∈ (Builtin.zeroCells zRG.cells n).toList, v.oneCell' = true := fun v hv => by
  rw [zRG_cells] at hv
  simp only [Builtin.zeroCells, Array.toList_map, List.mem_map] at hv
  obtain ⟨i, _, rfl⟩ := hv
  have h4 : i % 4 = 0 ∨ i % 4 = 1 ∨ i % 4 = 2 ∨ i % 4 = 3 := by omega
  rcases h4 with e | e | e | e
  · show (#[Value.int .i64 0, .int .i64 0, .int .i64 0, .bool false][i % 4]!).oneCell' = true
    rw [e]; rfl
  · show (#[Value.int .i64 0, .int .i64 0, .int .i64 0, .bool false][i % 4]!).oneCell' = true
    rw [e]; rfl
  · show (#[Value.int .i64 0, .int .i64 0, .int .i64 0, .bool false][i % 4]!).oneCell' = true
    rw [e]; rfl
  · show (#[Value.int .i64 0, .int .i64 0, .int .i64 0, .bool false][i % 4]!).oneCell' = true
    rw [e]; rfl
theorem clear_rg (w : World) (base g c i n : Nat) (ys : List RG) (h : RgRow w base (some ⟨g, 0, none⟩) c ys) (hn : n = ys.length) (hi : i < n) :
    ∃ w', (∀ ty, (Builtin.clear_ #[114] ty #[.slice (some ⟨g, i * 4, none⟩) (n - i) (c - i)]).run Tryz.prog w = .ok (.tuple #[]) w') ∧ RgRow w' base (some ⟨g, 0, none⟩) c (ys.take i) ∧ RestS (fun k => k = g) w w' := by
  subst hn
  have hcell : ∀ j, j < (ys.length - i) * 4 → (w.cell? ⟨g, i * 4 + j, none⟩).isSome = true ∧ w.frozen? ⟨g, i * 4 + j, none⟩ = false := fun j hj => by
    have h9 := ownR_cellAt h (j := i * 4 + j) (by omega)
    refine ⟨?_, h9.2⟩
    rw [h9.1, List.getElem?_eq_getElem (by rw [rgs_len]; omega)]
    rfl
  have hst := run_storeCells_cells (P := Tryz.prog) g (i * 4) (Builtin.zeroCells zRG.cells (ys.length - i)).toList 0 w (fun j hj => by rw [zeroRg_len] at hj; exact (hcell _ hj).1) (fun j hj => by rw [zeroRg_len] at hj; exact (hcell _ hj).2) (zeroRg_one _)
  have hgr := setCells_grown g (Builtin.zeroCells zRG.cells (ys.length - i)).toList (i * 4) w
  refine ⟨_, fun ty => ?_, h.cut (Nat.le_of_lt hi) (Builtin.zeroCells zRG.cells (ys.length - i)).toList, ⟨hgr.os, hgr.tape, hgr.output, hgr.size, fun k hk hne => hgr.block k hk fun e => hne (by injection e)⟩⟩
  simp only [Nat.add_zero] at hst
  obtain ⟨m, hm⟩ : ∃ m, ys.length - i = m + 1 := ⟨ys.length - i - 1, by omega⟩
  rw [hm] at hst ⊢
  have hz : ∀ w, (zeroValue 121).run Tryz.prog w = .ok zRG w := Tryz.zeroRg
  simp [Builtin.clear_, run_underlying Tryz.underlying114, hz, hst]
theorem RestS.put4 {w w' : World} {g : Nat} (h : RestS (fun k => k = g) w w') (o1 o2 o3 o4 : Nat) (v1 v2 v3 v4 : Value) : RestS (fun k => k = g) w ((((w'.setCell ⟨g, o1, none⟩ v1).setCell ⟨g, o2, none⟩ v2).setCell ⟨g, o3, none⟩ v3).setCell ⟨g, o4, none⟩ v4) :=
  (((h.set (p := ⟨g, o1, none⟩) rfl v1).set (p := ⟨g, o2, none⟩) rfl v2).set (p := ⟨g, o3, none⟩) rfl v3).set (p := ⟨g, o4, none⟩) rfl v4
def zR : RG := ⟨0, 0, 0, false⟩
theorem Tryz.infoRg : (Tryz.prog.info? 121).map (fun i => (i.zero, i.size, i.bytes)) = some (some zRG, 4, 32) := by kernel_rfl
theorem made_rgs (n : Nat) : (madeCells zRG.cells (n * 4)).toList = (List.replicate n zR).flatMap rgC := by
 apply List.ext_getElem?
 intro i
 have hl : ((List.replicate n zR).flatMap rgC).length = n * 4 := by rw [rgs_len, List.length_replicate]
 by_cases hi : i < n * 4
 ·have h1 := flatN_get rgC_len (List.replicate n zR) (i / 4) (i % 4) (by rw [List.length_replicate]; omega) (by omega)
  rw [show i / 4 * 4 + i % 4 = i by omega] at h1
  rw [h1, List.getElem_replicate, zRG_cells]
  have h4 : i % 4 = 0 ∨ i % 4 = 1 ∨ i % 4 = 2 ∨ i % 4 = 3 := by omega
  have hs : (madeCells #[Value.int .i64 0, .int .i64 0, .int .i64 0, .bool false] (n * 4)).size = n * 4 := size_madeCells _ _
  rw [Array.getElem?_toList, Array.getElem?_eq_getElem (by rw [hs]; exact hi)]
  rcases h4 with e | e | e | e <;> (simp [madeCells, e, rgC, zR])
 ·rw [List.getElem?_eq_none (by rw [Array.length_toList, size_madeCells]; omega), List.getElem?_eq_none (by omega)]
def rgZ (n : Nat) : Array Value := madeCells zRG.cells (n * 4)
theorem make_rg (n : Nat) (hn : n ≤ 100000) (w : World) : (Instr.makeSlice 114 (.int .i64 (n : Int)) (.int .i64 (n : Int))).run Tryz.prog w = .ok (.slice (some ⟨w.heap.size, 0, none⟩) n n) (w.alloc (.cells (rgZ n) 121)) := by
 unfold rgZ
 obtain ⟨i, hi, hz, hs, hb⟩ := info_partsV Tryz.infoRg
 have h := run_make (P := Tryz.prog) w 114 121 i zRG Tryz.underlying114 hi hz .i64 .i64 (n : Int) (n : Int) (by omega) (Int.le_refl _) (by rw [hb]; omega) (by omega)
 rw [hs] at h
 simpa using h
theorem made_row (w : World) (base n : Nat) (hb : base ≤ w.heap.size) (hn : n ≤ 100000) : RgRow (w.alloc (.cells (rgZ n) 121)) base (some ⟨w.heap.size, 0, none⟩) n (List.replicate n zR) := by
 unfold RgRow rgZ
 rw [List.length_replicate]
 refine ⟨by rw [rgs_len, List.length_replicate], .inr ⟨w.heap.size, n, madeCells zRG.cells (n * 4), rfl, hb, heap_alloc_new w _, Nat.le_refl _, by unfold maxLen; omega, size_madeCells _ _, ?_⟩⟩
 rw [made_rgs, List.take_of_length_le (by rw [rgs_len, List.length_replicate]; omega)]
end Go.Proofs.YtdnpoomagjcpfaaGreat
