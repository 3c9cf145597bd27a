/- which ranges finish drops. slices' DeleteFunc at ranges. slices' DeleteFunc at ranges: the walk. -/
import Derived.Test.YtlcnbihfpjhffaaLinMer
namespace Go.Proofs.Ytlcnbihfpjhffaa
open Go.RowKit
set_option linter.unusedVariables false
set_option linter.unusedSimpArgs false

section
def gone (x : RG) : Bool := decide (x.b < 0) || decide (x.r = 0)
def GonePost (b : Bool) (w : World) (e : Ending) (w' : World) : Prop := e = .returned (.bool b) ∧ Below w.heap.size w w'
set_option maxRecDepth 100000 in
set_option maxHeartbeats 8000000 in
theorem gone_any (w : World) (x : RG) : Calls Try.prog 84 #[rgV x] w (GonePost (gone x) w) := by
  have hb : Below w.heap.size w (w.alloc (.cells (rgC x).toArray 97)) := (Below.refl _ _).alloc (Nat.le_refl _) _
  have HB := Lib.hid hb
  unfold rgV
  clear hb
  by_cases h1 : x.b < 0
  · have e1 : gone x = true := by simp [gone, h1]
    rw [e1]
    clear e1
    go_enter Try.func84, Try.ntmps84
    go_wp2_with fail
    go_ret
    exact ⟨rfl, HB.out⟩
  · by_cases h2 : x.r = 0
    · have e1 : gone x = true := by simp [gone, h2]
      have e2 : (x.r == 0) = true := by simp [h2]
      have H2 := Lib.hid h2
      rw [e1]
      clear e1 h2
      go_enter Try.func84, Try.ntmps84
      go_wp2_with fail
      go_ret
      exact ⟨rfl, HB.out⟩
    · have e1 : gone x = false := by simp [gone, h1, h2]
      have e2 : (x.r == 0) = false := by simp [h2]
      rw [e1]
      clear e1
      go_enter Try.func84, Try.ntmps84
      go_wp2_with fail
      go_ret
      exact ⟨rfl, HB.out⟩
/-- where the first dropped range lies -/
structure IxG (xs : List RG) (i : Int) : Prop where
  some : ∀ k : Nat, i = k → ∃ h : k < xs.length, gone xs[k] = true ∧ ∀ j (hj : j < xs.length), j < k → gone xs[j] = false
  none : i < 0 → i = -1 ∧ ∀ j (hj : j < xs.length), gone xs[j] = false
def IxPost (xs : List RG) (w : World) (e : Ending) (w' : World) : Prop := ∃ i : Int, e = .returned (.int .i64 i) ∧ IxG xs i ∧ Below w.heap.size w w'
set_option maxRecDepth 100000 in
set_option maxHeartbeats 8000000 in
theorem ixf_any (w : World) (base : Nat) (a : Option Addr) (c n : Nat) (xs : List RG) (h : RgRow w base a c xs) (hn : n = xs.length) (hn2 : n ≤ 10000) :
    Calls Try.prog 71 #[.slice a n c, .func (.func 84) #[] #[]] w (IxPost xs w) := by
  have H := Lib.hid h
  have HN := Lib.hid hn
  clear h hn
  go_enter Try.func71, Try.ntmps71
  go_wp2_with fail
  go_loopw [5, 8] (fun _ u wr => ∃ k : Nat, k ≤ n ∧ u = .int .i64 (k : Int) ∧ Below w.heap.size w wr ∧ ∀ j (hj : j < xs.length), j < k → gone xs[j] = false) (fun _ u _ => n - (intOf u).toNat)
  case atStart => exact ⟨0, Nat.zero_le _, rfl, Below.refl _ _, fun j _ hj => absurd hj (Nat.not_lt_zero _)⟩
  case round =>
    obtain ⟨k, hk, rfl, hbw, hno⟩ := hrel
    have HNO := Lib.hid hno
    have HB := Lib.hid hbw
    clear hno hbw
    by_cases hlt : k < n
    · have hkx : k < xs.length := by rw [← HN.out]; exact hlt
      obtain ⟨g, rfl, _, hg, _⟩ := H.out.has (by omega)
      have hr := H.out.below HB.out
      have hgw := (hr.lt g rfl).2
      obtain ⟨c0, c1, c2, c3⟩ := hr.cells hkx
      obtain ⟨x, hx⟩ : ∃ x, x = xs[k] := ⟨_, rfl⟩
      rw [← hx] at c0 c1 c2 c3
      have HGN := Lib.hid fun wx => gone_any wx x
      unfold rgV at HGN
      have HX := Lib.hid hx
      have hki : (k : Int) < (n : Int) := by omega
      cases hq : gone x
      · rw [hq] at HGN
        have HQ := Lib.hid hq
        clear hq hx hr hlt
        go_wp2_with fail
        refine (HGN.out _).mono ?_
        rintro e w7 ⟨rfl, hb7⟩
        have HB7 := Lib.hid (HB.out.trans (hb7.mono HB.out.size))
        clear hb7 HGN c0 c1 c2 c3
        go_wp2_with fail
        go_roundw
        case rel =>
          refine ⟨k + 1, by omega, by go_num, HB7.out, fun j hj2 hj => ?_⟩
          by_cases e : j = k
          · subst e; rw [← HX.out]; exact HQ.out
          · exact HNO.out j hj2 (by omega)
        case measure => simp [intOf]; omega
      · rw [hq] at HGN
        have HQ := Lib.hid hq
        clear hq hx hr hlt
        go_wp2_with fail
        refine (HGN.out _).mono ?_
        rintro e w7 ⟨rfl, hb7⟩
        have HB7 := Lib.hid (HB.out.trans (hb7.mono HB.out.size))
        clear hb7 HGN c0 c1 c2 c3
        go_wp2_with fail
        go_ret
        exact ⟨k, rfl, ⟨fun k' e => by have : k' = k := by omega
                                       subst this; exact ⟨hkx, by rw [← HX.out]; exact HQ.out, HNO.out⟩, fun e => by omega⟩, HB7.out⟩
    · have hle : ¬ (k : Int) < (n : Int) := by omega
      go_wp2_with fail
      go_ret
      exact ⟨-1, rfl, ⟨fun k' e => by omega, fun _ => ⟨rfl, fun j hj => HNO.out j hj (by have := HN.out; omega)⟩⟩, HB.out⟩
end

section
/-- the beginning of an own row, where what lies behind has been overwritten -/
theorem RgRow.cut {w : World} {base g c i : Nat} {ys : List RG} (h : RgRow w base (some ⟨g, 0, none⟩) c ys) (hi : i ≤ ys.length) (vs : List Value) :
    RgRow (w.setCells g (i * 4) vs) base (some ⟨g, 0, none⟩) c (ys.take i) := by
  have hl4 := rgs_len ys
  have hlt := rgs_len (ys.take i)
  have hti : (ys.take i).length = i := by rw [List.length_take]; omega
  have hft : (ys.take i).flatMap rgC = (ys.flatMap rgC).take (i * 4) := by
    have h9 : ys.flatMap rgC = (ys.take i).flatMap rgC ++ (ys.drop i).flatMap rgC := by rw [← List.flatMap_append, List.take_append_drop]
    rw [h9, List.take_left' (by rw [hlt, hti])]
  obtain ⟨_, h2⟩ := h
  rcases h2 with ⟨h0, _⟩ | ⟨g', cap', cur, hv, hg, hh, hn, hcap, hsz, htake⟩
  · cases h0
  · cases hv
    obtain ⟨cur', k1, k2, k3⟩ := setCells_heap g 97 vs (i * 4) w cur hh
    unfold RgRow
    rw [hti]
    refine ⟨by rw [hlt, hti], .inr ⟨g, c, cur', rfl, hg, k1, by omega, hcap, by omega, ?_⟩⟩
    apply List.ext_getElem?
    intro j
    by_cases hj : j < i * 4
    · have h3 : (cur.toList.take (ys.length * 4))[j]? = (ys.flatMap rgC)[j]? := by rw [htake]
      rw [List.getElem?_take_of_lt (by omega)] at h3
      rw [List.getElem?_take_of_lt (by omega), Array.getElem?_toList, k3 j (by omega), if_neg (by omega), hft, List.getElem?_take_of_lt hj, ← h3, Array.getElem?_toList]
    · rw [List.getElem?_eq_none (by rw [List.length_take]; omega), List.getElem?_eq_none (by rw [hlt, hti]; omega)]
theorem Try.zeroRg (w : World) : (zeroValue 97).run Try.prog w = .ok (.agg #[.int .i64 0, .int .i64 0, .int .i64 0, .bool false]) w := by kernel_rfl
def zRG : Value := .agg #[.int .i64 0, .int .i64 0, .int .i64 0, .bool false]
theorem zRG_cells : zRG.cells = #[.int .i64 0, .int .i64 0, .int .i64 0, .bool false] := by kernel_rfl
theorem zeroRg_len (n : Nat) : (Builtin.zeroCells zRG.cells n).toList.length = n * 4 := by
  rw [zRG_cells]; simp [Builtin.zeroCells]
theorem zeroRg_one (n : Nat) : ∀ v ∈ (Builtin.zeroCells zRG.cells n).toList, v.oneCell' = true := fun v hv => by
  rw [zRG_cells] at hv
  simp only [Builtin.zeroCells, Array.toList_map, List.mem_map] at hv
  obtain ⟨i, _, rfl⟩ := hv
  have h4 : i % 4 = 0 ∨ i % 4 = 1 ∨ i % 4 = 2 ∨ i % 4 = 3 := by omega
  rcases h4 with e | e | e | e
  · show (#[Value.int .i64 0, .int .i64 0, .int .i64 0, .bool false][i % 4]!).oneCell' = true
    rw [e]; rfl
  · show (#[Value.int .i64 0, .int .i64 0, .int .i64 0, .bool false][i % 4]!).oneCell' = true
    rw [e]; rfl
  · show (#[Value.int .i64 0, .int .i64 0, .int .i64 0, .bool false][i % 4]!).oneCell' = true
    rw [e]; rfl
  · show (#[Value.int .i64 0, .int .i64 0, .int .i64 0, .bool false][i % 4]!).oneCell' = true
    rw [e]; rfl
theorem clear_rg (w : World) (base g c i n : Nat) (ys : List RG) (h : RgRow w base (some ⟨g, 0, none⟩) c ys) (hn : n = ys.length) (hi : i < n) :
    ∃ w', (∀ ty, (Builtin.clear_ #[90] ty #[.slice (some ⟨g, i * 4, none⟩) (n - i) (c - i)]).run Try.prog w = .ok (.tuple #[]) w') ∧ RgRow w' base (some ⟨g, 0, none⟩) c (ys.take i) ∧ RestS (fun k => k = g) w w' := by
  subst hn
  have hcell : ∀ j, j < (ys.length - i) * 4 → (w.cell? ⟨g, i * 4 + j, none⟩).isSome = true ∧ w.frozen? ⟨g, i * 4 + j, none⟩ = false := fun j hj => by
    have h9 := ownR_cellAt h (j := i * 4 + j) (by omega)
    refine ⟨?_, h9.2⟩
    rw [h9.1, List.getElem?_eq_getElem (by rw [rgs_len]; omega)]
    rfl
  have hst := run_storeCells_cells (P := Try.prog) g (i * 4) (Builtin.zeroCells zRG.cells (ys.length - i)).toList 0 w (fun j hj => by rw [zeroRg_len] at hj; exact (hcell _ hj).1) (fun j hj => by rw [zeroRg_len] at hj; exact (hcell _ hj).2) (zeroRg_one _)
  have hgr := setCells_grown g (Builtin.zeroCells zRG.cells (ys.length - i)).toList (i * 4) w
  refine ⟨_, fun ty => ?_, h.cut (Nat.le_of_lt hi) (Builtin.zeroCells zRG.cells (ys.length - i)).toList, ⟨hgr.os, hgr.tape, hgr.output, hgr.size, fun k hk hne => hgr.block k hk fun e => hne (by injection e)⟩⟩
  simp only [Nat.add_zero] at hst
  obtain ⟨m, hm⟩ : ∃ m, ys.length - i = m + 1 := ⟨ys.length - i - 1, by omega⟩
  rw [hm] at hst ⊢
  have hz : ∀ w, (zeroValue 97).run Try.prog w = .ok zRG w := Try.zeroRg
  simp [Builtin.clear_, run_underlying Try.underlying90, hz, hst]
end

section
def keepR (xs : List RG) : List RG := xs.filter fun x => !gone x
theorem keepR_snoc (xs : List RG) (x : RG) : keepR (xs ++ [x]) = if gone x then keepR xs else keepR xs ++ [x] := by
  unfold keepR
  rw [List.filter_append]
  cases h : gone x <;> simp [h]
theorem keepR_all {xs : List RG} (h : ∀ j (hj : j < xs.length), gone xs[j] = false) : keepR xs = xs := by
  unfold keepR
  rw [List.filter_eq_self]
  intro x hx
  obtain ⟨j, hj, rfl⟩ := List.getElem_of_mem hx
  simp [h j hj]
def DelRg (base : Nat) (a : Option Addr) (c : Nat) (xs : List RG) (w : World) (e : Ending) (w' : World) : Prop :=
  e = .returned (.slice a (keepR xs).length c) ∧ RgRow w' base a c (keepR xs) ∧ RestS (fun k => (Value.slice a xs.length c).ownBlock = some k) w w'
/-- what the loop keeps -/
structure DelJ (xs : List RG) (base g n c : Nat) (w wr : World) (i j : Nat) (ys : List RG) : Prop where
  lt : i < j ∧ j ≤ n
  len : (keepR (xs.take j)).length = i
  ylen : ys.length = n
  row : RgRow wr base (some ⟨g, 0, none⟩) c ys
  done : ys.take i = keepR (xs.take j)
  ahead : ∀ k, j ≤ k → ys[k]? = xs[k]?
  rest : RestS (fun k => k = g) w wr
theorem DelJ.skip {xs : List RG} {base g n c : Nat} {w wr w' : World} {i j : Nat} {ys : List RG} (h : DelJ xs base g n c w wr i j ys) (hn : n = xs.length) (hj : j < n) (hx : ∀ h : j < xs.length, gone xs[j] = true) (hb : Below wr.heap.size wr w') : DelJ xs base g n c w w' i (j + 1) ys := by
  have e : keepR (xs.take (j + 1)) = keepR (xs.take j) := by
    rw [List.take_succ_eq_append_getElem (by omega), keepR_snoc, if_pos (hx (by omega))]
  exact ⟨⟨by have := h.lt; omega, by omega⟩, by rw [e]; exact h.len, h.ylen, h.row.below hb, by rw [e]; exact h.done, fun k hk => h.ahead k (by omega), h.rest.trans (below_refl_of hb _)⟩
theorem RestS.put4 {w w' : World} {g : Nat} (h : RestS (fun k => k = g) w w') (o1 o2 o3 o4 : Nat) (v1 v2 v3 v4 : Value) : RestS (fun k => k = g) w ((((w'.setCell ⟨g, o1, none⟩ v1).setCell ⟨g, o2, none⟩ v2).setCell ⟨g, o3, none⟩ v3).setCell ⟨g, o4, none⟩ v4) :=
  (((h.set (p := ⟨g, o1, none⟩) rfl v1).set (p := ⟨g, o2, none⟩) rfl v2).set (p := ⟨g, o3, none⟩) rfl v3).set (p := ⟨g, o4, none⟩) rfl v4
theorem DelJ.put {xs : List RG} {base g n c : Nat} {w wr w' : World} {i j : Nat} {ys : List RG} (h : DelJ xs base g n c w wr i j ys) (hn : n = xs.length) (hj : j < n) (x : RG) (hxx : ∀ h : j < xs.length, xs[j] = x) (hx : gone x = false) (hb : Below wr.heap.size wr w') :
    DelJ xs base g n c w ((((w'.setCell ⟨g, i * 4, none⟩ (.int .i64 x.r)).setCell ⟨g, i * 4 + 1, none⟩ (.int .i64 x.b)).setCell ⟨g, i * 4 + 2, none⟩ (.int .i64 x.e)).setCell ⟨g, i * 4 + 3, none⟩ (.bool x.s)) (i + 1) (j + 1) (ys.set i x) := by
  have hlt := h.lt
  have hyl := h.ylen
  have e : keepR (xs.take (j + 1)) = keepR (xs.take j) ++ [x] := by
    rw [List.take_succ_eq_append_getElem (by omega), keepR_snoc, hxx (by omega), hx]; rfl
  refine ⟨⟨by omega, by omega⟩, by rw [e, List.length_append, h.len]; rfl, by rw [List.length_set]; exact hyl, (h.row.below hb).put (by omega) x, ?_, fun k hk => ?_, (h.rest.trans (below_refl_of hb _)).put4 _ _ _ _ _ _ _ _⟩
  · rw [e, List.take_set, List.take_succ_eq_append_getElem (by omega), h.done, List.set_append_right _ _ (by rw [h.len]; exact Nat.le_refl _), h.len]
    simp
  · rw [List.getElem?_set_ne (by omega)]
    exact h.ahead k (by omega)
set_option maxRecDepth 100000 in
set_option maxHeartbeats 8000000 in
theorem del_any (w : World) (base : Nat) (a : Option Addr) (c n : Nat) (xs : List RG) (h : RgRow w base a c xs) (hn : n = xs.length) (hn2 : n ≤ 10000) :
    Calls Try.prog 41 #[.slice a n c, .func (.func 84) #[] #[]] w (DelRg base a c xs w) := by
  have HIX := Lib.hid (ixf_any w base a c n xs h hn hn2)
  have H := Lib.hid h
  have HN := Lib.hid hn
  clear h hn
  go_enter Try.func41, Try.ntmps41
  go_wp2_with fail
  refine HIX.out.mono ?_
  rintro e w1 ⟨z, rfl, hz, hb1⟩
  have HZ := Lib.hid hz
  have HB1 := Lib.hid hb1
  clear hz hb1 HIX
  by_cases hz0 : z < 0
  · obtain ⟨e9, hall⟩ := HZ.out.none hz0
    subst e9
    have HK : Hid (keepR xs = xs) := keepR_all hall
    clear hall hz0
    go_wp2_with fail
    go_ret
    exact ⟨by rw [HK.out, ← HN.out]; rfl, by rw [HK.out]; exact H.out.below HB1.out, below_refl_of HB1.out _⟩
  · obtain ⟨i0, rfl⟩ : ∃ k : Nat, z = k := ⟨z.toNat, by omega⟩
    obtain ⟨hk, hg, hbf⟩ := HZ.out.some i0 rfl
    obtain ⟨g, rfl, hbg, hgl, hc1, hc2⟩ := H.out.has (by omega)
    have hz9 : ((i0 : Int) == -1) = false := beq_eq_false_iff_ne.2 (by omega)
    have hxn := HN.out
    have hk0 : keepR (xs.take (i0 + 1)) = xs.take i0 := by
      rw [List.take_succ_eq_append_getElem hk, keepR_snoc, hg, if_pos rfl]
      exact keepR_all fun j hj => by
        rw [List.length_take] at hj
        rw [List.getElem_take]
        exact hbf j (by omega) (by omega)
    have HI : Hid (DelJ xs base g n c w w1 i0 (i0 + 1) xs) := ⟨⟨by omega, by omega⟩, by rw [hk0, List.length_take]; omega, HN.out.symm, H.out.below HB1.out, hk0.symm, fun _ _ => rfl, below_refl_of HB1.out _⟩
    have hin : i0 < n := by omega
    clear hk0 hbf hg hz0 HZ hxn hk
    go_wp2_with fail
    go_loopw [5, 6, 7] (fun u5 u6 u7 wr => ∃ (i j : Nat) (ys : List RG), u5 = .int .i64 (i : Int) ∧ u6 = .int .i64 (j : Int) ∧ DelJ xs base g n c w wr i j ys) (fun _ u _ _ => n - (intOf u).toNat)
    case atStart => exact ⟨i0, i0 + 1, xs, rfl, by go_num, HI.out⟩
    case round =>
      clear HI
      obtain ⟨i, j, ys, rfl, rfl, hdj⟩ := hrel
      have hlt := hdj.lt
      have HD := Lib.hid hdj
      by_cases hj : j < n
      ·
        have hyl : ys.length = n := hdj.ylen
        have hr := hdj.row
        have hgw := (hr.lt g rfl).2
        have hjx : j < xs.length := by rw [← HN.out]; exact hj
        obtain ⟨x, hx⟩ : ∃ x, x = xs[j] := ⟨_, rfl⟩
        have hyx : ys[j]'(by omega) = x := by
          have h9 := hdj.ahead j (Nat.le_refl _)
          rw [List.getElem?_eq_getElem (by omega), List.getElem?_eq_getElem hjx] at h9
          injection h9 with h9
          rw [h9, hx]
        obtain ⟨c0, c1, c2, c3⟩ := hr.cells (i := j) (by omega)
        rw [hyx] at c0 c1 c2 c3
        have HGN := Lib.hid fun wx => gone_any wx x
        unfold rgV at HGN
        have HX := Lib.hid hx
        have hji : (j : Int) < (n : Int) := by omega
        clear hyx hx hr hdj
        cases hq : gone x
        ·
          rw [hq] at HGN
          have HQ := Lib.hid hq
          clear hq
          have hii : (i : Int) < (n : Int) := by omega
          go_wp2_with fail
          refine (HGN.out _).mono ?_
          rintro e w7 ⟨rfl, hb7⟩
          have HB7 : Hid (Below wr.heap.size wr w7) := ((Below.refl _ _).alloc (Nat.le_refl _) _).trans (hb7.mono (by simp))
          have d0 := hb7.cell (p := ⟨wr.heap.size, 0, none⟩) (by simp)
          have d1 := hb7.cell (p := ⟨wr.heap.size, 1, none⟩) (by simp)
          have d2 := hb7.cell (p := ⟨wr.heap.size, 2, none⟩) (by simp)
          have d3 := hb7.cell (p := ⟨wr.heap.size, 3, none⟩) (by simp)
          simp [go_sem, rgC] at d0 d1 d2 d3
          have hr7 := HD.out.row.below HB7.out
          obtain ⟨e0, e1, e2, e3⟩ := hr7.cells (i := i) (by omega)
          have f0 : w7.frozen? ⟨g, i * 4, none⟩ = false := hr7.frees (i := i) (by omega) 0 (by omega)
          have f1 := hr7.frees (i := i) (by omega) 1 (by omega)
          have f2 := hr7.frees (i := i) (by omega) 2 (by omega)
          have f3 := hr7.frees (i := i) (by omega) 3 (by omega)
          clear hb7 HGN c0 c1 c2 c3 hr7
          go_wp2_with fail
          go_roundw
          case rel => exact ⟨i + 1, j + 1, ys.set i x, by go_num, by go_num, HD.out.put HN.out hj x (fun _ => HX.out.symm) HQ.out HB7.out⟩
          case measure => simp [intOf]; omega
        · rw [hq] at HGN
          have HQ := Lib.hid hq
          clear hq
          go_wp2_with fail
          refine (HGN.out _).mono ?_
          rintro e w7 ⟨rfl, hb7⟩
          have HB7 : Hid (Below wr.heap.size wr w7) := ((Below.refl _ _).alloc (Nat.le_refl _) _).trans (hb7.mono (by simp))
          clear hb7 HGN c0 c1 c2 c3
          go_wp2_with fail
          go_roundw
          case rel => exact ⟨i, j + 1, ys, rfl, by go_num, HD.out.skip HN.out hj (fun _ => by rw [← HX.out]; exact HQ.out) HB7.out⟩
          case measure => simp [intOf]; omega
      ·
        have ej : j = n := by omega
        subst ej
        obtain ⟨w9, hcl, hrow, hrest⟩ := clear_rg wr base g c i j ys hdj.row hdj.ylen.symm hlt.1
        have HCL := Lib.hid hcl
        have hkx : ys.take i = keepR xs := by rw [hdj.done, HN.out, List.take_length]
        have hki : (keepR xs).length = i := by rw [← hkx, List.length_take, hdj.ylen]; omega
        rw [hkx] at hrow
        have HROW := Lib.hid hrow
        have HKI := Lib.hid hki
        have HREST := Lib.hid (hdj.rest.trans hrest)
        have hcj : j ≤ c := by have := HN.out; omega
        have hcm : c ≤ 9223372036854775807 := by unfold maxLen at hc2; omega
        have hif : (if c = i then some ⟨g, 0, none⟩ else some ⟨g, i * 4, none⟩ : Option Addr) = some ⟨g, i * 4, none⟩ := if_neg (by omega)
        clear hcl hrow hrest hkx hki hdj HD
        go_wp2_with (refine wpList_of_wp _ rfl (fun K Q' hk => wp_clear_eq _ _ 90 rfl _ rfl (HCL.out _) hk) ?_)
        go_ret
        exact ⟨by rw [HKI.out]; rfl, HROW.out, HREST.out.mono fun k e => by rw [e]; rfl⟩
end
end Go.Proofs.Ytlcnbihfpjhffaa
