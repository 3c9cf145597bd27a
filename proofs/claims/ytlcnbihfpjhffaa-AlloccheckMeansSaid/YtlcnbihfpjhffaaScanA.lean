/- IndexFunc, ContainsFunc and DeleteFunc at ranges, with the closures of linear's scan. -/
import Derived.Test.YtlcnbihfpjhffaaLinDel
import Derived.Test.YtlcnbihfpjhffaaScanL
namespace Go.Proofs.Ytlcnbihfpjhffaa
open Go.RowKit
set_option linter.unusedVariables false
set_option linter.unusedSimpArgs false

/-- where the first range of a kind lies -/
structure IxP (p : RG → Bool) (xs : List RG) (i : Int) : Prop where
  some : ∀ k : Nat, i = k → ∃ h : k < xs.length, p xs[k] = true ∧ ∀ j (hj : j < xs.length), j < k → p xs[j] = false
  none : i < 0 → i = -1 ∧ ∀ j (hj : j < xs.length), p xs[j] = false
  ge : -1 ≤ i
def IxPPost (p : RG → Bool) (xs : List RG) (w : World) (e : Ending) (w' : World) : Prop := ∃ i : Int, e = .returned (.int .i64 i) ∧ IxP p xs i ∧ Below w.heap.size w w'
def keepP (p : RG → Bool) (xs : List RG) : List RG := xs.filter fun x => !p x
theorem keepP_snoc (p : RG → Bool) (xs : List RG) (x : RG) : keepP p (xs ++ [x]) = if p x then keepP p xs else keepP p xs ++ [x] := by
  unfold keepP
  rw [List.filter_append]
  cases h : p x <;> simp [h]
theorem keepP_all {p : RG → Bool} {xs : List RG} (h : ∀ j (hj : j < xs.length), p xs[j] = false) : keepP p xs = xs := by
  unfold keepP
  rw [List.filter_eq_self]
  intro x hx
  obtain ⟨j, hj, rfl⟩ := List.getElem_of_mem hx
  simp [h j hj]
def DelP (p : RG → Bool) (base : Nat) (a : Option Addr) (c : Nat) (xs : List RG) (w : World) (e : Ending) (w' : World) : Prop :=
  e = .returned (.slice a (keepP p xs).length c) ∧ RgRow w' base a c (keepP p xs) ∧ RestS (fun k => (Value.slice a xs.length c).ownBlock = some k) w w'
/-- what DeleteFunc's loop keeps -/
structure DelK (p : RG → Bool) (xs : List RG) (base g n c : Nat) (w wr : World) (i j : Nat) (ys : List RG) : Prop where
  lt : i < j ∧ j ≤ n
  len : (keepP p (xs.take j)).length = i
  ylen : ys.length = n
  row : RgRow wr base (some ⟨g, 0, none⟩) c ys
  done : ys.take i = keepP p (xs.take j)
  ahead : ∀ k, j ≤ k → ys[k]? = xs[k]?
  rest : RestS (fun k => k = g) w wr
theorem DelK.skip {p : RG → Bool} {xs : List RG} {base g n c : Nat} {w wr w' : World} {i j : Nat} {ys : List RG} (h : DelK p xs base g n c w wr i j ys) (hn : n = xs.length) (hj : j < n) (hx : ∀ h : j < xs.length, p xs[j] = true) (hb : Below wr.heap.size wr w') : DelK p xs base g n c w w' i (j + 1) ys := by
  have e : keepP p (xs.take (j + 1)) = keepP p (xs.take j) := by
    rw [List.take_succ_eq_append_getElem (by omega), keepP_snoc, if_pos (hx (by omega))]
  exact ⟨⟨by have := h.lt; omega, by omega⟩, by rw [e]; exact h.len, h.ylen, h.row.below hb, by rw [e]; exact h.done, fun k hk => h.ahead k (by omega), h.rest.trans (below_refl_of hb _)⟩
theorem DelK.put {p : RG → Bool} {xs : List RG} {base g n c : Nat} {w wr w' : World} {i j : Nat} {ys : List RG} (h : DelK p xs base g n c w wr i j ys) (hn : n = xs.length) (hj : j < n) (x : RG) (hxx : ∀ h : j < xs.length, xs[j] = x) (hx : p x = false) (hb : Below wr.heap.size wr w') :
    DelK p xs base g n c w ((((w'.setCell ⟨g, i * 4, none⟩ (.int .i64 x.r)).setCell ⟨g, i * 4 + 1, none⟩ (.int .i64 x.b)).setCell ⟨g, i * 4 + 2, none⟩ (.int .i64 x.e)).setCell ⟨g, i * 4 + 3, none⟩ (.bool x.s)) (i + 1) (j + 1) (ys.set i x) := by
  have hlt := h.lt
  have hyl := h.ylen
  have e : keepP p (xs.take (j + 1)) = keepP p (xs.take j) ++ [x] := by
    rw [List.take_succ_eq_append_getElem (by omega), keepP_snoc, hxx (by omega), hx]; rfl
  refine ⟨⟨by omega, by omega⟩, by rw [e, List.length_append, h.len]; rfl, by rw [List.length_set]; exact hyl, (h.row.below hb).put (by omega) x, ?_, fun k hk => ?_, (h.rest.trans (below_refl_of hb _)).put4 _ _ _ _ _ _ _ _⟩
  · rw [e, List.take_set, List.take_succ_eq_append_getElem (by omega), h.done, List.set_append_right _ _ (by rw [h.len]; exact Nat.le_refl _), h.len]
    simp
  · rw [List.getElem?_set_ne (by omega)]
    exact h.ahead k (by omega)
set_option maxRecDepth 100000 in
set_option maxHeartbeats 4000000 in
theorem dead_any (w : World) (xb : Nat) (x y : RG) (hx : Blk w xb 97 (rgC x)) : Calls Try.prog 42 #[rgV y, .pointer (some ⟨xb, 0, none⟩)] w (GonePost (decide (y.e < x.b)) w) := by
  have hb : Below w.heap.size w (w.alloc (.cells (rgC y).toArray 97)) := (Below.refl _ _).alloc (Nat.le_refl _) _
  have c1 := (hx.below hb (Blk.lt hx)).cell 1
  simp only [rgC, List.getElem?_cons_zero, List.getElem?_cons_succ] at c1
  have HB := Lib.hid hb
  have hl := Blk.lt hx
  unfold rgV
  clear hb hx
  go_enter Try.func42, Try.ntmps42
  go_wp2_with fail
  go_ret
  exact ⟨rfl, HB.out⟩
set_option maxRecDepth 100000 in
set_option maxHeartbeats 4000000 in
theorem later_any (w : World) (xb : Nat) (x y : RG) (hx : Blk w xb 97 (rgC x)) : Calls Try.prog 76 #[rgV y, .pointer (some ⟨xb, 0, none⟩)] w (GonePost (decide (x.e < y.e)) w) := by
  have hb : Below w.heap.size w (w.alloc (.cells (rgC y).toArray 97)) := (Below.refl _ _).alloc (Nat.le_refl _) _
  have c1 := (hx.below hb (Blk.lt hx)).cell 2
  simp only [rgC, List.getElem?_cons_zero, List.getElem?_cons_succ] at c1
  have HB := Lib.hid hb
  have hl := Blk.lt hx
  unfold rgV
  clear hb hx
  go_enter Try.func76, Try.ntmps76
  go_wp2_with fail
  go_ret
  exact ⟨rfl, HB.out⟩
set_option maxRecDepth 100000 in
set_option maxHeartbeats 8000000 in
theorem ixf_dead (w : World) (base : Nat) (a : Option Addr) (c n : Nat) (xs : List RG) (h : RgRow w base a c xs) (hn : n = xs.length) (hn2 : n ≤ 10000) (xb : Nat) (p : RG → Bool)
    (hc : ∀ wx x, x ∈ xs → Below w.heap.size w wx → Calls Try.prog 42 #[rgV x, .pointer (some ⟨xb, 0, none⟩)] wx (GonePost (p x) wx)) :
    Calls Try.prog 71 #[.slice a n c, .func (.func 42) #[] #[.pointer (some ⟨xb, 0, none⟩)]] w (IxPPost p xs w) := by
  have H := Lib.hid h
  have HN := Lib.hid hn
  have HC := Lib.hid hc
  clear h hn hc
  go_enter Try.func71, Try.ntmps71
  go_wp2_with fail
  go_loopw [5, 8] (fun _ u wr => ∃ k : Nat, k ≤ n ∧ u = .int .i64 (k : Int) ∧ Below w.heap.size w wr ∧ ∀ j (hj : j < xs.length), j < k → p xs[j] = false) (fun _ u _ => n - (intOf u).toNat)
  case atStart => exact ⟨0, Nat.zero_le _, rfl, Below.refl _ _, fun j _ hj => absurd hj (Nat.not_lt_zero _)⟩
  case round =>
    obtain ⟨k, hk, rfl, hbw, hno⟩ := hrel
    have HNO := Lib.hid hno
    have HB := Lib.hid hbw
    clear hno hbw
    by_cases hlt : k < n
    · have hkx : k < xs.length := by rw [← HN.out]; exact hlt
      obtain ⟨g, rfl, _, hg, _⟩ := H.out.has (by omega)
      have hr := H.out.below HB.out
      have hgw := (hr.lt g rfl).2
      obtain ⟨c0, c1, c2, c3⟩ := hr.cells hkx
      have HMM : Hid (xs[k] ∈ xs) := List.getElem_mem _
      obtain ⟨x, hx⟩ : ∃ x, x = xs[k] := ⟨_, rfl⟩
      rw [← hx] at c0 c1 c2 c3 HMM
      have HGN := Lib.hid fun wx (h9 : Below w.heap.size w wx) => HC.out wx x HMM.out h9
      unfold rgV at HGN
      have HX := Lib.hid hx
      have hki : (k : Int) < (n : Int) := by omega
      cases hq : p x
      · rw [hq] at HGN
        have HQ := Lib.hid hq
        clear hq hx hr hlt
        go_wp2_with fail
        refine (HGN.out _ HB.out).mono ?_
        rintro e w7 ⟨rfl, hb7⟩
        have HB7 := Lib.hid (HB.out.trans (hb7.mono HB.out.size))
        clear hb7 HGN c0 c1 c2 c3
        go_wp2_with fail
        go_roundw
        case rel =>
          refine ⟨k + 1, by omega, by go_num, HB7.out, fun j hj2 hj => ?_⟩
          by_cases e : j = k
          · subst e; rw [← HX.out]; exact HQ.out
          · exact HNO.out j hj2 (by omega)
        case measure => simp [intOf]; omega
      · rw [hq] at HGN
        have HQ := Lib.hid hq
        clear hq hx hr hlt
        go_wp2_with fail
        refine (HGN.out _ HB.out).mono ?_
        rintro e w7 ⟨rfl, hb7⟩
        have HB7 := Lib.hid (HB.out.trans (hb7.mono HB.out.size))
        clear hb7 HGN c0 c1 c2 c3
        go_wp2_with fail
        go_ret
        exact ⟨k, rfl, ⟨fun k' e => by have : k' = k := by omega
                                       subst this; exact ⟨hkx, by rw [← HX.out]; exact HQ.out, HNO.out⟩, fun e => by omega, by omega⟩, HB7.out⟩
    · have hle : ¬ (k : Int) < (n : Int) := by omega
      go_wp2_with fail
      go_ret
      exact ⟨-1, rfl, ⟨fun k' e => by omega, fun _ => ⟨rfl, fun j hj => HNO.out j hj (by have := HN.out; omega)⟩, by omega⟩, HB.out⟩
set_option maxRecDepth 100000 in
set_option maxHeartbeats 8000000 in
theorem del_dead (w : World) (base : Nat) (a : Option Addr) (c n : Nat) (xs : List RG) (h : RgRow w base a c xs) (hn : n = xs.length) (hn2 : n ≤ 10000) (xb : Nat) (p : RG → Bool)
    (hc : ∀ wx x, x ∈ xs → RestS (fun k => (Value.slice a xs.length c).ownBlock = some k) w wx → Calls Try.prog 42 #[rgV x, .pointer (some ⟨xb, 0, none⟩)] wx (GonePost (p x) wx)) :
    Calls Try.prog 41 #[.slice a n c, .func (.func 42) #[] #[.pointer (some ⟨xb, 0, none⟩)]] w (DelP p base a c xs w) := by
  have HIX := Lib.hid (ixf_dead w base a c n xs h hn hn2 xb p fun wx x hx hb => hc wx x hx (below_refl_of hb _))
  have H := Lib.hid h
  have HN := Lib.hid hn
  have HC := Lib.hid hc
  clear h hn hc
  go_enter Try.func41, Try.ntmps41
  go_wp2_with fail
  refine HIX.out.mono ?_
  rintro e w1 ⟨z, rfl, hz, hb1⟩
  have HZ := Lib.hid hz
  have HB1 := Lib.hid hb1
  clear hz hb1 HIX
  by_cases hz0 : z < 0
  · obtain ⟨e9, hall⟩ := HZ.out.none hz0
    subst e9
    have HK : Hid (keepP p xs = xs) := keepP_all hall
    clear hall hz0
    go_wp2_with fail
    go_ret
    exact ⟨by rw [HK.out, ← HN.out]; rfl, by rw [HK.out]; exact H.out.below HB1.out, below_refl_of HB1.out _⟩
  · obtain ⟨i0, rfl⟩ : ∃ k : Nat, z = k := ⟨z.toNat, by omega⟩
    obtain ⟨hk, hg, hbf⟩ := HZ.out.some i0 rfl
    obtain ⟨g, rfl, hbg, hgl, hc1, hc2⟩ := H.out.has (by omega)
    have hz9 : ((i0 : Int) == -1) = false := beq_eq_false_iff_ne.2 (by omega)
    have hxn := HN.out
    have hk0 : keepP p (xs.take (i0 + 1)) = xs.take i0 := by
      rw [List.take_succ_eq_append_getElem hk, keepP_snoc, hg, if_pos rfl]
      exact keepP_all fun j hj => by
        rw [List.length_take] at hj
        rw [List.getElem_take]
        exact hbf j (by omega) (by omega)
    have HI : Hid (DelK p xs base g n c w w1 i0 (i0 + 1) xs) := ⟨⟨by omega, by omega⟩, by rw [hk0, List.length_take]; omega, HN.out.symm, H.out.below HB1.out, hk0.symm, fun _ _ => rfl, below_refl_of HB1.out _⟩
    have hin : i0 < n := by omega
    clear hk0 hbf hg hz0 HZ hxn hk
    go_wp2_with fail
    go_loopw [5, 6, 7] (fun u5 u6 u7 wr => ∃ (i j : Nat) (ys : List RG), u5 = .int .i64 (i : Int) ∧ u6 = .int .i64 (j : Int) ∧ DelK p xs base g n c w wr i j ys) (fun _ u _ _ => n - (intOf u).toNat)
    case atStart => exact ⟨i0, i0 + 1, xs, rfl, by go_num, HI.out⟩
    case round =>
      clear HI
      obtain ⟨i, j, ys, rfl, rfl, hdj⟩ := hrel
      have hlt := hdj.lt
      have HD := Lib.hid hdj
      by_cases hj : j < n
      ·
        have hyl : ys.length = n := hdj.ylen
        have hr := hdj.row
        have hgw := (hr.lt g rfl).2
        have hjx : j < xs.length := by rw [← HN.out]; exact hj
        have HMM : Hid (xs[j] ∈ xs) := List.getElem_mem _
        obtain ⟨x, hx⟩ : ∃ x, x = xs[j] := ⟨_, rfl⟩
        have hyx : ys[j]'(by omega) = x := by
          have h9 := hdj.ahead j (Nat.le_refl _)
          rw [List.getElem?_eq_getElem (by omega), List.getElem?_eq_getElem hjx] at h9
          injection h9 with h9
          rw [h9, hx]
        obtain ⟨c0, c1, c2, c3⟩ := hr.cells (i := j) (by omega)
        rw [hyx] at c0 c1 c2 c3
        rw [← hx] at HMM
        have HGN : Hid (∀ wx, Below wr.heap.size wr wx → Calls Try.prog 42 #[rgV x, .pointer (some ⟨xb, 0, none⟩)] wx (GonePost (p x) wx)) := fun wx hb => HC.out wx x HMM.out ((HD.out.rest.mono fun k e => by rw [e]; rfl).trans (below_refl_of hb _))
        unfold rgV at HGN
        have HX := Lib.hid hx
        have hji : (j : Int) < (n : Int) := by omega
        have hab : Below wr.heap.size wr (wr.alloc (.cells #[.int .i64 x.r, .int .i64 x.b, .int .i64 x.e, .bool x.s] 97)) := (Below.refl _ _).alloc (Nat.le_refl _) _
        have HAB := Lib.hid hab
        clear hyx hx hr hdj hab
        cases hq : p x
        ·
          rw [hq] at HGN
          have HQ := Lib.hid hq
          clear hq
          have hii : (i : Int) < (n : Int) := by omega
          go_wp2_with fail
          refine (HGN.out _ HAB.out).mono ?_
          rintro e w7 ⟨rfl, hb7⟩
          have HB7 : Hid (Below wr.heap.size wr w7) := HAB.out.trans (hb7.mono (by simp))
          have d0 := hb7.cell (p := ⟨wr.heap.size, 0, none⟩) (by simp)
          have d1 := hb7.cell (p := ⟨wr.heap.size, 1, none⟩) (by simp)
          have d2 := hb7.cell (p := ⟨wr.heap.size, 2, none⟩) (by simp)
          have d3 := hb7.cell (p := ⟨wr.heap.size, 3, none⟩) (by simp)
          simp [go_sem, rgC] at d0 d1 d2 d3
          have hr7 := HD.out.row.below HB7.out
          obtain ⟨e0, e1, e2, e3⟩ := hr7.cells (i := i) (by omega)
          have f0 : w7.frozen? ⟨g, i * 4, none⟩ = false := hr7.frees (i := i) (by omega) 0 (by omega)
          have f1 := hr7.frees (i := i) (by omega) 1 (by omega)
          have f2 := hr7.frees (i := i) (by omega) 2 (by omega)
          have f3 := hr7.frees (i := i) (by omega) 3 (by omega)
          clear hb7 HGN HAB c0 c1 c2 c3 hr7
          go_wp2_with fail
          go_roundw
          case rel => exact ⟨i + 1, j + 1, ys.set i x, by go_num, by go_num, HD.out.put HN.out hj x (fun _ => HX.out.symm) HQ.out HB7.out⟩
          case measure => simp [intOf]; omega
        · rw [hq] at HGN
          have HQ := Lib.hid hq
          clear hq
          go_wp2_with fail
          refine (HGN.out _ HAB.out).mono ?_
          rintro e w7 ⟨rfl, hb7⟩
          have HB7 : Hid (Below wr.heap.size wr w7) := HAB.out.trans (hb7.mono (by simp))
          clear hb7 HGN HAB c0 c1 c2 c3
          go_wp2_with fail
          go_roundw
          case rel => exact ⟨i, j + 1, ys, rfl, by go_num, HD.out.skip HN.out hj (fun _ => by rw [← HX.out]; exact HQ.out) HB7.out⟩
          case measure => simp [intOf]; omega
      ·
        have ej : j = n := by omega
        subst ej
        obtain ⟨w9, hcl, hrow, hrest⟩ := clear_rg wr base g c i j ys hdj.row hdj.ylen.symm hlt.1
        have HCL := Lib.hid hcl
        have hkx : ys.take i = keepP p xs := by rw [hdj.done, HN.out, List.take_length]
        have hki : (keepP p xs).length = i := by rw [← hkx, List.length_take, hdj.ylen]; omega
        rw [hkx] at hrow
        have HROW := Lib.hid hrow
        have HKI := Lib.hid hki
        have HREST := Lib.hid (hdj.rest.trans hrest)
        have hcj : j ≤ c := by have := HN.out; omega
        have hcm : c ≤ 9223372036854775807 := by unfold maxLen at hc2; omega
        have hif : (if c = i then some ⟨g, 0, none⟩ else some ⟨g, i * 4, none⟩ : Option Addr) = some ⟨g, i * 4, none⟩ := if_neg (by omega)
        clear hcl hrow hrest hkx hki hdj HD HC
        go_wp2_with (refine wpList_of_wp _ rfl (fun K Q' hk => wp_clear_eq _ _ 90 rfl _ rfl (HCL.out _) hk) ?_)
        go_ret
        exact ⟨by rw [HKI.out]; rfl, HROW.out, HREST.out.mono fun k e => by rw [e]; rfl⟩
set_option maxRecDepth 100000 in
set_option maxHeartbeats 8000000 in
theorem ixf_later (w : World) (base : Nat) (a : Option Addr) (c n : Nat) (xs : List RG) (h : RgRow w base a c xs) (hn : n = xs.length) (hn2 : n ≤ 10000) (xb : Nat) (p : RG → Bool)
    (hc : ∀ wx x, x ∈ xs → Below w.heap.size w wx → Calls Try.prog 76 #[rgV x, .pointer (some ⟨xb, 0, none⟩)] wx (GonePost (p x) wx)) :
    Calls Try.prog 71 #[.slice a n c, .func (.func 76) #[] #[.pointer (some ⟨xb, 0, none⟩)]] w (IxPPost p xs w) := by
  have H := Lib.hid h
  have HN := Lib.hid hn
  have HC := Lib.hid hc
  clear h hn hc
  go_enter Try.func71, Try.ntmps71
  go_wp2_with fail
  go_loopw [5, 8] (fun _ u wr => ∃ k : Nat, k ≤ n ∧ u = .int .i64 (k : Int) ∧ Below w.heap.size w wr ∧ ∀ j (hj : j < xs.length), j < k → p xs[j] = false) (fun _ u _ => n - (intOf u).toNat)
  case atStart => exact ⟨0, Nat.zero_le _, rfl, Below.refl _ _, fun j _ hj => absurd hj (Nat.not_lt_zero _)⟩
  case round =>
    obtain ⟨k, hk, rfl, hbw, hno⟩ := hrel
    have HNO := Lib.hid hno
    have HB := Lib.hid hbw
    clear hno hbw
    by_cases hlt : k < n
    · have hkx : k < xs.length := by rw [← HN.out]; exact hlt
      obtain ⟨g, rfl, _, hg, _⟩ := H.out.has (by omega)
      have hr := H.out.below HB.out
      have hgw := (hr.lt g rfl).2
      obtain ⟨c0, c1, c2, c3⟩ := hr.cells hkx
      have HMM : Hid (xs[k] ∈ xs) := List.getElem_mem _
      obtain ⟨x, hx⟩ : ∃ x, x = xs[k] := ⟨_, rfl⟩
      rw [← hx] at c0 c1 c2 c3 HMM
      have HGN := Lib.hid fun wx (h9 : Below w.heap.size w wx) => HC.out wx x HMM.out h9
      unfold rgV at HGN
      have HX := Lib.hid hx
      have hki : (k : Int) < (n : Int) := by omega
      cases hq : p x
      · rw [hq] at HGN
        have HQ := Lib.hid hq
        clear hq hx hr hlt
        go_wp2_with fail
        refine (HGN.out _ HB.out).mono ?_
        rintro e w7 ⟨rfl, hb7⟩
        have HB7 := Lib.hid (HB.out.trans (hb7.mono HB.out.size))
        clear hb7 HGN c0 c1 c2 c3
        go_wp2_with fail
        go_roundw
        case rel =>
          refine ⟨k + 1, by omega, by go_num, HB7.out, fun j hj2 hj => ?_⟩
          by_cases e : j = k
          · subst e; rw [← HX.out]; exact HQ.out
          · exact HNO.out j hj2 (by omega)
        case measure => simp [intOf]; omega
      · rw [hq] at HGN
        have HQ := Lib.hid hq
        clear hq hx hr hlt
        go_wp2_with fail
        refine (HGN.out _ HB.out).mono ?_
        rintro e w7 ⟨rfl, hb7⟩
        have HB7 := Lib.hid (HB.out.trans (hb7.mono HB.out.size))
        clear hb7 HGN c0 c1 c2 c3
        go_wp2_with fail
        go_ret
        exact ⟨k, rfl, ⟨fun k' e => by have : k' = k := by omega
                                       subst this; exact ⟨hkx, by rw [← HX.out]; exact HQ.out, HNO.out⟩, fun e => by omega, by omega⟩, HB7.out⟩
    · have hle : ¬ (k : Int) < (n : Int) := by omega
      go_wp2_with fail
      go_ret
      exact ⟨-1, rfl, ⟨fun k' e => by omega, fun _ => ⟨rfl, fun j hj => HNO.out j hj (by have := HN.out; omega)⟩, by omega⟩, HB.out⟩
set_option maxRecDepth 100000 in
set_option maxHeartbeats 8000000 in
theorem ixf_same (w : World) (base : Nat) (a : Option Addr) (c n : Nat) (xs : List RG) (h : RgRow w base a c xs) (hn : n = xs.length) (hn2 : n ≤ 10000) (sp np : Nat) (p : RG → Bool)
    (hc : ∀ wx x, x ∈ xs → Below w.heap.size w wx → Calls Try.prog 75 #[rgV x, .pointer (some ⟨sp, 0, none⟩), .pointer (some ⟨np, 0, none⟩)] wx (GonePost (p x) wx)) :
    Calls Try.prog 71 #[.slice a n c, .func (.func 75) #[] #[.pointer (some ⟨sp, 0, none⟩), .pointer (some ⟨np, 0, none⟩)]] w (IxPPost p xs w) := by
  have H := Lib.hid h
  have HN := Lib.hid hn
  have HC := Lib.hid hc
  clear h hn hc
  go_enter Try.func71, Try.ntmps71
  go_wp2_with fail
  go_loopw [5, 8] (fun _ u wr => ∃ k : Nat, k ≤ n ∧ u = .int .i64 (k : Int) ∧ Below w.heap.size w wr ∧ ∀ j (hj : j < xs.length), j < k → p xs[j] = false) (fun _ u _ => n - (intOf u).toNat)
  case atStart => exact ⟨0, Nat.zero_le _, rfl, Below.refl _ _, fun j _ hj => absurd hj (Nat.not_lt_zero _)⟩
  case round =>
    obtain ⟨k, hk, rfl, hbw, hno⟩ := hrel
    have HNO := Lib.hid hno
    have HB := Lib.hid hbw
    clear hno hbw
    by_cases hlt : k < n
    · have hkx : k < xs.length := by rw [← HN.out]; exact hlt
      obtain ⟨g, rfl, _, hg, _⟩ := H.out.has (by omega)
      have hr := H.out.below HB.out
      have hgw := (hr.lt g rfl).2
      obtain ⟨c0, c1, c2, c3⟩ := hr.cells hkx
      have HMM : Hid (xs[k] ∈ xs) := List.getElem_mem _
      obtain ⟨x, hx⟩ : ∃ x, x = xs[k] := ⟨_, rfl⟩
      rw [← hx] at c0 c1 c2 c3 HMM
      have HGN := Lib.hid fun wx (h9 : Below w.heap.size w wx) => HC.out wx x HMM.out h9
      unfold rgV at HGN
      have HX := Lib.hid hx
      have hki : (k : Int) < (n : Int) := by omega
      cases hq : p x
      · rw [hq] at HGN
        have HQ := Lib.hid hq
        clear hq hx hr hlt
        go_wp2_with fail
        refine (HGN.out _ HB.out).mono ?_
        rintro e w7 ⟨rfl, hb7⟩
        have HB7 := Lib.hid (HB.out.trans (hb7.mono HB.out.size))
        clear hb7 HGN c0 c1 c2 c3
        go_wp2_with fail
        go_roundw
        case rel =>
          refine ⟨k + 1, by omega, by go_num, HB7.out, fun j hj2 hj => ?_⟩
          by_cases e : j = k
          · subst e; rw [← HX.out]; exact HQ.out
          · exact HNO.out j hj2 (by omega)
        case measure => simp [intOf]; omega
      · rw [hq] at HGN
        have HQ := Lib.hid hq
        clear hq hx hr hlt
        go_wp2_with fail
        refine (HGN.out _ HB.out).mono ?_
        rintro e w7 ⟨rfl, hb7⟩
        have HB7 := Lib.hid (HB.out.trans (hb7.mono HB.out.size))
        clear hb7 HGN c0 c1 c2 c3
        go_wp2_with fail
        go_ret
        exact ⟨k, rfl, ⟨fun k' e => by have : k' = k := by omega
                                       subst this; exact ⟨hkx, by rw [← HX.out]; exact HQ.out, HNO.out⟩, fun e => by omega, by omega⟩, HB7.out⟩
    · have hle : ¬ (k : Int) < (n : Int) := by omega
      go_wp2_with fail
      go_ret
      exact ⟨-1, rfl, ⟨fun k' e => by omega, fun _ => ⟨rfl, fun j hj => HNO.out j hj (by have := HN.out; omega)⟩, by omega⟩, HB.out⟩
end Go.Proofs.Ytlcnbihfpjhffaa
