/- Rows of linear's ranges. linear's comparison, and an insertion sort of ranges (slices' own). slices' swapRange and rotate of ranges. -/
import Derived.Test.YtlcnbihfpjhffaaColLaw
import Derived.BigRegion
namespace Go.Proofs.Ytlcnbihfpjhffaa
open Go.RowKit
set_option linter.unusedVariables false
set_option linter.unusedSimpArgs false

section
/-- a range: its register, its beginning, its end, whether it is live after a call -/
structure RG where
 (r b e : Int) (s : Bool)
def rgC (x : RG) : List Value := [.int .i64 x.r, .int .i64 x.b, .int .i64 x.e, .bool x.s]
theorem rgC_len (x : RG) : (rgC x).length = 4 := rfl
def RgRow (w : World) (base : Nat) (a : Option Addr) (c : Nat) (xs : List RG) : Prop := w.ownsRow base 97 4 (.slice a xs.length c) xs.length (xs.flatMap rgC)
theorem rgs_len (xs : List RG) : (xs.flatMap rgC).length = xs.length * 4 := flatN_len rgC_len xs
section
variable {w w' : World} {base : Nat} {a : Option Addr} {c : Nat} {xs : List RG}
theorem RgRow.has (h : RgRow w base a c xs) (h0 : 0 < xs.length) : ∃ g, a = some ⟨g, 0, none⟩ ∧ base ≤ g ∧ g < w.heap.size ∧ xs.length ≤ c ∧ c ≤ maxLen := by
 obtain ⟨g, cap, hv, h1, h2, h3, h4⟩ := ownG_has h h0
 injection hv with e1 _ e3
 subst e1 e3
 exact ⟨g, rfl, h1, h2, h3, h4⟩
theorem RgRow.cells {g : Nat} (h : RgRow w base (some ⟨g, 0, none⟩) c xs) {i : Nat} (hi : i < xs.length) : w.cell? ⟨g, i * 4, none⟩ = some (.int .i64 xs[i].r) ∧ w.cell? ⟨g, i * 4 + 1, none⟩ = some (.int .i64 xs[i].b) ∧ w.cell? ⟨g, i * 4 + 2, none⟩ = some (.int .i64 xs[i].e) ∧ w.cell? ⟨g, i * 4 + 3, none⟩ = some (.bool xs[i].s) := by
 have key : ∀ j, j < 4 → w.cell? ⟨g, i * 4 + j, none⟩ = (rgC xs[i])[j]? := fun j hj => by
  rw [(ownR_cellAt h (j := i * 4 + j) (by omega)).1]
  exact flatN_get rgC_len xs i j hi hj
 exact ⟨key 0 (by omega), key 1 (by omega), key 2 (by omega), key 3 (by omega)⟩
theorem RgRow.frees {g : Nat} (h : RgRow w base (some ⟨g, 0, none⟩) c xs) {i : Nat} (hi : i < xs.length) (j : Nat) (hj : j < 4) : w.frozen? ⟨g, i * 4 + j, none⟩ = false := (ownR_cellAt h (j := i * 4 + j) (by omega)).2
theorem RgRow.set {g : Nat} (h : RgRow w base (some ⟨g, 0, none⟩) c xs) {i : Nat} (hi : i < xs.length) (j : Nat) (hj : j < 4) (v : Value) (y : RG) (hy : (rgC xs[i]).set j v = rgC y) : RgRow (w.setCell ⟨g, i * 4 + j, none⟩ v) base (some ⟨g, 0, none⟩) c (xs.set i y) := by
 have h1 := ownR_set h (i * 4 + j) v (by omega)
 rw [flatN_set rgC_len xs i j v y hi hj hy] at h1
 unfold RgRow
 rw [List.length_set]
 exact h1
theorem RgRow.below (h : RgRow w base a c xs) (hb : Below w.heap.size w w') : RgRow w' base a c xs := ownG_below h hb
end
/-- a point is added to a range -/
def extR (x : RG) (t : Int) : RG := if x.b < 0 then { x with b := t, e := t } else { x with b := min x.b t, e := max x.e t }
def ExtPost (base : Nat) (a : Option Addr) (c : Nat) (xs : List RG) (w : World) (e : Ending) (w' : World) : Prop :=
 e = .returned (.tuple #[]) ∧ RgRow w' base a c xs ∧ RestS (fun k => (Value.slice a xs.length c).ownBlock = some k) w w'
set_option maxRecDepth 100000 in
set_option maxHeartbeats 4000000 in
theorem extend_any (w : World) (base ab : Nat) (a : Option Addr) (c : Nat) (xs : List RG) (hbox : Blk w ab 90 [.slice a xs.length c]) (h : RgRow w base a c xs) (r : Nat) (t : Int) (hr : r < xs.length) (ht : 0 ≤ t ∧ t ≤ 1000000000) (hx : -1 ≤ xs[r].b ∧ xs[r].b ≤ 1000000000 ∧ 0 ≤ xs[r].e ∧ xs[r].e ≤ 1000000000) :
  Calls Try.prog 69 #[.int .i64 (r : Int), .int .i64 t, .pointer (some ⟨ab, 0, none⟩)] w (ExtPost base a c (xs.set r (extR xs[r] t)) w) := by
 obtain ⟨g, rfl, hg1, hg2, hg3, hg4⟩ := h.has (by omega)
 unfold maxLen at hg4
 obtain ⟨c0, c1, c2, c3⟩ := h.cells hr
 have f1 := h.frees hr 1 (by omega)
 have f2 := h.frees hr 2 (by omega)
 have b0 := hbox.cell 0
 simp only [List.getElem?_cons_zero] at b0
 have hbg : ab ≠ g := fun e => by
  obtain ⟨cur, h1⟩ := own_blkTy h (g := g) rfl
  have h2 : w.heap[ab]? = _ := hbox
  rw [e, h1] at h2
  injection h2 with h2
  injection h2 with _ h2 _
  exact absurd h2 (by decide)
 have H := Lib.hid h
 have HB := Lib.hid hbox
 obtain ⟨x, hx0⟩ : ∃ x, x = xs[r] := ⟨_, rfl⟩
 rw [← hx0] at c0 c1 c2 c3 hx ⊢
 have HX := Lib.hid hx0
 obtain ⟨n, hn⟩ : ∃ n, n = xs.length := ⟨_, rfl⟩
 rw [← hn] at hr hg3 b0
 have HN := Lib.hid hn
 have hr' : r < xs.length := by rw [← hn]; exact hr
 clear hbox h hx0 hn
 by_cases hneg : x.b < 0
 ·have q1 : decide (x.b < 0) = true := by simp [hneg]
  have hsz : min t t = t ∧ max t t = t := by omega
  go_enter Try.func69, Try.ntmps69
  go_upto_region 3 with fail
  go_region
  all_goals go_wp2_with fail
  have e1 : extR x t = { x with b := t, e := t } := if_pos hneg
  have h1 := H.out.set hr' 1 (by omega) (.int .i64 t) { x with b := t } (by rw [← HX.out]; rfl)
  have h2 := h1.set (i := r) (by rw [List.length_set]; exact hr') 2 (by omega) (.int .i64 t) { x with b := t, e := t } (by rw [List.getElem_set_self]; rfl)
  have h3 := h2.set (i := r) (by rw [List.length_set, List.length_set]; exact hr') 1 (by omega) (.int .i64 t) { x with b := t, e := t } (by rw [List.getElem_set_self]; rfl)
  have h4 := h3.set (i := r) (by rw [List.length_set, List.length_set, List.length_set]; exact hr') 2 (by omega) (.int .i64 t) { x with b := t, e := t } (by rw [List.getElem_set_self]; rfl)
  rw [List.set_set, List.set_set, List.set_set] at h4
  rw [← e1] at h4
  have hrs := ((((RestS.refl (fun k => (Value.slice (some ⟨g, 0, none⟩) xs.length c).ownBlock = some k) w).set (p := ⟨g, r * 4 + 1, none⟩) rfl (.int .i64 t)).set (p := ⟨g, r * 4 + 2, none⟩) rfl (.int .i64 t)).set (p := ⟨g, r * 4 + 1, none⟩) rfl (.int .i64 t)).set (p := ⟨g, r * 4 + 2, none⟩) rfl (.int .i64 t)
  have hb9 := (Below.refl ((((w.setCell ⟨g, r * 4 + 1, none⟩ (.int .i64 t)).setCell ⟨g, r * 4 + 2, none⟩ (.int .i64 t)).setCell ⟨g, r * 4 + 1, none⟩ (.int .i64 t)).setCell ⟨g, r * 4 + 2, none⟩ (.int .i64 t)).heap.size ((((w.setCell ⟨g, r * 4 + 1, none⟩ (.int .i64 t)).setCell ⟨g, r * 4 + 2, none⟩ (.int .i64 t)).setCell ⟨g, r * 4 + 1, none⟩ (.int .i64 t)).setCell ⟨g, r * 4 + 2, none⟩ (.int .i64 t))).drew
  refine bodyPost_end (results_none rfl _ _ _) rfl ?_
  exact ⟨rfl, h4.below hb9, hrs.trans (below_refl_of hb9 _)⟩
 ·have q1 : decide (x.b < 0) = false := by simp; omega
  have e1 : extR x t = { x with b := min x.b t, e := max x.e t } := if_neg hneg
  have h1 := H.out.set hr' 1 (by omega) (.int .i64 (min x.b t)) { x with b := min x.b t } (by rw [← HX.out]; rfl)
  have h2 := h1.set (i := r) (by rw [List.length_set]; exact hr') 2 (by omega) (.int .i64 (max x.e t)) { x with b := min x.b t, e := max x.e t } (by rw [List.getElem_set_self]; rfl)
  rw [List.set_set] at h2
  rw [← e1] at h2
  have hrs := ((RestS.refl (fun k => (Value.slice (some ⟨g, 0, none⟩) xs.length c).ownBlock = some k) w).set (p := ⟨g, r * 4 + 1, none⟩) rfl (.int .i64 (min x.b t))).set (p := ⟨g, r * 4 + 2, none⟩) rfl (.int .i64 (max x.e t))
  have hb9 := (Below.refl ((w.setCell ⟨g, r * 4 + 1, none⟩ (.int .i64 (min x.b t))).setCell ⟨g, r * 4 + 2, none⟩ (.int .i64 (max x.e t))).heap.size ((w.setCell ⟨g, r * 4 + 1, none⟩ (.int .i64 (min x.b t))).setCell ⟨g, r * 4 + 2, none⟩ (.int .i64 (max x.e t)))).drew
  have H2 := Lib.hid (h2.below hb9)
  have HRS := Lib.hid (hrs.trans (below_refl_of hb9 _))
  clear h1 h2 hrs hb9 e1
  have hm1 : (t < x.b ∧ min x.b t = t) ∨ (¬ t < x.b ∧ min x.b t = x.b) := by omega
  have hm2 : (x.e < t ∧ max x.e t = t) ∨ (¬ x.e < t ∧ max x.e t = x.e) := by omega
  rcases hm1 with ⟨m1, m2⟩ | ⟨m1, m2⟩ <;> rcases hm2 with ⟨m3, m4⟩ | ⟨m3, m4⟩
  all_goals
   rw [m2, m4] at H2 HRS
   clear m2 m4
   go_enter Try.func69, Try.ntmps69
   go_upto_region 3 with fail
   go_region
   all_goals go_wp2_with fail
   refine bodyPost_end (results_none rfl _ _ _) rfl ?_
   exact ⟨rfl, H2.out, HRS.out⟩
end

section
def rgV (x : RG) : Value := .agg #[.int .i64 x.r, .int .i64 x.b, .int .i64 x.e, .bool x.s]
def cmpI (x y : Int) : Int := if x < y then -1 else if y < x then 1 else 0
theorem compare_any (w : World) (x y : Int) : Calls Try.prog 87 #[.int .i64 x, .int .i64 y] w fun e w' => e = .returned (.int .i64 (cmpI x y)) ∧ w = w' := by
 have e1 : (x != x) = false := by simp
 have e2 : (y != y) = false := by simp
 by_cases h1 : x < y
 ·have q1 : decide (x < y) = true := by simp [h1]
  have HC : Hid (cmpI x y = -1) := if_pos h1
  go_enter Try.func87, Try.ntmps87
  go_wp2
  go_ret
  exact ⟨by rw [HC.out]; rfl, rfl⟩
 ·have q1 : decide (x < y) = false := by simp; omega
  by_cases h2 : y < x
  ·have q2 : decide (y < x) = true := by simp [h2]
   have HC : Hid (cmpI x y = 1) := (if_neg h1).trans (if_pos h2)
   go_enter Try.func87, Try.ntmps87
   go_wp2
   go_ret
   exact ⟨by rw [HC.out]; rfl, rfl⟩
  ·have q2 : decide (y < x) = false := by simp; omega
   have HC : Hid (cmpI x y = 0) := (if_neg h1).trans (if_neg h2)
   go_enter Try.func87, Try.ntmps87
   go_wp2
   go_ret
   exact ⟨by rw [HC.out]; rfl, rfl⟩
theorem less_any (w : World) (x y : RG) : Calls Try.prog 86 #[rgV x, rgV y] w (IntPost (cmpI x.b y.b) w) := by
 have hb : Below w.heap.size w ((w.alloc (.cells (rgC x).toArray 97)).alloc (.cells (rgC y).toArray 97)) := ((Below.refl _ _).alloc (Nat.le_refl _) _).alloc (by simp) _
 have HB := Lib.hid hb
 have HC := fun wx => Lib.hid (compare_any wx x.b y.b)
 unfold rgV
 clear hb
 go_enter Try.func86, Try.ntmps86
 go_wp2_with fail
 refine (HC _).out.mono ?_
 rintro e w' ⟨rfl, rfl⟩
 go_wp2_with fail
 go_ret
 exact ⟨rfl, HB.out⟩
/-- four stores of a range -/
theorem RgRow.put {w : World} {base g c : Nat} {xs : List RG} (h : RgRow w base (some ⟨g, 0, none⟩) c xs) {i : Nat} (hi : i < xs.length) (y : RG) :
  RgRow ((((w.setCell ⟨g, i * 4, none⟩ (.int .i64 y.r)).setCell ⟨g, i * 4 + 1, none⟩ (.int .i64 y.b)).setCell ⟨g, i * 4 + 2, none⟩ (.int .i64 y.e)).setCell ⟨g, i * 4 + 3, none⟩ (.bool y.s)) base (some ⟨g, 0, none⟩) c (xs.set i y) := by
 have h1 := h.set hi 0 (by omega) (.int .i64 y.r) { xs[i] with r := y.r } rfl
 have h2 := h1.set (i := i) (by rw [List.length_set]; exact hi) 1 (by omega) (.int .i64 y.b) { xs[i] with r := y.r, b := y.b } (by rw [List.getElem_set_self]; rfl)
 have h3 := h2.set (i := i) (by rw [List.length_set, List.length_set]; exact hi) 2 (by omega) (.int .i64 y.e) { xs[i] with r := y.r, b := y.b, e := y.e } (by rw [List.getElem_set_self]; rfl)
 have h4 := h3.set (i := i) (by rw [List.length_set, List.length_set, List.length_set]; exact hi) 3 (by omega) (.bool y.s) y (by rw [List.getElem_set_self]; rfl)
 rw [List.set_set, List.set_set, List.set_set] at h4
 exact h4
/-- by their beginnings, then by their registers -/
def LexR (x y : RG) : Prop := x.b < y.b ∨ (x.b = y.b ∧ x.r < y.r)
theorem swap_list (P Q : List RG) (u y : RG) : ((P ++ u :: y :: Q).set (P.length + 1) u).set P.length y = P ++ y :: u :: Q := by
 rw [List.set_append_right _ _ (by omega), show P.length + 1 - P.length = 1 by omega, List.set_append_right _ _ (by omega), Nat.sub_self]
 rfl
theorem LexR.insert {L1 L2 : List RG} {y : RG} (hs : (L1 ++ L2).Pairwise LexR) (h1 : ∀ z ∈ L1, z.r < y.r) (h2 : ∀ z ∈ L2, y.b < z.b) (h3 : ∀ P u, L1 = P ++ [u] → u.b ≤ y.b) : (L1 ++ y :: L2).Pairwise LexR := by
 rw [List.pairwise_append] at hs ⊢
 obtain ⟨ha, hb, hc⟩ := hs
 refine ⟨ha, List.pairwise_cons.2 ⟨fun z hz => .inl (h2 z hz), hb⟩, fun z hz x hx => ?_⟩
 rcases List.mem_cons.1 hx with rfl | hx
 ·have hz1 := h1 z hz
  have hzb : z.b ≤ x.b := by
   rcases List.eq_nil_or_concat L1 with rfl | ⟨P, u, rfl⟩
   ·cases hz
   ·rw [List.concat_eq_append] at hz h3 ha
    have h4 := h3 P u rfl
    rcases List.mem_append.1 hz with h5 | h5
    ·have := (List.pairwise_append.1 ha).2.2 z h5 u (List.mem_singleton.2 rfl)
     rcases this with h | ⟨h, _⟩ <;> omega
    ·rw [List.mem_singleton.1 h5]; exact h4
  by_cases e : z.b = x.b
  ·exact .inr ⟨e, hz1⟩
  ·exact .inl (by omega)
 ·exact hc z hz x hx
def SortPost (base g c : Nat) (A S C : List RG) (w : World) (e : Ending) (w' : World) : Prop :=
 ∃ S' : List RG, e = .returned (.tuple #[]) ∧ S'.Perm S ∧ S'.Pairwise LexR ∧ RgRow w' base (some ⟨g, 0, none⟩) c (A ++ S' ++ C) ∧ RestS (fun k => k = g) w w'
set_option maxRecDepth 100000 in
set_option maxHeartbeats 8000000 in
theorem isort_any (w : World) (base g c : Nat) (A S C : List RG) (h : RgRow w base (some ⟨g, 0, none⟩) c (A ++ S ++ C)) (hS : S.Pairwise fun x y => x.r < y.r) (hn : (A ++ S ++ C).length ≤ 10000) :
  Calls Try.prog 93 #[.slice (some ⟨g, 0, none⟩) (A ++ S ++ C).length c, .int .i64 (A.length : Int), .int .i64 ((A.length + S.length : Nat) : Int), .func (.func 86) #[] #[]] w (SortPost base g c A S C w) := by
 have hcap : (A ++ S ++ C).length ≤ c ∧ c ≤ maxLen ∨ (A ++ S ++ C).length = 0 := by
  by_cases h0 : 0 < (A ++ S ++ C).length
  ·obtain ⟨_, _, _, _, h3, h4⟩ := h.has h0
   exact .inl ⟨h3, h4⟩
  ·exact .inr (by omega)
 obtain ⟨n, hn0⟩ : ∃ n, n = (A ++ S ++ C).length := ⟨_, rfl⟩
 obtain ⟨a, ha⟩ : ∃ a, a = A.length := ⟨_, rfl⟩
 obtain ⟨b, hb⟩ : ∃ b, b = A.length + S.length := ⟨_, rfl⟩
 have hbn : b ≤ n := by rw [hb, hn0]; simp only [List.length_append]; omega
 have hab : a ≤ b := by omega
 rw [← hn0] at hn hcap ⊢
 rw [← hb, ← ha]
 have H := Lib.hid h
 have HS := Lib.hid hS
 have HN := Lib.hid hn0
 have HA := Lib.hid ha
 have HB := Lib.hid hb
 clear h hn0 ha hb hS
 go_enter Try.func93, Try.ntmps93
 go_wp2_with fail
 go_loopw [8] (fun u wr => ∃ (k i : Nat) (M : List RG), 1 ≤ k ∧ i = a + k ∧ i ≤ b + 1 ∧ u = .int .i64 (i : Int) ∧ M.Perm (S.take k) ∧ M.Pairwise LexR ∧ RgRow wr base (some ⟨g, 0, none⟩) c (A ++ M ++ (S.drop k ++ C)) ∧ RestS (fun k => k = g) w wr) (fun u _ => b + 1 - (intOf u).toNat)
 case atStart =>
  refine ⟨1, a + 1, S.take 1, Nat.le_refl _, rfl, by omega, by go_num, List.Perm.refl _, ?_, ?_, RestS.refl _ _⟩
  ·cases S with
   | nil => exact List.Pairwise.nil
   | cons x S => simp
  ·have := H.out
   rw [show A ++ S ++ C = A ++ S.take 1 ++ (S.drop 1 ++ C) by rw [List.append_assoc A, List.append_assoc A, ← List.append_assoc (S.take 1), List.take_append_drop]] at this
   exact this
 case round =>
  clear H
  obtain ⟨k, i, M, hk, hik, hib, rfl, hp, hs, hr, hrs⟩ := hrel
  have HR := Lib.hid hr
  have HP := Lib.hid hp
  have HMS := Lib.hid hs
  have HRS := Lib.hid hrs
  have HIK := Lib.hid hik
  clear hr hp hs hrs hik
  by_cases hlt : i < b
  ·have hkS : k < S.length := by have := HB.out; have := HA.out; have := HIK.out; omega
   obtain ⟨y, hy⟩ : ∃ y, y = S[k] := ⟨_, rfl⟩
   obtain ⟨D, hD⟩ : ∃ D, D = S.drop (k + 1) ++ C := ⟨_, rfl⟩
   have hML : M.length = k := by have := HP.out.length_eq; rw [List.length_take] at this; omega
   have hrow0 : RgRow wr base (some ⟨g, 0, none⟩) c (A ++ M ++ y :: ([] ++ D)) := by
    have := HR.out
    rw [List.drop_eq_getElem_cons hkS, ← hy, List.cons_append, ← hD] at this
    exact this
   have hzr : ∀ z ∈ M, z.r < y.r := fun z hz => by
    have h1 := HP.out.mem_iff.1 hz
    obtain ⟨q, hq, rfl⟩ := List.getElem_of_mem h1
    rw [List.length_take] at hq
    rw [List.getElem_take, hy]
    exact List.pairwise_iff_getElem.1 HS.out q k (by omega) hkS (by omega)
   have HZR := Lib.hid hzr
   have HR0 := Lib.hid hrow0
   have HML := Lib.hid hML
   have HY := Lib.hid hy
   have HD := Lib.hid hD
   have hlenE : ∀ (L1 L2 : List RG), L1 ++ L2 = M → (A ++ L1 ++ y :: (L2 ++ D)).length = n := fun L1 L2 e => by
    have h1 := HN.out
    have h2 := congrArg List.length e
    simp only [List.length_append] at h2
    rw [h1, hD]
    simp only [List.length_append, List.length_cons, List.length_drop]
    omega
   have HLE := Lib.hid hlenE
   clear hrow0 hzr hML hy hD HR hlenE
   go_wp2_with fail
   go_loopw [9] (fun u wx => ∃ (j : Nat) (L1 L2 : List RG), L1 ++ L2 = M ∧ j = a + L1.length ∧ j ≤ i ∧ u = .int .i64 (j : Int) ∧ (∀ z ∈ L2, y.b < z.b) ∧ RgRow wx base (some ⟨g, 0, none⟩) c (A ++ L1 ++ y :: (L2 ++ D)) ∧ RestS (fun k => k = g) w wx) (fun u _ => (intOf u).toNat)
   case atStart => exact ⟨i, M, [], by simp, by rw [HML.out]; exact HIK.out, Nat.le_refl _, rfl, fun z hz => (by cases hz), HR0.out, HRS.out⟩
   case round =>
    clear HR0 HRS
    obtain ⟨j, L1, L2, hM, hj, hji, rfl, hL2, hr, hrs⟩ := hrel
    have HR := Lib.hid hr
    have HRS := Lib.hid hrs
    have HM := Lib.hid hM
    have HJ := Lib.hid hj
    have HL2 := Lib.hid hL2
    clear hM hj hL2
    have HFIN : Hid ((∀ P u, L1 = P ++ [u] → u.b ≤ y.b) → (L1 ++ y :: L2).Perm (S.take (k + 1)) ∧ (L1 ++ y :: L2).Pairwise LexR) := fun h3 => by
     refine ⟨?_, LexR.insert (by rw [HM.out]; exact HMS.out) (fun z hz => HZR.out z (by rw [← HM.out]; exact List.mem_append_left _ hz)) HL2.out h3⟩
     rw [List.take_succ_eq_append_getElem hkS, ← HY.out]
     refine List.perm_middle.trans ?_
     rw [HM.out]
     exact (List.Perm.cons y HP.out).trans (List.perm_append_comm (l₁ := [y]))
    have HROW : Hid ((A ++ L1 ++ y :: (L2 ++ D)) = A ++ (L1 ++ y :: L2) ++ (S.drop (k + 1) ++ C)) := by show _ = _; rw [HD.out]; simp
    by_cases hja : a < j
    ·obtain ⟨P, u, hLP⟩ : ∃ P u, L1 = P ++ [u] := by
      rcases List.eq_nil_or_concat L1 with h0 | ⟨P, u, h0⟩
      ·have := HJ.out; rw [h0] at this; simp at this; omega
      ·exact ⟨P, u, by rw [h0, List.concat_eq_append]⟩
     subst hLP
     obtain ⟨ys, hys⟩ : ∃ ys, ys = A ++ (P ++ [u]) ++ y :: (L2 ++ D) := ⟨_, rfl⟩
     obtain ⟨m, hm⟩ : ∃ m, m = a + P.length := ⟨_, rfl⟩
     have hyl : ys.length = n := by rw [hys]; exact HLE.out _ _ HM.out
     have hjm : j = m + 1 := by have := HJ.out; simp at this; omega
     have hbl : j < n := by
      rw [← hyl, hys]
      have := HJ.out
      have := HA.out
      simp only [List.length_append, List.length_cons, List.length_nil] at *
      omega
     have hjn : j < ys.length := by omega
     have hjn1 : m < ys.length := by omega
     have e1 : ys[j] = y := by
      have h9 : ys[j]? = some y := by
       rw [hys, List.getElem?_append_right (by have := HJ.out; have := HA.out; simp only [List.length_append] at *; omega)]
       rw [show j - (A ++ (P ++ [u])).length = 0 by have := HJ.out; have := HA.out; simp only [List.length_append] at *; omega]
       rfl
      rw [List.getElem?_eq_getElem hjn] at h9
      injection h9
     have e2 : ys[m] = u := by
      have h9 : ys[m]? = some u := by
       rw [hys, ← List.append_assoc, List.append_assoc, List.getElem?_append_right (by have := HA.out; simp only [List.length_append] at *; omega)]
       rw [show m - (A ++ P).length = 0 by have := HA.out; simp only [List.length_append] at *; omega]
       rfl
      rw [List.getElem?_eq_getElem hjn1] at h9
      injection h9
     rw [← hys] at hr
     obtain ⟨c0, c1, c2, c3⟩ := hr.cells hjn
     obtain ⟨d0, d1, d2, d3⟩ := hr.cells hjn1
     rw [e1] at c0 c1 c2 c3
     rw [e2] at d0 d1 d2 d3
     have hgl := (hr.lt g rfl).2
     have hcp : n ≤ c ∧ c ≤ 2 ^ 63 - 1 := by
      rcases hcap with h | h
      ·have := h.2; unfold maxLen at this; exact ⟨h.1, this⟩
      ·omega
     have hc1 := hcp.1
     have hc2 := hcp.2
     have em : (j : Int) - 1 = (m : Int) := by omega
     have hmI : (m : Int) < (n : Int) := by omega
     have HLS := Lib.hid fun wx => less_any wx y u
     unfold rgV at HLS
     obtain ⟨z, hz⟩ : ∃ z, z = cmpI y.b u.b := ⟨_, rfl⟩
     rw [← hz] at HLS
     have hz2 : (y.b < u.b ∧ z = -1) ∨ (¬ y.b < u.b ∧ ¬ z < 0) := by
      rw [hz]; unfold cmpI
      by_cases h1 : y.b < u.b
      ·left; exact ⟨h1, if_pos h1⟩
      ·right; refine ⟨h1, ?_⟩
       rw [if_neg h1]; split <;> omega
     have hjb : decide ((a : Int) < (j : Int)) = true := by simp; omega
     obtain ⟨wd, hwd⟩ : ∃ wd, wd = wr.drew := ⟨_, rfl⟩
     have hde : Below wr.heap.size wr wd := by rw [hwd]; exact (Below.refl _ _).drew
     have cc : ∀ o v, wr.cell? ⟨g, o, none⟩ = some v → ∀ x : After wd.heap.size wd, x.world.cell? ⟨g, o, none⟩ = some v := fun o v h x => (x.below.cell (p := ⟨g, o, none⟩) (Nat.lt_of_lt_of_le hgl hde.size)).trans ((hde.cell (p := ⟨g, o, none⟩) hgl).trans h)
     have r0 := cc _ _ c0
     have r1 := cc _ _ c1
     have r2 := cc _ _ c2
     have r3 := cc _ _ c3
     have s0 := cc _ _ d0
     have s1 := cc _ _ d1
     have s2 := cc _ _ d2
     have s3 := cc _ _ d3
     have HE1 := Lib.hid e1
     have HE2 := Lib.hid e2
     have HYS := Lib.hid hys
     have HJM := Lib.hid hjm
     have HMA := Lib.hid hm
     have hRD := hr.below hde
     have HRD := Lib.hid hRD
     have HSD := Lib.hid (HRS.out.trans (below_refl_of hde (fun k => k = g)))
     clear hr hrs hz cc c0 c1 c2 c3 d0 d1 d2 d3 hm hjm e1 e2 hys HR HRS hRD hcp hyl
     go_upto_region 4 with fail
     refine wp_region_eager wd.heap.size [(0, true), (1, true), (2, true), (3, true), (4, true), (5, true), (6, true), (7, true), (8, true), (9, true), (10, true), (11, true), (12, true), (13, true), (14, false), (15, true), (16, true)] (by kernel_rfl) (by kernel_rfl) ?_
     rw [← hwd]
     clear hwd
     repeat (refine eag_read rfl ?_; go_big_quiet_step (fail); refine wpQuiet_nil ?_)
     refine eag_does rfl rfl ?_
     intro K hK
     go_simp
     refine (HLS.out wd).mono ?_
     rintro e w7 ⟨rfl, hb7⟩
     refine hK _ _ hb7 ?_
     have HR7 := Lib.hid (HRD.out.below hb7)
     have HS7 := Lib.hid (HSD.out.trans (below_refl_of hb7 (fun k => k = g)))
     clear hK K HLS HRD HSD hb7 r0 r1 r2 r3 s0 s1 s2 s3 hde
     go_simp
     rcases hz2 with ⟨hyu, rfl⟩ | ⟨hyu, hz3⟩
     ·repeat (refine eag_read rfl ?_; go_big_quiet_step (fail); refine wpQuiet_nil ?_)
      refine eag_end ?_
      obtain ⟨c0, c1, c2, c3⟩ := HR7.out.cells hjn
      obtain ⟨d0, d1, d2, d3⟩ := HR7.out.cells hjn1
      rw [HE1.out] at c0 c1 c2 c3
      rw [HE2.out] at d0 d1 d2 d3
      have f0 := HR7.out.frees hjn 0 (by omega)
      have f1 := HR7.out.frees hjn 1 (by omega)
      have f2 := HR7.out.frees hjn 2 (by omega)
      have f3 := HR7.out.frees hjn 3 (by omega)
      have e0 := HR7.out.frees hjn1 0 (by omega)
      have e1 := HR7.out.frees hjn1 1 (by omega)
      have e2 := HR7.out.frees hjn1 2 (by omega)
      have e3 := HR7.out.frees hjn1 3 (by omega)
      rw [Nat.add_zero] at f0 e0
      have hput := (HR7.out.put hjn u).put (i := m) (by rw [List.length_set]; exact hjn1) y
      have hsw : (ys.set j u).set m y = A ++ P ++ y :: (u :: L2 ++ D) := by
       rw [HYS.out, HJM.out, HMA.out, HA.out]
       have := swap_list (A ++ P) (L2 ++ D) u y
       rw [List.length_append] at this
       simpa using this
      rw [hsw] at hput
      have hrst := ((((((((HS7.out.set (p := ⟨g, j * 4, none⟩) rfl (.int .i64 u.r)).set (p := ⟨g, j * 4 + 1, none⟩) rfl (.int .i64 u.b)).set (p := ⟨g, j * 4 + 2, none⟩) rfl (.int .i64 u.e)).set (p := ⟨g, j * 4 + 3, none⟩) rfl (.bool u.s)).set (p := ⟨g, m * 4, none⟩) rfl (.int .i64 y.r)).set (p := ⟨g, m * 4 + 1, none⟩) rfl (.int .i64 y.b)).set (p := ⟨g, m * 4 + 2, none⟩) rfl (.int .i64 y.e)).set (p := ⟨g, m * 4 + 3, none⟩) rfl (.bool y.s))
      have hdr := fun wq : World => (Below.refl wq.heap.size wq).drew
      have HPUT := Lib.hid (hput.below (hdr _))
      have HRST := Lib.hid (hrst.trans (below_refl_of (hdr _) (fun k => k = g)))
      have HM2 : Hid (P ++ (u :: L2) = M) := by show _ = _; rw [← HM.out]; simp
      have HL3 : Hid (∀ z ∈ u :: L2, y.b < z.b) := fun z hz => by
       rcases List.mem_cons.1 hz with rfl | hz
       ·exact hyu
       ·exact HL2.out z hz
      clear hput hsw hrst hdr hyu
      go_upto_region 6 with fail
      go_region
      all_goals go_wp2_with fail
      go_roundw
      case rel => exact ⟨m, P, u :: L2, HM2.out, HMA.out, by omega, rfl, HL3.out, HPUT.out, HRST.out⟩
      case measure => simp [intOf]; omega
     ·have hz4 : decide (z < 0) = false := by simp; omega
      have HF := Lib.hid (HFIN.out fun P' u' e => by
       have := List.append_inj_right' e rfl
       injection this with this
       rw [← this]; omega)
      have hr8 := HR7.out
      rw [HYS.out, HROW.out] at hr8
      have HR8 := Lib.hid hr8
      clear hz3 hr8
      repeat (refine eag_read rfl ?_; go_big_quiet_step (fail); refine wpQuiet_nil ?_)
      refine eag_end ?_
      go_wp2_with fail
      go_roundw
      case rel => exact ⟨k + 1, i + 1, (P ++ [u]) ++ y :: L2, by omega, by have := HIK.out; omega, by omega, by go_num, HF.out.1, HF.out.2, HR8.out, HS7.out⟩
      case measure => simp [intOf]; omega
    ·have hL1 : L1 = [] := by have := HJ.out; exact List.length_eq_zero_iff.1 (by omega)
     have HF := Lib.hid (HFIN.out fun P' u' e => by rw [hL1] at e; simp at e)
     have hr8 := HR.out
     rw [HROW.out] at hr8
     have HR8 := Lib.hid hr8
     have hjb : decide ((a : Int) < (j : Int)) = false := by simp; omega
     have HRD := Lib.hid (HR8.out.below (Below.refl wr.heap.size wr).drew)
     have HSD := Lib.hid (HRS.out.trans (below_refl_of (Below.refl wr.heap.size wr).drew (fun k => k = g)))
     clear hr8 hL1 hr hrs
     go_upto_region 4 with fail
     refine wp_region_eager wr.heap.size [(0, true), (1, true), (2, true), (3, true), (4, true), (5, true), (6, true), (7, true), (8, true), (9, true), (10, true), (11, true), (12, true), (13, true), (14, false), (15, true), (16, true)] (by kernel_rfl) (by kernel_rfl) ?_
     repeat (refine eag_read rfl ?_; go_big_quiet_step (fail); refine wpQuiet_nil ?_)
     refine eag_skip rfl rfl ?_
     go_simp
     repeat (refine eag_read rfl ?_; go_big_quiet_step (fail); refine wpQuiet_nil ?_)
     refine eag_end ?_
     go_wp2_with fail
     go_roundw
     case rel => exact ⟨k + 1, i + 1, L1 ++ y :: L2, by omega, by have := HIK.out; omega, by omega, by go_num, HF.out.1, HF.out.2, HRD.out, HSD.out⟩
     case measure => simp [intOf]; omega
  ·have hSk : S.length ≤ k := by have := HB.out; have := HA.out; have := HIK.out; omega
   have hr8 := HR.out
   rw [List.drop_of_length_le hSk, List.nil_append] at hr8
   have hp8 := HP.out
   rw [List.take_of_length_le hSk] at hp8
   have HR8 := Lib.hid hr8
   have HP8 := Lib.hid hp8
   clear hr8 hp8
   go_wp2_with fail
   refine bodyPost_end (results_none rfl _ _ _) rfl ?_
   exact ⟨M, rfl, HP8.out, HMS.out, HR8.out, HRS.out⟩
end

section
theorem swap2_list (P Q R : List RG) (u v : RG) : ((P ++ u :: (Q ++ v :: R)).set P.length v).set (P.length + 1 + Q.length) u = P ++ v :: (Q ++ u :: R) := by
 rw [List.set_append_right _ _ (by omega), Nat.sub_self, List.set_cons_zero, List.set_append_right _ _ (by omega), show P.length + 1 + Q.length - P.length = Q.length + 1 by omega, List.set_cons_succ, List.set_append_right _ _ (by omega), Nat.sub_self, List.set_cons_zero]
theorem get2_list (P Q R : List RG) (u v : RG) : (P ++ u :: (Q ++ v :: R))[P.length]? = some u ∧ (P ++ u :: (Q ++ v :: R))[P.length + 1 + Q.length]? = some v := by
 refine ⟨?_, ?_⟩
 ·rw [List.getElem?_append_right (by omega), Nat.sub_self]; rfl
 ·rw [List.getElem?_append_right (by omega), show P.length + 1 + Q.length - P.length = Q.length + 1 by omega, List.getElem?_cons_succ, List.getElem?_append_right (by omega), Nat.sub_self]; rfl
/-- t of the elements are swapped -/
def swapL (A U M V C : List RG) (t : Nat) : List RG := (A ++ V.take t) ++ (U.drop t ++ (M ++ U.take t) ++ (V.drop t ++ C))
theorem swapL_zero (A U M V C : List RG) : swapL A U M V C 0 = A ++ U ++ M ++ V ++ C := by unfold swapL; simp
theorem swapL_all (A U M V C : List RG) (h : U.length = V.length) {t : Nat} (ht : U.length ≤ t) : swapL A U M V C t = A ++ V ++ M ++ U ++ C := by
 unfold swapL
 rw [List.take_of_length_le ht, List.drop_of_length_le ht, List.take_of_length_le (show V.length ≤ t by omega), List.drop_of_length_le (show V.length ≤ t by omega)]
 simp
theorem swapL_len (A U M V C : List RG) (t : Nat) : (swapL A U M V C t).length = (A ++ U ++ M ++ V ++ C).length := by
 unfold swapL
 simp only [List.length_append, List.length_take, List.length_drop]
 omega
theorem swapL_open (A U M V C : List RG) {t : Nat} (hu : t < U.length) (hv : t < V.length) : swapL A U M V C t = (A ++ V.take t) ++ U[t] :: ((U.drop (t + 1) ++ (M ++ U.take t)) ++ V[t] :: (V.drop (t + 1) ++ C)) ∧ swapL A U M V C (t + 1) = (A ++ V.take t) ++ V[t] :: ((U.drop (t + 1) ++ (M ++ U.take t)) ++ U[t] :: (V.drop (t + 1) ++ C)) := by
 constructor
 ·unfold swapL
  rw [List.drop_eq_getElem_cons hu, List.drop_eq_getElem_cons hv]
  simp only [List.append_assoc, List.cons_append]
 ·unfold swapL
  rw [List.take_succ_eq_append_getElem hu, List.take_succ_eq_append_getElem hv]
  simp only [List.append_assoc, List.cons_append, List.nil_append]
def SwapPost (base g c : Nat) (xs : List RG) (w : World) (e : Ending) (w' : World) : Prop := e = .returned (.tuple #[]) ∧ RgRow w' base (some ⟨g, 0, none⟩) c xs ∧ RestS (fun k => k = g) w w'
set_option maxRecDepth 100000 in
set_option maxHeartbeats 8000000 in
theorem swapr_any (w : World) (base g c n a b k : Nat) (A U M V C : List RG) (hUV : U.length = V.length) (h : RgRow w base (some ⟨g, 0, none⟩) c (A ++ U ++ M ++ V ++ C)) (hn : n = (A ++ U ++ M ++ V ++ C).length) (hn2 : n ≤ 10000) (ha : a = A.length) (hb : b = A.length + U.length + M.length) (hk : k = U.length) :
  Calls Try.prog 97 #[.slice (some ⟨g, 0, none⟩) n c, .int .i64 (a : Int), .int .i64 (b : Int), .int .i64 (k : Int), .func (.func 86) #[] #[]] w (SwapPost base g c (A ++ V ++ M ++ U ++ C) w) := by
 have H : Hid (RgRow w base (some ⟨g, 0, none⟩) c (swapL A U M V C 0)) := by rw [swapL_zero]; exact h
 have hcap : 0 < n → n ≤ c ∧ c ≤ 2 ^ 63 - 1 := fun h0 => by
  obtain ⟨_, _, _, _, h3, h4⟩ := h.has (by omega)
  unfold maxLen at h4
  omega
 have hsum : n = a + k + M.length + k + C.length := by rw [hn]; simp only [List.length_append]; omega
 have hbk : b + k ≤ n ∧ a + k ≤ b := by omega
 have HUV := Lib.hid hUV
 have HN := Lib.hid hn
 have HA := Lib.hid ha
 have HBE := Lib.hid hb
 have HK := Lib.hid hk
 have HCAP := Lib.hid hcap
 clear h hUV hn ha hb hk hsum hcap
 go_enter Try.func97, Try.ntmps97
 go_wp2_with fail
 go_loopw [10] (fun u wr => ∃ t : Nat, t ≤ k ∧ u = .int .i64 (t : Int) ∧ RgRow wr base (some ⟨g, 0, none⟩) c (swapL A U M V C t) ∧ RestS (fun k => k = g) w wr) (fun u _ => k - (intOf u).toNat)
 case atStart => exact ⟨0, Nat.zero_le _, rfl, H.out, RestS.refl _ _⟩
 case round =>
  clear H
  obtain ⟨t, ht, rfl, hr, hrs⟩ := hrel
  have HR := Lib.hid hr
  have HRS := Lib.hid hrs
  by_cases hlt : t < k
  ·have htu : t < U.length := by have := HK.out; omega
   have htv : t < V.length := by have := HK.out; have := HUV.out; omega
   obtain ⟨o1, o2⟩ := swapL_open A U M V C htu htv
   obtain ⟨u, hu⟩ : ∃ u, u = U[t] := ⟨_, rfl⟩
   obtain ⟨v, hv⟩ : ∃ v, v = V[t] := ⟨_, rfl⟩
   rw [← hu, ← hv] at o1 o2
   have hPl : (A ++ V.take t).length = a + t := by have := HA.out; rw [List.length_append, List.length_take]; omega
   have hQl : (A ++ V.take t).length + 1 + (U.drop (t + 1) ++ (M ++ U.take t)).length = b + t := by
    have h1 := HA.out
    have h2 := HBE.out
    simp only [List.length_append, List.length_take, List.length_drop]
    omega
   have hg2 := get2_list (A ++ V.take t) (U.drop (t + 1) ++ (M ++ U.take t)) (V.drop (t + 1) ++ C) u v
   have hs2 := swap2_list (A ++ V.take t) (U.drop (t + 1) ++ (M ++ U.take t)) (V.drop (t + 1) ++ C) u v
   rw [← o1, hQl, hPl] at hg2
   rw [hQl, hPl, ← o1, ← o2] at hs2
   obtain ⟨ys, hys⟩ : ∃ ys, ys = swapL A U M V C t := ⟨_, rfl⟩
   rw [← hys] at hr hg2 hs2
   have hyl : ys.length = n := by rw [hys, swapL_len]; exact HN.out.symm
   have hi1 : a + t < ys.length := by omega
   have hi2 : b + t < ys.length := by omega
   have e1 : ys[a + t] = u := by
    have := hg2.1
    rw [List.getElem?_eq_getElem hi1] at this
    injection this
   have e2 : ys[b + t] = v := by
    have := hg2.2
    rw [List.getElem?_eq_getElem hi2] at this
    injection this
   obtain ⟨p, hp⟩ : ∃ p, p = a + t := ⟨_, rfl⟩
   obtain ⟨q, hq⟩ : ∃ q, q = b + t := ⟨_, rfl⟩
   simp only [← hp] at hi1 e1 hs2
   simp only [← hq] at hi2 e2 hs2
   obtain ⟨c0, c1, c2, c3⟩ := hr.cells hi1
   obtain ⟨d0, d1, d2, d3⟩ := hr.cells hi2
   rw [e1] at c0 c1 c2 c3
   rw [e2] at d0 d1 d2 d3
   have f0 := hr.frees hi1 0 (by omega)
   have f1 := hr.frees hi1 1 (by omega)
   have f2 := hr.frees hi1 2 (by omega)
   have f3 := hr.frees hi1 3 (by omega)
   have g0 := hr.frees hi2 0 (by omega)
   have g1 := hr.frees hi2 1 (by omega)
   have g2 := hr.frees hi2 2 (by omega)
   have g3 := hr.frees hi2 3 (by omega)
   rw [Nat.add_zero] at f0 g0
   have hput := (hr.put hi1 v).put (i := q) (by rw [List.length_set]; exact hi2) u
   rw [hs2] at hput
   have hrst := ((((((((HRS.out.set (p := ⟨g, p * 4, none⟩) rfl (.int .i64 v.r)).set (p := ⟨g, p * 4 + 1, none⟩) rfl (.int .i64 v.b)).set (p := ⟨g, p * 4 + 2, none⟩) rfl (.int .i64 v.e)).set (p := ⟨g, p * 4 + 3, none⟩) rfl (.bool v.s)).set (p := ⟨g, q * 4, none⟩) rfl (.int .i64 u.r)).set (p := ⟨g, q * 4 + 1, none⟩) rfl (.int .i64 u.b)).set (p := ⟨g, q * 4 + 2, none⟩) rfl (.int .i64 u.e)).set (p := ⟨g, q * 4 + 3, none⟩) rfl (.bool u.s))
   have hdr := fun wq : World => (Below.refl wq.heap.size wq).drew
   have HPUT := Lib.hid (hput.below (hdr _))
   have HRST := Lib.hid (hrst.trans (below_refl_of (hdr _) (fun k => k = g)))
   have hc9 := HCAP.out (by omega)
   have hc1 := hc9.1
   have hc2 := hc9.2
   have ep : (a : Int) + (t : Int) = (p : Int) := by omega
   have eq : (b : Int) + (t : Int) = (q : Int) := by omega
   have hpn : (p : Int) < (n : Int) := by omega
   have hqn : (q : Int) < (n : Int) := by omega
   clear hr hrs o1 o2 hu hv hPl hQl hg2 hs2 hys hyl e1 e2 hp hq hput hrst hdr hc9 htu htv hi1 hi2 HR HRS
   go_upto_region 3 with fail
   go_region
   all_goals go_wp2_with fail
   go_roundw
   case rel => exact ⟨t + 1, by omega, by go_num, HPUT.out, HRST.out⟩
   case measure => simp [intOf]; omega
  ·have hk2 : U.length ≤ t := by have := HK.out; omega
   rw [swapL_all A U M V C HUV.out hk2] at hr
   have HR2 := Lib.hid hr
   clear hr hrs
   go_wp2_with fail
   refine bodyPost_end (results_none rfl _ _ _) rfl ?_
   exact ⟨rfl, HR2.out, HRS.out⟩
/-- what rotate does -/
def RotPost (base g c : Nat) (xs : List RG) (w : World) (e : Ending) (w' : World) : Prop := SwapPost base g c xs w e w'
set_option maxRecDepth 100000 in
set_option maxHeartbeats 8000000 in
theorem rotate_any (w : World) (base g c n a m b : Nat) (A X Y C : List RG) (h : RgRow w base (some ⟨g, 0, none⟩) c (A ++ X ++ Y ++ C)) (hX : 0 < X.length) (hY : 0 < Y.length) (hn : n = (A ++ X ++ Y ++ C).length) (hn2 : n ≤ 10000) (ha : a = A.length) (hm : m = A.length + X.length) (hb : b = A.length + X.length + Y.length) :
  Calls Try.prog 96 #[.slice (some ⟨g, 0, none⟩) n c, .int .i64 (a : Int), .int .i64 (m : Int), .int .i64 (b : Int), .func (.func 86) #[] #[]] w (RotPost base g c (A ++ Y ++ X ++ C) w) := by
 have H := Lib.hid h
 have HN := Lib.hid hn
 have HA := Lib.hid ha
 have HX := Lib.hid hX
 have HY := Lib.hid hY
 have hma : m = a + X.length := by omega
 have hbm : b = m + Y.length := by omega
 have hbn : b ≤ n := by rw [hn]; simp only [List.length_append]; omega
 obtain ⟨lx, hlx⟩ : ∃ l, l = X.length := ⟨_, rfl⟩
 obtain ⟨ly, hly⟩ : ∃ l, l = Y.length := ⟨_, rfl⟩
 rw [← hlx] at hma hX
 rw [← hly] at hbm hY
 have eml : (m : Int) - (a : Int) = (lx : Int) := by omega
 have ebl : (b : Int) - (m : Int) = (ly : Int) := by omega
 have HLX := Lib.hid hlx
 have HLY := Lib.hid hly
 have HMA := Lib.hid hma
 have HBM := Lib.hid hbm
 have hmn : m ≤ n := by omega
 have hlx2 : lx ≤ 10000 := by omega
 have hly2 : ly ≤ 10000 := by omega
 clear h hn ha hm hb hlx hly hma hbm
 go_enter Try.func96, Try.ntmps96
 go_wp2_with fail
 go_loopw [10, 11] (fun u10 u11 wr => ∃ (i j : Nat) (P X' Y' Q : List RG), u10 = .int .i64 (i : Int) ∧ u11 = .int .i64 (j : Int) ∧ i = X'.length ∧ j = Y'.length ∧ 0 < i ∧ 0 < j ∧ A.length + P.length + i = m ∧ i ≤ lx ∧ j ≤ ly ∧ P ++ (Y' ++ X') ++ Q = Y ++ X ∧ RgRow wr base (some ⟨g, 0, none⟩) c (A ++ P ++ X' ++ Y' ++ (Q ++ C)) ∧ RestS (fun k => k = g) w wr) (fun u v _ => (intOf u).toNat + (intOf v).toNat)
 case atStart =>
  refine ⟨lx, ly, [], X, Y, [], rfl, rfl, HLX.out, HLY.out, hX, hY, by have := HMA.out; have := HA.out; simp; omega, Nat.le_refl _, Nat.le_refl _, by simp, by simpa using H.out, RestS.refl _ _⟩
 case round =>
  clear H eml ebl
  obtain ⟨i, j, P, X', Y', Q, rfl, rfl, hi, hj, hi0, hj0, hpm, hil, hjl, hT, hr, hrs⟩ := hrel
  have hlen := congrArg List.length hT
  simp only [List.length_append] at hlen
  have HR := Lib.hid hr
  have HRS := Lib.hid hrs
  have HT := Lib.hid hT
  have HI := Lib.hid hi
  have HJ := Lib.hid hj
  have HPM := Lib.hid hpm
  have hnl : n = (A ++ P ++ X' ++ Y' ++ (Q ++ C)).length := by
   have := HN.out
   simp only [List.length_append] at this ⊢
   omega
  have HNL := Lib.hid hnl
  have him : i ≤ m := by omega
  have hjn : m + j ≤ n := by have := HNL.out; simp only [List.length_append] at this; omega
  clear hr hrs hT hlen
  rcases Nat.lt_trichotomy i j with hlt | heq | hgt
  ·
   obtain ⟨Y1, Y2, hYY, hY1, hY2⟩ : ∃ Y1 Y2, Y' = Y1 ++ Y2 ∧ Y1.length = j - i ∧ Y2.length = i := ⟨Y'.take (j - i), Y'.drop (j - i), (List.take_append_drop _ _).symm, by rw [List.length_take]; omega, by rw [List.length_drop]; omega⟩
   have q1 : ((i : Int) != (j : Int)) = true := by simp; omega
   have q2 : ¬ ((j : Int) < (i : Int)) := by omega
   obtain ⟨s, hs⟩ : ∃ s, s = m - i := ⟨_, rfl⟩
   obtain ⟨t, ht⟩ : ∃ t, t = m + j - i := ⟨_, rfl⟩
   have es : (m : Int) - (i : Int) = (s : Int) := by omega
   have et : (m : Int) + (j : Int) - (i : Int) = (t : Int) := by omega
   have hr := HR.out
   rw [hYY] at hr
   have hsw := swapr_any wr base g c n s t i (A ++ P) X' Y1 Y2 (Q ++ C) (by omega) (by simpa using hr) (by rw [hnl, hYY]; simp) hn2 (by rw [List.length_append]; omega) (by rw [List.length_append]; omega) hi
   have HSW := Lib.hid hsw
   have HT2 : Hid (P ++ (Y1 ++ Y2) ++ (X' ++ Q) = Y ++ X) := by show _ = _; rw [← HT.out, hYY]; simp
   have h9 : A.length + P.length + i = m := hpm
   have HY1 := Lib.hid hY1
   have HY2 := Lib.hid hY2
   have HJI : Hid (j - i + i = j) := by show _ = _; omega
   have hjs : 0 < j - i := by omega
   have eji : (j : Int) - (i : Int) = ((j - i : Nat) : Int) := by omega
   obtain ⟨d, hd⟩ : ∃ d, d = j - i := ⟨_, rfl⟩
   rw [← hd] at eji hjs
   have HD := Lib.hid hd
   clear hYY hY1 hY2 hs ht hr hsw hi hj hpm hnl hd
   go_wp2_with fail
   refine HSW.out.mono ?_
   rintro e w7 ⟨rfl, hr7, hs7⟩
   have HR7 : Hid (RgRow w7 base (some ⟨g, 0, none⟩) c (A ++ P ++ Y2 ++ Y1 ++ ((X' ++ Q) ++ C))) := by have := hr7; show RgRow _ _ _ _ _; simpa using this
   have HS7 := Lib.hid (HRS.out.trans hs7)
   clear hr7 hs7 HSW es et
   go_wp2_with fail
   go_roundw
   case rel => exact ⟨i, d, P, Y2, Y1, X' ++ Q, rfl, rfl, HY2.out.symm, by rw [HY1.out]; exact HD.out, hi0, hjs, h9, hil, by have := HD.out; omega, HT2.out, HR7.out, HS7.out⟩
   case measure => simp [intOf]; have := HD.out; omega
  ·
   subst heq
   have q1 : ((i : Int) != (i : Int)) = false := by simp
   obtain ⟨s, hs⟩ : ∃ s, s = m - i := ⟨_, rfl⟩
   have es : (m : Int) - (i : Int) = (s : Int) := by omega
   have hsw := swapr_any wr base g c n s m i (A ++ P) X' [] Y' (Q ++ C) (by omega) (by simpa using HR.out) (by rw [hnl]; simp) hn2 (by rw [List.length_append]; omega) (by rw [List.length_append]; simp; omega) hi
   have HSW := Lib.hid hsw
   clear hs hsw hi hj hpm hnl
   go_wp2_with fail
   refine HSW.out.mono ?_
   rintro e w7 ⟨rfl, hr7, hs7⟩
   have HR7 : Hid (RgRow w7 base (some ⟨g, 0, none⟩) c (A ++ Y ++ X ++ C)) := by
    have := hr7
    show RgRow _ _ _ _ _
    rw [show A ++ Y ++ X ++ C = A ++ (P ++ (Y' ++ X') ++ Q) ++ C by rw [HT.out]; simp]
    simpa using this
   have HS7 := Lib.hid (HRS.out.trans hs7)
   clear hr7 hs7 HSW es
   go_wp2_with fail
   refine bodyPost_end (results_none rfl _ _ _) rfl ?_
   exact ⟨rfl, HR7.out, HS7.out⟩
  ·
   obtain ⟨X1, X2, hXX, hX1, hX2⟩ : ∃ X1 X2, X' = X1 ++ X2 ∧ X1.length = j ∧ X2.length = i - j := ⟨X'.take j, X'.drop j, (List.take_append_drop _ _).symm, by rw [List.length_take]; omega, by rw [List.length_drop]; omega⟩
   have q1 : ((i : Int) != (j : Int)) = true := by simp; omega
   have q2 : (j : Int) < (i : Int) := by omega
   obtain ⟨s, hs⟩ : ∃ s, s = m - i := ⟨_, rfl⟩
   have es : (m : Int) - (i : Int) = (s : Int) := by omega
   have hr := HR.out
   rw [hXX] at hr
   have hsw := swapr_any wr base g c n s m j (A ++ P) X1 X2 Y' (Q ++ C) (by omega) (by simpa using hr) (by rw [hnl, hXX]; simp) hn2 (by rw [List.length_append]; omega) (by rw [List.length_append]; omega) hX1.symm
   have HSW := Lib.hid hsw
   have HT2 : Hid ((P ++ Y') ++ (X1 ++ X2) ++ Q = Y ++ X) := by show _ = _; rw [← HT.out, hXX]; simp
   have h9 : A.length + (P ++ Y').length + (i - j) = m := by rw [List.length_append]; omega
   obtain ⟨d, hd⟩ : ∃ d, d = i - j := ⟨_, rfl⟩
   rw [← hd] at h9 hX2
   have hds : 0 < d := by omega
   have eji : (i : Int) - (j : Int) = (d : Int) := by omega
   have HX1 := Lib.hid hX1
   have HX2 := Lib.hid hX2
   have HD := Lib.hid hd
   clear hXX hX1 hX2 hs hr hsw hi hj hpm hnl hd
   go_wp2_with fail
   refine HSW.out.mono ?_
   rintro e w7 ⟨rfl, hr7, hs7⟩
   have HR7 : Hid (RgRow w7 base (some ⟨g, 0, none⟩) c (A ++ (P ++ Y') ++ X2 ++ X1 ++ (Q ++ C))) := by have := hr7; show RgRow _ _ _ _ _; simpa using this
   have HS7 := Lib.hid (HRS.out.trans hs7)
   clear hr7 hs7 HSW es
   go_wp2_with fail
   go_roundw
   case rel => exact ⟨d, j, P ++ Y', X2, X1, Q, rfl, rfl, HX2.out.symm, HX1.out.symm, hds, hj0, h9, by have := HD.out; omega, hjl, HT2.out, HR7.out, HS7.out⟩
   case measure => simp [intOf]; have := HD.out; omega
end
end Go.Proofs.Ytlcnbihfpjhffaa
