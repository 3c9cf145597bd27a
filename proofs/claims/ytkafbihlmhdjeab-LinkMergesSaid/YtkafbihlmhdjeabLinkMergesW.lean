/- The walk of LinkMerges (printed by linkmerges.py). -/
import Derived.Test.YtkafbihlmhdjeabLnkRefL
namespace Go.Proofs.Ytkafbihlmhdjeab
open Go.RowKit
set_option linter.unusedVariables false
set_option linter.unusedSimpArgs false

theorem came_takeL {w : World} {a : Option Addr} {len cap s : Nat} {vs : List (List Value)} (h : Came w a len cap s vs) (n : Nat) (hn : n ≤ len) : Came w a n cap s (vs.take n) := by
  have hc := h.count
  have hle := h.le
  have hmx := h.max
  refine ⟨by simp; omega, by omega, by omega, fun ha => ⟨by have := (h.nil ha).1; omega, (h.nil ha).2⟩, fun v hv => h.size v (List.mem_of_mem_take hv), fun h0 h1 => ?_⟩
  obtain ⟨b, off, ha, hb, hcl⟩ := h.cells (by omega) h1
  refine ⟨b, off, ha, hb, fun i v hv j hj => ?_⟩
  rw [List.getElem?_take] at hv
  split at hv
  · exact hcl i v hv j hj
  · cases hv
theorem Lnk.cut {w : World} {a : Option Addr} {n c : Nat} {l : List LF} (h : Lnk w a n c l) (m : Nat) (hm : m ≤ n) : Lnk w a m c (l.take m) :=
  ⟨by rw [List.map_take]; exact came_takeL h.came m hm, fun f hf => h.ok f (List.mem_of_mem_take hf)⟩
def retI : Item := ⟨22, 0, 0, 0, 0, -1⟩
/-- a function that returns -/
def retF (p : Nat) : LF := ⟨0, some ⟨p, 0, none⟩, 1, 1, [retI], none, 0, 0, [], none, 0, 0, [], 1⟩
theorem came_nilL (w : World) (sz : Nat) : Came w none 0 0 sz ([] : List (List Value)) := ⟨rfl, Nat.le_refl _, by omega, fun _ => ⟨rfl, rfl⟩, fun v hv => (by cases hv), fun h => by omega⟩
theorem came_lit {α : Type} {w : World} {g sz n : Nat} {t : TypeId} {E : α → List Value} {zs : List α} (hE : ∀ z, (E z).length = sz) (h : Blk w g t (zs.flatMap E)) (hn : zs.length = n) (hm : n ≤ 1000) : Came w (some ⟨g, 0, none⟩) n n sz (zs.map E) := by
  refine ⟨by simpa using hn, Nat.le_refl _, by omega, fun h => (by cases h), fun v hv => ?_, fun _ _ => ⟨g, 0, rfl, h.lt, fun i v hv j hj => ?_⟩⟩
  · obtain ⟨z, _, rfl⟩ := List.mem_map.1 hv; exact hE z
  · rw [List.getElem?_map] at hv
    obtain ⟨z, hz, rfl⟩ := Option.map_eq_some_iff.1 hv
    have hi : i < zs.length := (List.getElem?_eq_some_iff.1 hz).1
    rw [h.cell, Nat.zero_add, flatN_get hE zs i j hi hj]
    rw [List.getElem?_eq_getElem hi] at hz
    rw [Option.some.inj hz]
theorem retF_ok {w : World} {p : Nat} (hp : Blk w p 68 (itemCells retI)) : (retF p).Ok w := by
  have i0 : ∀ z : Int, -5 ≤ z ∧ z ≤ 100 → I64 z := fun z h => by unfold I64; omega
  refine ⟨came_lit (zs := [retI]) (fun _ => rfl) hp rfl (by show 1 ≤ 1000; omega), by show 1 * 48 ≤ _; omega, came_nilL w 2, by show 0 ≤ _; omega, came_nilL w 4, by show 0 ≤ _; omega, fun z hz => (by cases hz), i0 0 (by omega), i0 1 (by omega), fun z hz => ?_, fun z hz => (by cases hz)⟩
  have : z = retI := by simpa [retF] using hz
  subst this
  exact ⟨i0 22 (by omega), i0 0 (by omega), i0 0 (by omega), i0 0 (by omega), i0 0 (by omega), i0 (-1) (by omega)⟩
theorem retF_chk (p q : Nat) : chkE [retF p, retF q] = 0 := by
  have h1 : itemsE [retI] = 0 := by decide
  have h2 : ∀ p, fnL 2 (retF p) = 0 := fun p => by
    unfold fnL
    rw [show (retF p).its = [retI] from rfl, h1]
    rw [if_neg (by simp), if_neg (by show ¬ (1 = 0 ∨ (1 : Int) < 1 ∨ (4096 : Int) < 1); omega)]
    unfold refsE
    rw [show (retF p).its = [retI] from rfl, show (retF p).calls = [] from rfl, show (retF p).maps = [] from rfl]
    rfl
  unfold chkE
  rw [if_neg (by show ¬ 256 < 2; omega)]
  show (if fnL 2 (retF p) ≠ 0 then _ else if fnL 2 (retF q) ≠ 0 then _ else _) = _
  rw [h2, h2]
  rfl
theorem retF_same {p q : Nat} {c : Nat → Nat} (h : Merged [retF p, retF q] c) : clsZ c 2 = [0, 0] := by
  have h0 : c 0 = 0 := by have := h.le 0 (by show 0 < 2; omega); omega
  have h1 : c 0 = c 1 := by
    refine (h.iff 0 1 (by show 0 < 2; omega) (by show 1 < 2; omega)).2 ⟨fun i k => decide (i < 2 ∧ k < 2), fun i k hik => ?_, by decide⟩
    simp only [decide_eq_true_eq] at hik
    refine ⟨hik.1, hik.2, ?_⟩
    rcases i with _ | _ | i
    · rcases k with _ | _ | k
      · rfl
      · rfl
      · omega
    · rcases k with _ | _ | k
      · rfl
      · rfl
      · omega
    · omega
  have : clsZ c 2 = [((c 0 : Nat) : Int), ((c 1 : Nat) : Int)] := rfl
  rw [this, ← h1, h0]
  rfl

set_option maxRecDepth 100000 in
set_option maxHeartbeats 4000000 in
theorem linkFactL_ok (w : World) : Calls Try.prog 7 #[] w fun e w' => e = .returned (.bool true) ∧ Below w.heap.size w w' := by
  go_enter Try.func7, Try.ntmps7
  go_wp2_with fail
  obtain ⟨w1, hw1⟩ : ∃ w1, w1 = w.alloc (.cells #[.int .i64 22, .int .i64 0, .int .i64 0, .int .i64 0, .int .i64 0, .int .i64 (-1)] 68) := ⟨_, rfl⟩
  obtain ⟨w2, hw2⟩ : ∃ w2, w2 = w1.alloc (.cells #[.int .i64 0, .slice (some ⟨w.heap.size, 0, none⟩) 1 1, .slice none 0 0, .slice none 0 0, .int .i64 1] 53) := ⟨_, rfl⟩
  obtain ⟨w3, hw3⟩ : ∃ w3, w3 = w2.alloc (.cells #[.int .i64 0, .slice (some ⟨w.heap.size, 0, none⟩) 1 1, .slice none 0 0, .slice none 0 0, .int .i64 1, .int .i64 0, .slice (some ⟨w.heap.size, 0, none⟩) 1 1, .slice none 0 0, .slice none 0 0, .int .i64 1] 53) := ⟨_, rfl⟩
  rw [← hw1, ← hw2, ← hw3]
  have s1 : w1.heap.size = w.heap.size + 1 := by rw [hw1]; simp
  have s2 : w2.heap.size = w.heap.size + 1 + 1 := by rw [hw2, World.size_alloc, s1]
  have b1 : Blk w3 w.heap.size 68 (itemCells retI) := by
    rw [hw3, hw2, hw1]
    exact ((Blk.new w (itemCells retI) 68).alloc _).alloc _
  have b3 : Blk w3 (w.heap.size + 1 + 1) 53 ([retF w.heap.size, retF w.heap.size].flatMap lfC) := by
    have := Blk.new w2 ([retF w.heap.size, retF w.heap.size].flatMap lfC) 53
    rw [s2] at this
    rw [hw3]
    exact this
  have hb : Below w.heap.size w w3 := by
    rw [hw3, hw2, hw1]
    exact (((Below.refl _ _).alloc (Nat.le_refl _) _).alloc (by simp) _).alloc (by simp; omega) _
  have hL : Lnk w3 (some ⟨w.heap.size + 1 + 1, 0, none⟩) 2 2 [retF w.heap.size, retF w.heap.size] := ⟨came_lit lfC_len b3 rfl (by omega), fun f hf => by
    have : f = retF w.heap.size := by simpa using hf
    subst this
    exact retF_ok b1⟩
  have HB := Lib.hid hb
  have HMG := Lib.hid (merge_any w3 _ 2 2 _ hL)
  clear hw1 hw2 hw3 s1 s2 b1 b3 hb hL
  refine HMG.out.mono ?_
  rintro e w4 ⟨hb4, ⟨h, _⟩ | ⟨_, g, c, rfl, hcl, hg, hm⟩⟩
  · exact absurd (retF_chk _ _) h
  have hz := retF_same hm
  have HB4 := Lib.hid (HB.out.trans (hb4.mono HB.out.size))
  have hcm := hcl.came (by omega)
  rw [hz] at hcm
  have HCM := Lib.hid hcm
  clear hb4 hcl hm hz hcm HMG HB
  go_wp2_with fail
  have HLT : Hid (Blk (w4.alloc (.cells #[.int .i64 0, .int .i64 0] 3)) w4.heap.size 3 (([0, 0] : List Int).map (Value.int .i64))) := Blk.new w4 _ _
  have hab : Below w4.heap.size w4 (w4.alloc (.cells #[.int .i64 0, .int .i64 0] 3)) := (Below.refl _ _).alloc (Nat.le_refl _) _
  refine (same_ints _ _ 2 2 [0, 0] _ 2 2 [0, 0] (HCM.out.below hab) (came_of_blk HLT.out (by decide))).mono ?_
  rintro e w5 ⟨q, rfl, hw5⟩
  have HB5 : Hid (Below w.heap.size w w5) := by
    rw [hw5]
    exact (HB4.out.alloc HB4.out.size _).trans (below_drewN_self _ _ _)
  clear hw5 hab
  rw [show decide (([0, 0] : List Int) = [0, 0]) = true from by decide]
  go_wp2_with fail
  go_ret
  exact ⟨rfl, HB5.out⟩

set_option maxRecDepth 100000 in
set_option maxHeartbeats 4000000 in
theorem linkMerges_big (a : Option Addr) (len cap : Nat) (l : List LF) (w : World) (h : Lnk w a len cap l) (hc : 12 < len) :
    Calls Try.prog 3 #[.slice a len cap] w fun e w' => e = .returned (.bool true) ∧ Below w.heap.size w w' := by
  have HFACT := fun w => Lib.hid (linkFactL_ok w)
  have hle := h.came.le
  have hmx := h.came.max
  have hmx0 : max (12 : Int) 0 = 12 := by omega
  have HTK := Lib.hid (h.cut 12 (by omega))
  obtain ⟨xs, hxs⟩ : ∃ xs, xs = l.take 12 := ⟨_, rfl⟩
  rw [← hxs] at HTK
  clear hxs h
  go_enter Try.func3, Try.ntmps3
  go_wp2_with fail
  refine (HFACT _).out.mono ?_
  rintro e w1 ⟨rfl, hb⟩
  have HB1 := Lib.hid hb
  have HL1 := Lib.hid (HTK.out.below hb)
  clear hb HFACT HTK
  go_wp2_with fail
  refine (merge_any w1 _ _ _ xs HL1.out).mono ?_
  rintro e w2 ⟨hb2, hcs⟩
  have HB2 := Lib.hid (HB1.out.trans (hb2.mono HB1.out.size))
  have HL2 := Lib.hid (HL1.out.below hb2)
  obtain ⟨ce, hce⟩ : ∃ ce, ce = chkE xs := ⟨_, rfl⟩
  have HCK := Lib.hid (linkCheck_any w2 _ _ _ xs HL2.out)
  rw [← hce] at hcs HCK
  have HCE := Lib.hid hce
  clear hb2 hce HL1 HB1
  rcases hcs with ⟨hne, rfl⟩ | ⟨rfl, g, c, rfl, hcl, hg, hm⟩
  · have hne' : (ce != 0) = true := by simp [hne]
    clear hne
    go_wp2_with fail
    refine HCK.out.mono ?_
    rintro e w3 ⟨rfl, hb3⟩
    have HB3 := Lib.hid (HB2.out.trans (hb3.mono HB2.out.size))
    clear hb3 HCK
    go_wp2_with fail
    go_ret
    exact ⟨rfl, HB3.out⟩
  · have HCL := Lib.hid hcl
    have HM := Lib.hid hm
    clear hcl hm hg
    go_wp2_with fail
    refine HCK.out.mono ?_
    rintro e w3 ⟨rfl, hb3⟩
    have HB3 := Lib.hid (HB2.out.trans (hb3.mono HB2.out.size))
    have HL3 := Lib.hid (HL2.out.below hb3)
    have HCL3 := Lib.hid (HCL.out.below hb3)
    clear hb3 HCK HL2 HB2 HCL
    go_wp2_with fail
    have HXL : Hid (xs.length = 12) := HL3.out.len
    refine (linkedSame_any w3 _ _ _ xs HL3.out (chkE_in HCE.out.symm).1 (by omega)).mono ?_
    rintro e w4 ⟨v, d, rfl, hown, hd, hb4⟩
    have hdc : clsZ d 12 = clsZ c 12 := List.map_congr_left fun i hi => by
      have h1 := hd i (List.mem_range.1 hi)
      rw [HM.out.least (by rw [HXL.out]; exact List.mem_range.1 hi) h1.1 h1.2]
    rw [hdc] at hown
    obtain ⟨va, vc, rfl⟩ := ownG_shape hown
    have hcz : (clsZ c 12).length = 12 := by simp [clsZ]
    rw [hcz] at hown ⊢
    have hcm2 : Came w4 va 12 vc 1 ((clsZ c 12).map intCells) := (came_of_owns (E := intCells) (zs := clsZ c 12) (fun z => ⟨_, rfl⟩) hown).2
    have hcm1 := (HCL3.out.below hb4).came (by omega)
    have HB4 := Lib.hid (HB3.out.trans (hb4.mono HB3.out.size))
    have HC1 := Lib.hid hcm1
    have HC2 := Lib.hid hcm2
    clear hown hd hb4 hdc hcz hcm1 hcm2 HCL3 HL3 HB3
    go_wp2_with fail
    refine (same_ints w4 _ _ _ (clsZ c 12) _ _ _ (clsZ c 12) HC1.out HC2.out).mono ?_
    rintro e w5 ⟨q, rfl, hw5⟩
    have HB5 : Hid (Below w.heap.size w w5) := by
      rw [hw5]
      exact HB4.out.trans (below_drewN_self _ _ _)
    clear hw5
    rw [decide_eq_true (rfl : clsZ c 12 = clsZ c 12)]
    go_wp2_with fail
    go_ret
    exact ⟨rfl, HB5.out⟩

set_option maxRecDepth 100000 in
set_option maxHeartbeats 4000000 in
theorem linkMerges_small (a : Option Addr) (len cap : Nat) (l : List LF) (w : World) (h : Lnk w a len cap l) (hc : ¬ 12 < len) :
    Calls Try.prog 3 #[.slice a len cap] w fun e w' => e = .returned (.bool true) ∧ Below w.heap.size w w' := by
  have HFACT := fun w => Lib.hid (linkFactL_ok w)
  have hle := h.came.le
  have hmx := h.came.max
  have hmx0 : max (12 : Int) 0 = 12 := by omega
  have HTK := Lib.hid (h.cut len (by omega))
  obtain ⟨xs, hxs⟩ : ∃ xs, xs = l.take len := ⟨_, rfl⟩
  rw [← hxs] at HTK
  clear hxs h
  go_enter Try.func3, Try.ntmps3
  go_wp2_with fail
  refine (HFACT _).out.mono ?_
  rintro e w1 ⟨rfl, hb⟩
  have HB1 := Lib.hid hb
  have HL1 := Lib.hid (HTK.out.below hb)
  clear hb HFACT HTK
  go_wp2_with fail
  refine (merge_any w1 _ _ _ xs HL1.out).mono ?_
  rintro e w2 ⟨hb2, hcs⟩
  have HB2 := Lib.hid (HB1.out.trans (hb2.mono HB1.out.size))
  have HL2 := Lib.hid (HL1.out.below hb2)
  obtain ⟨ce, hce⟩ : ∃ ce, ce = chkE xs := ⟨_, rfl⟩
  have HCK := Lib.hid (linkCheck_any w2 _ _ _ xs HL2.out)
  rw [← hce] at hcs HCK
  have HCE := Lib.hid hce
  clear hb2 hce HL1 HB1
  rcases hcs with ⟨hne, rfl⟩ | ⟨rfl, g, c, rfl, hcl, hg, hm⟩
  · have hne' : (ce != 0) = true := by simp [hne]
    clear hne
    go_wp2_with fail
    refine HCK.out.mono ?_
    rintro e w3 ⟨rfl, hb3⟩
    have HB3 := Lib.hid (HB2.out.trans (hb3.mono HB2.out.size))
    clear hb3 HCK
    go_wp2_with fail
    go_ret
    exact ⟨rfl, HB3.out⟩
  · have HCL := Lib.hid hcl
    have HM := Lib.hid hm
    clear hcl hm hg
    go_wp2_with fail
    refine HCK.out.mono ?_
    rintro e w3 ⟨rfl, hb3⟩
    have HB3 := Lib.hid (HB2.out.trans (hb3.mono HB2.out.size))
    have HL3 := Lib.hid (HL2.out.below hb3)
    have HCL3 := Lib.hid (HCL.out.below hb3)
    clear hb3 HCK HL2 HB2 HCL
    go_wp2_with fail
    have HXL : Hid (xs.length = len) := HL3.out.len
    refine (linkedSame_any w3 _ _ _ xs HL3.out (chkE_in HCE.out.symm).1 (by omega)).mono ?_
    rintro e w4 ⟨v, d, rfl, hown, hd, hb4⟩
    have hdc : clsZ d len = clsZ c len := List.map_congr_left fun i hi => by
      have h1 := hd i (List.mem_range.1 hi)
      rw [HM.out.least (by rw [HXL.out]; exact List.mem_range.1 hi) h1.1 h1.2]
    rw [hdc] at hown
    obtain ⟨va, vc, rfl⟩ := ownG_shape hown
    have hcz : (clsZ c len).length = len := by simp [clsZ]
    rw [hcz] at hown ⊢
    have hcm2 : Came w4 va len vc 1 ((clsZ c len).map intCells) := (came_of_owns (E := intCells) (zs := clsZ c len) (fun z => ⟨_, rfl⟩) hown).2
    have hcm1 := (HCL3.out.below hb4).came (by omega)
    have HB4 := Lib.hid (HB3.out.trans (hb4.mono HB3.out.size))
    have HC1 := Lib.hid hcm1
    have HC2 := Lib.hid hcm2
    clear hown hd hb4 hdc hcz hcm1 hcm2 HCL3 HL3 HB3
    go_wp2_with fail
    refine (same_ints w4 _ _ _ (clsZ c len) _ _ _ (clsZ c len) HC1.out HC2.out).mono ?_
    rintro e w5 ⟨q, rfl, hw5⟩
    have HB5 : Hid (Below w.heap.size w w5) := by
      rw [hw5]
      exact HB4.out.trans (below_drewN_self _ _ _)
    clear hw5
    rw [decide_eq_true (rfl : clsZ c len = clsZ c len)]
    go_wp2_with fail
    go_ret
    exact ⟨rfl, HB5.out⟩

theorem linkMerges_walk (a : Option Addr) (len cap : Nat) (l : List LF) (w : World) (h : Lnk w a len cap l ∧ len * 88 ≤ 140737488351232) :
    Calls Try.prog 3 #[.slice a len cap] w fun e w' => e = .returned (.bool true) ∧ Below w.heap.size w w' := by
  by_cases hb : 12 < len
  · exact linkMerges_big a len cap l w h.1 hb
  · exact linkMerges_small a len cap l w h.1 hb
end Go.Proofs.Ytkafbihlmhdjeab
