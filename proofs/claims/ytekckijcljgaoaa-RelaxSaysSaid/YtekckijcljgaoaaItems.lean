/- The contract of the statements' own 'items': what is made of a list is valid. -/
import Derived.Test.YtekckijcljgaoaaRelaxEnc
import Derived.Test.YtekckijcljgaoaaDecode
namespace Go.Proofs.Ytekckijcljgaoaa
open Go.RowKit
set_option linter.unusedVariables false

theorem Try.infoT41 : (Try.prog.info? 41).map (fun i => (i.zero, i.size, i.bytes)) = some (some (.agg #[.int .i64 0, .int .i64 0, .int .i64 0, .int .i64 0, .int .i64 0, .int .i64 0]), 6, 48) := by kernel_rfl

def normI (n : Nat) (i : Item) : Item :=
  if jumpB i.op = true then (if checkE i.op i.d i.a i.b 0 = 0 then ⟨i.op, i.d, i.a, i.b, 0, i.tg % (n : Int)⟩ else ⟨22, 0, 0, 0, 0, -1⟩)
  else (if checkE i.op i.d i.a i.b i.n = 0 then ⟨i.op, i.d, i.a, i.b, i.n, -1⟩ else ⟨22, 0, 0, 0, 0, -1⟩)
def outI (its : List Item) (n : Nat) : Nat → List Item
  | 0 => []
  | k + 1 => outI its n k ++ [normI n (itAt its k)]
theorem outI_len (its : List Item) (n k : Nat) : (outI its n k).length = k := by
  induction k with
  | zero => rfl
  | succ k ih => show (outI its n k ++ [_]).length = _; simp [ih]
theorem outI_at (its : List Item) (n k i : Nat) (h : i < k) : itAt (outI its n k) i = normI n (itAt its i) := by
  induction k with
  | zero => omega
  | succ k ih =>
    show itAt (outI its n k ++ [_]) i = _
    unfold itAt at ih ⊢
    by_cases e : i < k
    · rw [List.getD_eq_getElem?_getD, List.getElem?_append_left (by rw [outI_len]; omega), ← List.getD_eq_getElem?_getD]; exact ih e
    · obtain rfl : i = k := by omega
      rw [List.getD_eq_getElem?_getD, List.getElem?_append_right (by rw [outI_len]; omega), outI_len]; simp
theorem normI_ok (n : Nat) (hn : 0 < n) (i : Item) : itemErr n (normI n i) = 0 := by
  have h1 := Int.emod_nonneg i.tg (show (n : Int) ≠ 0 by omega)
  have h2 := Int.emod_lt_of_pos i.tg (show (0 : Int) < n by omega)
  have h22 : itemErr n ⟨22, 0, 0, 0, 0, -1⟩ = 0 := by
    unfold itemErr
    simp only
    rw [if_neg (by decide), if_neg (by omega), if_neg (by omega)]
  unfold normI
  by_cases hj : jumpB i.op = true
  · rw [if_pos hj]
    by_cases hc : checkE i.op i.d i.a i.b 0 = 0
    · rw [if_pos hc]
      unfold itemErr
      simp only
      have e : (if 0 ≤ i.tg % (n : Int) then (0 : Int) else 0) = 0 := by split <;> rfl
      rw [e, if_neg (by simp [hc]), if_neg (by omega), if_neg (by simp [hj])]
    · rw [if_neg hc]; exact h22
  · rw [if_neg hj]
    by_cases hc : checkE i.op i.d i.a i.b i.n = 0
    · rw [if_pos hc]
      unfold itemErr
      simp only
      have e : (if 0 ≤ (-1 : Int) then (0 : Int) else i.n) = i.n := if_neg (by omega)
      rw [e, if_neg (by simp [hc]), if_neg (by omega), if_neg (by omega)]
    · rw [if_neg hc]; exact h22
theorem itemsErr_zero' (len : Nat) (its : List Item) (h : ∀ i, i < its.length → itemErr len (itAt its i) = 0) : itemsErr len its = 0 :=
  itemsErr_zero len its fun i hi => by rw [← itAt_get hi]; exact h i hi
theorem outI_ok (its : List Item) (n : Nat) (hn : n ≤ 300) : itemsE (outI its n n) = 0 := by
  unfold itemsE
  rw [outI_len, if_neg (by omega)]
  refine itemsErr_zero' _ _ fun i hi => ?_
  rw [outI_len] at hi
  rw [outI_at its n n i hi]
  exact normI_ok n (by omega) _

theorem cells_new6 (w : World) {B : Nat} (hB : w.heap.size = B) (v0 v1 v2 v3 v4 v5 : Value) (t : TypeId) : ∀ j u, [v0, v1, v2, v3, v4, v5][j]? = some u → (w.alloc (.cells #[v0, v1, v2, v3, v4, v5] t)).cell? (Addr.add ⟨B, 0, none⟩ j) = some u := by
  intro j u h
  subst hB
  rw [Addr.add_lit, Nat.zero_add, World.cell?_alloc_new]
  simpa using h
theorem owns6 {w : World} {base : Nat} {e : TypeId} {size : Nat} {v : Value} {n : Nat} {l : List Value} (h : w.ownsRow base e size v n l) {b : Nat} (hb : ∀ q, v.ownBlock = some q → q ≠ b) (v0 v1 v2 v3 v4 v5 : Value) :
    ((((((w.setCell ⟨b, 0, none⟩ v0).setCell ⟨b, 1, none⟩ v1).setCell ⟨b, 2, none⟩ v2).setCell ⟨b, 3, none⟩ v3).setCell ⟨b, 4, none⟩ v4).setCell ⟨b, 5, none⟩ v5).ownsRow base e size v n l := by
  have key : ∀ {w : World} (h : w.ownsRow base e size v n l) (o : Nat) (u : Value), (w.setCell ⟨b, o, none⟩ u).ownsRow base e size v n l := fun h o u => ownsRow_setCell_other h (fun hq => hb _ hq rfl) u
  exact key (key (key (key (key (key h 0 v0) 1 v1) 2 v2) 3 v3) 4 v4) 5 v5
theorem below6 {B : Nat} {w w' : World} (h : Below B w w') {b : Nat} (hb : B ≤ b) (v0 v1 v2 v3 v4 v5 : Value) :
    Below B w ((((((w'.setCell ⟨b, 0, none⟩ v0).setCell ⟨b, 1, none⟩ v1).setCell ⟨b, 2, none⟩ v2).setCell ⟨b, 3, none⟩ v3).setCell ⟨b, 4, none⟩ v4).setCell ⟨b, 5, none⟩ v5) :=
  (five_set h b hb v0 v1 v2 v3 v4).setCell (p := ⟨b, 5, none⟩) hb v5

def ItemsPost (its : List Item) (n : Nat) (w : World) (e : Ending) (w' : World) : Prop :=
  ∃ v, e = .returned v ∧ w'.ownsRow w.heap.size 41 6 v (outI its n n).length ((outI its n n).flatMap itemCells) ∧ Below w.heap.size w w'

set_option maxRecDepth 100000 in
set_option maxHeartbeats 4000000 in
theorem items_big (av : Option Addr) (len cap : Nat) (its : List Item) (w : World) (hn : 300 < len) (h : Came w av len cap 6 (its.map itemCells)) :
    Calls Try.prog 20 #[.slice av len cap, .int .i64 300] w (ItemsPost its 300 w) := by
  have hl : its.length = len := by simpa using h.count
  have hle := h.le
  have hmx := h.max
  have HL := Lib.hid hl
  have HCM := Lib.hid h
  have hmx0 : max (300 : Int) 0 = 300 := by omega
  obtain ⟨i0, hi0, hz0, hz1, hz2⟩ := info_parts Try.infoT41
  clear hl h
  go_enter Try.func20, Try.ntmps20
  go_wp2_with fail
  go_loopw [5, 16] (fun v u wr => ∃ k : Nat, k ≤ 300 ∧ u = .int .i64 k ∧ wr.ownsRow w.heap.size 41 6 v (outI its 300 k).length ((outI its 300 k).flatMap itemCells) ∧ Below w.heap.size w wr) (fun _ u _ => 300 - (intOf u).toNat)
  case atStart => exact ⟨0, Nat.zero_le _, rfl, World.ownsRow_nil _ _ _ _, Below.refl _ _⟩
  case round =>
    obtain ⟨k, hk, rfl, hown, hb⟩ := hrel
    by_cases hlt : k < 300
    · obtain ⟨b0, off, ea, hbl, hcell⟩ := came_items HCM.out (by omega)
      subst ea
      have hkl : k < its.length := by have := HL.out; omega
      have hcs := (hcell k hkl).later hb hbl
      rw [← itAt_get hkl] at hcs
      have HSUC : Hid (outI its 300 (k + 1) = outI its 300 k ++ [normI 300 (itAt its k)]) := rfl
      have holn := outI_len its 300 k
      have HNI : Hid (normI 300 (itAt its k) = if jumpB (itAt its k).op = true then (if checkE (itAt its k).op (itAt its k).d (itAt its k).a (itAt its k).b 0 = 0 then ⟨(itAt its k).op, (itAt its k).d, (itAt its k).a, (itAt its k).b, 0, (itAt its k).tg % (300 : Int)⟩ else ⟨22, 0, 0, 0, 0, -1⟩)
        else (if checkE (itAt its k).op (itAt its k).d (itAt its k).a (itAt its k).b (itAt its k).n = 0 then ⟨(itAt its k).op, (itAt its k).d, (itAt its k).a, (itAt its k).b, (itAt its k).n, -1⟩ else ⟨22, 0, 0, 0, 0, -1⟩)) := rfl
      obtain ⟨it, hit⟩ : ∃ it, it = itAt its k := ⟨_, rfl⟩
      have hon : (outI its 300 k).length ≤ 300 := by omega
      have hwr : w.heap.size ≤ wr.heap.size := hb.size
      have HOWN := Lib.hid hown
      have HBR := Lib.hid hb
      rw [← hit] at hcs HNI
      have HIT := Lib.hid hit
      have HCS := Lib.hid hcs
      clear hit hcs hcell hown hb holn
      obtain ⟨op, d, a, b, m, tg⟩ := it
      obtain ⟨c0, c1, c2, c3, c4, c5⟩ := HCS.out
      simp only at c0 c1 c2 c3 c4 c5 HNI
      cases hj : jumpB op
      · have HJ := fun w => Lib.hid (jmp_as op w hj)
        rw [hj] at HNI
        simp only [Bool.false_eq_true, if_false] at HNI
        clear hj
        by_cases hc : checkE op d a b m = 0
        · have HCHK := fun w => Lib.hid (chkR_as op d a b m w hc)
          rw [if_pos hc] at HNI
          clear hc
          go_wp2_with (go_at_call 30; refine (HJ _).out.mono ?_; rintro e w6 ⟨rfl, rfl⟩)
          go_wp2_with fail
          refine (HCHK _).out.mono ?_
          rintro e w5 ⟨rfl, hb5⟩
          have hblk := (Blk.new wr [.int .i64 op, .int .i64 d, .int .i64 a, .int .i64 b, .int .i64 m, .int .i64 (-1)] 41).below hb5 (by simp)
          have c0 := hblk.cell 0
          have c1 := hblk.cell 1
          have c2 := hblk.cell 2
          have c3 := hblk.cell 3
          have c4 := hblk.cell 4
          have c5 := hblk.cell 5
          simp only [List.getElem?_cons_zero, List.getElem?_cons_succ] at c0 c1 c2 c3 c4 c5
          have f0 := hblk.free 0
          have f1 := hblk.free 1
          have f2 := hblk.free 2
          have f3 := hblk.free 3
          have f4 := hblk.free 4
          have f5 := hblk.free 5
          have hsz5 : w5.heap.size = w5.heap.size := rfl
          have HB5 := Lib.hid ((HBR.out.alloc hwr (.cells #[.int .i64 op, .int .i64 d, .int .i64 a, .int .i64 b, .int .i64 m, .int .i64 (-1)] 41)).trans (hb5.mono (by simp; omega)))
          have HOWN6 := Lib.hid (owns_laterR (HOWN.out.alloc _) hb5)
          have hlt5 : wr.heap.size < w5.heap.size := by have := hb5.size; simp at this; omega
          clear hb5 hblk hsz5
          go_wp2_with (at_builtin; refine wpList_append_own _ rfl _ _ 34 rfl w.heap.size 41 i0 _ 6 48 Try.underlying34 hi0 hz0 hz1 hz2 rfl (by decide) _ _ _ rfl (HOWN6.out.alloc _) ⟨w5.heap.size, 0, none⟩ 1 1 [.int .i64 op, .int .i64 d, .int .i64 a, .int .i64 b, .int .i64 m, .int .i64 (-1)] rfl rfl ?zmuo1 ?zmuo2 ?zmuo3 ?zmuo4 ?zmuo5 ?_)
          case zmuo1 => exact cells_new6 w5 (by simp) _ _ _ _ _ _ _
          case zmuo2 => intro u hu; simp at hu; rcases hu with rfl | rfl | rfl | rfl | rfl | rfl <;> rfl
          case zmuo3 => unfold maxLen; omega
          case zmuo4 => omega
          case zmuo5 => have h1 := HB5.out.size; simp; omega
          · intro v' w7 hown' hgrow _
            have hb7 := (HB5.out.alloc (by have h1 := HB5.out.size; simp; omega) _).grown hgrow (by have h1 := HB5.out.size; simp; omega) (fun q hq => (HOWN6.out.lt q hq).1)
            have hown7 : w7.ownsRow w.heap.size 41 6 v' (outI its 300 k ++ [normI 300 (itAt its k)]).length ((outI its 300 k ++ [normI 300 (itAt its k)]).flatMap itemCells) := by
              rw [← HIT.out, HNI.out, List.length_append, List.flatMap_append]; exact hown'
            have HO7 := Lib.hid hown7
            have HB7 := Lib.hid hb7
            clear hown' hgrow hb7 hown7
            go_wp2_with fail
            go_roundw
            case rel => exact ⟨k + 1, by omega, by go_num, by rw [HSUC.out]; exact HO7.out, HB7.out⟩
            case measure => simp [intOf]; omega
        · obtain ⟨cc, hcc⟩ : ∃ cc, cc = checkE op d a b m := ⟨_, rfl⟩
          have HCHK := fun w => Lib.hid (chkR_as op d a b m w hcc.symm)
          rw [if_neg hc] at HNI
          have hcn : (cc != 0) = true := by rw [bne_iff_ne, hcc]; exact hc
          clear hc hcc
          go_wp2_with (go_at_call 30; refine (HJ _).out.mono ?_; rintro e w6 ⟨rfl, rfl⟩)
          go_wp2_with fail
          refine (HCHK _).out.mono ?_
          rintro e w5 ⟨rfl, hb5⟩
          have hblk := (Blk.new wr [.int .i64 op, .int .i64 d, .int .i64 a, .int .i64 b, .int .i64 m, .int .i64 (-1)] 41).below hb5 (by simp)
          have c0 := hblk.cell 0
          have c1 := hblk.cell 1
          have c2 := hblk.cell 2
          have c3 := hblk.cell 3
          have c4 := hblk.cell 4
          have c5 := hblk.cell 5
          simp only [List.getElem?_cons_zero, List.getElem?_cons_succ] at c0 c1 c2 c3 c4 c5
          have f0 := hblk.free 0
          have f1 := hblk.free 1
          have f2 := hblk.free 2
          have f3 := hblk.free 3
          have f4 := hblk.free 4
          have f5 := hblk.free 5
          have hsz5 : w5.heap.size = w5.heap.size := rfl
          have HB5 := Lib.hid ((HBR.out.alloc hwr (.cells #[.int .i64 op, .int .i64 d, .int .i64 a, .int .i64 b, .int .i64 m, .int .i64 (-1)] 41)).trans (hb5.mono (by simp; omega)))
          have HOWN6 := Lib.hid (owns6 (b := wr.heap.size) (owns_laterR (HOWN.out.alloc _) hb5) (fun q hq => by have := (HOWN.out.lt q hq).2; simp; omega) (.int .i64 22) (.int .i64 0) (.int .i64 0) (.int .i64 0) (.int .i64 0) (.int .i64 (-1)))
          have hlt5 : wr.heap.size < w5.heap.size := by have := hb5.size; simp at this; omega
          clear hb5 hblk hsz5
          go_wp2_with (at_builtin; refine wpList_append_own _ rfl _ _ 34 rfl w.heap.size 41 i0 _ 6 48 Try.underlying34 hi0 hz0 hz1 hz2 rfl (by decide) _ _ _ rfl (HOWN6.out.alloc _) ⟨w5.heap.size, 0, none⟩ 1 1 [.int .i64 22, .int .i64 0, .int .i64 0, .int .i64 0, .int .i64 0, .int .i64 (-1)] rfl rfl ?zmub1 ?zmub2 ?zmub3 ?zmub4 ?zmub5 ?_)
          case zmub1 => exact cells_new6 ((((((w5.setCell ⟨wr.heap.size, 0, none⟩ (.int .i64 22)).setCell ⟨wr.heap.size, 1, none⟩ (.int .i64 0)).setCell ⟨wr.heap.size, 2, none⟩ (.int .i64 0)).setCell ⟨wr.heap.size, 3, none⟩ (.int .i64 0)).setCell ⟨wr.heap.size, 4, none⟩ (.int .i64 0)).setCell ⟨wr.heap.size, 5, none⟩ (.int .i64 (-1))) (by simp) _ _ _ _ _ _ _
          case zmub2 => intro u hu; simp at hu; rcases hu with rfl | rfl | rfl | rfl | rfl | rfl <;> rfl
          case zmub3 => unfold maxLen; omega
          case zmub4 => omega
          case zmub5 => have h1 := HB5.out.size; simp; omega
          · intro v' w7 hown' hgrow _
            have hb7 := ((below6 HB5.out hwr (.int .i64 22) (.int .i64 0) (.int .i64 0) (.int .i64 0) (.int .i64 0) (.int .i64 (-1))).alloc (by have h1 := HB5.out.size; simp; omega) _).grown hgrow (by have h1 := HB5.out.size; simp; omega) (fun q hq => (HOWN6.out.lt q hq).1)
            have hown7 : w7.ownsRow w.heap.size 41 6 v' (outI its 300 k ++ [normI 300 (itAt its k)]).length ((outI its 300 k ++ [normI 300 (itAt its k)]).flatMap itemCells) := by
              rw [← HIT.out, HNI.out, List.length_append, List.flatMap_append]; exact hown'
            have HO7 := Lib.hid hown7
            have HB7 := Lib.hid hb7
            clear hown' hgrow hb7 hown7
            go_wp2_with fail
            go_roundw
            case rel => exact ⟨k + 1, by omega, by go_num, by rw [HSUC.out]; exact HO7.out, HB7.out⟩
            case measure => simp [intOf]; omega
      · have HJ := fun w => Lib.hid (jmp_as op w hj)
        have HRS := fun w => Lib.hid (rest_any tg (300 : Int) w (by omega) (by omega))
        obtain ⟨tn, htn⟩ : ∃ tn, tn = tg % (300 : Int) := ⟨_, rfl⟩
        rw [← htn] at HNI HRS
        rw [hj] at HNI
        simp only [if_true] at HNI
        clear hj htn
        by_cases hc : checkE op d a b 0 = 0
        · have HCHK := fun w => Lib.hid (chkR_as op d a b 0 w hc)
          rw [if_pos hc] at HNI
          clear hc
          go_wp2_with (first | (go_at_call 30; refine (HJ _).out.mono ?_; rintro e w6 ⟨rfl, rfl⟩) | (go_at_call 26; refine (HRS _).out.mono ?_; rintro e w6 ⟨rfl, rfl⟩))
          go_wp2_with fail
          refine (HCHK _).out.mono ?_
          rintro e w5 ⟨rfl, hb5⟩
          have hblk := (Blk.new wr [.int .i64 op, .int .i64 d, .int .i64 a, .int .i64 b, .int .i64 0, .int .i64 tn] 41).below hb5 (by simp)
          have c0 := hblk.cell 0
          have c1 := hblk.cell 1
          have c2 := hblk.cell 2
          have c3 := hblk.cell 3
          have c4 := hblk.cell 4
          have c5 := hblk.cell 5
          simp only [List.getElem?_cons_zero, List.getElem?_cons_succ] at c0 c1 c2 c3 c4 c5
          have f0 := hblk.free 0
          have f1 := hblk.free 1
          have f2 := hblk.free 2
          have f3 := hblk.free 3
          have f4 := hblk.free 4
          have f5 := hblk.free 5
          have hsz5 : w5.heap.size = w5.heap.size := rfl
          have HB5 := Lib.hid ((HBR.out.alloc hwr (.cells #[.int .i64 op, .int .i64 d, .int .i64 a, .int .i64 b, .int .i64 0, .int .i64 tn] 41)).trans (hb5.mono (by simp; omega)))
          have HOWN6 := Lib.hid (owns_laterR (HOWN.out.alloc _) hb5)
          have hlt5 : wr.heap.size < w5.heap.size := by have := hb5.size; simp at this; omega
          clear hb5 hblk hsz5
          go_wp2_with (at_builtin; refine wpList_append_own _ rfl _ _ 34 rfl w.heap.size 41 i0 _ 6 48 Try.underlying34 hi0 hz0 hz1 hz2 rfl (by decide) _ _ _ rfl (HOWN6.out.alloc _) ⟨w5.heap.size, 0, none⟩ 1 1 [.int .i64 op, .int .i64 d, .int .i64 a, .int .i64 b, .int .i64 0, .int .i64 tn] rfl rfl ?z0to1 ?z0to2 ?z0to3 ?z0to4 ?z0to5 ?_)
          case z0to1 => exact cells_new6 w5 (by simp) _ _ _ _ _ _ _
          case z0to2 => intro u hu; simp at hu; rcases hu with rfl | rfl | rfl | rfl | rfl | rfl <;> rfl
          case z0to3 => unfold maxLen; omega
          case z0to4 => omega
          case z0to5 => have h1 := HB5.out.size; simp; omega
          · intro v' w7 hown' hgrow _
            have hb7 := (HB5.out.alloc (by have h1 := HB5.out.size; simp; omega) _).grown hgrow (by have h1 := HB5.out.size; simp; omega) (fun q hq => (HOWN6.out.lt q hq).1)
            have hown7 : w7.ownsRow w.heap.size 41 6 v' (outI its 300 k ++ [normI 300 (itAt its k)]).length ((outI its 300 k ++ [normI 300 (itAt its k)]).flatMap itemCells) := by
              rw [← HIT.out, HNI.out, List.length_append, List.flatMap_append]; exact hown'
            have HO7 := Lib.hid hown7
            have HB7 := Lib.hid hb7
            clear hown' hgrow hb7 hown7
            go_wp2_with fail
            go_roundw
            case rel => exact ⟨k + 1, by omega, by go_num, by rw [HSUC.out]; exact HO7.out, HB7.out⟩
            case measure => simp [intOf]; omega
        · obtain ⟨cc, hcc⟩ : ∃ cc, cc = checkE op d a b 0 := ⟨_, rfl⟩
          have HCHK := fun w => Lib.hid (chkR_as op d a b 0 w hcc.symm)
          rw [if_neg hc] at HNI
          have hcn : (cc != 0) = true := by rw [bne_iff_ne, hcc]; exact hc
          clear hc hcc
          go_wp2_with (first | (go_at_call 30; refine (HJ _).out.mono ?_; rintro e w6 ⟨rfl, rfl⟩) | (go_at_call 26; refine (HRS _).out.mono ?_; rintro e w6 ⟨rfl, rfl⟩))
          go_wp2_with fail
          refine (HCHK _).out.mono ?_
          rintro e w5 ⟨rfl, hb5⟩
          have hblk := (Blk.new wr [.int .i64 op, .int .i64 d, .int .i64 a, .int .i64 b, .int .i64 0, .int .i64 tn] 41).below hb5 (by simp)
          have c0 := hblk.cell 0
          have c1 := hblk.cell 1
          have c2 := hblk.cell 2
          have c3 := hblk.cell 3
          have c4 := hblk.cell 4
          have c5 := hblk.cell 5
          simp only [List.getElem?_cons_zero, List.getElem?_cons_succ] at c0 c1 c2 c3 c4 c5
          have f0 := hblk.free 0
          have f1 := hblk.free 1
          have f2 := hblk.free 2
          have f3 := hblk.free 3
          have f4 := hblk.free 4
          have f5 := hblk.free 5
          have hsz5 : w5.heap.size = w5.heap.size := rfl
          have HB5 := Lib.hid ((HBR.out.alloc hwr (.cells #[.int .i64 op, .int .i64 d, .int .i64 a, .int .i64 b, .int .i64 0, .int .i64 tn] 41)).trans (hb5.mono (by simp; omega)))
          have HOWN6 := Lib.hid (owns6 (b := wr.heap.size) (owns_laterR (HOWN.out.alloc _) hb5) (fun q hq => by have := (HOWN.out.lt q hq).2; simp; omega) (.int .i64 22) (.int .i64 0) (.int .i64 0) (.int .i64 0) (.int .i64 0) (.int .i64 (-1)))
          have hlt5 : wr.heap.size < w5.heap.size := by have := hb5.size; simp at this; omega
          clear hb5 hblk hsz5
          go_wp2_with (at_builtin; refine wpList_append_own _ rfl _ _ 34 rfl w.heap.size 41 i0 _ 6 48 Try.underlying34 hi0 hz0 hz1 hz2 rfl (by decide) _ _ _ rfl (HOWN6.out.alloc _) ⟨w5.heap.size, 0, none⟩ 1 1 [.int .i64 22, .int .i64 0, .int .i64 0, .int .i64 0, .int .i64 0, .int .i64 (-1)] rfl rfl ?z0tb1 ?z0tb2 ?z0tb3 ?z0tb4 ?z0tb5 ?_)
          case z0tb1 => exact cells_new6 ((((((w5.setCell ⟨wr.heap.size, 0, none⟩ (.int .i64 22)).setCell ⟨wr.heap.size, 1, none⟩ (.int .i64 0)).setCell ⟨wr.heap.size, 2, none⟩ (.int .i64 0)).setCell ⟨wr.heap.size, 3, none⟩ (.int .i64 0)).setCell ⟨wr.heap.size, 4, none⟩ (.int .i64 0)).setCell ⟨wr.heap.size, 5, none⟩ (.int .i64 (-1))) (by simp) _ _ _ _ _ _ _
          case z0tb2 => intro u hu; simp at hu; rcases hu with rfl | rfl | rfl | rfl | rfl | rfl <;> rfl
          case z0tb3 => unfold maxLen; omega
          case z0tb4 => omega
          case z0tb5 => have h1 := HB5.out.size; simp; omega
          · intro v' w7 hown' hgrow _
            have hb7 := ((below6 HB5.out hwr (.int .i64 22) (.int .i64 0) (.int .i64 0) (.int .i64 0) (.int .i64 0) (.int .i64 (-1))).alloc (by have h1 := HB5.out.size; simp; omega) _).grown hgrow (by have h1 := HB5.out.size; simp; omega) (fun q hq => (HOWN6.out.lt q hq).1)
            have hown7 : w7.ownsRow w.heap.size 41 6 v' (outI its 300 k ++ [normI 300 (itAt its k)]).length ((outI its 300 k ++ [normI 300 (itAt its k)]).flatMap itemCells) := by
              rw [← HIT.out, HNI.out, List.length_append, List.flatMap_append]; exact hown'
            have HO7 := Lib.hid hown7
            have HB7 := Lib.hid hb7
            clear hown' hgrow hb7 hown7
            go_wp2_with fail
            go_roundw
            case rel => exact ⟨k + 1, by omega, by go_num, by rw [HSUC.out]; exact HO7.out, HB7.out⟩
            case measure => simp [intOf]; omega
    · have ek : k = 300 := by omega
      subst ek
      have HOWN := Lib.hid hown
      have HBR := Lib.hid hb
      clear hown hb
      go_wp2_with fail
      go_ret
      exact ⟨_, rfl, HOWN.out, HBR.out⟩
set_option maxRecDepth 100000 in
set_option maxHeartbeats 4000000 in
theorem items_small (av : Option Addr) (len cap : Nat) (its : List Item) (w : World) (hn : len ≤ 300) (h : Came w av len cap 6 (its.map itemCells)) :
    Calls Try.prog 20 #[.slice av len cap, .int .i64 300] w (ItemsPost its len w) := by
  have hl : its.length = len := by simpa using h.count
  have hle := h.le
  have hmx := h.max
  have HL := Lib.hid hl
  have HCM := Lib.hid h
  obtain ⟨i0, hi0, hz0, hz1, hz2⟩ := info_parts Try.infoT41
  clear hl h
  go_enter Try.func20, Try.ntmps20
  go_wp2_with fail
  go_loopw [5, 16] (fun v u wr => ∃ k : Nat, k ≤ len ∧ u = .int .i64 k ∧ wr.ownsRow w.heap.size 41 6 v (outI its len k).length ((outI its len k).flatMap itemCells) ∧ Below w.heap.size w wr) (fun _ u _ => len - (intOf u).toNat)
  case atStart => exact ⟨0, Nat.zero_le _, rfl, World.ownsRow_nil _ _ _ _, Below.refl _ _⟩
  case round =>
    obtain ⟨k, hk, rfl, hown, hb⟩ := hrel
    by_cases hlt : k < len
    · obtain ⟨b0, off, ea, hbl, hcell⟩ := came_items HCM.out (by omega)
      subst ea
      have hkl : k < its.length := by have := HL.out; omega
      have hcs := (hcell k hkl).later hb hbl
      rw [← itAt_get hkl] at hcs
      have HSUC : Hid (outI its len (k + 1) = outI its len k ++ [normI len (itAt its k)]) := rfl
      have holn := outI_len its len k
      have HNI : Hid (normI len (itAt its k) = if jumpB (itAt its k).op = true then (if checkE (itAt its k).op (itAt its k).d (itAt its k).a (itAt its k).b 0 = 0 then ⟨(itAt its k).op, (itAt its k).d, (itAt its k).a, (itAt its k).b, 0, (itAt its k).tg % (len : Int)⟩ else ⟨22, 0, 0, 0, 0, -1⟩)
        else (if checkE (itAt its k).op (itAt its k).d (itAt its k).a (itAt its k).b (itAt its k).n = 0 then ⟨(itAt its k).op, (itAt its k).d, (itAt its k).a, (itAt its k).b, (itAt its k).n, -1⟩ else ⟨22, 0, 0, 0, 0, -1⟩)) := rfl
      obtain ⟨it, hit⟩ : ∃ it, it = itAt its k := ⟨_, rfl⟩
      have hon : (outI its len k).length ≤ 300 := by omega
      have hwr : w.heap.size ≤ wr.heap.size := hb.size
      have HOWN := Lib.hid hown
      have HBR := Lib.hid hb
      rw [← hit] at hcs HNI
      have HIT := Lib.hid hit
      have HCS := Lib.hid hcs
      clear hit hcs hcell hown hb holn
      obtain ⟨op, d, a, b, m, tg⟩ := it
      obtain ⟨c0, c1, c2, c3, c4, c5⟩ := HCS.out
      simp only at c0 c1 c2 c3 c4 c5 HNI
      cases hj : jumpB op
      · have HJ := fun w => Lib.hid (jmp_as op w hj)
        rw [hj] at HNI
        simp only [Bool.false_eq_true, if_false] at HNI
        clear hj
        by_cases hc : checkE op d a b m = 0
        · have HCHK := fun w => Lib.hid (chkR_as op d a b m w hc)
          rw [if_pos hc] at HNI
          clear hc
          go_wp2_with (go_at_call 30; refine (HJ _).out.mono ?_; rintro e w6 ⟨rfl, rfl⟩)
          go_wp2_with fail
          refine (HCHK _).out.mono ?_
          rintro e w5 ⟨rfl, hb5⟩
          have hblk := (Blk.new wr [.int .i64 op, .int .i64 d, .int .i64 a, .int .i64 b, .int .i64 m, .int .i64 (-1)] 41).below hb5 (by simp)
          have c0 := hblk.cell 0
          have c1 := hblk.cell 1
          have c2 := hblk.cell 2
          have c3 := hblk.cell 3
          have c4 := hblk.cell 4
          have c5 := hblk.cell 5
          simp only [List.getElem?_cons_zero, List.getElem?_cons_succ] at c0 c1 c2 c3 c4 c5
          have f0 := hblk.free 0
          have f1 := hblk.free 1
          have f2 := hblk.free 2
          have f3 := hblk.free 3
          have f4 := hblk.free 4
          have f5 := hblk.free 5
          have hsz5 : w5.heap.size = w5.heap.size := rfl
          have HB5 := Lib.hid ((HBR.out.alloc hwr (.cells #[.int .i64 op, .int .i64 d, .int .i64 a, .int .i64 b, .int .i64 m, .int .i64 (-1)] 41)).trans (hb5.mono (by simp; omega)))
          have HOWN6 := Lib.hid (owns_laterR (HOWN.out.alloc _) hb5)
          have hlt5 : wr.heap.size < w5.heap.size := by have := hb5.size; simp at this; omega
          clear hb5 hblk hsz5
          go_wp2_with (at_builtin; refine wpList_append_own _ rfl _ _ 34 rfl w.heap.size 41 i0 _ 6 48 Try.underlying34 hi0 hz0 hz1 hz2 rfl (by decide) _ _ _ rfl (HOWN6.out.alloc _) ⟨w5.heap.size, 0, none⟩ 1 1 [.int .i64 op, .int .i64 d, .int .i64 a, .int .i64 b, .int .i64 m, .int .i64 (-1)] rfl rfl ?zmuo1 ?zmuo2 ?zmuo3 ?zmuo4 ?zmuo5 ?_)
          case zmuo1 => exact cells_new6 w5 (by simp) _ _ _ _ _ _ _
          case zmuo2 => intro u hu; simp at hu; rcases hu with rfl | rfl | rfl | rfl | rfl | rfl <;> rfl
          case zmuo3 => unfold maxLen; omega
          case zmuo4 => omega
          case zmuo5 => have h1 := HB5.out.size; simp; omega
          · intro v' w7 hown' hgrow _
            have hb7 := (HB5.out.alloc (by have h1 := HB5.out.size; simp; omega) _).grown hgrow (by have h1 := HB5.out.size; simp; omega) (fun q hq => (HOWN6.out.lt q hq).1)
            have hown7 : w7.ownsRow w.heap.size 41 6 v' (outI its len k ++ [normI len (itAt its k)]).length ((outI its len k ++ [normI len (itAt its k)]).flatMap itemCells) := by
              rw [← HIT.out, HNI.out, List.length_append, List.flatMap_append]; exact hown'
            have HO7 := Lib.hid hown7
            have HB7 := Lib.hid hb7
            clear hown' hgrow hb7 hown7
            go_wp2_with fail
            go_roundw
            case rel => exact ⟨k + 1, by omega, by go_num, by rw [HSUC.out]; exact HO7.out, HB7.out⟩
            case measure => simp [intOf]; omega
        · obtain ⟨cc, hcc⟩ : ∃ cc, cc = checkE op d a b m := ⟨_, rfl⟩
          have HCHK := fun w => Lib.hid (chkR_as op d a b m w hcc.symm)
          rw [if_neg hc] at HNI
          have hcn : (cc != 0) = true := by rw [bne_iff_ne, hcc]; exact hc
          clear hc hcc
          go_wp2_with (go_at_call 30; refine (HJ _).out.mono ?_; rintro e w6 ⟨rfl, rfl⟩)
          go_wp2_with fail
          refine (HCHK _).out.mono ?_
          rintro e w5 ⟨rfl, hb5⟩
          have hblk := (Blk.new wr [.int .i64 op, .int .i64 d, .int .i64 a, .int .i64 b, .int .i64 m, .int .i64 (-1)] 41).below hb5 (by simp)
          have c0 := hblk.cell 0
          have c1 := hblk.cell 1
          have c2 := hblk.cell 2
          have c3 := hblk.cell 3
          have c4 := hblk.cell 4
          have c5 := hblk.cell 5
          simp only [List.getElem?_cons_zero, List.getElem?_cons_succ] at c0 c1 c2 c3 c4 c5
          have f0 := hblk.free 0
          have f1 := hblk.free 1
          have f2 := hblk.free 2
          have f3 := hblk.free 3
          have f4 := hblk.free 4
          have f5 := hblk.free 5
          have hsz5 : w5.heap.size = w5.heap.size := rfl
          have HB5 := Lib.hid ((HBR.out.alloc hwr (.cells #[.int .i64 op, .int .i64 d, .int .i64 a, .int .i64 b, .int .i64 m, .int .i64 (-1)] 41)).trans (hb5.mono (by simp; omega)))
          have HOWN6 := Lib.hid (owns6 (b := wr.heap.size) (owns_laterR (HOWN.out.alloc _) hb5) (fun q hq => by have := (HOWN.out.lt q hq).2; simp; omega) (.int .i64 22) (.int .i64 0) (.int .i64 0) (.int .i64 0) (.int .i64 0) (.int .i64 (-1)))
          have hlt5 : wr.heap.size < w5.heap.size := by have := hb5.size; simp at this; omega
          clear hb5 hblk hsz5
          go_wp2_with (at_builtin; refine wpList_append_own _ rfl _ _ 34 rfl w.heap.size 41 i0 _ 6 48 Try.underlying34 hi0 hz0 hz1 hz2 rfl (by decide) _ _ _ rfl (HOWN6.out.alloc _) ⟨w5.heap.size, 0, none⟩ 1 1 [.int .i64 22, .int .i64 0, .int .i64 0, .int .i64 0, .int .i64 0, .int .i64 (-1)] rfl rfl ?zmub1 ?zmub2 ?zmub3 ?zmub4 ?zmub5 ?_)
          case zmub1 => exact cells_new6 ((((((w5.setCell ⟨wr.heap.size, 0, none⟩ (.int .i64 22)).setCell ⟨wr.heap.size, 1, none⟩ (.int .i64 0)).setCell ⟨wr.heap.size, 2, none⟩ (.int .i64 0)).setCell ⟨wr.heap.size, 3, none⟩ (.int .i64 0)).setCell ⟨wr.heap.size, 4, none⟩ (.int .i64 0)).setCell ⟨wr.heap.size, 5, none⟩ (.int .i64 (-1))) (by simp) _ _ _ _ _ _ _
          case zmub2 => intro u hu; simp at hu; rcases hu with rfl | rfl | rfl | rfl | rfl | rfl <;> rfl
          case zmub3 => unfold maxLen; omega
          case zmub4 => omega
          case zmub5 => have h1 := HB5.out.size; simp; omega
          · intro v' w7 hown' hgrow _
            have hb7 := ((below6 HB5.out hwr (.int .i64 22) (.int .i64 0) (.int .i64 0) (.int .i64 0) (.int .i64 0) (.int .i64 (-1))).alloc (by have h1 := HB5.out.size; simp; omega) _).grown hgrow (by have h1 := HB5.out.size; simp; omega) (fun q hq => (HOWN6.out.lt q hq).1)
            have hown7 : w7.ownsRow w.heap.size 41 6 v' (outI its len k ++ [normI len (itAt its k)]).length ((outI its len k ++ [normI len (itAt its k)]).flatMap itemCells) := by
              rw [← HIT.out, HNI.out, List.length_append, List.flatMap_append]; exact hown'
            have HO7 := Lib.hid hown7
            have HB7 := Lib.hid hb7
            clear hown' hgrow hb7 hown7
            go_wp2_with fail
            go_roundw
            case rel => exact ⟨k + 1, by omega, by go_num, by rw [HSUC.out]; exact HO7.out, HB7.out⟩
            case measure => simp [intOf]; omega
      · have HJ := fun w => Lib.hid (jmp_as op w hj)
        have HRS := fun w => Lib.hid (rest_any tg (len : Int) w (by omega) (by omega))
        obtain ⟨tn, htn⟩ : ∃ tn, tn = tg % (len : Int) := ⟨_, rfl⟩
        rw [← htn] at HNI HRS
        rw [hj] at HNI
        simp only [if_true] at HNI
        clear hj htn
        by_cases hc : checkE op d a b 0 = 0
        · have HCHK := fun w => Lib.hid (chkR_as op d a b 0 w hc)
          rw [if_pos hc] at HNI
          clear hc
          go_wp2_with (first | (go_at_call 30; refine (HJ _).out.mono ?_; rintro e w6 ⟨rfl, rfl⟩) | (go_at_call 26; refine (HRS _).out.mono ?_; rintro e w6 ⟨rfl, rfl⟩))
          go_wp2_with fail
          refine (HCHK _).out.mono ?_
          rintro e w5 ⟨rfl, hb5⟩
          have hblk := (Blk.new wr [.int .i64 op, .int .i64 d, .int .i64 a, .int .i64 b, .int .i64 0, .int .i64 tn] 41).below hb5 (by simp)
          have c0 := hblk.cell 0
          have c1 := hblk.cell 1
          have c2 := hblk.cell 2
          have c3 := hblk.cell 3
          have c4 := hblk.cell 4
          have c5 := hblk.cell 5
          simp only [List.getElem?_cons_zero, List.getElem?_cons_succ] at c0 c1 c2 c3 c4 c5
          have f0 := hblk.free 0
          have f1 := hblk.free 1
          have f2 := hblk.free 2
          have f3 := hblk.free 3
          have f4 := hblk.free 4
          have f5 := hblk.free 5
          have hsz5 : w5.heap.size = w5.heap.size := rfl
          have HB5 := Lib.hid ((HBR.out.alloc hwr (.cells #[.int .i64 op, .int .i64 d, .int .i64 a, .int .i64 b, .int .i64 0, .int .i64 tn] 41)).trans (hb5.mono (by simp; omega)))
          have HOWN6 := Lib.hid (owns_laterR (HOWN.out.alloc _) hb5)
          have hlt5 : wr.heap.size < w5.heap.size := by have := hb5.size; simp at this; omega
          clear hb5 hblk hsz5
          go_wp2_with (at_builtin; refine wpList_append_own _ rfl _ _ 34 rfl w.heap.size 41 i0 _ 6 48 Try.underlying34 hi0 hz0 hz1 hz2 rfl (by decide) _ _ _ rfl (HOWN6.out.alloc _) ⟨w5.heap.size, 0, none⟩ 1 1 [.int .i64 op, .int .i64 d, .int .i64 a, .int .i64 b, .int .i64 0, .int .i64 tn] rfl rfl ?z0to1 ?z0to2 ?z0to3 ?z0to4 ?z0to5 ?_)
          case z0to1 => exact cells_new6 w5 (by simp) _ _ _ _ _ _ _
          case z0to2 => intro u hu; simp at hu; rcases hu with rfl | rfl | rfl | rfl | rfl | rfl <;> rfl
          case z0to3 => unfold maxLen; omega
          case z0to4 => omega
          case z0to5 => have h1 := HB5.out.size; simp; omega
          · intro v' w7 hown' hgrow _
            have hb7 := (HB5.out.alloc (by have h1 := HB5.out.size; simp; omega) _).grown hgrow (by have h1 := HB5.out.size; simp; omega) (fun q hq => (HOWN6.out.lt q hq).1)
            have hown7 : w7.ownsRow w.heap.size 41 6 v' (outI its len k ++ [normI len (itAt its k)]).length ((outI its len k ++ [normI len (itAt its k)]).flatMap itemCells) := by
              rw [← HIT.out, HNI.out, List.length_append, List.flatMap_append]; exact hown'
            have HO7 := Lib.hid hown7
            have HB7 := Lib.hid hb7
            clear hown' hgrow hb7 hown7
            go_wp2_with fail
            go_roundw
            case rel => exact ⟨k + 1, by omega, by go_num, by rw [HSUC.out]; exact HO7.out, HB7.out⟩
            case measure => simp [intOf]; omega
        · obtain ⟨cc, hcc⟩ : ∃ cc, cc = checkE op d a b 0 := ⟨_, rfl⟩
          have HCHK := fun w => Lib.hid (chkR_as op d a b 0 w hcc.symm)
          rw [if_neg hc] at HNI
          have hcn : (cc != 0) = true := by rw [bne_iff_ne, hcc]; exact hc
          clear hc hcc
          go_wp2_with (first | (go_at_call 30; refine (HJ _).out.mono ?_; rintro e w6 ⟨rfl, rfl⟩) | (go_at_call 26; refine (HRS _).out.mono ?_; rintro e w6 ⟨rfl, rfl⟩))
          go_wp2_with fail
          refine (HCHK _).out.mono ?_
          rintro e w5 ⟨rfl, hb5⟩
          have hblk := (Blk.new wr [.int .i64 op, .int .i64 d, .int .i64 a, .int .i64 b, .int .i64 0, .int .i64 tn] 41).below hb5 (by simp)
          have c0 := hblk.cell 0
          have c1 := hblk.cell 1
          have c2 := hblk.cell 2
          have c3 := hblk.cell 3
          have c4 := hblk.cell 4
          have c5 := hblk.cell 5
          simp only [List.getElem?_cons_zero, List.getElem?_cons_succ] at c0 c1 c2 c3 c4 c5
          have f0 := hblk.free 0
          have f1 := hblk.free 1
          have f2 := hblk.free 2
          have f3 := hblk.free 3
          have f4 := hblk.free 4
          have f5 := hblk.free 5
          have hsz5 : w5.heap.size = w5.heap.size := rfl
          have HB5 := Lib.hid ((HBR.out.alloc hwr (.cells #[.int .i64 op, .int .i64 d, .int .i64 a, .int .i64 b, .int .i64 0, .int .i64 tn] 41)).trans (hb5.mono (by simp; omega)))
          have HOWN6 := Lib.hid (owns6 (b := wr.heap.size) (owns_laterR (HOWN.out.alloc _) hb5) (fun q hq => by have := (HOWN.out.lt q hq).2; simp; omega) (.int .i64 22) (.int .i64 0) (.int .i64 0) (.int .i64 0) (.int .i64 0) (.int .i64 (-1)))
          have hlt5 : wr.heap.size < w5.heap.size := by have := hb5.size; simp at this; omega
          clear hb5 hblk hsz5
          go_wp2_with (at_builtin; refine wpList_append_own _ rfl _ _ 34 rfl w.heap.size 41 i0 _ 6 48 Try.underlying34 hi0 hz0 hz1 hz2 rfl (by decide) _ _ _ rfl (HOWN6.out.alloc _) ⟨w5.heap.size, 0, none⟩ 1 1 [.int .i64 22, .int .i64 0, .int .i64 0, .int .i64 0, .int .i64 0, .int .i64 (-1)] rfl rfl ?z0tb1 ?z0tb2 ?z0tb3 ?z0tb4 ?z0tb5 ?_)
          case z0tb1 => exact cells_new6 ((((((w5.setCell ⟨wr.heap.size, 0, none⟩ (.int .i64 22)).setCell ⟨wr.heap.size, 1, none⟩ (.int .i64 0)).setCell ⟨wr.heap.size, 2, none⟩ (.int .i64 0)).setCell ⟨wr.heap.size, 3, none⟩ (.int .i64 0)).setCell ⟨wr.heap.size, 4, none⟩ (.int .i64 0)).setCell ⟨wr.heap.size, 5, none⟩ (.int .i64 (-1))) (by simp) _ _ _ _ _ _ _
          case z0tb2 => intro u hu; simp at hu; rcases hu with rfl | rfl | rfl | rfl | rfl | rfl <;> rfl
          case z0tb3 => unfold maxLen; omega
          case z0tb4 => omega
          case z0tb5 => have h1 := HB5.out.size; simp; omega
          · intro v' w7 hown' hgrow _
            have hb7 := ((below6 HB5.out hwr (.int .i64 22) (.int .i64 0) (.int .i64 0) (.int .i64 0) (.int .i64 0) (.int .i64 (-1))).alloc (by have h1 := HB5.out.size; simp; omega) _).grown hgrow (by have h1 := HB5.out.size; simp; omega) (fun q hq => (HOWN6.out.lt q hq).1)
            have hown7 : w7.ownsRow w.heap.size 41 6 v' (outI its len k ++ [normI len (itAt its k)]).length ((outI its len k ++ [normI len (itAt its k)]).flatMap itemCells) := by
              rw [← HIT.out, HNI.out, List.length_append, List.flatMap_append]; exact hown'
            have HO7 := Lib.hid hown7
            have HB7 := Lib.hid hb7
            clear hown' hgrow hb7 hown7
            go_wp2_with fail
            go_roundw
            case rel => exact ⟨k + 1, by omega, by go_num, by rw [HSUC.out]; exact HO7.out, HB7.out⟩
            case measure => simp [intOf]; omega
    · have ek : k = len := by omega
      subst ek
      have HOWN := Lib.hid hown
      have HBR := Lib.hid hb
      clear hown hb
      go_wp2_with fail
      go_ret
      exact ⟨_, rfl, HOWN.out, HBR.out⟩
end Go.Proofs.Ytekckijcljgaoaa
