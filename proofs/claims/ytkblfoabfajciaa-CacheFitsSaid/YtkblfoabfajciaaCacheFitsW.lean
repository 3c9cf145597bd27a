/- The walk of CacheFits. -/
import Derived.Test.YtkblfoabfajciaaCacheMath
namespace Go.Proofs.Ytkblfoabfajciaa
open Go.RowKit
set_option linter.unusedVariables false
set_option linter.unusedSimpArgs false

/-- the lines that were seen, and how many -/
def seenL (W : Nat) : List Nat → (Nat → Bool) × Nat
  | [] => (fun _ => false, 0)
  | w :: r => let p := seenL W r; if p.1 (w / W) = true then p else (upd p.1 (w / W) true, p.2 + 1)
def seenK (W : Nat) (zs : List Int) (k : Nat) : (Nat → Bool) × Nat := seenL W ((zs.take k).map wordOf).reverse
theorem seenK_succ (W : Nat) (zs : List Int) (k : Nat) (h : k < zs.length) : seenK W zs (k + 1) = if (seenK W zs k).1 (wordOf zs[k] / W) = true then seenK W zs k else (upd (seenK W zs k).1 (wordOf zs[k] / W) true, (seenK W zs k).2 + 1) := by
  unfold seenK
  rw [List.take_succ_eq_append_getElem h, List.map_append, List.reverse_append]
  rfl
theorem seenL_le (W : Nat) (l : List Nat) : (seenL W l).2 ≤ l.length := by
  induction l with
  | nil => exact Nat.le_refl _
  | cons w r ih =>
    show (if (seenL W r).1 (w / W) = true then seenL W r else (upd (seenL W r).1 (w / W) true, (seenL W r).2 + 1)).2 ≤ _
    split <;> simp <;> omega
theorem seenK_le (W : Nat) (zs : List Int) (k : Nat) : (seenK W zs k).2 ≤ k := by
  refine Nat.le_trans (seenL_le W _) ?_
  rw [List.length_reverse, List.length_map, List.length_take]
  omega
theorem seenK_all (W : Nat) (zs : List Int) (k : Nat) (h1 : k ≤ 60) (h2 : k = 60 ∨ k = zs.length) : (seenK W zs k).2 = (seenK W zs 60).2 := by
  unfold seenK
  rcases h2 with rfl | rfl
  · rfl
  · rw [List.take_of_length_le (Nat.le_refl _), List.take_of_length_le h1]

theorem fits_run (W m : Nat) (hW : 1 ≤ W) (l : List Nat) (hl : ∀ w ∈ l, w < 200) : (∀ i, (runL ⟨W, 256, 1, m⟩ l).1 i = if (seenL W l).1 i = true then [((i : Int), false)] else []) ∧ (runL ⟨W, 256, 1, m⟩ l).2 = (seenL W l).2 := by
  induction l with
  | nil => exact ⟨fun i => rfl, rfl⟩
  | cons wd r ih =>
    obtain ⟨h1, h2⟩ := ih fun w hw => hl w (List.mem_cons_of_mem _ hw)
    have hwd := hl wd List.mem_cons_self
    have hln : wd / W < 256 := Nat.lt_of_le_of_lt (Nat.div_le_self _ _) (by omega)
    have hix : wd / W % 256 = wd / W := Nat.mod_eq_of_lt hln
    show (∀ i, stepL ⟨W, 256, 1, m⟩ wd false (runL ⟨W, 256, 1, m⟩ r).1 i = if (if (seenL W r).1 (wd / W) = true then seenL W r else (upd (seenL W r).1 (wd / W) true, (seenL W r).2 + 1)).1 i = true then [((i : Int), false)] else []) ∧
      mN ⟨W, 256, 1, m⟩ wd (runL ⟨W, 256, 1, m⟩ r).1 (runL ⟨W, 256, 1, m⟩ r).2 = (if (seenL W r).1 (wd / W) = true then seenL W r else (upd (seenL W r).1 (wd / W) true, (seenL W r).2 + 1)).2
    generalize runL ⟨W, 256, 1, m⟩ r = A at h1 h2 ⊢
    generalize seenL W r = S at h1 h2 ⊢
    obtain ⟨xa, ma⟩ := A
    obtain ⟨se, n⟩ := S
    simp only at h1 h2 ⊢
    obtain ⟨ln, hlne⟩ : ∃ ln, ln = wd / W := ⟨_, rfl⟩
    rw [← hlne] at hix ⊢
    have e1 : ∀ i, stepL ⟨W, 256, 1, m⟩ wd false xa i = if i = ln then acc 1 (ln : Int) false (xa ln) else xa i := fun i => by
      show upd xa (wd / W % 256) (acc 1 ((wd / W : Nat) : Int) false (xa (wd / W % 256))) i = _
      rw [← hlne, hix]; rfl
    have e3 : mN ⟨W, 256, 1, m⟩ wd xa ma = if accHit (ln : Int) (xa ln) = true then ma else ma + 1 := by
      show (if accHit ((wd / W : Nat) : Int) (xa (wd / W % 256)) = true then ma else ma + 1) = _
      rw [← hlne, hix]
    have hxl := h1 ln
    cases hs : se ln
    · have hxe : xa ln = [] := by rw [hxl, if_neg (by simp [hs])]
      have ha : acc 1 (ln : Int) false [] = [((ln : Int), false)] := by unfold acc; simp [lineAt]
      have hh : accHit (ln : Int) [] = false := by simp [accHit, lineAt]
      refine ⟨fun i => ?_, ?_⟩
      · rw [e1, hxe, ha]
        by_cases e : i = ln
        · subst e; simp [upd]
        · simp [e, upd, h1 i]
      · rw [e3, hxe, hh]; simp [h2]
    · have hxe : xa ln = [((ln : Int), false)] := by rw [hxl, if_pos hs]
      have ha : acc 1 (ln : Int) false [((ln : Int), false)] = [((ln : Int), false)] := by unfold acc; simp [lineAt]
      have hh : accHit (ln : Int) [((ln : Int), false)] = true := by simp [accHit, lineAt]
      refine ⟨fun i => ?_, ?_⟩
      · rw [e1, hxe, ha]
        by_cases e : i = ln
        · subst e; simp [hs]
        · simp [e, h1 i]
      · rw [e3, hxe, hh]; simp [h2]
theorem fits_eq (W m : Nat) (hW : 1 ≤ W) (zs : List Int) : missN ⟨W, 256, 1, m⟩ zs = (seenK W zs 60).2 := (fits_run W m hW _ fun w hw => by
  rw [List.mem_reverse, List.mem_map] at hw
  obtain ⟨z, _, rfl⟩ := hw
  exact wordOf_lt z).2

theorem Try.infoB4 : (Try.prog.info? 4).map (fun i => (i.zero, i.size, i.bytes)) = some (some (.bool false), 1, 1) := by kernel_rfl

set_option maxRecDepth 100000 in
set_option maxHeartbeats 4000000 in
theorem cacheFits_walk (a0 : Int) (la : Option Addr) (len cap : Nat) (zs : List Int) (w : World)
    (_ : -9223372036854775808 ≤ a0 ∧ a0 ≤ 9223372036854775807)
    (h0 : Came w la len cap 1 (zs.map intCells) ∧ ∀ z ∈ zs, I64 z) :
    Calls Try.prog 5 #[.int .i64 a0, .slice la len cap] w fun e w' => e = .returned (.bool true) ∧ Below w.heap.size w w' := by
  have hzl : zs.length = len := by simpa using h0.1.count
  have HZ := Lib.hid hzl
  have hle := h0.1.le
  have hmx := h0.1.max
  have HC := Lib.hid h0.1
  clear h0 hzl
  obtain ⟨a, ha⟩ : ∃ x : Nat, (x : Int) = a0 % 8 := ⟨(a0 % 8).toNat, by omega⟩
  have hab : a < 8 := by omega
  have R1 : ∀ w, Calls Try.prog 11 #[.int .i64 a0, .int .i64 8] w fun e w' => e = .returned (.int .i64 (a : Int)) ∧ w = w' := fun w => by rw [ha]; exact rest_any a0 8 w (by omega) (by omega)
  have o1 : (Conf.mk (1 + a) 256 1 1).Ok := ⟨by dsimp only; omega, by dsimp only; omega, by dsimp only; omega, by dsimp only; omega⟩
  have M1 : ∀ wx, Came wx la len cap 1 (zs.map intCells) → Calls Try.prog 10 #[.agg #[.int .i64 (1 + (a : Int)), .int .i64 256, .int .i64 1, .int .i64 1], .agg #[.int .i64 (1 + (a : Int)), .int .i64 256, .int .i64 1, .int .i64 1], .slice la len cap] wx (IntB (missN ⟨1 + a, 256, 1, 1⟩ zs) wx) := fun wx hx => by
    have := misses_any ⟨1 + a, 256, 1, 1⟩ ⟨1 + a, 256, 1, 1⟩ o1 o1 la len cap zs wx hx
    simpa [Conf.val] using this
  rw [fits_eq (1 + a) 1 (by omega) zs] at M1
  have hmk := run_make_rep (P := Try.prog) 32 4 (.bool false) 1 Try.underlying32 Try.infoB4 rfl 200 (by omega) (by omega)
  have e200 : ((200 : Nat) : Int) = 200 := rfl
  rw [e200] at hmk
  have mx60 : max (60 : Int) 0 = 60 := by omega
  clear o1 ha e200
  rcases Nat.lt_or_ge 60 len with hbig | hbig
  case' inl => have mn : min (len : Int) 60 = 60 := by omega
  case' inr => have mn : min (len : Int) 60 = (len : Int) := by omega
  all_goals
    go_enter Try.func5, Try.ntmps5
    go_wp2_with fail
    refine (cacheFactK_ok _).mono ?_
    rintro e w1 ⟨rfl, hb1⟩
    go_wp2_with (first
      | (go_at_call 11; refine (R1 _).mono ?_; rintro e w' ⟨rfl, rfl⟩))
    have hA := (Blk.new w1 [.int .i64 (1 + (a : Int)), .int .i64 256, .int .i64 1, .int .i64 1] 23).alloc (.cells (rowL 200 fun x => Value.bool false).toArray 4)
    have hS := Blk.new (w1.alloc (.cells #[.int .i64 (1 + (a : Int)), .int .i64 256, .int .i64 1, .int .i64 1] 23)) (rowL 200 fun x => Value.bool false) 4
    have hb2 : Below w.heap.size w ((w1.alloc (.cells #[.int .i64 (1 + (a : Int)), .int .i64 256, .int .i64 1, .int .i64 1] 23)).alloc (.cells (rowL 200 fun x => Value.bool false).toArray 4)) := (hb1.alloc hb1.size _).alloc (by have := hb1.size; simp; omega) _
    rw [World.size_alloc] at hS
    obtain ⟨w2, hw2⟩ : ∃ w2, w2 = (w1.alloc (.cells #[.int .i64 (1 + (a : Int)), .int .i64 256, .int .i64 1, .int .i64 1] 23)).alloc (.cells (rowL 200 fun x => Value.bool false).toArray 4) := ⟨_, rfl⟩
    rw [← hw2] at hA hS hb2 ⊢
    have hbs : w.heap.size ≤ w1.heap.size := hb1.size
    have HA := Lib.hid hA
    have HS := Lib.hid hS
    have HB2 := Lib.hid hb2
    clear hw2 hA hS hb2 hb1 hmk
    go_loopw [7, 24] (fun nv u wr => ∃ k : Nat, k ≤ 60 ∧ k ≤ len ∧ u = .int .i64 (k : Int) ∧ nv = .int .i64 ((seenK (1 + a) zs k).2 : Int) ∧ Blk wr w1.heap.size 23 [.int .i64 (1 + (a : Int)), .int .i64 256, .int .i64 1, .int .i64 1] ∧
      Blk wr (w1.heap.size + 1) 4 (rowL 200 fun i => .bool ((seenK (1 + a) zs k).1 i)) ∧ Below w.heap.size w wr) (fun _ u _ => len - (intOf u).toNat)
    case atStart => exact ⟨0, by omega, by omega, rfl, rfl, HA.out, HS.out, HB2.out⟩
    case round =>
      obtain ⟨k, hk1, hk2, rfl, rfl, hA, hS, hbe⟩ := hrel
      clear HA HS HB2
      by_cases hlt : k < len ∧ k < 60
      · obtain ⟨hk3, hk4⟩ := hlt
        have hk5 : (k : Int) < 60 := by omega
        obtain ⟨b, off, ea, _, hcell⟩ := (HC.out.below hbe).ints (by omega)
        subst ea
        have hkl : k < zs.length := by have := HZ.out; omega
        have cl := hcell k hkl
        have HRS := Lib.hid (seenK_succ (1 + a) zs k hkl)
        obtain ⟨z, hz⟩ : ∃ z, z = zs[k] := ⟨_, rfl⟩
        rw [← hz] at cl HRS
        clear hcell hz
        have hwl := wordOf_lt z
        have hwz : ((wordOf z : Nat) : Int) = z % 200 := by unfold wordOf; omega
        have HRZ : ∀ w, Calls Try.prog 11 #[.int .i64 z, .int .i64 200] w fun e w' => e = .returned (.int .i64 (wordOf z : Int)) ∧ w' = w := fun w => by rw [hwz]; exact (rest_any z 200 w (by omega) (by omega)).mono fun _ _ ⟨p, q⟩ => ⟨p, q.symm⟩
        obtain ⟨wd, hwd⟩ : ∃ wd, wd = wordOf z := ⟨_, rfl⟩
        rw [← hwd] at HRZ HRS hwl
        obtain ⟨ln, hln⟩ : ∃ ln, ln = wd / (1 + a) := ⟨_, rfl⟩
        have e1 : (wd : Int).tdiv (1 + (a : Int)) = (ln : Int) := by
          rw [hln, Int.tdiv_eq_ediv_of_nonneg (Int.natCast_nonneg _)]; push_cast; rfl
        have z0 : (1 + (a : Int) == 0) = false := beq_eq_false_iff_ne.2 (by omega)
        have hlb : ln < 200 := by rw [hln]; exact Nat.lt_of_le_of_lt (Nat.div_le_self _ _) hwl
        rw [← hln] at HRS
        have d0 := hA.cell 0
        simp only [List.getElem?_cons_zero] at d0
        have ds := hS.row hlb
        have fs := hS.free ln
        have hnb := seenK_le (1 + a) zs k
        have HA := Lib.hid hA
        have HS := Lib.hid hS
        have HBE := Lib.hid hbe
        clear hA hS hbe hwz hwd hln
        generalize seenK (1 + a) zs k = S at ds HS HRS hnb ⊢
        obtain ⟨se, n⟩ := S
        simp only at ds hnb ⊢
        cases hse : se ln
        · rw [hse] at ds
          have HR2 : Hid (seenK (1 + a) zs (k + 1) = (upd se ln true, n + 1)) := by unfold Hid; rw [HRS.out, if_neg (by simp [hse])]
          clear hse HRS
          go_wp2_with fail
          go_quiet ((go_at_call 11; exact Calls.quiet_of_same (HRZ _)))
          go_wp2_with fail
          go_roundw
          case rel =>
            refine ⟨k + 1, by omega, by omega, by go_num, by rw [HR2.out]; rfl, ?_, ?_, ?_⟩
            · exact (HA.out.drewN nq).setOther (a := ⟨w1.heap.size + 1, ln, none⟩) (by simp) _
            · rw [HR2.out]
              refine (HS.out.drewN nq).rowSet ln (.bool true) |>.rowCongr fun i _ => ?_
              by_cases e : i = ln
              · subst e; simp [upd_same]
              · rw [if_neg e]; show _ = Value.bool (upd se ln true i); rw [upd_other _ _ e]
            · exact (HBE.out.trans (below_drewN_self _ _ nq)).setCell (p := ⟨w1.heap.size + 1, ln, none⟩) (by show w.heap.size ≤ w1.heap.size + 1; omega) _
          case measure => simp [intOf]; omega
        · rw [hse] at ds
          have HR2 : Hid (seenK (1 + a) zs (k + 1) = (se, n)) := by unfold Hid; rw [HRS.out, if_pos (by simp [hse])]
          clear hse HRS
          go_wp2_with fail
          go_quiet ((go_at_call 11; exact Calls.quiet_of_same (HRZ _)))
          go_wp2_with fail
          go_roundw
          case rel => exact ⟨k + 1, by omega, by omega, by go_num, by rw [HR2.out], HA.out.drewN nq, by rw [HR2.out]; exact HS.out.drewN nq, HBE.out.trans (below_drewN_self _ _ nq)⟩
          case measure => simp [intOf]; omega
      · have hz2 : k = 60 ∨ k = len := by omega
        have HALL : Hid ((seenK (1 + a) zs k).2 = (seenK (1 + a) zs 60).2) := seenK_all (1 + a) zs k hk1 (by have := HZ.out; omega)
        first
          | (have hz3 : ¬ (k : Int) < 60 := by omega)
          | (have hz3 : ¬ k < len := by omega)
        have d0 := hA.cell 0
        have d1 := hA.cell 1
        have d2 := hA.cell 2
        have d3 := hA.cell 3
        simp only [List.getElem?_cons_succ, List.getElem?_cons_zero] at d0 d1 d2 d3
        rw [HALL.out]
        have zn : (((seenK (1 + a) zs 60).2 : Int) == ((seenK (1 + a) zs 60).2 : Int)) = true := beq_self_eq_true _
        generalize (seenK (1 + a) zs 60).2 = n at M1 zn ⊢
        have HBE := Lib.hid hbe
        clear hA hS hbe hz2 hlt HALL
        go_wp2_with fail
        refine (M1 _ (HC.out.below HBE.out)).mono ?_
        rintro e w9 ⟨rfl, hb9⟩
        have HB9 := Lib.hid (HBE.out.trans (hb9.mono HBE.out.size))
        clear hb9
        go_wp2_with fail
        go_ret
        exact ⟨rfl, HB9.out⟩
end Go.Proofs.Ytkblfoabfajciaa
