/- The contracts of misses and of the fact. -/
import Derived.Test.YtkblfoabfajciaaCacheC
namespace Go.Proofs.Ytkblfoabfajciaa
open Go.RowKit
set_option linter.unusedVariables false
set_option linter.unusedSimpArgs false

/-- the first level and the misses behind a list of words -/
def runL (c : Conf) : List Nat → (Nat → List CLine) × Nat
  | [] => (fun _ => [], 0)
  | w :: r => let p := runL c r; (stepL c w false p.1, mN c w p.1 p.2)
def wordOf (z : Int) : Nat := (z % 200).toNat
/-- behind the first k words (the last one ahead) -/
def runK (c : Conf) (zs : List Int) (k : Nat) : (Nat → List CLine) × Nat := runL c ((zs.take k).map wordOf).reverse
def missN (c : Conf) (zs : List Int) : Nat := (runK c zs 60).2
theorem runK_succ (c : Conf) (zs : List Int) (k : Nat) (h : k < zs.length) : runK c zs (k + 1) = (stepL c (wordOf zs[k]) false (runK c zs k).1, mN c (wordOf zs[k]) (runK c zs k).1 (runK c zs k).2) := by
  unfold runK
  rw [List.take_succ_eq_append_getElem h, List.map_append, List.reverse_append]
  rfl
theorem wordOf_lt (z : Int) : wordOf z < 200 := by unfold wordOf; omega
theorem runL_ok (c : Conf) (l : List Nat) (h : ∀ w ∈ l, w ≤ 65535) : LinesOk c (runL c l).1 := by
  induction l with
  | nil => exact LinesOk.nil c
  | cons w r ih => exact (ih fun x hx => h x (List.mem_cons_of_mem _ hx)).step (h w List.mem_cons_self) false
theorem runL_le (c : Conf) (l : List Nat) : (runL c l).2 ≤ l.length := by
  induction l with
  | nil => exact Nat.le_refl _
  | cons w r ih =>
    show mN c w (runL c r).1 (runL c r).2 ≤ _
    unfold mN
    split <;> simp <;> omega
theorem runK_ok (c : Conf) (zs : List Int) (k : Nat) : LinesOk c (runK c zs k).1 := runL_ok c _ fun w hw => by
  rw [List.mem_reverse, List.mem_map] at hw
  obtain ⟨z, _, rfl⟩ := hw
  have := wordOf_lt z
  omega
theorem runK_le (c : Conf) (zs : List Int) (k : Nat) : (runK c zs k).2 ≤ k := by
  refine Nat.le_trans (runL_le c _) ?_
  rw [List.length_reverse, List.length_map, List.length_take]
  omega
theorem runK_len (c : Conf) (zs : List Int) : (runK c zs 60).2 ≤ zs.length := by
  refine Nat.le_trans (runL_le c _) ?_
  rw [List.length_reverse, List.length_map, List.length_take]
  omega
theorem runK_all (c : Conf) (zs : List Int) (k : Nat) (h1 : k ≤ 60) (h2 : k = 60 ∨ k = zs.length) : (runK c zs k).2 = missN c zs := by
  unfold missN runK
  rcases h2 with rfl | rfl
  · rfl
  · rw [List.take_of_length_le (Nat.le_refl _), List.take_of_length_le h1]

def MisInv (w : World) (q p1 sb1 p2 sb2 : Nat) (c1 c2 : Conf) (zs : List Int) (k : Nat) (wr : World) : Prop :=
  ∃ sv1 sv2 x2, CacheSt wr q p1 sb1 p2 sb2 c1 c2 sv1 sv2 (runK c1 zs k).1 x2 (runK c1 zs k).2 ∧ (∀ b, OwnC q p1 sb1 p2 sb2 c1.sets c2.sets sv1 sv2 b → w.heap.size ≤ b) ∧ Below w.heap.size w wr

def IntB (n : Int) (w : World) (e : Ending) (w' : World) : Prop := e = .returned (.int .i64 n) ∧ Below w.heap.size w w'

set_option maxRecDepth 100000 in
set_option maxHeartbeats 4000000 in
theorem misses_any (c1 c2 : Conf) (ok1 : c1.Ok) (ok2 : c2.Ok) (a : Option Addr) (len cap : Nat) (zs : List Int) (w : World) (h : Came w a len cap 1 (zs.map intCells)) :
    Calls Try.prog 10 #[c1.val, c2.val, .slice a len cap] w (IntB (missN c1 zs) w) := by
  have hzl : zs.length = len := by simpa using h.count
  have HZ := Lib.hid hzl
  have hle := h.le
  have hmx := h.max
  have HC := Lib.hid h
  have HN := fun wx => cnew_ok c1 c2 ok1 ok2 wx
  have HOK1 := Lib.hid ok1
  have HOK2 := Lib.hid ok2
  have HV1 : Hid (c1.val = .agg #[.int .i64 (c1.words : Int), .int .i64 (c1.sets : Int), .int .i64 (c1.ways : Int), .int .i64 (c1.miss : Int)]) := rfl
  have HV2 : Hid (c2.val = .agg #[.int .i64 (c2.words : Int), .int .i64 (c2.sets : Int), .int .i64 (c2.ways : Int), .int .i64 (c2.miss : Int)]) := rfl
  simp only [Conf.val] at HN ⊢
  clear h hzl ok1 ok2
  have mx60 : max (60 : Int) 0 = 60 := by omega
  rcases Nat.lt_or_ge 60 len with hbig | hbig
  case' inl => have mn : min (len : Int) 60 = 60 := by omega
  case' inr => have mn : min (len : Int) 60 = (len : Int) := by omega
  all_goals
    go_enter Try.func10, Try.ntmps10
    go_wp2_with fail
    refine (HN _).mono ?_
    rintro e w2 ⟨q, p1, sb1, p2, sb2, rfl, hst, hown, hb2⟩
    have hb1 : Below w.heap.size w ((w.alloc (.cells #[.int .i64 (c1.words : Int), .int .i64 (c1.sets : Int), .int .i64 (c1.ways : Int), .int .i64 (c1.miss : Int)] 23)).alloc (.cells #[.int .i64 (c2.words : Int), .int .i64 (c2.sets : Int), .int .i64 (c2.ways : Int), .int .i64 (c2.miss : Int)] 23)) := ((Below.refl _ _).alloc (Nat.le_refl _) _).alloc (by simp) _
    have HI : Hid (MisInv w q p1 sb1 p2 sb2 c1 c2 zs 0 w2) := ⟨_, _, _, hst, fun b hb => Nat.le_trans hb1.size (hown b hb), hb1.trans (hb2.mono hb1.size)⟩
    clear hst hown hb2 hb1 HN
    go_wp2_with fail
    go_loopw [29] (fun u wr => ∃ k : Nat, k ≤ 60 ∧ k ≤ len ∧ u = .int .i64 (k : Int) ∧ MisInv w q p1 sb1 p2 sb2 c1 c2 zs k wr) (fun u _ => len - (intOf u).toNat)
    case atStart => exact ⟨0, by omega, by omega, rfl, HI.out⟩
    case round =>
      clear HI
      obtain ⟨k, hk1, hk2, rfl, sv1, sv2, x2, hst, hown, hbe⟩ := hrel
      by_cases hlt : k < len ∧ k < 60
      · obtain ⟨hk3, hk4⟩ := hlt
        have hk5 : (k : Int) < 60 := by omega
        obtain ⟨b, off, ea, _, hcell⟩ := (HC.out.below hbe).ints (by omega)
        subst ea
        have hkl : k < zs.length := by have := HZ.out; omega
        have cl := hcell k hkl
        have HRS := Lib.hid (runK_succ c1 zs k hkl)
        obtain ⟨z, hz⟩ : ∃ z, z = zs[k] := ⟨_, rfl⟩
        rw [← hz] at cl HRS
        clear hcell hz
        have hwl := wordOf_lt z
        have hwz : ((wordOf z : Nat) : Int) = z % 200 := by unfold wordOf; omega
        have HRZ : ∀ w, Calls Try.prog 11 #[.int .i64 z, .int .i64 200] w fun e w' => e = .returned (.int .i64 (wordOf z : Int)) ∧ w = w' := fun w => by rw [hwz]; exact rest_any z 200 w (by omega) (by omega)
        have HAC := fun wx hx => caccess_ok wx q p1 sb1 p2 sb2 c1 c2 sv1 sv2 (runK c1 zs k).1 x2 (runK c1 zs k).2 hx HOK1.out HOK2.out (runK_ok c1 zs k) (by have := runK_le c1 zs k; omega) (wordOf z) false (by omega)
        obtain ⟨wd, hwd⟩ : ∃ wd, wd = wordOf z := ⟨_, rfl⟩
        rw [← hwd] at HRZ HAC HRS
        have HST := Lib.hid hst
        have HOW := Lib.hid hown
        have HBE := Lib.hid hbe
        clear hst hown hbe hwz hwd hwl
        go_wp2_with (first
          | (go_at_call 11; refine (HRZ _).mono ?_; rintro e w' ⟨rfl, rfl⟩))
        refine (HAC _ HST.out).mono ?_
        rintro e w4 ⟨sv1', sv2', rfl, hst4, hf4⟩
        have HI4 : Hid (MisInv w q p1 sb1 p2 sb2 c1 c2 zs (k + 1) w4) := ⟨sv1', sv2', x2N c1 c2 wd (runK c1 zs k).1 x2, by rw [HRS.out]; exact hst4, fun b hb => by
          rcases hf4.own b hb with e | e
          · exact HOW.out b e
          · exact Nat.le_trans HBE.out.size e, HBE.out.trans (hf4.below w.heap.size HOW.out HBE.out.size)⟩
        clear hst4 hf4 HAC HST
        go_wp2_with fail
        go_roundw
        case rel => exact ⟨k + 1, by omega, by omega, by go_num, HI4.out⟩
        case measure => simp [intOf]; omega
      · have hz2 : k = 60 ∨ k = len := by omega
        have HALL : Hid ((runK c1 zs k).2 = missN c1 zs) := runK_all c1 zs k hk1 (by have := HZ.out; omega)
        first
          | (have hz3 : ¬ (k : Int) < 60 := by omega)
          | (have hz3 : ¬ k < len := by omega)
        have HMS := fun wx hx => cmisses_ok wx q p1 sb1 p2 sb2 c1 c2 sv1 sv2 (runK c1 zs k).1 x2 (runK c1 zs k).2 hx
        have HST := Lib.hid hst
        have HBE := Lib.hid hbe
        clear hst hown hbe hz2 hlt
        go_wp2_with (go_at_call 18; refine (HMS _ HST.out).mono ?_; rintro e w' ⟨rfl, rfl⟩)
        go_ret
        exact ⟨ret_int (by rw [HALL.out]), HBE.out⟩

set_option maxHeartbeats 1000000 in
theorem cacheFactK_ok (w : World) : Calls Try.prog 8 #[] w fun e w' => e = .returned (.bool true) ∧ Below w.heap.size w w' := by
  have o1 : (Conf.mk 1 1 1 3).Ok := ⟨by decide, by decide, by decide, by decide⟩
  have o2 : (Conf.mk 1 1 1 4).Ok := ⟨by decide, by decide, by decide, by decide⟩
  have HN : ∀ w, Calls Try.prog 13 #[.agg #[.int .i64 1, .int .i64 1, .int .i64 1, .int .i64 3], .agg #[.int .i64 1, .int .i64 1, .int .i64 1, .int .i64 4]] w (NewCPost ⟨1, 1, 1, 3⟩ ⟨1, 1, 1, 4⟩ w) := fun w => cnew_ok ⟨1, 1, 1, 3⟩ ⟨1, 1, 1, 4⟩ o1 o2 w
  go_enter Try.func8, Try.ntmps8
  go_wp2_with fail
  refine (HN _).mono ?_
  rintro e w2 ⟨q, p1, sb1, p2, sb2, rfl, hst, hown, hb2⟩
  have HAC : ∀ wx, CacheSt wx q p1 sb1 p2 sb2 ⟨1, 1, 1, 3⟩ ⟨1, 1, 1, 4⟩ (fun _ => .slice none 0 0) (fun _ => .slice none 0 0) (fun _ => []) (fun _ => []) 0 → Calls Try.prog 15 #[.pointer (some ⟨q, 0, none⟩), .int .i64 5, .bool false] wx (AccCPost q p1 sb1 p2 sb2 ⟨1, 1, 1, 3⟩ ⟨1, 1, 1, 4⟩ (fun _ => .slice none 0 0) (fun _ => .slice none 0 0) (fun _ => []) (fun _ => []) 0 5 false wx) :=
    fun wx hx => caccess_ok wx q p1 sb1 p2 sb2 _ _ _ _ _ _ 0 hx o1 o2 (LinesOk.nil _) (by omega) 5 false (by omega)
  have HST := Lib.hid hst
  have HOW := Lib.hid hown
  have HB := Lib.hid hb2
  clear hst hown hb2
  go_wp2_with fail
  refine (HAC _ HST.out).mono ?_
  rintro e w3 ⟨sv1', sv2', he, hst3, hf3⟩
  have ee : (extraN ⟨1, 1, 1, 3⟩ ⟨1, 1, 1, 4⟩ 5 (fun _ => []) (fun _ => []) : Int) = 7 := by decide
  rw [ee] at he
  subst he
  have HB3 := Lib.hid (HB.out.trans (hf3.below w.heap.size HOW.out HB.out.size))
  clear hst3 hf3 ee
  go_wp2_with fail
  go_ret
  exact ⟨rfl, HB3.out⟩
end Go.Proofs.Ytkblfoabfajciaa
