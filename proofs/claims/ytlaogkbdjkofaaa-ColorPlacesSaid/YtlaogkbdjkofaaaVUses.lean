/- What an instruction in virtual code defines and uses: the program's functions and the reference's. -/
import Derived.Test.YtlaogkbdjkofaaaVDel
import Derived.Deep.Onto
namespace Go.Proofs.Ytlaogkbdjkofaaa
open Go.RowKit
set_option linter.unusedVariables false
set_option linter.unusedSimpArgs false

theorem Try.infoV3 : (Try.prog.info? 3).map (fun i => (i.zero, i.size, i.bytes)) = some (some (.int .i64 0), 1, 8) := by kernel_rfl
theorem info_partsV {t : TypeId} {z : Option Value} {s b : Nat} (h : (Try.prog.info? t).map (fun i => (i.zero, i.size, i.bytes)) = some (z, s, b)) : ∃ i, Try.prog.info? t = some i ∧ i.zero = z ∧ i.size = s ∧ i.bytes = b := by
  cases hi : Try.prog.info? t with
  | none => rw [hi] at h; cases h
  | some i => rw [hi] at h; simp only [Option.map_some, Option.some.injEq, Prod.mk.injEq] at h; exact ⟨i, rfl, h⟩
set_option maxRecDepth 100000 in
/-- a slice that came in, put behind a row of the call's own -/
theorem run_app (w : World) (ty : TypeId) (v : Value) (base n : Nat) (xs : List Int) (h : w.ownsRow base 3 1 v n (xs.map (Value.int .i64))) (a : Option Addr) (m c : Nat) (ys : List Int) (hc : Came w a m c 1 (ys.map intCells)) (hb : (n + m) * 8 ≤ 140737488355328) (hbase : base ≤ w.heap.size) :
    ∃ v' w', (Builtin.append_ #[22, 22] ty #[v, .slice a m c]).run Try.prog w = .ok v' w' ∧ w'.ownsRow base 3 1 v' (n + m) ((xs ++ ys).map (Value.int .i64)) ∧ w.grownBy w' v.ownBlock := by
  obtain ⟨i, hi, hz, hs, hby⟩ := info_partsV Try.infoV3
  have hl : ys.length = m := by simpa using hc.count
  cases a with
  | none =>
    obtain ⟨rfl, rfl⟩ := hc.nil rfl
    obtain rfl : ys = [] := List.eq_nil_of_length_eq_zero hl
    exact ⟨v, w, run_append_owned_none (P := Try.prog) (w := w) base 22 ty 3 i 1 Try.underlying22 hi v n _ h, by simpa using h, ⟨rfl, rfl, rfl, Nat.le_refl _, fun _ _ _ => rfl⟩⟩
  | some ad =>
    have hnews : ∀ j u, (ys.map (Value.int .i64))[j]? = some u → w.cell? (ad.add j) = some u := fun j u hu => by
      rw [List.getElem?_map] at hu
      cases hy : ys[j]? with
      | none => rw [hy] at hu; cases hu
      | some y =>
        rw [hy] at hu
        obtain ⟨hj, rfl⟩ := List.getElem?_eq_some_iff.1 hy
        obtain ⟨g, off, ha, _, hcc⟩ := hc.ints (by omega)
        injection ha with ha
        subst ha
        rw [Addr.add_lit, hcc j hj]
        exact hu
    have hm9 : n + m ≤ maxLen := by unfold maxLen; omega
    obtain ⟨v', w', e1, e2, e3, _⟩ := run_append_own (P := Try.prog) w base 22 ty 3 i (.int .i64 0) 1 8 Try.underlying22 hi hz hs hby rfl (by decide) v n _ h ad m c (ys.map (Value.int .i64)) (by simpa using hl) hnews (by intro u hu; obtain ⟨z, _, rfl⟩ := List.mem_map.1 hu; rfl) hm9 hb hbase
    exact ⟨v', w', e1, by rw [List.map_append]; exact e2, e3⟩
theorem belowOf {w w' : World} {base B : Nat} {r : Option Nat} (h : w.grownBy w' r) (hr : ∀ g, r = some g → B ≤ g) (hb : B ≤ w.heap.size) : Below B w w' :=
  ⟨h.os, h.tape, h.output, h.size, fun k hk => h.block k (Nat.lt_of_lt_of_le hk hb) fun e => by have := hr k e.symm; omega⟩

theorem def_any (x : VI) (w : World) : Calls Try.prog 66 #[viV x] w (IntPost (defV x) w) := by
  unfold viV
  by_cases h1 : x.op = 13
  · have e : defV x = 0 := by unfold defV; rw [if_pos (.inl h1)]
    rw [e, h1]
    go_enter Try.func66, Try.ntmps66
    go_wp2
    go_ret
    exact ⟨rfl, (Below.refl _ _).alloc (Nat.le_refl _) _⟩
  · by_cases h2 : x.op = 23
    · have e : defV x = 0 := by unfold defV; rw [if_pos (.inr h2)]
      rw [e, h2]
      go_enter Try.func66, Try.ntmps66
      go_wp2
      go_ret
      exact ⟨rfl, (Below.refl _ _).alloc (Nat.le_refl _) _⟩
    · have e : defV x = x.d := by unfold defV; rw [if_neg (by omega)]
      have b1 : (x.op == 13) = false := by simpa using h1
      have b2 : (x.op == 23) = false := by simpa using h2
      rw [e]
      clear h1 h2 e
      go_enter Try.func66, Try.ntmps66
      go_wp2
      go_ret
      exact ⟨rfl, (Below.refl _ _).alloc (Nat.le_refl _) _⟩
theorem insDef_any (x : VI) (w : World) : Calls Try.prog 56 #[viV x] w (IntPost (defV x) w) := by
  unfold viV
  by_cases h1 : x.op = 13
  · have e : defV x = 0 := by unfold defV; rw [if_pos (.inl h1)]
    rw [e, h1]
    go_enter Try.func56, Try.ntmps56
    go_wp2
    go_ret
    exact ⟨rfl, (Below.refl _ _).alloc (Nat.le_refl _) _⟩
  · by_cases h2 : x.op = 23
    · have e : defV x = 0 := by unfold defV; rw [if_pos (.inr h2)]
      rw [e, h2]
      go_enter Try.func56, Try.ntmps56
      go_wp2
      go_ret
      exact ⟨rfl, (Below.refl _ _).alloc (Nat.le_refl _) _⟩
    · have e : defV x = x.d := by unfold defV; rw [if_neg (by omega)]
      have b1 : (x.op == 13) = false := by simpa using h1
      have b2 : (x.op == 23) = false := by simpa using h2
      rw [e]
      clear h1 h2 e
      go_enter Try.func56, Try.ntmps56
      go_wp2
      go_ret
      exact ⟨rfl, (Below.refl _ _).alloc (Nat.le_refl _) _⟩

/-- the row of two numbers and the arguments -/
theorem app_two (w : World) (o : Obj) (a b : Int) (x : VI) (hx : x.Ok w) (ty : TypeId) :
    ∃ v' w', (Builtin.append_ #[22, 22] ty #[.slice (some ⟨w.heap.size + 1, 0, none⟩) 2 2, .slice x.sa x.sn x.sc]).run Try.prog ((w.alloc o).alloc (.cells #[.int .i64 a, .int .i64 b] 3)) = .ok v' w' ∧
      w'.ownsRow (w.heap.size + 1) 3 1 v' (a :: b :: x.args).length ((a :: b :: x.args).map (Value.int .i64)) ∧ Below w.heap.size w w' ∧ w.heap.size + 1 + 1 ≤ w'.heap.size := by
  have h1 := World.ownsRow_lit (base := w.heap.size + 1) (e := 3) (size := 1) (w.alloc o) #[.int .i64 a, .int .i64 b] 2 (by simp) (by decide) rfl
  have hb1 : Below w.heap.size w ((w.alloc o).alloc (.cells #[.int .i64 a, .int .i64 b] 3)) := ((Below.refl _ w).alloc (Nat.le_refl _) _).alloc (by simp) _
  rw [World.size_alloc] at h1
  obtain ⟨v', w', e1, e2, e3⟩ := run_app _ ty _ (w.heap.size + 1) 2 [a, b] h1 x.sa x.sn x.sc x.args (hx.came.below hb1) (by have := hx.reach; omega) (by simp)
  refine ⟨v', w', e1, ?_, hb1.trans (belowOf (base := 0) e3 (fun g hg => ?_) (by simp; omega)), ?_⟩
  · have hl : (a :: b :: x.args).length = 2 + x.sn := by have := hx.len; simp; omega
    rw [hl]; exact e2
  · have : g = w.heap.size + 1 := by simpa [Value.ownBlock] using hg.symm
    omega
  · have := e3.size; simpa using this

set_option maxRecDepth 100000 in
set_option maxHeartbeats 1000000 in
theorem uses_any (x : VI) (w : World) (hx : x.Ok w) : Calls Try.prog 65 #[viV x] w (VList (usesV x) w) := by
  obtain ⟨v1, w1, hrun, hown, hbel, hsz⟩ := app_two w (.cells #[.int .i64 x.op, .int .i64 x.d, .int .i64 x.a, .int .i64 x.b, .int .i64 x.n, .slice x.sa x.sn x.sc] 65) x.a x.b x hx 22
  have hlen : (x.a :: x.b :: x.args).length ≤ 9223372036854775807 := by have := hx.len; have := hx.reach; simp; omega
  have HD := Lib.hid (del_Uses w1 (w.heap.size + 1) v1 _ hown hlen)
  have HB := Lib.hid hbel
  have HO := Lib.hid hown
  have HRUN := Lib.hid hrun
  clear hown hbel hlen hx hrun
  unfold viV
  go_enter Try.func65, Try.ntmps65
  go_wp2_with (refine wpList_of_wp _ rfl (fun K Q' hk => wp_append_eq _ _ _ 22 22 rfl _ _ rfl rfl HRUN.out hk) ?_)
  refine HD.out.mono ?_
  rintro e w2 ⟨v2, rfl, h1, h2⟩
  have H1 := Lib.hid h1
  have HB2 := Lib.hid (HB.out.trans (belowOf (base := 0) h2 (fun g hg => by have := (HO.out.lt g hg).1; omega) HB.out.size))
  clear h1 h2
  go_wp2_with fail
  go_ret
  exact ⟨_, rfl, H1.out.mono (by omega), HB2.out⟩
set_option maxRecDepth 100000 in
set_option maxHeartbeats 1000000 in
theorem endUses_any (x : VE) (w : World) (hx : x.Ok w) : Calls Try.prog 48 #[veV x] w (VList (endV x) w) := by
  have h1 := World.ownsRow_lit (base := w.heap.size) (e := 3) (size := 1) (w.alloc (.cells #[.int .i64 x.kind, .int .i64 x.op, .int .i64 x.a, .int .i64 x.b, .int .i64 x.n, .slice x.sa x.sn x.sc] 61)) #[.int .i64 x.a, .int .i64 x.b] 2 (by simp) (by decide) rfl
  rw [World.size_alloc] at h1
  have hb1 := ((Below.refl w.heap.size w).alloc (Nat.le_refl _) (.cells #[.int .i64 x.kind, .int .i64 x.op, .int .i64 x.a, .int .i64 x.b, .int .i64 x.n, .slice x.sa x.sn x.sc] 61)).alloc (by simp) (.cells #[.int .i64 x.a, .int .i64 x.b] 3)
  have HD := Lib.hid (del_EndUses _ w.heap.size _ [x.a, x.b] h1 (by simp))
  have HB := Lib.hid hb1
  have HO := Lib.hid h1
  clear h1 hb1 hx
  unfold veV
  go_enter Try.func48, Try.ntmps48
  go_wp2_with fail
  refine HD.out.mono ?_
  rintro e w2 ⟨v2, rfl, h1, h2⟩
  have H1 := Lib.hid h1
  have HB2 := Lib.hid (HB.out.trans (belowOf (base := 0) h2 (fun g hg => (HO.out.lt g hg).1) HB.out.size))
  clear h1 h2
  go_wp2_with fail
  go_ret
  exact ⟨_, rfl, H1.out, HB2.out⟩
theorem came_one (w : World) (v : Int) : Came (w.alloc (.cells #[.int .i64 v] 3)) (some ⟨w.heap.size, 0, none⟩) 1 1 1 ([v].map intCells) := by
  refine ⟨rfl, Nat.le_refl _, by omega, fun h => by simp at h, fun x hx => by simp at hx; subst hx; rfl, fun h0 h1 => ⟨w.heap.size, 0, rfl, by simp, fun i x hx j hj => ?_⟩⟩
  have hb := Blk.new w [.int .i64 v] 3
  have hi : i = 0 := by
    rcases i with _ | i
    · rfl
    · simp at hx
  subst hi
  have hx2 : x = [.int .i64 v] := by simpa [intCells] using hx.symm
  subst hx2
  have hj0 : j = 0 := by omega
  subst hj0
  exact hb.cell 0
set_option maxRecDepth 100000 in
set_option maxHeartbeats 1000000 in
theorem insUses_any (x : VI) (w : World) (hx : x.Ok w) : Calls Try.prog 54 #[viV x] w (VList (usesV x) w) := by
  obtain ⟨v1, w1, hrun, hown, hbel, hsz⟩ := app_two w (.cells #[.int .i64 x.op, .int .i64 x.d, .int .i64 x.a, .int .i64 x.b, .int .i64 x.n, .slice x.sa x.sn x.sc] 65) x.a x.b x hx 22
  obtain ⟨zs, hzs⟩ : ∃ zs, zs = x.a :: x.b :: x.args := ⟨_, rfl⟩
  have hu : usesV x = nz zs := by rw [hzs]; rfl
  have hlen : zs.length * 8 ≤ 140737488351232 + 16 := by have := hx.len; have := hx.reach; rw [hzs]; simp; omega
  rw [hu]
  rw [← hzs] at hown
  obtain ⟨m, hm⟩ : ∃ m, m = zs.length := ⟨_, rfl⟩
  rw [← hm] at hown hlen
  have HM := Lib.hid hm
  obtain ⟨a1, c1, rfl⟩ := ownG_shape hown
  have HR := Lib.hid hrun
  have HO := Lib.hid hown
  have HB := Lib.hid hbel
  clear hown hbel hrun hx hu hzs hm
  unfold viV
  go_enter Try.func54, Try.ntmps54
  go_wp2_with (refine wpList_of_wp _ rfl (fun K Q' hk => wp_append_eq _ _ _ 22 22 rfl _ _ rfl rfl HR.out hk) ?_)
  clear HR
  go_loopw [3, 15] (fun u3 u15 wr => ∃ k : Nat, k ≤ m ∧ u15 = .int .i64 (k : Int) ∧ wr.ownsRow w1.heap.size 3 1 u3 (nz (zs.take k)).length ((nz (zs.take k)).map (Value.int .i64)) ∧ Below w1.heap.size w1 wr) (fun _ u _ => m - (intOf u).toNat)
  case atStart => exact ⟨0, Nat.zero_le _, rfl, World.ownsRow_nil _ _ _ _, Below.refl _ _⟩
  case round =>
    obtain ⟨k, hk, rfl, ho, hb⟩ := hrel
    obtain ⟨a3, c3, rfl⟩ := ownG_shape ho
    have HO3 := Lib.hid ho
    have HB3 := Lib.hid hb
    by_cases hlt : k < m
    · obtain ⟨g, cap, hv, hg1, hg2, hg3, hg4⟩ := ownG_has HO.out (by omega)
      injection hv with e1 e2 e3
      subst e1 e3
      have ck := HO.out.cellAt k (by omega)
      rw [List.getElem?_map, List.getElem?_eq_getElem (by have := HM.out; omega)] at ck
      simp only [Option.map_some] at ck
      obtain ⟨r, hr⟩ : ∃ r, r = zs[k]'(by have := HM.out; omega) := ⟨_, rfl⟩
      rw [← hr] at ck
      have HT : Hid (zs.take (k + 1) = zs.take k ++ [r]) := by rw [hr]; exact List.take_succ_eq_append_getElem _
      have ck2 := (hb.cell (p := ⟨g, k, none⟩) hg2).trans ck
      clear ck hr
      by_cases hz : r = 0
      · subst hz
        clear ho hb
        go_wp2_with fail
        go_roundw
        case rel => exact ⟨k + 1, by omega, by go_num, by rw [HT.out, nz_snoc, if_pos rfl]; exact HO3.out, HB3.out⟩
        case measure => simp [intOf]; omega
      · have hz9 : (r == 0) = false := by simpa using hz
        have hlit := came_one wr r
        have hl9 : (nz (zs.take k)).length ≤ m := by
          have h1 : (nz (zs.take k)).length ≤ (zs.take k).length := List.length_filter_le _ _
          rw [List.length_take] at h1; omega
        obtain ⟨v4, w4, hrun, ho4, hg4⟩ := run_app _ 22 _ w1.heap.size _ _ (HO3.out.alloc (.cells #[.int .i64 r] 3)) _ 1 1 [r] hlit (by omega) (by have := HB3.out.size; simp; omega)
        have HR4 := Lib.hid hrun
        have HO4 : Hid (w4.ownsRow w1.heap.size 3 1 v4 (nz (zs.take (k + 1))).length ((nz (zs.take (k + 1))).map (Value.int .i64))) := by
          rw [HT.out, nz_snoc, if_neg hz, List.length_append]; exact ho4
        have HB4 := Lib.hid ((HB3.out.alloc HB3.out.size (.cells #[.int .i64 r] 3)).trans (belowOf (base := 0) (B := w1.heap.size) hg4 (fun q hq => (HO3.out.lt q hq).1) (by have := HB3.out.size; simp; omega)))
        clear ho hb hrun ho4 hg4 hlit
        go_wp2_with (refine wpList_of_wp _ rfl (fun K Q' hk => wp_append_eq _ _ _ 22 22 rfl _ _ rfl rfl HR4.out hk) ?_)
        go_roundw
        case rel => exact ⟨k + 1, by omega, by go_num, HO4.out, HB4.out⟩
        case measure => simp [intOf]; omega
    · clear ho hb
      have HF : Hid (zs.take k = zs) := List.take_of_length_le (by have := HM.out; omega)
      have HO5 : Hid (wr.ownsRow w.heap.size 3 1 (.slice a3 (nz (zs.take k)).length c3) (nz zs).length ((nz zs).map (Value.int .i64))) := by
        rw [HF.out] at HO3 ⊢
        exact HO3.out.mono (by have := HB.out.size; omega)
      go_wp2_with fail
      go_ret
      exact ⟨_, rfl, HO5.out, HB.out.trans (HB3.out.mono HB.out.size)⟩
end Go.Proofs.Ytlaogkbdjkofaaa
