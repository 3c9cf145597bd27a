/- The stack maps of a function: link's maps. What they are is not said: they are made, and nothing else is touched. -/
import Derived.Test.YtkafbihlmhdjeabLnkRefsK
import Derived.Test.YtkafbihlmhdjeabForks
import Derived.Lib.SliceRun
namespace Go.Proofs.Ytkafbihlmhdjeab
open Go.RowKit
set_option linter.unusedVariables false
set_option linter.unusedSimpArgs false

instance (B : Nat) : PreR (Below B) := ⟨fun w => Below.refl B w, fun h k => h.trans k⟩
def CloneI (w : World) (e : Ending) (w' : World) : Prop := (∃ a m c, e = .returned (.slice a m c)) ∧ Below w.heap.size w w'
set_option maxRecDepth 100000 in
set_option maxHeartbeats 1000000 in
theorem clone_ints (va : Option Addr) (vl vc : Nat) (zs : List Int) (w : World) (h : Came w va vl vc 1 (zs.map intCells)) (hn : vl * 8 ≤ 140737488351232) :
    Calls Try.prog 72 #[.slice va vl vc] w (CloneI w) := by
  have q22 : ∀ (w : World) (a : Option Addr) (n c n' c' : Nat), (binOp .eql 24 (.slice a n c) (.slice none n' c')).run Try.prog w = .ok (.bool a.isNone) w := fun w a n c n' c' => Lib.run_eql_slice_nil w _ _ a n c n' c' Try.underlying24
  cases va with
  | none =>
    obtain ⟨rfl, rfl⟩ := h.nil rfl
    clear h
    go_enter Try.func72, Try.ntmps72
    go_wp2_with fail
    go_ret
    exact ⟨⟨_, _, _, rfl⟩, Below.refl _ _⟩
  | some ad =>
    have hl : (zs.map (Value.int .i64)).length = vl * 1 := by have := h.count; simp at this; simp; omega
    have HN : Hid (∀ j u, (zs.map (Value.int .i64))[j]? = some u → w.cell? (ad.add j) = some u) := fun j u hj => by
      rw [List.getElem?_map] at hj
      obtain ⟨z, hz, rfl⟩ := Option.map_eq_some_iff.1 hj
      have hjl : j < zs.length := (List.getElem?_eq_some_iff.1 hz).1
      have hzl : zs.length = vl := by simpa using h.count
      obtain ⟨b, off, ha, hb, hc⟩ := h.ints (by omega)
      cases ha
      rw [Addr.add_lit, hc j hjl]
      rw [List.getElem?_eq_getElem hjl] at hz
      rw [Option.some.inj hz]
    have H1 : Hid (∀ u ∈ zs.map (Value.int .i64), u.oneCell' = true) := by
      intro u hu
      obtain ⟨z, _, rfl⟩ := List.mem_map.1 hu
      rfl
    obtain ⟨i0, hi0, hz0, hz1, hz2⟩ := info_parts Try.infoT3
    clear h
    go_enter Try.func72, Try.ntmps72
    go_wp2_with (at_builtin; refine wpList_append_own _ rfl _ _ 24 rfl w.heap.size 3 i0 (.int .i64 0) 1 8 Try.underlying24 hi0 hz0 hz1 hz2 rfl (by decide) _ _ _ rfl (World.ownsRow_made w #[] 0 (Nat.le_refl _) (Nat.zero_le _) rfl) ad vl vc (zs.map (Value.int .i64)) rfl ?qc1 ?qc2 ?qc3 ?qc4 ?qc5 ?qc6 ?_)
    case qc1 => exact hl
    case qc2 =>
      intro j u hj
      exact Lib.cell?_alloc_some _ (HN.out j u hj)
    case qc3 => exact H1.out
    case qc4 => unfold maxLen; omega
    case qc5 => omega
    case qc6 => simp
    intro v' w1 hown hgrow hnil
    obtain ⟨a', m', c', rfl⟩ := owns_shape hown
    have HB := Lib.hid (((Below.refl _ w).alloc (Nat.le_refl _) _).grown hgrow (by simp) (by intro k hk; simp [Value.ownBlock] at hk; omega))
    clear hown hgrow hnil
    go_wp2_with fail
    go_ret
    exact ⟨⟨_, _, _, rfl⟩, HB.out⟩

theorem below_alt {B : Nat} {w : World} (h : B ≤ w.heap.size) (o o' : Obj) : Below B (w.alloc o) (w.alloc o') :=
  ⟨rfl, rfl, rfl, by simp, fun k hk => by rw [Below.heap_alloc _ _ _ (by omega), Below.heap_alloc _ _ _ (by omega)]⟩
theorem below_alloc_drewL {B : Nat} {w : World} (h : B ≤ w.heap.size) (o : Obj) : Below B w.drew (w.alloc o).drew := ((Below.refl B w.drew).alloc h o)
theorem mapsE_in (n : Nat) : ∀ (ms : List LM) (last : Int), -1 ≤ last → mapsE n last ms = 0 → ∀ m ∈ ms, 0 ≤ m.item ∧ m.item < n ∧ (m.after = true → m.item + 1 < n)
  | [], _, _, _ => fun m hm => by cases hm
  | m :: ms, last, hl, h => by
    have h' : (if mapE n last m ≠ 0 then mapE n last m else mapsE n m.item ms) = 0 := h
    by_cases hc : mapE n last m = 0
    · rw [if_neg (by simp [hc])] at h'
      have h9 : ¬ (m.item ≤ last ∨ (n : Int) ≤ m.item ∨ (m.after = true ∧ (n : Int) ≤ m.item + 1)) := by
        intro hx
        unfold mapE at hc
        rw [if_pos hx] at hc; cases hc
      intro x hx
      rcases List.mem_cons.1 hx with rfl | hx
      · refine ⟨by omega, by omega, fun ha => ?_⟩
        have : ¬ (x.after = true ∧ (n : Int) ≤ x.item + 1) := fun hy => h9 (.inr (.inr hy))
        have h8 : ¬ (n : Int) ≤ x.item + 1 := fun hy => this ⟨ha, hy⟩
        omega
      · exact mapsE_in n ms m.item (by omega) h' x hx
    · rw [if_pos hc] at h'; exact absurd h' hc
theorem mapsE_len (n : Nat) : ∀ (ms : List LM) (last : Int), -1 ≤ last → last < n → mapsE n last ms = 0 → (ms.length : Int) ≤ n - 1 - last
  | [], last, _, _, _ => by simp; omega
  | m :: ms, last, hl, hln, h => by
    have h' : (if mapE n last m ≠ 0 then mapE n last m else mapsE n m.item ms) = 0 := h
    by_cases hc : mapE n last m = 0
    · rw [if_neg (by simp [hc])] at h'
      have h9 : ¬ (m.item ≤ last ∨ (n : Int) ≤ m.item ∨ (m.after = true ∧ (n : Int) ≤ m.item + 1)) := by
        intro hx
        unfold mapE at hc
        rw [if_pos hx] at hc; cases hc
      have h1 := mapsE_len n ms m.item (by omega) (by omega) h'
      rw [List.length_cons]
      omega
    · rw [if_pos hc] at h'; exact absurd h' hc
theorem Try.infoM121 : (Try.prog.info? 121).map (fun i => (i.zero, i.size, i.bytes)) = some (some (.agg #[.int .i64 0, .int .i64 0, .slice none 0 0, .int .i64 0]), 4, 48) := by kernel_rfl
def MapsPost (n : Nat) (w : World) (e : Ending) (w' : World) : Prop :=
  ∃ v l, e = .returned v ∧ w'.ownsRow w.heap.size 121 4 v n l ∧ (∀ u ∈ l, u.oneCell' = true) ∧ Below w.heap.size w w'

set_option maxRecDepth 100000 in
set_option maxHeartbeats 8000000 in
theorem maps_any (w : World) (f : LF) (hf : f.Ok w) (a : Option Addr) (c : Nat) (zs : List Int) (ha : Came w a f.il c 1 (zs.map intCells)) (hm : mapsE f.il (-1) f.maps = 0) (h16 : f.il ≤ 100000) :
    Calls Try.prog 65 #[f.v, .slice a f.il c] w (MapsPost f.ml w) := by
  have hb0 : BoxL f w (w.alloc (.cells #[.int .i64 f.name, .slice f.ia f.il f.ic, .slice f.ca f.cl f.cc, .slice f.ma f.ml f.mc, .int .i64 f.size] 53)) := ⟨(Below.refl _ _).alloc (Nat.le_refl _) _, Blk.new w _ _⟩
  have HB0 := Lib.hid hb0
  have HM := Lib.hid (mapsE_in f.il f.maps (-1) (by omega) hm)
  have HOK := Lib.hid hf
  have hml := hf.mlen
  have hmr := hf.mreach
  have hmb := mapsE_len f.il f.maps (-1) (by omega) (by omega) hm
  have HA := Lib.hid ha
  have hzl : zs.length = f.il := by simpa using ha.count
  have hac := ha.le
  have hacm := ha.max
  clear hb0 hf hm ha
  unfold LF.v
  generalize hma : f.ma = ma at HB0 ⊢
  have HMC : Hid (Came w ma f.ml f.mc 4 (f.maps.map lmC)) := by rw [← hma]; exact HOK.out.mcame
  have HMA := Lib.hid hma
  clear hma
  go_enter Try.func65, Try.ntmps65
  go_wp2_with fail
  generalize hw1 : (w.alloc (.cells #[.int .i64 f.name, .slice f.ia f.il f.ic, .slice f.ca f.cl f.cc, .slice ma f.ml f.mc, .int .i64 f.size] 53)) = w1 at HB0 ⊢
  clear hw1
  obtain ⟨i0, hi0, hz0, hz1, hz2⟩ := info_parts Try.infoM121
  have hw1s := HB0.out.be.size
  go_loopw [5, 12] (fun v u wr => ∃ (k : Nat) (l : List Value), k ≤ f.ml ∧ u = .int .i64 (k : Int) ∧ wr.ownsRow w1.heap.size 121 4 v k l ∧ (∀ x ∈ l, x.oneCell' = true) ∧ Below w1.heap.size w1 wr) (fun _ u _ => f.ml - (intOf u).toNat)
  case atStart => exact ⟨0, [], Nat.zero_le _, rfl, World.ownsRow_nil _ _ _ _, fun x hx => (by cases hx), Below.refl _ _⟩
  case round =>
    obtain ⟨k, l, hk, rfl, hown, hone, hb⟩ := hrel
    have HO := Lib.hid hown
    have HONE := Lib.hid hone
    have HB := Lib.hid hb
    obtain ⟨va, vc, rfl⟩ := ownG_shape hown
    by_cases hlt : k < f.ml
    · have hbw : Below w.heap.size w wr := HB0.out.be.trans (hb.mono hw1s)
      have HBW := Lib.hid hbw
      obtain ⟨g, off, rfl, hg, hcm⟩ := came_lms HMC.out (by omega)
      have hk' : k < f.maps.length := by omega
      obtain ⟨e0, e1, e2, e3⟩ := hcm k hk'
      replace e0 := (hbw.cell (p := ⟨g, off + k * 4, none⟩) hg).trans e0
      replace e1 := (hbw.cell (p := ⟨g, off + k * 4 + 1, none⟩) hg).trans e1
      replace e2 := (hbw.cell (p := ⟨g, off + k * 4 + 2, none⟩) hg).trans e2
      replace e3 := (hbw.cell (p := ⟨g, off + k * 4 + 3, none⟩) hg).trans e3
      have hgr : g < wr.heap.size := Nat.lt_of_lt_of_le hg hbw.size
      have hin := HM.out _ (List.getElem_mem hk')
      have HXO := Lib.hid ((HOK.out.maps _ (List.getElem_mem hk')).below hbw)
      generalize f.maps[k] = x at e0 e1 e2 e3 hin HXO
      obtain ⟨xi, xf, xa, xn, xc, xs, xr⟩ := x
      simp only at e0 e1 e2 e3 hin
      obtain ⟨j, rfl⟩ := Int.eq_ofNat_of_zero_le hin.1
      obtain ⟨ga, oa, rfl, hga, hai⟩ := HA.out.ints (by omega)
      have hj : j < f.il := by omega
      have hjI : (j : Int) < (f.il : Int) := by omega
      have a0 := (hbw.cell (p := ⟨ga, oa + j, none⟩) hga).trans (hai j (by omega))
      generalize zs[j]'(by omega) = z0 at a0
      have HA1 : Hid (xf = true → ∃ z1, (j : Int) + 1 < (f.il : Int) ∧ w.cell? ⟨ga, oa + (j + 1), none⟩ = some (.int .i64 z1)) := fun h => ⟨_, hin.2.2 h, hai (j + 1) (by have := hin.2.2 h; omega)⟩
      have hgar : ga < wr.heap.size := Nat.lt_of_lt_of_le hga hbw.size
      have hbxw := (HB0.out.box.below hb HB0.out.box.lt)
      have b4 : wr.cell? ⟨w.heap.size, 4, none⟩ = some (.int .i64 f.size) := hbxw.cell 4
      have hwr := hbxw.lt
      have hby : Below wr.heap.size wr (wr.alloc (.cells #[.int .i64 (j : Int), .bool xf, .slice xa xn xc, .int .i64 xr] 101)) := (Below.refl _ _).alloc (Nat.le_refl _) _
      have hbx : Blk (wr.alloc (.cells #[.int .i64 (j : Int), .bool xf, .slice xa xn xc, .int .i64 xr] 101)) wr.heap.size 101 [.int .i64 (j : Int), .bool xf, .slice xa xn xc, .int .i64 xr] := Blk.new wr _ _
      clear hcm hai hin hbw hbxw hown hone hb
      go_wp2_with fail
      generalize (wr.alloc (.cells #[.int .i64 (j : Int), .bool xf, .slice xa xn xc, .int .i64 xr] 101)) = wy at hby hbx ⊢
      replace a0 := (hby.cell (p := ⟨ga, oa + j, none⟩) hgar).trans a0
      replace b4 := (hby.cell (p := ⟨w.heap.size, 4, none⟩) hwr).trans b4
      have x0 := hbx.cell 0
      have x2 := hbx.cell 2
      have x3 := hbx.cell 3
      simp only [List.getElem?_cons_zero, List.getElem?_cons_succ] at x0 x2 x3
      have hxl := hbx.lt
      have hwy := Nat.lt_of_lt_of_le hwr hby.size
      have hgay := Nat.lt_of_lt_of_le hgar hby.size
      have HBX := Lib.hid hbx
      have HBY := Lib.hid hby
      have r0 := fun z : AfterR (Below wy.heap.size) wy.drew => (z.rel.cell (p := ⟨ga, oa + j, none⟩) hgay).trans a0
      have r1 := fun z : AfterR (Below wy.heap.size) wy.drew => (z.rel.cell (p := ⟨w.heap.size, 4, none⟩) hwy).trans b4
      have r2 := fun z : AfterR (Below wy.heap.size) wy.drew => (z.rel.cell (p := ⟨wr.heap.size, 0, none⟩) hxl).trans x0
      have r3 := fun z : AfterR (Below wy.heap.size) wy.drew => (z.rel.cell (p := ⟨wr.heap.size, 2, none⟩) hxl).trans x2
      have r4 := fun z : AfterR (Below wy.heap.size) wy.drew => (z.rel.cell (p := ⟨wr.heap.size, 3, none⟩) hxl).trans x3
      have HCLN := fun wz (hz : Below wr.heap.size wr wz) => Lib.hid (clone_ints xa xn xc xs wz (HXO.out.came.below hz) HXO.out.reach)
      clear hby hbx
      refine wp_region_forks (Below wy.heap.size) 15 rfl (by kernel_rfl) ?_
      refine forks_read 0 rfl (by kernel_rfl) ?_
      go_big_quiet_step (fail)
      refine wpQuiet_nil ?_
      refine forks_read 1 rfl (by kernel_rfl) ?_
      go_big_quiet_step (fail)
      refine wpQuiet_nil ?_
      refine forks_read 2 rfl (by kernel_rfl) ?_
      go_big_quiet_step (fail)
      refine wpQuiet_nil ?_
      refine forks_read 3 rfl (by kernel_rfl) ?_
      go_big_quiet_step (fail)
      refine wpQuiet_nil ?_
      refine forks_read 4 rfl (by kernel_rfl) ?_
      go_big_quiet_step (fail)
      refine wpQuiet_nil ?_
      refine forks_read 5 rfl (by kernel_rfl) ?_
      go_big_quiet_step (fail)
      refine wpQuiet_nil ?_
      refine forks_read 6 rfl (by kernel_rfl) ?_
      go_big_quiet_step (fail)
      refine wpQuiet_nil ?_
      refine forks_read 7 rfl (by kernel_rfl) ?_
      go_big_quiet_step (fail)
      refine wpQuiet_nil ?_
      refine forks_read 8 rfl (by kernel_rfl) ?_
      go_big_quiet_step (fail)
      refine wpQuiet_nil ?_
      refine forks_read 10 rfl (by kernel_rfl) ?_
      go_big_quiet_step (fail)
      refine wpQuiet_nil ?_
      refine forks_read 11 rfl (by kernel_rfl) ?_
      go_big_quiet_step (fail)
      refine wpQuiet_nil ?_
      clear r0 r1 r2 r3 r4 x0 x2 x3 b4 a0
      refine forks_two 9 13 (by kernel_rfl) ?_ ?_
      case' refine_1 =>
        refine does_intro rfl rfl ?_
        intro K hK
        go_simp
        refine (HCLN wy.drew HBY.out.drew).out.mono ?_
        rintro e w5 ⟨⟨sa, sm, sc, rfl⟩, hb5⟩
        refine hK _ _ hb5 ?_
        have HB5 := Lib.hid ((Below.refl wy.heap.size wy).drew.trans hb5)
        clear hK K hb5
        go_simp
        refine forks_read 12 rfl (by kernel_rfl) ?_
        go_big_quiet_step (fail)
        refine wpQuiet_nil ?_
        refine forks_one 13 (by kernel_rfl) ?_
        refine does_intro rfl rfl ?_
        intro K hK
        go_simp
        refine hK _ _ ((Below.refl _ _).alloc HB5.out.size _) ?_
        clear hK K
        go_simp
        refine forks_one 14 (by kernel_rfl) ?_
        refine does_intro rfl rfl ?_
        intro K hK
        go_simp
        refine hK _ _ (below_alt HB5.out.size _ _) ?_
        clear hK K
        go_simp
        refine forks_end (by kernel_rfl) ?_
        obtain ⟨wx, hwx⟩ : ∃ wx, wx = w5.alloc (.cells #[.int .i64 z0, .int .i64 f.size, .slice sa sm sc, .int .i64 xr] 121) := ⟨_, rfl⟩
        rw [← hwx]
        have HP : Hid (Blk wx w5.heap.size 121 [.int .i64 z0, .int .i64 f.size, .slice sa sm sc, .int .i64 xr]) := by rw [hwx]; exact Blk.new w5 _ _
        have HBZ : Hid (Below wy.heap.size wy wx) := by rw [hwx]; exact HB5.out.alloc HB5.out.size _
        have HPL : Hid (wy.heap.size ≤ w5.heap.size) := HB5.out.size
        clear hwx HB5
        generalize w5.heap.size = pb at HP HPL ⊢
      case' refine_2 =>
        refine does_intro rfl rfl ?_
        intro K hK
        go_simp
        refine hK _ _ (below_alloc_drewL (Nat.le_refl _) _) ?_
        clear hK K
        go_simp
        obtain ⟨wv, hwv⟩ : ∃ wv, wv = (wy.alloc (.cells #[.int .i64 0, .int .i64 0, .slice none 0 0, .int .i64 0] 121)).drew := ⟨_, rfl⟩
        have HBV : Hid (Below wy.heap.size wy wv) := by rw [hwv]; exact ((Below.refl _ _).alloc (Nat.le_refl _) _).drew
        have HPV : Hid (Blk wv wy.heap.size 121 [.int .i64 0, .int .i64 0, .slice none 0 0, .int .i64 0]) := by rw [hwv]; exact Blk.new wy _ _
        rw [← hwv]
        clear hwv
        refine forks_one 9 (by kernel_rfl) ?_
        refine does_intro rfl rfl ?_
        intro K hK
        go_simp
        refine (HCLN wv (HBY.out.trans (HBV.out.mono HBY.out.size))).out.mono ?_
        rintro e w5 ⟨⟨sa, sm, sc, rfl⟩, hb5⟩
        refine hK _ _ (hb5.mono HBV.out.size) ?_
        have HB5 := Lib.hid (HBV.out.trans (hb5.mono HBV.out.size))
        have HP5 := HPV.out.below hb5 HPV.out.lt
        clear hK K hb5
        go_simp
        refine forks_read 12 rfl (by kernel_rfl) ?_
        go_big_quiet_step (fail)
        refine wpQuiet_nil ?_
        have y0 := HP5.cell 0
        have y1 := HP5.cell 1
        have y2 := HP5.cell 2
        have y3 := HP5.cell 3
        simp only [List.getElem?_cons_zero, List.getElem?_cons_succ] at y0 y1 y2 y3
        have u0 := HP5.free 0
        have u1 := HP5.free 1
        have u2 := HP5.free 2
        have u3 := HP5.free 3
        have hpl := HP5.lt
        have HPQ := Lib.hid HP5
        clear HP5
        refine forks_one 14 (by kernel_rfl) ?_
        refine does_intro rfl rfl ?_
        intro K hK
        go_simp
        refine hK _ _ (((((Below.refl wy.heap.size w5).setCell (Nat.le_refl _) _).setCell (Nat.le_refl _) _).setCell (Nat.le_refl _) _).setCell (Nat.le_refl _) _) ?_
        clear hK K y0 y1 y2 y3 u0 u1 u2 u3
        go_simp
        refine forks_end (by kernel_rfl) ?_
        obtain ⟨wx, hwx⟩ : ∃ wx, wx = ((((w5.setCell ⟨wy.heap.size, 0, none⟩ (.int .i64 z0)).setCell ⟨wy.heap.size, 1, none⟩ (.int .i64 f.size)).setCell ⟨wy.heap.size, 2, none⟩ (.slice sa sm sc)).setCell ⟨wy.heap.size, 3, none⟩ (.int .i64 xr)) := ⟨_, rfl⟩
        rw [← hwx]
        have HP : Hid (Blk wx wy.heap.size 121 [.int .i64 z0, .int .i64 f.size, .slice sa sm sc, .int .i64 xr]) := by rw [hwx]; exact (((HPQ.out.set 0 (.int .i64 z0)).set 1 (.int .i64 f.size)).set 2 (.slice sa sm sc)).set 3 (.int .i64 xr)
        have HBZ : Hid (Below wy.heap.size wy wx) := by rw [hwx]; exact (((((HB5.out).setCell (Nat.le_refl _) _).setCell (Nat.le_refl _) _).setCell (Nat.le_refl _) _).setCell (Nat.le_refl _) _)
        have HPL : Hid (wy.heap.size ≤ wy.heap.size) := Nat.le_refl _
        clear hwx HB5 HPQ HBV HPV hpl
        obtain ⟨pb, hpb⟩ : ∃ pb, pb = wy.heap.size := ⟨_, rfl⟩
        rw [← hpb] at HP
        have HPL : Hid (wy.heap.size ≤ pb) := by rw [hpb]; exact Nat.le_refl _
        rw [← hpb]
        clear hpb
      all_goals
        have HBR : Hid (Below wr.heap.size wr wx) := HBY.out.trans (HBZ.out.mono HBY.out.size)
        have hrx := HBR.out.size
        have hxw := Nat.lt_of_lt_of_le hxl HBZ.out.size
        have x1 := (HBZ.out.cell (p := ⟨wr.heap.size, 1, none⟩) hxl).trans (show wy.cell? ⟨wr.heap.size, 1, none⟩ = some (.bool xf) from HBX.out.cell 1)
        have x0 := (HBZ.out.cell (p := ⟨wr.heap.size, 0, none⟩) hxl).trans (show wy.cell? ⟨wr.heap.size, 0, none⟩ = some (.int .i64 (j : Int)) from HBX.out.cell 0)
        have y0 := HP.out.cell 0
        have y1 := HP.out.cell 1
        have y2 := HP.out.cell 2
        have y3 := HP.out.cell 3
        simp only [List.getElem?_cons_zero, List.getElem?_cons_succ] at y0 y1 y2 y3
        have u0 := HP.out.free 0
        have hpl := HP.out.lt
        have HBWX : Hid (Below w.heap.size w wx) := HBW.out.trans (HBR.out.mono HBW.out.size)
        have HB1X : Hid (Below w1.heap.size w1 wx) := HB.out.trans (HBR.out.mono HB.out.size)
        have HS1X : Hid (w1.heap.size ≤ wx.heap.size) := HB1X.out.size
        have HOX := Lib.hid (ownG_below HO.out HBR.out)
        have HPO : Hid (∀ q, (Value.slice va k vc).ownBlock = some q → q ≠ pb) := fun q hq e => by
          have h1 := (HO.out.lt q hq).2
          have h2 := HPL.out
          have h3 := HBY.out.size
          omega
        have hs1 := HS1X.out
        cases xf
        · clear HA1
          go_wp2_with (at_builtin; refine wpList_append_own _ rfl _ _ 57 rfl w1.heap.size 121 i0 (.agg #[.int .i64 0, .int .i64 0, .slice none 0 0, .int .i64 0]) 4 48 Try.underlying57 hi0 hz0 hz1 hz2 rfl (by decide) _ _ _ rfl (HOX.out.alloc _) ⟨wx.heap.size, 0, none⟩ 1 1 [.int .i64 z0, .int .i64 f.size, .slice sa sm sc, .int .i64 xr] rfl rfl ?a2 ?a3 ?a4 ?a5 ?a6 ?_)
          case a2 =>
            intro i u hu
            rw [Addr.add_lit, Nat.zero_add]
            exact ((Blk.new wx [.int .i64 z0, .int .i64 f.size, .slice sa sm sc, .int .i64 xr] 121).cell i).trans hu
          case a3 => first | rfl | (intro u hu; simp at hu; rcases hu with rfl | rfl | rfl | rfl <;> rfl) | simp [Value.oneCell']
          case a4 => unfold maxLen; omega
          case a5 => omega
          case a6 => first | omega | (simp; omega)
          intro v' w7 hown' hgrow _
          have hb7 := (HB1X.out.alloc HS1X.out (.cells #[.int .i64 z0, .int .i64 f.size, .slice sa sm sc, .int .i64 xr] 121)).grown hgrow (by simp; omega) (fun q hq => (HOX.out.lt q hq).1)
          have HO7 := Lib.hid hown'
          have HB7 := Lib.hid hb7
          have HON7 : Hid (∀ u ∈ l ++ [.int .i64 z0, .int .i64 f.size, .slice sa sm sc, .int .i64 xr], u.oneCell' = true) := fun u hu => by
            rcases List.mem_append.1 hu with hu | hu
            · exact HONE.out u hu
            · simp at hu; rcases hu with rfl | rfl | rfl | rfl <;> rfl
          clear hown' hgrow hb7
          go_wp2_with fail
          go_roundw
          case rel => exact ⟨k + 1, _, by omega, rfl, HO7.out, HON7.out, HB7.out⟩
          case measure => simp [intOf]; omega
        · obtain ⟨z1, hz1I, hz1c⟩ := HA1.out rfl
          have a1 := (HBWX.out.cell (p := ⟨ga, oa + (j + 1), none⟩) hga).trans hz1c
          have HPB : Hid (w1.heap.size ≤ pb) := by
            have h1 := HPL.out
            have h2 := HBY.out.size
            have h3 := HB.out.size
            show _ ≤ _
            omega
          replace HB1X : Hid (Below w1.heap.size w1 (wx.setCell ⟨pb, 0, none⟩ (.int .i64 z1))) := HB1X.out.setCell (p := (⟨pb, 0, none⟩ : Addr)) HPB.out _
          replace HOX : Hid ((wx.setCell ⟨pb, 0, none⟩ (.int .i64 z1)).ownsRow w1.heap.size 121 4 (.slice va k vc) k l) := ownG_other (a := ⟨pb, 0, none⟩) HOX.out (fun e => HPO.out pb e rfl) _
          replace HS1X : Hid (w1.heap.size ≤ (wx.setCell ⟨pb, 0, none⟩ (.int .i64 z1)).heap.size) := HB1X.out.size
          clear HA1
          go_wp2_with (at_builtin; refine wpList_append_own _ rfl _ _ 57 rfl w1.heap.size 121 i0 (.agg #[.int .i64 0, .int .i64 0, .slice none 0 0, .int .i64 0]) 4 48 Try.underlying57 hi0 hz0 hz1 hz2 rfl (by decide) _ _ _ rfl (HOX.out.alloc _) ⟨wx.heap.size, 0, none⟩ 1 1 [.int .i64 z1, .int .i64 f.size, .slice sa sm sc, .int .i64 xr] rfl rfl ?a2 ?a3 ?a4 ?a5 ?a6 ?_)
          case a2 =>
            intro i u hu
            rw [Addr.add_lit, Nat.zero_add]
            exact by
              have h9 := (Blk.new (wx.setCell ⟨pb, 0, none⟩ (.int .i64 z1)) [.int .i64 z1, .int .i64 f.size, .slice sa sm sc, .int .i64 xr] 121).cell i
              have e9 : (wx.setCell ⟨pb, 0, none⟩ (.int .i64 z1)).heap.size = wx.heap.size := by simp [World.setCell]
              rw [e9] at h9
              exact h9.trans hu
          case a3 => first | rfl | (intro u hu; simp at hu; rcases hu with rfl | rfl | rfl | rfl <;> rfl) | simp [Value.oneCell']
          case a4 => unfold maxLen; omega
          case a5 => omega
          case a6 => first | omega | (simp; omega)
          intro v' w7 hown' hgrow _
          have hb7 := (HB1X.out.alloc HS1X.out (.cells #[.int .i64 z1, .int .i64 f.size, .slice sa sm sc, .int .i64 xr] 121)).grown hgrow (by simp; omega) (fun q hq => (HOX.out.lt q hq).1)
          have HO7 := Lib.hid hown'
          have HB7 := Lib.hid hb7
          have HON7 : Hid (∀ u ∈ l ++ [.int .i64 z1, .int .i64 f.size, .slice sa sm sc, .int .i64 xr], u.oneCell' = true) := fun u hu => by
            rcases List.mem_append.1 hu with hu | hu
            · exact HONE.out u hu
            · simp at hu; rcases hu with rfl | rfl | rfl | rfl <;> rfl
          clear hown' hgrow hb7
          go_wp2_with fail
          go_roundw
          case rel => exact ⟨k + 1, _, by omega, rfl, HO7.out, HON7.out, HB7.out⟩
          case measure => simp [intOf]; omega
    · have ek : k = f.ml := by omega
      subst ek
      clear hown hone hb
      go_wp2_with fail
      go_ret
      exact ⟨_, l, rfl, ownG_base HO.out hw1s, HONE.out, HB0.out.be.trans (HB.out.mono hw1s)⟩
end Go.Proofs.Ytkafbihlmhdjeab
