/- The contract of the heap's Minor, with the words that it copies. -/
import Derived.Test.YtkpeeemnholmnaaGcMi
namespace Go.Proofs.Ytkpeeemnholmnaa
open Go.RowKit Go.Maps
set_option linter.unusedVariables false
set_option linter.unusedSimpArgs false

def MinorPost2 (p mb : Nat) (rv : Value) (S : HS) (l1 l2 : List Nat) (zs : List Int) (w : World) (e : Ending) (w' : World) : Prop :=
  (S.from_ + S.half + 1 < S.old + S.young ∧ e = .returned (.tuple #[.slice none 0 0, .int .i64 16]) ∧ ∃ k, w' = w.drewN k) ∨
  (∃ v' S' φ R l2', e = .returned (.tuple #[v', .int .i64 0]) ∧ w'.ownsRow w.heap.size 3 1 v' zs.length (zs.map fun z => Value.int .i64 (fv φ z)) ∧ HeapSt w' p mb (.slice none 0 0) S' ∧ Coll S S' l1 l2 l2' R φ ∧
    (∀ v ∈ zs, ∀ j : Nat, 0 < j → v = 2 * (j : Int) → j ∈ R) ∧ HStep p mb rv (.slice none 0 0) w w' ∧
    ∃ cp, R = cp ++ l2 ∧ cp.Nodup ∧ (∀ j ∈ cp, j ∈ l1) ∧ φ = phiC S.m S.old cp ∧ S'.old = S.old + tot S.m cp ∧ S'.from_ = S.from_)

set_option maxRecDepth 100000 in
set_option maxHeartbeats 8000000 in
theorem minor_ok2 (w : World) (p mb : Nat) (rv : Value) (S : HS) (l1 l2 : List Nat) (h : HeapSt w p mb rv S) (hi : HInv S l1 l2) (a : Option Addr) (n c : Nat) (zs : List Int) (hc : Came w a n c 1 (zs.map intCells)) (hn : n ≤ 1000)
    (hag : ∀ b o, 0 < n → a = some ⟨b, o, none⟩ → b ≠ p ∧ b ≠ mb ∧ rv.ownBlock ≠ some b) (hz : ∀ v ∈ zs, WordV (l1 ++ l2) v) :
    Calls Try.prog 14 #[.pointer (some ⟨p, 0, none⟩), .slice a n c] w (MinorPost2 p mb rv S l1 l2 zs w) := by
  have hmk : ∀ w : World, (Instr.makeSlice 22 (.int .i64 (n : Int)) (.int .i64 (n : Int))).run Try.prog w = .ok (.slice (some ⟨w.heap.size, 0, none⟩) n n) (w.alloc (.cells (rowL n fun _ => .int .i64 0).toArray 3)) := fun w => run_make_rep (P := Try.prog) 22 3 (.int .i64 0) 8 Try.underlying22 Try.infoH3 rfl n (by omega) (by omega) w
  obtain ⟨c0, c1, c2, c3, c4, c5, c6, c7⟩ := h.cells
  have hzl : zs.length = n := by simpa using hc.count
  have hpl := h.st.lt
  obtain ⟨⟨o1, o2⟩, o3, o4, ⟨o5, o6⟩, o7, ⟨o8, o9⟩, o10, o11⟩ := hi.ok
  have HH := Lib.hid h
  have HI := Lib.hid hi
  have HC := Lib.hid hc
  have HZL := Lib.hid hzl
  have HAG := Lib.hid hag
  have HZ := Lib.hid hz
  have HMK := Lib.hid hmk
  have t1 : decide (65536 < (n : Int)) = false := decide_eq_false (by omega)
  have t2 : decide (65536 < n) = false := decide_eq_false (by omega)
  clear h hi hc hzl hag hz hmk c0 c1 c2 c7
  by_cases hfull : S.from_ + S.half + 1 < S.old + S.young
  · have HF := Lib.hid hfull
    have hg : (S.from_ : Int) + (S.half : Int) < (S.old : Int) + (S.young : Int) - 1 := by omega
    clear hfull
    go_enter Try.func14, Try.ntmps14
    go_wp2_with fail
    go_quiet (fail)
    go_wp2_with fail
    go_ret2
    exact .inl ⟨HF.out, rfl, _, rfl⟩
  · have hg : ¬ (S.from_ : Int) + (S.half : Int) < (S.old : Int) + (S.young : Int) - 1 := by omega
    have HRM : Hid (S.old + tot S.m l1 ≤ S.from_ + S.half) := by
      have := HI.out.wf.y.total
      unfold Hid
      omega
    clear hfull
    go_enter Try.func14, Try.ntmps14
    go_wp2_with fail
    go_quiet (fail)
    go_wp2_with fail
    have HH1 := Lib.hid (HH.out.later (below_drewN_self w.heap.size w nq))
    have HB1 := Lib.hid (below_drewN_self w.heap.size w nq)
    have hsz1 : (w.drewN nq).heap.size = w.heap.size := rfl
    have HSZ1 := Lib.hid hsz1
    clear c3 c4 c5 c6 hsz1
    generalize w.drewN nq = w1 at HH1 HB1 HSZ1 ⊢
    obtain ⟨c0, c1, c2, c3, c4, c5, c6, c7⟩ := HH1.out.cells
    have hpl1 := HH1.out.st.lt
    have r4 := fun x : After w1.heap.size w1.drew => (x.below.cell (p := ⟨p, 4, none⟩) hpl1).trans c4
    have r5 := fun x : After w1.heap.size w1.drew => (x.below.cell (p := ⟨p, 5, none⟩) hpl1).trans c5
    have r6 := fun x : After w1.heap.size w1.drew => (x.below.cell (p := ⟨p, 6, none⟩) hpl1).trans c6
    have hmm := @run_makeMap Try.prog
    clear c0 c1 c2 c3 c4 c5 c6 c7
    refine wp_region_eager w1.heap.size [(0, true), (1, true), (2, true), (3, true), (4, true), (5, true), (6, true), (7, true), (8, true), (9, true), (10, true), (11, true), (12, true), (13, true), (14, false), (15, true), (16, false), (17, true)] (by kernel_rfl) (by kernel_rfl) ?_
    repeat (refine eag_read rfl ?_; go_big_quiet_step (fail); refine wpQuiet_nil ?_)
    clear r4 r5 r6
    refine eag_does rfl rfl ?_
    intro K hK
    go_simp
    refine hK _ _ (below_alloc_drewH (Nat.le_refl _) _) ?_
    clear hK K hmm
    go_simp
    repeat (refine eag_read rfl ?_; go_big_quiet_step (fail); refine wpQuiet_nil ?_)
    refine eag_does rfl rfl ?_
    intro K hK
    go_simp
    have hq := Blk.new (w1.alloc (.map #[] 0)) [.pointer (some ⟨p, 0, none⟩), .int .i64 (S.old : Int), .int .i64 ((S.from_ : Int) + (S.half : Int)), .map (some w1.heap.size), .bool true, .bool false] 69
    rw [World.size_alloc] at hq
    have hk : MapC ((w1.alloc (.map #[] 0)).alloc (.cells #[.pointer (some ⟨p, 0, none⟩), .int .i64 (S.old : Int), .int .i64 ((S.from_ : Int) + (S.half : Int)), .map (some w1.heap.size), .bool true, .bool false] 69)) w1.heap.size S.m S.old [] := (mapC_made w1 S.m S.old).keep (Below.heap_alloc _ _ _ (by simp))
    have hb2 : Below w1.heap.size w1 ((w1.alloc (.map #[] 0)).alloc (.cells #[.pointer (some ⟨p, 0, none⟩), .int .i64 (S.old : Int), .int .i64 ((S.from_ : Int) + (S.half : Int)), .map (some w1.heap.size), .bool true, .bool false] 69)) := ((Below.refl _ _).alloc (Nat.le_refl _) _).alloc (by simp) _
    have HQ2 := Lib.hid hq
    have HK2 := Lib.hid hk
    have HB2 := Lib.hid hb2
    have hsz2 : ((w1.alloc (.map #[] 0)).alloc (.cells #[.pointer (some ⟨p, 0, none⟩), .int .i64 (S.old : Int), .int .i64 ((S.from_ : Int) + (S.half : Int)), .map (some w1.heap.size), .bool true, .bool false] 69)).heap.size = w1.heap.size + 2 := by simp
    have HSZ2 := Lib.hid hsz2
    refine hK _ _ (below_alloc_drewH (by simp) _) ?_
    clear hK K hq hk hb2 hsz2
    go_simp
    repeat (refine eag_read rfl ?_; go_big_quiet_step (fail); refine wpQuiet_nil ?_)
    refine eag_end ?_
    obtain ⟨w2, hw2⟩ : ∃ w2, w2 = ((w1.alloc (.map #[] 0)).alloc (.cells #[.pointer (some ⟨p, 0, none⟩), .int .i64 (S.old : Int), .int .i64 ((S.from_ : Int) + (S.half : Int)), .map (some w1.heap.size), .bool true, .bool false] 69)).drew := ⟨_, rfl⟩
    have HQ3 : Hid (Blk w2 (w1.heap.size + 1) 69 [.pointer (some ⟨p, 0, none⟩), .int .i64 (S.old : Int), .int .i64 ((S.from_ : Int) + (S.half : Int)), .map (some w1.heap.size), .bool true, .bool false]) := by rw [hw2]; exact HQ2.out.drew
    have HK3 : Hid (MapC w2 w1.heap.size S.m S.old []) := by rw [hw2]; exact HK2.out
    have HB3 : Hid (Below w1.heap.size w1 w2) := by rw [hw2]; exact HB2.out.drew
    have HSZ3 : Hid (w2.heap.size = w1.heap.size + 2) := by rw [hw2]; exact HSZ2.out
    rw [← hw2]
    clear hw2 HQ2 HK2 HB2 HSZ2
    have c1 := HQ3.out.cell 1
    simp only [List.getElem?_cons_zero, List.getElem?_cons_succ] at c1
    have hmk := HMK.out
    go_wp2_with fail
    clear hmk HMK c1
    have hob := Blk.new w2 (rowL n fun _ => Value.int .i64 0) 3
    have hb4 : Below w2.heap.size w2 (w2.alloc (.cells (rowL n fun _ => Value.int .i64 0).toArray 3)) := (Below.refl _ _).alloc (Nat.le_refl _) _
    have HNE : Hid (ObNe w2.heap.size (w1.heap.size + 1) w1.heap.size p mb rv) := by
      have h9 := HH1.out
      have := h9.mm.lt
      have := HSZ3.out
      exact ⟨by omega, by omega, by omega, by omega, fun e => by have := (h9.rr.lt _ e).2; omega⟩
    have HR0 : Hid (RootR (w1.heap.size + 1) w1.heap.size p mb w2.heap.size rv S true (S.from_ + S.half) S.old n l1 (fun _ => false) zs 0 (w2.alloc (.cells (rowL n fun _ => Value.int .i64 0).toArray 3))) := by
      have h9 := HH1.out
      have hq := (HQ3.out.alloc (.cells (rowL n fun _ => Value.int .i64 0).toArray 3))
      have hkk := HK3.out.keep (Below.heap_alloc w2 (.cells (rowL n fun _ => Value.int .i64 0).toArray 3) _ HK3.out.lt)
      have hp9 := (h9.later HB3.out).later hb4
      have := h9.mm.lt
      have e : ((S.from_ + S.half : Nat) : Int) = (S.from_ : Int) + (S.half : Int) := by push_cast; rfl
      refine RootR.start (by rw [e]; exact hq) hkk hp9 hob HI.out.gcMinor (by omega) (by omega) (by omega) (by omega) (by omega) (fun e => by have := (h9.rr.lt _ e).2; omega) (fun e => by have := (h9.rr.lt _ e).2; omega)
    have HB4 := Lib.hid (HB1.out.trans ((HB3.out.trans (hb4.mono (by rw [HSZ3.out]; omega))).mono (by rw [HSZ1.out]; exact Nat.le_refl _)))
    have hsz4 : (w2.alloc (.cells (rowL n fun _ => Value.int .i64 0).toArray 3)).heap.size = w1.heap.size + 3 := by simp [HSZ3.out]
    have HSZ4 := Lib.hid hsz4
    have HOB2 : Hid (w2.heap.size = w1.heap.size + 2) := HSZ3.out
    clear hob hb4 HQ3 HK3 HB3 HSZ3 hsz4
    generalize w2.alloc (.cells (rowL n fun _ => Value.int .i64 0).toArray 3) = w4 at HR0 HB4 HSZ4 ⊢
    obtain ⟨ob, hob⟩ : ∃ ob, ob = w2.heap.size := ⟨_, rfl⟩
    obtain ⟨q, hq⟩ : ∃ q, q = w1.heap.size + 1 := ⟨_, rfl⟩
    obtain ⟨kb, hkb⟩ : ∃ kb, kb = w1.heap.size := ⟨_, rfl⟩
    rw [← hob] at HNE HR0 HOB2 ⊢
    rw [← hq] at HNE HR0 ⊢
    rw [← hkb] at HNE HR0 HOB2 HSZ4 ⊢
    have HIDX : Hid (w.heap.size ≤ kb ∧ q = kb + 1 ∧ ob = kb + 2 ∧ p < kb ∧ mb < kb ∧ w4.heap.size = kb + 3 ∧ ∀ g, rv.ownBlock = some g → g < kb) := by
      have h9 := HH1.out
      have := h9.mm.lt
      refine ⟨by rw [hkb, HSZ1.out]; exact Nat.le_refl _, by rw [hq, hkb], HOB2.out, by omega, by omega, HSZ4.out, fun g hg => by have := (h9.rr.lt g hg).2; omega⟩
    clear hob hq hkb HOB2 HSZ4 HSZ1 HH1 HB1 hpl1
    go_wp2_with fail
    go_loopw [62] (fun iv wr => ∃ i : Nat, iv = .int .i64 (i : Int) ∧ i ≤ n ∧ FrO q kb mb ob w4 wr ∧ RootR q kb p mb ob rv S true (S.from_ + S.half) S.old n l1 (fun _ => false) zs i wr) (fun iv _ => n - (intOf iv).toNat)
    case atStart => exact ⟨0, rfl, Nat.zero_le _, FrO.refl _ _ _ _ _, HR0.out⟩
    case round =>
      clear HR0
      obtain ⟨i, rfl, hin, hfr, hrr⟩ := hrel
      have HFR := Lib.hid hfr
      have HRR := Lib.hid hrr
      clear hfr hrr
      by_cases hlt : i < n
      ·
        --BEGIN
        obtain ⟨b1, f1, ha, hb1, hcell⟩ := HC.out.ints (by omega)
        obtain ⟨g1, g2, g3⟩ := HAG.out b1 f1 (by omega) ha
        subst ha
        have hiz : i < zs.length := by have := HZL.out; omega
        have hw0 := hcell i hiz
        have hwr : wr.cell? ⟨b1, f1 + i, none⟩ = some (.int .i64 zs[i]) := by
          obtain ⟨d1, d2, d3, d4, d5, d6, d7⟩ := HIDX.out
          refine (World.cell?_of_block (a := ⟨b1, f1 + i, none⟩) ?_).trans hw0
          exact (HFR.out.block b1 (by omega) (by omega) (by omega) g2 (by omega)).trans (HB4.out.block b1 hb1)
        have HCALL := Lib.hid (root_step HRR.out HNE.out HI.out.ok o10 (fun _ j hj => (HI.out.lo hj).2.1) (fun j hj => HI.out.objAt (List.mem_append_left _ hj)) (.inr HRM.out) HZL.out hiz (HI.out.goodMinor (HZ.out _ (List.getElem_mem hiz))))
        obtain ⟨z, hzz⟩ : ∃ z, z = zs[i] := ⟨_, rfl⟩
        rw [← hzz] at hwr HCALL
        clear hzz hw0 hcell HRR
        go_wp2_with fail
        refine HCALL.out.mono ?_
        rintro e w5 ⟨y, rfl, hf5, ⟨z5, hz5⟩, hfz5, hr5⟩
        have HF5 := Lib.hid (HFR.out.step hf5)
        have HR5 := Lib.hid hr5
        have hwo : ∀ k, k < w4.heap.size → k ≠ q → k ≠ kb → k ≠ mb → k ≠ ob → (w5.setCell ⟨ob, i, none⟩ (.int .i64 y)).heap[k]? = w4.heap[k]? := fun k h1 h2 h3 h4 h5 => (Below.heap_setCell _ _ _ _ h5).trans (HF5.out.block k h1 h2 h3 h4 h5)
        have HF6 : Hid (FrO q kb mb ob w4 (w5.setCell ⟨ob, i, none⟩ (.int .i64 y))) := ⟨HF5.out.os, HF5.out.tape, HF5.out.output, by have := HF5.out.size; simpa using this, hwo⟩
        clear hf5 hr5 hwo HCALL HFR hwr
        go_wp2_with fail
        go_roundw
        case rel => exact ⟨i + 1, by go_num, by omega, HF6.out, HR5.out⟩
        case measure => simp [intOf]; omega
        --END
      · obtain rfl : n = i := by omega
        have HRM0 : Hid (RemR q kb p mb ob rv S (S.from_ + S.half) S.old n l1 zs 0 wr) := by
          rcases HRR.out with ⟨cp, h1, h2, h3, h4⟩ | ⟨⟨h1, h2⟩, h3⟩
          · refine ⟨cp, fun _ => false, h1, h2, fun k hk j hj e => h3 k hk (by have := HZL.out; omega) j hj e, h4.rowCongr fun k hk => by rw [if_pos hk], fun k hk h0 => by omega, fun x hx => by cases hx⟩
          · exact absurd h2 (by have := HRM.out; omega)
        have hrr := HH.out.rr
        obtain ⟨ra, rc, hrv⟩ := ownG_shape hrr
        obtain ⟨cp0, d0, _, hst0, _⟩ := HRM0.out
        have c7 : wr.cell? ⟨p, 7, none⟩ = some rv := hst0.hp.cells.c7
        have HRV := Lib.hid hrv
        rw [hrv] at c7
        have hrl : S.rem.length ≤ 65536 := nodup_bd HI.out.rnd fun k hk => by
          obtain ⟨o, ho, h1, h2⟩ := HI.out.rem k hk
          have := HI.out.hi ho
          unfold osz at this
          omega
        clear hrr hrv hst0 HRR hlt
        go_wp2_with fail
        go_loopw [79] (fun iv wi => ∃ i : Nat, iv = .int .i64 (i : Int) ∧ i ≤ S.rem.length ∧ FrO q kb mb ob w4 wi ∧ RemR q kb p mb ob rv S (S.from_ + S.half) S.old n l1 zs i wi) (fun iv _ => S.rem.length - (intOf iv).toNat)
        case atStart => exact ⟨0, rfl, Nat.zero_le _, HFR.out, HRM0.out⟩
        case round =>
          clear HRM0 HFR
          obtain ⟨i, rfl, hin2, hfr, hrm⟩ := hrel
          have HFR := Lib.hid hfr
          have HRR := Lib.hid hrm
          clear hfr hrm
          have hpq : p ≠ q ∧ p ≠ kb ∧ p ≠ mb := by
            obtain ⟨d1, d2, d3, d4, d5, d6, d7⟩ := HIDX.out
            exact ⟨by omega, by omega, HH.out.d1⟩
          obtain ⟨cpx, dx, _, hstx, _⟩ := HRR.out
          have hqm := hstx.n3
          have q0 := mv_cell0 hstx
          have p0 : wr.cell? ⟨p, 0, none⟩ = some (.slice (some ⟨mb, 0, none⟩) S.n S.n) := hstx.hp.cells.c0
          have hrrx : wr.ownsRow 0 3 1 rv S.rem.length (remL S.rem) := hstx.hp.rr
          rw [HRV.out] at hrrx
          clear hstx
          by_cases hlt : i < S.rem.length
          · obtain ⟨hkn, x, hx, hcall⟩ := rem_step (HRR.out.later ((Below.refl _ _).drew)) HNE.out HI.out HRM.out HZL.out hlt
            obtain ⟨g, cap, hg1, hg2, hg3, hg4, hg5⟩ := ownG_has hrrx (by omega)
            injection hg1 with e1 e2 e3
            subst e1 e3
            clear e2
            have hce := hrrx.cellAt i (show i < S.rem.length * 1 by rw [Nat.mul_one]; exact hlt)
            have hremi : (remL S.rem)[i]? = some (.int .i64 (S.rem[i] : Int)) := by
              unfold remL
              rw [List.getElem?_map, List.getElem?_eq_getElem hlt]
              rfl
            simp only [hremi] at hce
            have HCALL := Lib.hid hcall
            have HX := Lib.hid hx
            obtain ⟨k, hk⟩ : ∃ k, k = S.rem[i] := ⟨_, rfl⟩
            rw [← hk] at HCALL HX hce hkn
            unfold maxLen at hg5
            clear hk hx hcall hremi hrrx HRR
            go_wp2_with fail
            obtain ⟨w5, hw5⟩ : ∃ w5, w5 = wr := ⟨_, rfl⟩
            rw [← hw5] at HFR HCALL HX q0 p0 hg3 hce ⊢
            clear hw5
            have hplt : p < w5.heap.size := World.block_lt_of_cell? w5 _ p0
            have r0 : ∀ x : AfterR (KeepQ q p) w5.drew, x.world.cell? ⟨q, 0, none⟩ = some (.pointer (some ⟨p, 0, none⟩)) := fun x => x.rel.1.trans q0
            have r1 : ∀ x : AfterR (KeepQ q p) w5.drew, x.world.cell? ⟨p, 0, none⟩ = some (.slice (some ⟨mb, 0, none⟩) S.n S.n) := fun x => (World.cell?_of_block (a := ⟨p, 0, none⟩) x.rel.2).trans p0
            refine wp_region_eagerR (KeepQ q p) [(0, true), (1, true), (2, true), (3, true), (4, true), (5, true), (6, true), (7, true), (8, true), (9, true), (10, true), (11, true), (12, false), (13, false), (14, true), (15, false)] (by kernel_rfl) (by kernel_rfl) ?_
            repeat (refine eagR_read rfl ?_; go_big_quiet_step (fail); refine wpQuiet_nil ?_)
            clear r0 r1 q0 p0 hce
            refine eagR_does rfl rfl ?_
            intro K hK
            have hx : w5.drew.cell? ⟨mb, k, none⟩ = some (.int .i64 x) := HX.out
            go_simp
            refine hK _ _ ⟨rfl, rfl⟩ ?_
            clear hK K hx HX
            go_simp
            refine eagR_does rfl rfl ?_
            intro K hK
            go_simp
            refine HCALL.out.mono ?_
            rintro e w6 ⟨y, rfl, hf6, hq6, hp6, ⟨z6, hz6⟩, hfz6, hr6⟩
            refine hK _ _ ⟨hq6, hp6⟩ ?_
            clear hK K hq6 hp6
            have HF6 := Lib.hid ((HFR.out.step (Fr3.of_below (((Below.refl w5.heap.size w5).drew)))).step (hf6.trans (Fr3.set (a := ⟨mb, k, none⟩) (.inr rfl) (.int .i64 y))))
            have HR6 := Lib.hid hr6
            have hKK : KeepQ q p w6 (w6.setCell ⟨mb, k, none⟩ (.int .i64 y)) := ⟨World.cell?_of_block (a := ⟨q, 0, none⟩) (Below.heap_setCell _ _ _ _ hqm), Below.heap_setCell _ _ _ _ hpq.2.2⟩
            have HKK := Lib.hid hKK
            clear hf6 hr6 hKK HFR HCALL
            go_simp
            repeat (refine eagR_read rfl ?_; go_big_quiet_step (fail); refine wpQuiet_nil ?_)
            refine eagR_does rfl rfl ?_
            intro K hK
            go_simp
            refine hK _ _ HKK.out ?_
            clear hK K HKK hz6 hfz6
            go_simp
            refine eagR_end ?_
            go_wp2_with fail
            go_roundw
            case rel => exact ⟨i + 1, by go_num, by omega, HF6.out, HR6.out⟩
            case measure => simp [intOf]; omega
          · obtain ⟨cp, d, h1, h2, h3, h4, h5, h6⟩ := HRR.out
            have hpe : p ≠ mb := HH.out.d1
            have HSC := Lib.hid (scan_ok wr q kb p mb rv S true (S.from_ + S.half) S.old l1 cp d h2 HI.out.ok h1 o10 (fun _ j hj => (HI.out.lo hj).2.1) (fun j hj => HI.out.objAt (List.mem_append_left _ hj)) (.inr HRM.out)
              (fun k hk => by
                obtain ⟨k2, h7, h8, rfl⟩ := h6 k hk
                obtain ⟨o, ho, hh1, hh2⟩ := HI.out.rem _ (List.getElem_mem h7)
                have := HI.out.hi ho
                unfold osz at this
                omega)
              (fun j hj t ht1 ht2 => HI.out.goodMinor (HI.out.fieldV (List.mem_append_left _ hj) ht1 ht2)))
            have H3 := Lib.hid h3
            have H4 := Lib.hid h4
            have H5 := Lib.hid h5
            clear h1 h2 h3 h4 h5 h6 q0 p0 hrrx HRR
            go_wp2_with fail
            refine HSC.out.mono ?_
            rintro e w7 ⟨rfl, hf7, ⟨cp', d', hs7⟩ | ⟨_, hov⟩⟩
            case inr => exact absurd hov (by have := HRM.out; omega)
            obtain ⟨⟨l, rfl⟩, hg7, hst7, _, hup7, hdn7, hsc7⟩ := hs7
            have HROW := Lib.hid (H4.out.of_heap (hf7.block ob H4.out.lt HNE.out.o1 HNE.out.o2 HNE.out.o4))
            have HF7 := Lib.hid (HFR.out.step hf7)
            have HCO := Lib.hid (HI.out.collMinor hg7 (fun k hk => by
              obtain ⟨k2, hk2, rfl⟩ := List.getElem_of_mem hk
              exact hup7 _ (H5.out k2 hk2 (by omega))) hsc7)
            have HG7 := Lib.hid hg7
            have q1 : w7.cell? ⟨q, 1, none⟩ = some (.int .i64 ((S.old + tot S.m (cp ++ l) : Nat) : Int)) := hst7.st.cell 1
            have hp7 := hst7.hp
            have d3 := hp7.cells.c3
            have d6 := hp7.cells.c6
            have d7 := hp7.cells.c7
            have e3 := hp7.st.free 3
            have e6 := hp7.st.free 6
            have e7 := hp7.st.free 7
            simp only at d3 d6
            have HP7 := Lib.hid hp7
            obtain ⟨NF, hNF⟩ : ∃ NF, NF = S.old + tot S.m (cp ++ l) := ⟨_, rfl⟩
            rw [← hNF] at q1
            have HNF := Lib.hid hNF
            clear hNF hp7 hst7 hg7 hup7 hdn7 hsc7 hf7 HSC HFR
            go_wp2_with fail
            go_ret2
            refine .inr ⟨.slice (some ⟨ob, 0, none⟩) n n, _, _, _, _, rfl, ?_, ?_, HCO.out, fun v hv j h0 e => ?_, ?_, cp ++ l, rfl, HG7.out.nd, HG7.out.sub, rfl, rfl, rfl⟩
            · have hb7 := (((HROW.out.setOther (a := ⟨p, 6, none⟩) HNE.out.o3 (.int .i64 (NF : Int))).setOther (a := ⟨p, 3, none⟩) HNE.out.o3 (.int .i64 1)).setOther (a := ⟨p, 7, none⟩) HNE.out.o3 (.slice none 0 0))
              have hb8 := hb7.rowCongr (g := fun k => Value.int .i64 (fv (phiC S.m S.old (cp ++ l)) (zs.getD k 0))) fun k hk => by
                have hkz : k < zs.length := by have := HZL.out; omega
                rw [List.getD_eq_getElem?_getD, List.getElem?_eq_getElem hkz]
                show Value.int .i64 (fwdC S.m S.old cp zs[k]) = Value.int .i64 (fv (phiC S.m S.old (cp ++ l)) zs[k])
                rw [← fwdC_fv, fwdC_ext (fun j hj e => H3.out k hkz j hj e) HG7.out.sub]
              have hb9 := own_of_row (base := w.heap.size) hb8 (by obtain ⟨d1, d2, d3, _⟩ := HIDX.out; omega) (by unfold maxLen; omega)
              have e9 := rowL_map (zs := zs) (f := fun z => Value.int .i64 (fv (phiC S.m S.old (cp ++ l)) z))
              rw [HZL.out] at e9
              rw [e9] at hb9
              rw [HZL.out]
              exact hb9
            · have h9 := HP7.out
              refine ⟨?_, ((h9.mm.setOther (a := ⟨p, 6, none⟩) (Ne.symm hpe) _).setOther (a := ⟨p, 3, none⟩) (Ne.symm hpe) _).setOther (a := ⟨p, 7, none⟩) (Ne.symm hpe) _, World.ownsRow_nil _ _ _ _, hpe, by simp [Value.ownBlock], by simp [Value.ownBlock]⟩
              have := ((h9.st.set 6 (.int .i64 (NF : Int))).set 3 (.int .i64 1)).set 7 (.slice none 0 0)
              rw [HNF.out] at this ⊢
              exact this
            · rcases HZ.out v hv with h9 | h9 | ⟨j', hj', h9⟩
              · omega
              · omega
              · obtain rfl : j = j' := by omega
                rcases List.mem_append.1 hj' with h10 | h10
                · obtain ⟨k, hk, rfl⟩ := List.getElem_of_mem hv
                  exact List.mem_append_left _ (List.mem_append_left _ (H3.out k hk j h10 e))
                · exact List.mem_append_right _ h10
            · obtain ⟨g1, g2, g3, g4, g5, g6, g7⟩ := HIDX.out
              refine ⟨HF7.out.os.trans HB4.out.os, HF7.out.tape.trans HB4.out.tape, HF7.out.output.trans HB4.out.output, ?_, fun k hk hk1 hk2 hk3 => ?_, fun g hg => by simp [Value.ownBlock] at hg⟩
              · have := HF7.out.size
                have := HB4.out.size
                simp
                omega
              · refine (Below.heap_setCell _ _ _ _ hk1).trans ((Below.heap_setCell _ _ _ _ hk1).trans ((Below.heap_setCell _ _ _ _ hk1).trans ?_))
                exact (HF7.out.block k (by omega) (by omega) (by omega) hk2 (by omega)).trans (HB4.out.block k hk)
end Go.Proofs.Ytkpeeemnholmnaa
