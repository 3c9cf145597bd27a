/- The contract of the heap's Major. -/
import Derived.Test.YtkpeeemnholmnaaGcMi
namespace Go.Proofs.Ytkpeeemnholmnaa
open Go.RowKit Go.Maps
set_option linter.unusedVariables false
set_option linter.unusedSimpArgs false

set_option maxHeartbeats 1000000 in
theorem scan_isfull (w : World) (q kb p mb : Nat) (rv : Value) (S : HS) (b L : Nat) (h : MvFull w q kb p mb rv S b L) (i : Nat) :
    Calls Try.prog 29 #[.pointer (some ⟨q, 0, none⟩), .int .i64 (i : Int)] w fun e w' => e = .returned (.tuple #[]) ∧ w' = w := by
  obtain ⟨fr, hfr, yo, h1⟩ := h.st
  have c1 := h1.cell 1
  have c5 := h1.cell 5
  simp only [List.getElem?_cons_zero, List.getElem?_cons_succ] at c1 c5
  clear h h1
  go_enter Try.func29, Try.ntmps29
  go_wp2_with fail
  go_loopw [1] (fun iv wr => iv = .int .i64 (i : Int) ∧ wr = w) (fun _ _ => 0)
  case atStart => exact ⟨rfl, rfl⟩
  case round =>
    obtain ⟨rfl, rfl⟩ := hrel
    by_cases hlt : i < fr
    all_goals
      go_wp2_with fail
      go_end0
      exact ⟨rfl, rfl⟩

/-- the half to which a major collection copies -/
def HS.to_ (S : HS) : Nat := if S.from_ = S.nursery then S.nursery + S.half else S.nursery
section
variable {S : HS} {l1 l2 : List Nat}
theorem HInv.to_bd (hi : HInv S l1 l2) : S.nursery ≤ S.to_ ∧ S.to_ + S.half ≤ S.stack ∧ (S.to_ = S.nursery ∨ S.to_ = S.nursery + S.half) := by
  have := hi.ok.two
  unfold HS.to_
  split <;> omega
theorem HInv.gcMajor (hi : HInv S l1 l2) {Src : List Nat} (hs : ∀ j ∈ Src, j ∈ l1 ++ l2) : Gc S.m Src S.to_ (S.to_ + S.half) [] fun _ => false := by
  refine ⟨List.nodup_nil, (fun j hj => by cases hj), (by show S.to_ + 0 ≤ _; omega), (fun i h => by cases h), (fun i h => by cases h), fun j hj => ⟨(hi.pos (hs j hj)).1, fun t ht => ⟨rfl, ?_⟩⟩⟩
  have htb := hi.to_bd
  have hyo := hi.ok.yo
  have hol := hi.ok.ol
  rcases List.mem_append.1 (hs j hj) with h | h
  · have := hi.lo h
    left; omega
  · have h1 := hi.hi h
    have h2 := hi.half
    unfold HS.to_
    split
    · left; omega
    · right; omega
/-- what a major collection has done -/
theorem HInv.collMajor (hi : HInv S l1 l2) {Src cp : List Nat} {d : Nat → Bool} (hs : ∀ j ∈ Src, j ∈ l1 ++ l2) (hcs : ∀ j ∈ Src, ∀ t, 1 ≤ t → t ≤ hsize (S.m j) → ∀ k : Nat, 0 < k → S.m (j + t) = 2 * (k : Int) → k ∈ Src)
    (hg : Gc S.m Src S.to_ (S.to_ + S.half) cp d) (hsc : Scanned S.m S.to_ cp d cp.length) :
    Coll S { S with m := memC S.m S.to_ cp d, from_ := S.to_, old := S.to_ + tot S.m cp, young := 1, rem := [] } l1 l2 (cp.map (addrC S.m S.to_ cp)) cp (phiC S.m S.to_ cp) := by
  have htb := hi.to_bd
  have := coll_of hi hg { S with m := memC S.m S.to_ cp d, from_ := S.to_, old := S.to_ + tot S.m cp, young := 1, rem := [] } [] rfl ⟨rfl, rfl, rfl, rfl, rfl⟩ rfl hs rfl htb.2.2 (Nat.le_refl _) (fun j hj t h1 h2 => hsc j (by rw [List.take_length]; exact hj) t h1 h2) (fun j hj => by cases hj) (.nil _) (fun j hj => by cases hj)
    (fun j hj t h1 h2 k h3 h4 => by
      rw [List.append_nil] at hj ⊢
      exact hg.cl _ (hsc j (by rw [List.take_length]; exact hj) t h1 h2) k (hcs j (hg.sub j hj) t h1 (by unfold osz at h2; omega) k h3 h4) ((hg.copied hj h2).trans h4))
  rw [List.append_nil] at this
  exact this
end
def GoodM (Src : List Nat) (v : Int) : Prop := (v % 2 = 1 ∧ -2147483648 ≤ v ∧ v ≤ 2147483647) ∨ v = 0 ∨ ∃ j ∈ Src, v = 2 * (j : Int)
def MajorPost (p mb : Nat) (rv : Value) (S : HS) (l1 l2 Src : List Nat) (zs : List Int) (w : World) (e : Ending) (w' : World) : Prop :=
  (S.half < tot S.m Src ∧ e = .returned (.tuple #[.slice none 0 0, .int .i64 16]) ∧ (∃ m' : Nat → Int, HeapSt w' p mb rv { S with m := m' } ∧ ∀ i, (i < S.to_ ∨ S.to_ + S.half ≤ i) → m' i = S.m i) ∧ HStep p mb rv rv w w') ∨
  (∃ v' S' φ R l2', e = .returned (.tuple #[v', .int .i64 0]) ∧ w'.ownsRow w.heap.size 3 1 v' zs.length (zs.map fun z => Value.int .i64 (fv φ z)) ∧ HeapSt w' p mb (.slice none 0 0) S' ∧ Coll S S' l1 l2 l2' R φ ∧
    (∀ v ∈ zs, ∀ j : Nat, 0 < j → v = 2 * (j : Int) → j ∈ R) ∧ HStep p mb rv (.slice none 0 0) w w' ∧ R.Nodup ∧ (∀ j ∈ R, j ∈ Src) ∧ S'.old = S'.from_ + tot S.m R)

set_option maxRecDepth 100000 in
set_option maxHeartbeats 8000000 in
theorem major_ok (w : World) (p mb : Nat) (rv : Value) (S : HS) (l1 l2 Src : List Nat) (h : HeapSt w p mb rv S) (hi : HInv S l1 l2) (a : Option Addr) (n c : Nat) (zs : List Int) (hc : Came w a n c 1 (zs.map intCells)) (hn : n ≤ 1000)
    (hag : ∀ b o, 0 < n → a = some ⟨b, o, none⟩ → b ≠ p ∧ b ≠ mb ∧ rv.ownBlock ≠ some b) (hsrc : ∀ j ∈ Src, j ∈ l1 ++ l2) (hcs : ∀ j ∈ Src, ∀ t, 1 ≤ t → t ≤ hsize (S.m j) → ∀ k : Nat, 0 < k → S.m (j + t) = 2 * (k : Int) → k ∈ Src) (hz : ∀ v ∈ zs, GoodM Src v) :
    Calls Try.prog 15 #[.pointer (some ⟨p, 0, none⟩), .slice a n c] w (MajorPost p mb rv S l1 l2 Src zs w) := by
  have hmk : ∀ w : World, (Instr.makeSlice 22 (.int .i64 (n : Int)) (.int .i64 (n : Int))).run Try.prog w = .ok (.slice (some ⟨w.heap.size, 0, none⟩) n n) (w.alloc (.cells (rowL n fun _ => .int .i64 0).toArray 3)) := fun w => run_make_rep (P := Try.prog) 22 3 (.int .i64 0) 8 Try.underlying22 Try.infoH3 rfl n (by omega) (by omega) w
  obtain ⟨c0, c1, c2, c3, c4, c5, c6, c7⟩ := h.cells
  have hzl : zs.length = n := by simpa using hc.count
  have hpl := h.st.lt
  have htb := hi.to_bd
  obtain ⟨⟨o1, o2⟩, o3, o4, ⟨o5, o6⟩, o7, ⟨o8, o9⟩, o10, o11⟩ := hi.ok
  have HH := Lib.hid h
  have HI := Lib.hid hi
  have HC := Lib.hid hc
  have HZL := Lib.hid hzl
  have HAG := Lib.hid hag
  have HZ := Lib.hid hz
  have HMK := Lib.hid hmk
  have HSRC := Lib.hid hsrc
  have HCS := Lib.hid hcs
  have HGV : Hid (∀ v, GoodM Src v → GoodV Src false S.nursery v) := fun v hv => by
    rcases hv with h | h | ⟨j, hj, h⟩
    · exact .inl h
    · exact .inr (.inl h)
    · have hp := hi.pos (hsrc j hj)
      exact .inr (.inr ⟨j, hp.1, hp.2, h, .inl hj⟩)
  have HFV : Hid (∀ j ∈ Src, ∀ t, 1 ≤ t → t ≤ hsize (S.m j) → GoodV Src false S.nursery (S.m (j + t))) := fun j hj t h1 h2 => by
    refine HGV.out _ ?_
    rcases hi.fieldV (hsrc j hj) h1 h2 with h | h | ⟨k, hk, h⟩
    · exact .inl h
    · exact .inr (.inl h)
    · exact .inr (.inr ⟨k, hcs j hj t h1 h2 k (hi.pos hk).1 h, h⟩)
  have t1 : decide (65536 < (n : Int)) = false := decide_eq_false (by omega)
  have t2 : decide (65536 < n) = false := decide_eq_false (by omega)
  have HTO : Hid (S.to_ = if S.from_ = S.nursery then S.nursery + S.half else S.nursery) := rfl
  obtain ⟨B, hB⟩ : ∃ B, B = S.to_ := ⟨_, rfl⟩
  rw [← hB] at htb HTO
  have HB := Lib.hid hB
  have HGC : Hid (Gc S.m Src B (B + S.half) [] fun _ => false) := by rw [hB]; exact hi.gcMajor hsrc
  clear h hi hc hzl hag hz hmk hsrc hcs hB c0 c1 c3 c6 c7
  by_cases hfn : S.from_ = S.nursery
  case' pos =>
    have hq : ((S.from_ : Int) == (S.nursery : Int)) = true := by rw [beq_iff_eq]; omega
    have hto : (B : Int) = (S.nursery : Int) + (S.half : Int) := by
      have := HTO.out
      rw [if_pos hfn] at this
      omega
    have HT2 := Lib.hid hto
    clear hfn hto HTO
    go_enter Try.func15, Try.ntmps15
    go_wp2_with fail
    go_quiet (fail)
    have HW1 := Lib.hid (HH.out.later (below_drewN_self w.heap.size w nq))
    have HBQ := Lib.hid (below_drewN_self w.heap.size w nq)
    have hszq : (w.drewN nq).heap.size = w.heap.size := rfl
    have HSZQ := Lib.hid hszq
    clear c2 c4 c5 hszq
    generalize w.drewN nq = wq at HW1 HBQ HSZQ ⊢
    obtain ⟨_, _, c2, _, c4, _, _, _⟩ := HW1.out.cells
    go_wp2_with fail
    go_quiet (fail)
    have HH1 := Lib.hid (HW1.out.later (below_drewN_self wq.heap.size wq nq))
    have HB1 := Lib.hid (HBQ.out.trans (below_drewN_self w.heap.size wq nq))
    have hsz1 : (wq.drewN nq).heap.size = w.heap.size := HSZQ.out
    have HSZ1 := Lib.hid hsz1
    clear c2 c4 hsz1 HW1 HBQ HSZQ
    generalize wq.drewN nq = w1 at HH1 HB1 HSZ1 ⊢
  case' neg =>
    have hq : ((S.from_ : Int) == (S.nursery : Int)) = false := by rw [beq_eq_false_iff_ne]; omega
    have hto : (B : Int) = (S.nursery : Int) := by
      have := HTO.out
      rw [if_neg hfn] at this
      omega
    have HT2 := Lib.hid hto
    clear hfn hto HTO
    go_enter Try.func15, Try.ntmps15
    go_wp2_with fail
    go_quiet (fail)
    have HH1 := Lib.hid (HH.out.later (below_drewN_self w.heap.size w nq))
    have HB1 := Lib.hid (below_drewN_self w.heap.size w nq)
    have hsz1 : (w.drewN nq).heap.size = w.heap.size := rfl
    have HSZ1 := Lib.hid hsz1
    clear c2 c4 c5 hsz1
    generalize w.drewN nq = w1 at HH1 HB1 HSZ1 ⊢
  all_goals
    go_upto_region 6 with fail
    rw [← HT2.out]
    clear HT2
    obtain ⟨c0, c1, c2, c3, c4, c5, c6, c7⟩ := HH1.out.cells
    clear c0 c1 c2 c3 c5 c6 c7
    have hpl1 := HH1.out.st.lt
    have hmm := @run_makeMap Try.prog
    have hmk := HMK.out
    have hq := Blk.new (w1.alloc (.map #[] 0)) [.pointer (some ⟨p, 0, none⟩), .int .i64 (B : Int), .int .i64 ((B : Int) + (S.half : Int)), .map (some w1.heap.size), .bool false, .bool false] 69
    rw [World.size_alloc] at hq
    have hk : MapC ((w1.alloc (.map #[] 0)).alloc (.cells #[.pointer (some ⟨p, 0, none⟩), .int .i64 (B : Int), .int .i64 ((B : Int) + (S.half : Int)), .map (some w1.heap.size), .bool false, .bool false] 69)) w1.heap.size S.m B [] := (mapC_made w1 S.m B).keep (Below.heap_alloc _ _ _ (by simp))
    have hb2 : Below w1.heap.size w1 ((w1.alloc (.map #[] 0)).alloc (.cells #[.pointer (some ⟨p, 0, none⟩), .int .i64 (B : Int), .int .i64 ((B : Int) + (S.half : Int)), .map (some w1.heap.size), .bool false, .bool false] 69)) := ((Below.refl _ _).alloc (Nat.le_refl _) _).alloc (by simp) _
    have hsz2 : ((w1.alloc (.map #[] 0)).alloc (.cells #[.pointer (some ⟨p, 0, none⟩), .int .i64 (B : Int), .int .i64 ((B : Int) + (S.half : Int)), .map (some w1.heap.size), .bool false, .bool false] 69)).heap.size = w1.heap.size + 2 := by simp
    have HQ2 := Lib.hid hq
    have HK2 := Lib.hid hk
    have HB2 := Lib.hid hb2
    have HSZ2 := Lib.hid hsz2
    clear hq hk hb2 hsz2
    go_wp2_with fail
    clear hmm hmk c4 HMK
    generalize hw2 : (w1.alloc (.map #[] 0)).alloc (.cells #[.pointer (some ⟨p, 0, none⟩), .int .i64 (B : Int), .int .i64 ((B : Int) + (S.half : Int)), .map (some w1.heap.size), .bool false, .bool false] 69) = w2 at HQ2 HK2 HB2 HSZ2 ⊢
    clear hw2
    have hob := Blk.new w2 (rowL n fun _ => Value.int .i64 0) 3
    rw [HSZ2.out] at hob
    have hb4 : Below w2.heap.size w2 (w2.alloc (.cells (rowL n fun _ => Value.int .i64 0).toArray 3)) := (Below.refl _ _).alloc (Nat.le_refl _) _
    have HNE : Hid (ObNe (w1.heap.size + 2) (w1.heap.size + 1) w1.heap.size p mb rv) := by
      have h9 := HH1.out
      have := h9.mm.lt
      exact ⟨by omega, by omega, by omega, by omega, fun e => by have := (h9.rr.lt _ e).2; omega⟩
    have HR0 : Hid (RootR (w1.heap.size + 1) w1.heap.size p mb (w1.heap.size + 2) rv S false (B + S.half) B n Src (fun _ => false) zs 0 (w2.alloc (.cells (rowL n fun _ => Value.int .i64 0).toArray 3))) := by
      have h9 := HH1.out
      have hq := (HQ2.out.alloc (.cells (rowL n fun _ => Value.int .i64 0).toArray 3))
      have hkk := HK2.out.keep (Below.heap_alloc w2 (.cells (rowL n fun _ => Value.int .i64 0).toArray 3) _ HK2.out.lt)
      have hp9 := (h9.later HB2.out).later hb4
      have := h9.mm.lt
      have e : ((B + S.half : Nat) : Int) = (B : Int) + (S.half : Int) := by push_cast; rfl
      refine RootR.start (by rw [e]; exact hq) hkk hp9 hob HGC.out (by omega) (by omega) (by omega) (by omega) (by omega) (fun e => by have := (h9.rr.lt _ e).2; omega) (fun e => by have := (h9.rr.lt _ e).2; omega)
    have HB4 := Lib.hid (HB1.out.trans ((HB2.out.trans (hb4.mono (by rw [HSZ2.out]; omega))).mono (by rw [HSZ1.out]; exact Nat.le_refl _)))
    have hsz4 : (w2.alloc (.cells (rowL n fun _ => Value.int .i64 0).toArray 3)).heap.size = w1.heap.size + 3 := by simp [HSZ2.out]
    have HSZ4 := Lib.hid hsz4
    clear hob hb4 HQ2 HK2 HB2 HSZ2 hsz4
    generalize w2.alloc (.cells (rowL n fun _ => Value.int .i64 0).toArray 3) = w4 at HR0 HB4 HSZ4 ⊢
    obtain ⟨ob, hob⟩ : ∃ ob, ob = w1.heap.size + 2 := ⟨_, rfl⟩
    obtain ⟨q, hq⟩ : ∃ q, q = w1.heap.size + 1 := ⟨_, rfl⟩
    obtain ⟨kb, hkb⟩ : ∃ kb, kb = w1.heap.size := ⟨_, rfl⟩
    have e1 : w1.heap.size + 1 + 1 = ob := by omega
    rw [← hob] at HNE HR0
    rw [← hq] at HNE HR0
    rw [← hkb] at HNE HR0 HSZ4
    have HIDX : Hid (w.heap.size ≤ kb ∧ q = kb + 1 ∧ ob = kb + 2 ∧ p < kb ∧ mb < kb ∧ w4.heap.size = kb + 3 ∧ ∀ g, rv.ownBlock = some g → g < kb) := by
      have h9 := HH1.out
      have := h9.mm.lt
      refine ⟨by rw [hkb, HSZ1.out]; exact Nat.le_refl _, by rw [hq, hkb], by rw [hob, hkb], by omega, by omega, HSZ4.out, fun g hg => by have := (h9.rr.lt g hg).2; omega⟩
    rw [e1, ← hq, ← hkb]
    clear hob hq hkb e1 HSZ4 HSZ1 HH1 HB1 hpl1
    go_loopw [52] (fun iv wr => ∃ i : Nat, iv = .int .i64 (i : Int) ∧ i ≤ n ∧ FrO q kb mb ob w4 wr ∧ RootR q kb p mb ob rv S false (B + S.half) B n Src (fun _ => false) zs i wr) (fun iv _ => n - (intOf iv).toNat)
    case atStart => exact ⟨0, rfl, Nat.zero_le _, FrO.refl _ _ _ _ _, HR0.out⟩
    case round =>
      clear HR0
      obtain ⟨i, rfl, hin, hfr, hrr⟩ := hrel
      have HFR := Lib.hid hfr
      have HRR := Lib.hid hrr
      clear hfr hrr
      by_cases hlt : i < n
      · obtain ⟨b1, f1, ha, hb1, hcell⟩ := HC.out.ints (by omega)
        obtain ⟨g1, g2, g3⟩ := HAG.out b1 f1 (by omega) ha
        subst ha
        have hiz : i < zs.length := by have := HZL.out; omega
        have hw0 := hcell i hiz
        have hwr : wr.cell? ⟨b1, f1 + i, none⟩ = some (.int .i64 zs[i]) := by
          obtain ⟨d1, d2, d3, d4, d5, d6, d7⟩ := HIDX.out
          refine (World.cell?_of_block (a := ⟨b1, f1 + i, none⟩) ?_).trans hw0
          exact (HFR.out.block b1 (by omega) (by omega) (by omega) g2 (by omega)).trans (HB4.out.block b1 hb1)
        have HCALL := Lib.hid (root_step HRR.out HNE.out HI.out.ok htb.2.1 (fun h => by cases h) (fun j hj => HI.out.objAt (HSRC.out j hj)) (.inl fun i h => by cases h) HZL.out hiz (HGV.out _ (HZ.out _ (List.getElem_mem hiz))))
        obtain ⟨z, hzz⟩ : ∃ z, z = zs[i] := ⟨_, rfl⟩
        rw [← hzz] at hwr HCALL
        clear hzz hw0 hcell HRR
        go_wp2_with fail
        refine HCALL.out.mono ?_
        rintro e w5 ⟨y, rfl, hf5, ⟨z5, hz5⟩, hfz5, hr5⟩
        have HF5 := Lib.hid (HFR.out.step hf5)
        have HR5 := Lib.hid hr5
        have hwo : ∀ k, k < w4.heap.size → k ≠ q → k ≠ kb → k ≠ mb → k ≠ ob → (w5.setCell ⟨ob, i, none⟩ (.int .i64 y)).heap[k]? = w4.heap[k]? := fun k h1 h2 h3 h4 h5 => (Below.heap_setCell _ _ _ _ h5).trans (HF5.out.block k h1 h2 h3 h4 h5)
        have HF6 : Hid (FrO q kb mb ob w4 (w5.setCell ⟨ob, i, none⟩ (.int .i64 y))) := ⟨HF5.out.os, HF5.out.tape, HF5.out.output, by have := HF5.out.size; simpa using this, hwo⟩
        clear hf5 hr5 hwo HCALL HFR hwr
        go_wp2_with fail
        go_roundw
        case rel => exact ⟨i + 1, by go_num, by omega, HF6.out, HR5.out⟩
        case measure => simp [intOf]; omega
      · obtain rfl : n = i := by omega
        have hpe : p ≠ mb := HH.out.d1
        have HSTEP : Hid (∀ wx, FrO q kb mb ob w4 wx → ∀ rv', (rv' = rv ∨ rv'.ownBlock = none) → HStep p mb rv rv' w wx) := fun wx hf rv' hrv' => by
          obtain ⟨g1, g2, g3, g4, g5, g6, g7⟩ := HIDX.out
          refine ⟨hf.os.trans HB4.out.os, hf.tape.trans HB4.out.tape, hf.output.trans HB4.out.output, Nat.le_trans HB4.out.size hf.size, fun k hk hk1 hk2 hk3 => ?_, fun g hg => ?_⟩
          · exact (hf.block k (by omega) (by omega) (by omega) hk2 (by omega)).trans (HB4.out.block k hk)
          · rcases hrv' with rfl | h
            · exact .inl hg
            · rw [h] at hg; cases hg
        have HOVER : Hid (∀ wx, FrO q kb mb ob w4 wx → FullS q kb p mb rv S B (B + S.half) Src wx → MajorPost p mb rv S l1 l2 Src zs w (.returned (.tuple #[.slice none 0 0, .int .i64 16])) wx) := fun wx hf hfull => by
          obtain ⟨m', h1, h2⟩ := hfull.1.hp
          refine .inl ⟨by have := hfull.2; omega, rfl, ⟨m', h1, ?_⟩, HSTEP.out wx hf rv (.inl rfl)⟩
          rw [← HB.out]
          exact h2
        rcases HRR.out with ⟨cp, h1, h2, h3, h4⟩ | ⟨hfull, f, hfo⟩
        · have HSC := Lib.hid (scan_ok wr q kb p mb rv S false (B + S.half) B Src cp (fun _ => false) h2 HI.out.ok h1 htb.2.1 (fun h => by cases h) (fun j hj => HI.out.objAt (HSRC.out j hj)) (.inl fun i h => by cases h)
              (fun k hk => by cases hk) HFV.out)
          have H3 := Lib.hid h3
          have H4 := Lib.hid h4
          clear h1 h2 h3 h4 HRR
          go_wp2_with fail
          refine HSC.out.mono ?_
          rintro e w7 ⟨rfl, hf7, ⟨cp', d', hs7⟩ | hov⟩
          · obtain ⟨⟨l, rfl⟩, hg7, hst7, _, hup7, hdn7, hsc7⟩ := hs7
            have HROW := Lib.hid (H4.out.of_heap (hf7.block ob H4.out.lt HNE.out.o1 HNE.out.o2 HNE.out.o4))
            have HF7 := Lib.hid (HFR.out.step hf7)
            have HCO : Hid (Coll S { S with m := memC S.m B (cp ++ l) d', from_ := B, old := B + tot S.m (cp ++ l), young := 1, rem := [] } l1 l2 ((cp ++ l).map (addrC S.m B (cp ++ l))) (cp ++ l) (phiC S.m B (cp ++ l))) := by
              have hg8 := hg7
              have hsc8 := hsc7
              rw [HB.out] at hg8 hsc8 ⊢
              exact HI.out.collMajor HSRC.out HCS.out hg8 hsc8
            have HG7 := Lib.hid hg7
            have q1 : w7.cell? ⟨q, 1, none⟩ = some (.int .i64 ((B + tot S.m (cp ++ l) : Nat) : Int)) := hst7.st.cell 1
            have q5 : w7.cell? ⟨q, 5, none⟩ = some (.bool false) := hst7.st.cell 5
            have hp7 := hst7.hp
            have d3 := hp7.cells.c3
            have d5 := hp7.cells.c5
            have d6 := hp7.cells.c6
            have d7 := hp7.cells.c7
            have e3 := hp7.st.free 3
            have e5 := hp7.st.free 5
            have e6 := hp7.st.free 6
            have e7 := hp7.st.free 7
            simp only at d3 d5 d6
            have HP7 := Lib.hid hp7
            obtain ⟨NF, hNF⟩ : ∃ NF, NF = B + tot S.m (cp ++ l) := ⟨_, rfl⟩
            rw [← hNF] at q1
            have HNF := Lib.hid hNF
            clear hNF hp7 hst7 hg7 hup7 hdn7 hsc7 hf7 HSC HFR
            go_wp2_with fail
            go_ret2
            refine .inr ⟨.slice (some ⟨ob, 0, none⟩) n n, _, _, _, _, rfl, ?_, ?_, HCO.out, fun v hv j h0 e => ?_, ?_, HG7.out.nd, HG7.out.sub, rfl⟩
            · have hb7 := ((((HROW.out.setOther (a := ⟨p, 5, none⟩) HNE.out.o3 (.int .i64 (B : Int))).setOther (a := ⟨p, 6, none⟩) HNE.out.o3 (.int .i64 (NF : Int))).setOther (a := ⟨p, 3, none⟩) HNE.out.o3 (.int .i64 1)).setOther (a := ⟨p, 7, none⟩) HNE.out.o3 (.slice none 0 0))
              have hb8 := hb7.rowCongr (g := fun k => Value.int .i64 (fv (phiC S.m B (cp ++ l)) (zs.getD k 0))) fun k hk => by
                have hkz : k < zs.length := by have := HZL.out; omega
                rw [if_pos hk, List.getD_eq_getElem?_getD, List.getElem?_eq_getElem hkz]
                show Value.int .i64 (fwdC S.m B cp zs[k]) = Value.int .i64 (fv (phiC S.m B (cp ++ l)) zs[k])
                rw [← fwdC_fv, fwdC_ext (fun j hj e => H3.out k hkz hk j hj e) HG7.out.sub]
              have hb9 := own_of_row (base := w.heap.size) hb8 (by obtain ⟨d1, d2, d3, _⟩ := HIDX.out; omega) (by unfold maxLen; omega)
              have e9 := rowL_map (zs := zs) (f := fun z => Value.int .i64 (fv (phiC S.m B (cp ++ l)) z))
              rw [HZL.out] at e9
              rw [e9] at hb9
              rw [HZL.out]
              exact hb9
            · have h9 := HP7.out
              refine ⟨?_, (((h9.mm.setOther (a := ⟨p, 5, none⟩) (Ne.symm hpe) _).setOther (a := ⟨p, 6, none⟩) (Ne.symm hpe) _).setOther (a := ⟨p, 3, none⟩) (Ne.symm hpe) _).setOther (a := ⟨p, 7, none⟩) (Ne.symm hpe) _, World.ownsRow_nil _ _ _ _, hpe, by simp [Value.ownBlock], by simp [Value.ownBlock]⟩
              have := (((h9.st.set 5 (.int .i64 (B : Int))).set 6 (.int .i64 (NF : Int))).set 3 (.int .i64 1)).set 7 (.slice none 0 0)
              rw [HNF.out] at this ⊢
              exact this
            · rcases HZ.out v hv with h9 | h9 | ⟨j', hj', h9⟩
              · omega
              · omega
              · obtain rfl : j = j' := by omega
                obtain ⟨k, hk, rfl⟩ := List.getElem_of_mem hv
                exact List.mem_append_left _ (H3.out k hk (by have := HZL.out; omega) j hj' e)
            · have h9 := HSTEP.out w7 HF7.out (.slice none 0 0) (.inr rfl)
              refine ⟨h9.os, h9.tape, h9.output, by have := h9.size; simpa using this, fun k hk hk1 hk2 hk3 => ?_, fun g hg => by simp [Value.ownBlock] at hg⟩
              exact (Below.heap_setCell _ _ _ _ hk1).trans ((Below.heap_setCell _ _ _ _ hk1).trans ((Below.heap_setCell _ _ _ _ hk1).trans ((Below.heap_setCell _ _ _ _ hk1).trans (h9.block k hk hk1 hk2 hk3))))
          · have HF7 := Lib.hid (HFR.out.step hf7)
            clear hf7 HSC HFR H3 H4
            obtain ⟨fr, hfr9, yo9, hq9⟩ := hov.1.st
            have c5 := hq9.cell 5
            simp only [List.getElem?_cons_zero, List.getElem?_cons_succ] at c5
            have HOV := Lib.hid (HOVER.out _ HF7.out hov)
            clear hq9 hfr9
            go_wp2_with fail
            go_ret2
            exact HOV.out
        · have HFL := Lib.hid hfull
          clear hfo hfull HRR
          go_wp2_with fail
          refine (scan_isfull _ _ _ _ _ _ _ _ _ HFL.out.1 _).mono ?_
          rintro e w7 ⟨rfl, hw7⟩
          rw [hw7]
          clear hw7 w7
          obtain ⟨fr, hfr9, yo9, hq9⟩ := HFL.out.1.st
          have c5 := hq9.cell 5
          simp only [List.getElem?_cons_zero, List.getElem?_cons_succ] at c5
          have HOV := Lib.hid (HOVER.out _ HFR.out HFL.out)
          clear hq9 hfr9
          go_wp2_with fail
          go_ret2
          exact HOV.out
end Go.Proofs.Ytkpeeemnholmnaa
