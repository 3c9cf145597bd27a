/- What is live after a block (tile's after). -/
import Derived.Test.YtlaogkbdjkofaaaVRows
namespace Go.Proofs.Ytlaogkbdjkofaaa
open Go.RowKit
set_option linter.unusedVariables false
set_option linter.unusedSimpArgs false

/-- a row of rows of bools -/
structure BRows (w : World) (G m n : Nat) (X : Nat → Nat → Bool) (bs : Nat → Nat) : Prop where
  blk : Blk w G 102 (rowL m fun i => .slice (some ⟨bs i, 0, none⟩) n n)
  row : ∀ i, i < m → BRow w (bs i) n (X i)
theorem BRows.below {w w' : World} {G m n : Nat} {X : Nat → Nat → Bool} {bs : Nat → Nat} (h : BRows w G m n X bs) (hb : Below w.heap.size w w') : BRows w' G m n X bs :=
  ⟨Blk.below h.blk hb (Blk.lt h.blk), fun i hi => (h.row i hi).below hb (Blk.lt (h.row i hi))⟩
def aftF (to : List Int) (X : Nat → Nat → Bool) (r : Nat) : Bool := to.any fun t => X t.toNat r
theorem aftF_snoc (to : List Int) (t : Nat) (X : Nat → Nat → Bool) (r : Nat) : aftF (to ++ [(t : Int)]) X r = (aftF to X r || X t r) := by
  unfold aftF; simp
theorem Try.infoB4 : (Try.prog.info? 4).map (fun i => (i.zero, i.size, i.bytes)) = some (some (.bool false), 1, 1) := by kernel_rfl
def AfterPost (l : Nat → Bool) (n : Nat) (w : World) (e : Ending) (w' : World) : Prop :=
  ∃ g, e = .returned (.slice (some ⟨g, 0, none⟩) n n) ∧ w.heap.size ≤ g ∧ BRow w' g n l ∧ Below w.heap.size w w'
theorem VF.Ok.cells {w0 wx : World} {f : VF} (h : f.Ok w0) (hb : Below w0.heap.size w0 wx) {i : Nat} (hi : i < f.blocks.length) : ∃ g off, f.sa = some ⟨g, off, none⟩ ∧ g < w0.heap.size ∧
    wx.cell? ⟨g, off + i * 7, none⟩ = some (.slice f.blocks[i].sa f.blocks[i].sn f.blocks[i].sc) ∧ wx.cell? ⟨g, off + i * 7 + 1, none⟩ = some (.int .i64 f.blocks[i].e.kind) ∧ wx.cell? ⟨g, off + i * 7 + 2, none⟩ = some (.int .i64 f.blocks[i].e.op) ∧
      wx.cell? ⟨g, off + i * 7 + 3, none⟩ = some (.int .i64 f.blocks[i].e.a) ∧ wx.cell? ⟨g, off + i * 7 + 4, none⟩ = some (.int .i64 f.blocks[i].e.b) ∧ wx.cell? ⟨g, off + i * 7 + 5, none⟩ = some (.int .i64 f.blocks[i].e.n) ∧ wx.cell? ⟨g, off + i * 7 + 6, none⟩ = some (.slice f.blocks[i].e.sa f.blocks[i].e.sn f.blocks[i].e.sc) := by
  have hl := h.len
  obtain ⟨g, off, ha, hg, hc⟩ := came_vbs (h.came.below hb) (by omega)
  obtain ⟨g', off', ha', hg', _⟩ := came_vbs h.came (by omega)
  rw [ha] at ha'
  injection ha' with ha'
  injection ha' with e1 e2 _
  subst e1 e2
  exact ⟨g, off, ha, hg', hc i hi⟩

set_option maxRecDepth 100000 in
set_option maxHeartbeats 8000000 in
theorem after_any (w0 w : World) (f : VF) (hf : f.Ok w0) (hw : Below w0.heap.size w0 w) (G m n i : Nat) (X : Nat → Nat → Bool) (bs : Nat → Nat) (hr : BRows w G m n X bs) (hn : f.regs = (n : Int)) (hn2 : 0 < n ∧ n ≤ 8192) (hi : i < f.blocks.length) (ht : ∀ t ∈ f.blocks[i].e.to, 0 ≤ t ∧ t < m) :
    Calls Try.prog 97 #[f.v, .slice (some ⟨G, 0, none⟩) m m, .int .i64 (i : Int)] w (AfterPost (aftF f.blocks[i].e.to X) n w) := by
  have hmk : ∀ w : World, (Instr.makeSlice 102 (.int .i64 (n : Int)) (.int .i64 (n : Int))).run Try.prog w = .ok (.slice (some ⟨w.heap.size, 0, none⟩) n n) (w.alloc (.cells (rowL n fun _ => .bool false).toArray 4)) := fun w => run_make_rep (P := Try.prog) 102 4 (.bool false) 1 Try.underlying102 Try.infoB4 rfl n (by omega) (by omega) w
  have hil : (i : Int) < (f.sn : Int) := by have := hf.len; omega
  have HF := Lib.hid hf
  have HW := Lib.hid hw
  have HR := Lib.hid hr
  obtain ⟨x, hx⟩ : ∃ x, x = f.blocks[i] := ⟨_, rfl⟩
  rw [← hx] at ht ⊢
  have hxo : x.e.Ok w0 := by rw [hx]; exact (hf.blocks _ (List.getElem_mem _)).e
  have hb1 : Below w.heap.size w ((w.alloc (.cells #[.int .i64 f.name, .slice f.pa f.pn f.pc, .int .i64 n, .slice f.sa f.sn f.sc] 25)).alloc (.cells (rowL n fun _ => .bool false).toArray 4)) := ((Below.refl _ _).alloc (Nat.le_refl _) _).alloc (by simp) _
  obtain ⟨gb, ob, hsa, hgb, _, _, _, _, _, _, d6⟩ := hf.cells (hw.trans (hb1.mono hw.size)) hi
  rw [← hx] at d6
  have hbrow : BRow ((w.alloc (.cells #[.int .i64 f.name, .slice f.pa f.pn f.pc, .int .i64 n, .slice f.sa f.sn f.sc] 25)).alloc (.cells (rowL n fun _ => .bool false).toArray 4)) (w.heap.size + 1) n (fun _ => false) := by
    have := Blk.new (w.alloc (.cells #[.int .i64 f.name, .slice f.pa f.pn f.pc, .int .i64 n, .slice f.sa f.sn f.sc] 25)) (rowL n fun _ => .bool false) 4
    rwa [World.size_alloc] at this
  have HBR := Lib.hid hbrow
  have HB1 := Lib.hid hb1
  have HX := Lib.hid hxo
  have HT := Lib.hid ht
  have htl := hxo.len
  clear hbrow hb1 hxo ht hr hw hf
  unfold VF.v
  rw [hn]
  generalize f.sa = sa at hsa HBR HB1 d6 ⊢
  subst hsa
  obtain ⟨ta, hta⟩ : ∃ ta, ta = x.e.sa := ⟨_, rfl⟩
  rw [← hta] at d6
  have HCT : Hid (Came w0 ta x.e.sn x.e.sc 1 (x.e.to.map intCells)) := by rw [hta]; exact HX.out.came
  obtain ⟨to, hto⟩ : ∃ to, to = x.e.to := ⟨_, rfl⟩
  have hreach := HX.out.reach
  rw [← hto] at HT htl HCT ⊢
  obtain ⟨tn, htn⟩ : ∃ tn, tn = x.e.sn := ⟨_, rfl⟩
  rw [← htn] at d6 HCT htl hreach
  clear hta hto HX htn
  go_enter Try.func97, Try.ntmps97
  go_wp2_with fail
  generalize (w.alloc (.cells #[.int .i64 f.name, .slice f.pa f.pn f.pc, .int .i64 n, .slice (some ⟨gb, ob, none⟩) f.sn f.sc] 25)).alloc (.cells (rowL n fun _ => .bool false).toArray 4) = w1 at HBR HB1 d6 ⊢
  clear d6
  have HR1 := Lib.hid (HR.out.below HB1.out)
  have hGl : G < w.heap.size := Blk.lt HR.out.blk
  go_loopw [9, 10, 11, 23] (fun _ _ _ u wr => ∃ k : Nat, k ≤ tn ∧ u = .int .i64 (k : Int) ∧ BRow wr (w.heap.size + 1) n (aftF (to.take k) X) ∧ Rest1 (w.heap.size + 1) w1 wr) (fun _ _ _ u _ => tn - (intOf u).toNat)
  case atStart => exact ⟨0, Nat.zero_le _, rfl, HBR.out, Rest1.refl _ _⟩
  case round =>
    obtain ⟨k, hk, rfl, hbr, hr1⟩ := hrel
    obtain ⟨w2, hw2⟩ : ∃ w2, w2 = wr := ⟨_, rfl⟩
    rw [← hw2] at hbr hr1 ⊢
    clear hw2
    have HBR2 := Lib.hid hbr
    have HR2 := Lib.hid hr1
    clear hbr hr1
    by_cases hlt : k < tn
    · obtain ⟨gt, ot, rfl, hgt, hct⟩ := HCT.out.ints (by omega)
      have hwB : Below w0.heap.size w0 w2 := HW.out.trans ((HB1.out.mono HW.out.size).trans (HR2.out.below (by have := HW.out.size; omega) (by have := HB1.out.size; have := HW.out.size; omega)))
      have ck := (hwB.cell (p := ⟨gt, ot + k, none⟩) hgt).trans (hct k (by omega))
      obtain ⟨r, hr⟩ : ∃ r, r = to[k]'(by omega) := ⟨_, rfl⟩
      rw [← hr] at ck
      have hme := HT.out r (by rw [hr]; exact List.getElem_mem _)
      have HTK : Hid (to.take (k + 1) = to.take k ++ [r]) := by rw [hr]; exact List.take_succ_eq_append_getElem _
      clear hr hct
      obtain ⟨t, rfl⟩ := Int.eq_ofNat_of_zero_le hme.1
      have htm : t < m := by omega
      have hG2 : w2.heap[G]? = w1.heap[G]? := HR2.out.block G (Nat.lt_of_lt_of_le hGl HB1.out.size) (by omega)
      have ct : w2.cell? ⟨G, t, none⟩ = some (.slice (some ⟨bs t, 0, none⟩) n n) := (World.cell?_of_block (a := ⟨G, t, none⟩) hG2).trans (Blk.row HR1.out.blk htm)
      have hbt : bs t < w.heap.size := Blk.lt (HR.out.row t htm)
      have HRT : Hid (BRow w2 (bs t) n (X t)) := Blk.of_heap (HR1.out.row t htm) (HR2.out.block _ (Nat.lt_of_lt_of_le hbt HB1.out.size) (by omega))
      have HGB := Lib.hid hwB
      clear hwB hme hG2
      generalize bs t = bt at ct hbt HRT
      obtain ⟨P, hP⟩ : ∃ P, P = aftF (to.take k) X := ⟨_, rfl⟩
      rw [← hP] at HBR2
      have HP := Lib.hid hP
      clear hP
      go_wp2_with fail
      go_loopw [10, 11, 32] (fun _ _ u wr => ∃ q : Nat, q ≤ n ∧ u = .int .i64 (q : Int) ∧ BRow wr (w.heap.size + 1) n (fun r => if r < q then P r || X t r else P r) ∧ Rest1 (w.heap.size + 1) w2 wr) (fun _ _ u _ => n - (intOf u).toNat)
      case atStart => exact ⟨0, Nat.zero_le _, rfl, HBR2.out.congr fun r _ => by simp, Rest1.refl _ _⟩
      case round =>
        obtain ⟨q, hq, rfl, hbr, hr1⟩ := hrel
        by_cases hqn : q < n
        · have cx := hbr.cell hqn
          rw [if_neg (by omega)] at cx
          have fx := Blk.free hbr q
          have hrt : BRow wr bt n (X t) := Blk.of_heap HRT.out (hr1.block _ (Blk.lt HRT.out) (by omega))
          have cy := hrt.cell hqn
          have HN : Hid (BRow (wr.setCell ⟨w.heap.size + 1, q, none⟩ (.bool (P q || X t q))) (w.heap.size + 1) n (fun r => if r < q + 1 then P r || X t r else P r)) := by
            refine (hbr.set q (P q || X t q)).congr fun r hr => ?_
            by_cases e1 : r = q
            · subst e1
              simp
            · by_cases e2 : r < q
              · simp [e1, e2, show r < q + 1 by omega]
              · simp [e1, e2, show ¬ r < q + 1 by omega]
          have HR3 := Lib.hid (hr1.trans (Rest1.set (w.heap.size + 1) q wr (.bool (P q || X t q))))
          clear hbr hr1 hrt
          cases hPq : P q
          · rw [hPq] at cx HN HR3
            simp only [Bool.false_or] at HN HR3
            have HPQ := Lib.hid hPq
            clear hPq
            generalize X t q = xb at cy HN HR3
            go_wp2_with fail
            go_roundw
            case rel => exact ⟨q + 1, by omega, by go_num, HN.out, HR3.out⟩
            case measure => simp [intOf]; omega
          · rw [hPq] at cx HN HR3
            simp only [Bool.true_or] at HN HR3
            have HPQ := Lib.hid hPq
            clear hPq
            generalize X t q = xb at cy
            go_wp2_with fail
            go_roundw
            case rel => exact ⟨q + 1, by omega, by go_num, HN.out, HR3.out⟩
            case measure => simp [intOf]; omega
        · have HN : Hid (BRow wr (w.heap.size + 1) n (aftF (to.take (k + 1)) X)) := by
            rw [HTK.out]
            refine hbr.congr fun r hr => ?_
            rw [if_pos (by omega), aftF_snoc, ← HP.out]
          have HR3 := Lib.hid (HR2.out.trans hr1)
          clear hbr hr1
          go_wp2_with fail
          go_roundw
          case rel => exact ⟨k + 1, by omega, by go_num, HN.out, HR3.out⟩
          case measure => simp [intOf]; omega
    · have HALL : Hid (to.take k = to) := List.take_of_length_le (by omega)
      go_wp2_with fail
      go_ret
      refine ⟨w.heap.size + 1, rfl, by omega, ?_, HB1.out.trans (HR2.out.below (by omega) HB1.out.size)⟩
      have := HBR2.out
      rwa [HALL.out] at this
end Go.Proofs.Ytlaogkbdjkofaaa
