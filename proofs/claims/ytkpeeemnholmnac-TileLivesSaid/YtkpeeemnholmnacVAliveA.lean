/- The reference's AliveAfter. -/
import Derived.Test.YtkpeeemnholmnacVAlive
import Derived.Test.YtkpeeemnholmnacVCheck
namespace Go.Proofs.Ytkpeeemnholmnac
open Go.RowKit
set_option linter.unusedVariables false
set_option linter.unusedSimpArgs false

def AliveAPost (f : VF) (i r : Nat) (w : World) (e : Ending) (w' : World) : Prop := ∃ b : Bool, e = .returned (.bool b) ∧ (b = true ↔ ∃ t : Nat, (t : Int) ∈ (f.blk i).e.to ∧ LiveI f t r) ∧ Below w.heap.size w w'
set_option maxRecDepth 100000 in
set_option maxHeartbeats 8000000 in
theorem aliveAfter_any (w : World) (f : VF) (hf : f.Ok w) (m : Nat) (hm : m = f.blocks.length) (hm2 : m ≤ 4096) (htos : TosV f m) (hins : ∀ i, i < m → (f.blk i).ins.length ≤ 4096) (i r : Nat) (hi : i < m) (hr : r ≠ 0) (hr2 : r ≤ 10000) :
    Calls Try.prog 34 #[f.v, .int .i64 (i : Int), .int .i64 (r : Int)] w (AliveAPost f i r w) := by
  have HF := Lib.hid hf
  have hlen := hf.len
  have hb0 : BoxV f w (w.alloc (.cells #[.int .i64 f.name, .slice f.pa f.pn f.pc, .int .i64 f.regs, .slice f.sa f.sn f.sc] 45)) f.pa f.sa := ⟨(Below.refl _ _).alloc (Nat.le_refl _) _, Blk.new w [.int .i64 f.name, .slice f.pa f.pn f.pc, .int .i64 f.regs, .slice f.sa f.sn f.sc] 45⟩
  have HAL := fun wx (h : Below w.heap.size w wx) (t : Nat) (ht : t < m) => alive_any wx f (hf.below h) m hm hm2 htos hins t 0 r ht (by omega) hr hr2
  have hib : i < f.blocks.length := by omega
  have HTO := Lib.hid (htos i hi)
  obtain ⟨gb, ob, hsa, hgb, _, _, _, _, _, _, d6⟩ := hf.cells hb0.be hib
  rw [VF.blk_get f hib] at d6
  have HBO : Hid ((f.blk i).e.Ok w) := by rw [← VF.blk_get f hib]; exact (hf.blocks _ (List.getElem_mem _)).e
  obtain ⟨x, hx⟩ : ∃ x, x = (f.blk i).e := ⟨_, rfl⟩
  rw [← hx] at d6 HBO HTO
  have hpost : AliveAPost f i r w = fun e w' => ∃ b : Bool, e = .returned (.bool b) ∧ (b = true ↔ ∃ t : Nat, (t : Int) ∈ x.to ∧ LiveI f t r) ∧ Below w.heap.size w w' := by rw [hx]; rfl
  rw [hpost]
  clear hpost hx
  unfold VF.v at HAL ⊢
  obtain ⟨sa, hsa0⟩ : ∃ s, s = f.sa := ⟨_, rfl⟩
  rw [← hsa0] at hb0 HAL hsa d6 ⊢
  subst hsa
  obtain ⟨ta, hta⟩ : ∃ s, s = x.sa := ⟨_, rfl⟩
  rw [← hta] at d6
  have HC : Hid (Came w ta x.sn x.sc 1 (x.to.map intCells)) := by rw [hta]; exact HBO.out.came
  have htl := HBO.out.len
  have hreach := HBO.out.reach
  have HB0 := Lib.hid hb0
  have HAL := Lib.hid HAL
  have hil : (i : Int) < (f.sn : Int) := by omega
  clear hf hta htos hins hsa0
  go_enter Try.func34, Try.ntmps34
  go_wp2_with fail
  clear d6 hb0
  generalize w.alloc (.cells #[.int .i64 f.name, .slice f.pa f.pn f.pc, .int .i64 f.regs, .slice (some ⟨gb, ob, none⟩) f.sn f.sc] 45) = w1 at HB0 ⊢
  go_loopw [6, 8, 17] (fun _ _ u wr => ∃ k : Nat, k ≤ x.sn ∧ u = .int .i64 (k : Int) ∧ BoxV f w wr f.pa (some ⟨gb, ob, none⟩) ∧ ∀ t : Nat, (t : Int) ∈ x.to.take k → ¬ LiveI f t r) (fun _ _ u _ => x.sn - (intOf u).toNat)
  case atStart => exact ⟨0, Nat.zero_le _, rfl, HB0.out, fun t ht => by simp at ht⟩
  case round =>
    clear HB0
    obtain ⟨k, hk, rfl, hbx, hno⟩ := hrel
    have HBX := Lib.hid hbx
    have HNO := Lib.hid hno
    clear hbx hno
    by_cases hlt : k < x.sn
    · obtain ⟨gt, ot, rfl, hgt, hct⟩ := HC.out.ints (by omega)
      have ck := (HBX.out.be.cell (p := ⟨gt, ot + k, none⟩) hgt).trans (hct k (by omega))
      obtain ⟨t, ht⟩ : ∃ t, t = x.to[k]'(by omega) := ⟨_, rfl⟩
      rw [← ht] at ck
      have htm := HTO.out t (by rw [ht]; exact List.getElem_mem _)
      have HTK : Hid (x.to.take (k + 1) = x.to.take k ++ [t]) := by rw [ht]; exact List.take_succ_eq_append_getElem _
      have HME : Hid (t ∈ x.to) := by rw [ht]; exact List.getElem_mem _
      obtain ⟨t, rfl⟩ := Int.eq_ofNat_of_zero_le htm.1
      have hAL := HAL.out _ HBX.out.be t (by omega)
      rw [show ((0 : Nat) : Int) = 0 from rfl] at hAL
      have HA := Lib.hid hAL
      have c0 := HBX.out.box.cell 0
      have c1 := HBX.out.box.cell 1
      have c2 := HBX.out.box.cell 2
      have c3 := HBX.out.box.cell 3
      simp only [List.getElem?_cons_zero, List.getElem?_cons_succ] at c0 c1 c2 c3
      clear ht htm hct hAL
      go_wp2_with fail
      refine HA.out.mono ?_
      rintro e w2 ⟨bb, rfl, hbb, hb2⟩
      have HBB := Lib.hid (hbb.trans (aliveP_zero hr))
      have HBX2 := Lib.hid (HBX.out.below hb2)
      clear hbb hb2 c0 c1 c2 c3
      cases bb
      · go_wp2_with fail
        go_roundw
        case rel =>
          refine ⟨k + 1, by omega, by go_num, HBX2.out, fun u hu => ?_⟩
          rw [HTK.out] at hu
          rcases List.mem_append.1 hu with h1 | h1
          · exact HNO.out u h1
          · have e : u = t := by have := List.mem_singleton.1 h1; omega
            subst e
            intro hl
            have := HBB.out.2 hl
            cases this
        case measure => simp [intOf]; omega
      · go_wp2_with fail
        go_ret
        exact ⟨true, rfl, ⟨fun _ => ⟨t, HME.out, HBB.out.1 (by simp)⟩, fun _ => by simp⟩, HBX2.out.be⟩
    · have HALL : Hid (x.to.take k = x.to) := List.take_of_length_le (by omega)
      go_wp2_with fail
      go_ret
      refine ⟨false, rfl, ⟨fun h => (by cases h), fun ⟨t, h1, h2⟩ => ?_⟩, HBX.out.be⟩
      exact absurd h2 (HNO.out t (by rw [HALL.out]; exact h1))
end Go.Proofs.Ytkpeeemnholmnac
