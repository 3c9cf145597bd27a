/- The law's 'small'. -/
import Derived.Test.YtdnpoomagjcpfaaGreatVCheck
namespace Go.Proofs.YtdnpoomagjcpfaaGreat
open Go.RowKit
set_option linter.unusedVariables false
set_option linter.unusedSimpArgs false

def SmallPost (f : VF) (w : World) (e : Ending) (w' : World) : Prop := ∃ b : Bool, e = .returned (.bool b) ∧ (b = true → f.regs ≤ 40 ∧ f.sn ≤ 12) ∧ Below w.heap.size w w'
set_option maxRecDepth 100000 in
set_option maxHeartbeats 2000000 in
theorem small_ok (w : World) (f : VF) (hf : f.Ok w) : Calls Tryz.prog 6 #[f.v] w (SmallPost f w) := by
  have HF := Lib.hid hf
  have hlen := hf.len
  have hsr := hf.reach
  have hb0 : BoxV f w (w.alloc (.cells #[.int .i64 f.name, .slice f.pa f.pn f.pc, .int .i64 f.regs, .slice f.sa f.sn f.sc] 25)) f.pa f.sa := ⟨(Below.refl _ _).alloc (Nat.le_refl _) _, Blk.new w [.int .i64 f.name, .slice f.pa f.pn f.pc, .int .i64 f.regs, .slice f.sa f.sn f.sc] 25⟩
  obtain ⟨sa, hsa⟩ : ∃ s, s = f.sa := ⟨_, rfl⟩
  unfold VF.v
  rw [← hsa] at hb0 ⊢
  have HB0 := Lib.hid hb0
  have HSA := Lib.hid hsa
  clear hf hb0 hsa
  go_enter Tryz.func6, Tryz.ntmps6
  go_wp2_with fail
  generalize w.alloc (.cells #[.int .i64 f.name, .slice f.pa f.pn f.pc, .int .i64 f.regs, .slice sa f.sn f.sc] 25) = w1 at HB0 ⊢
  go_loopw [3, 5, 9] (fun u3 _ u9 wr => ∃ (k : Nat) (m : Int), k ≤ f.sn ∧ u9 = .int .i64 (k : Int) ∧ u3 = .int .i64 m ∧ BoxV f w wr f.pa sa) (fun _ _ u _ => f.sn - (intOf u).toNat)
  case atStart => exact ⟨0, 0, Nat.zero_le _, rfl, rfl, HB0.out⟩
  case round =>
    clear HB0
    obtain ⟨k, m, hk, rfl, rfl, hbx⟩ := hrel
    have HBX := Lib.hid hbx
    have c2 := hbx.box.cell 2
    have c3 := hbx.box.cell 3
    simp only [List.getElem?_cons_zero, List.getElem?_cons_succ] at c2 c3
    clear hbx
    by_cases hlt : k < f.sn
    · have hkb : k < f.blocks.length := by omega
      obtain ⟨gb, ob, hsa, hgb, d0, d1, d2, d3, d4, d5, d6⟩ := HF.out.cells HBX.out.be hkb
      obtain ⟨b, hb⟩ : ∃ b, b = f.blocks[k] := ⟨_, rfl⟩
      rw [← hb] at d0 d1 d2 d3 d4 d5 d6
      rw [← HSA.out] at hsa
      subst hsa
      have hb4 : Below wr.heap.size wr (wr.alloc (.cells #[.slice b.sa b.sn b.sc, .int .i64 b.e.kind, .int .i64 b.e.op, .int .i64 b.e.a, .int .i64 b.e.b, .int .i64 b.e.n, .slice b.e.sa b.e.sn b.e.sc] 46)) := (Below.refl _ _).alloc (Nat.le_refl _) _
      have HBX4 := Lib.hid (HBX.out.below hb4)
      clear hb hb4
      go_wp2_with fail
      go_roundw
      case rel => exact ⟨k + 1, _, by omega, by go_num, rfl, HBX4.out⟩
      case measure => simp [intOf]; omega
    · by_cases h1 : f.regs ≤ 40
      · by_cases h2 : f.sn ≤ 12
        · have h2' : (f.sn : Int) ≤ 12 := by omega
          have HH : Hid (f.regs ≤ 40 ∧ f.sn ≤ 12) := ⟨h1, h2⟩
          clear h2
          go_wp2_with fail
          go_ret
          exact ⟨_, rfl, fun _ => HH.out, HBX.out.be⟩
        · have h2' : ¬ (f.sn : Int) ≤ 12 := by omega
          clear h2
          go_wp2_with fail
          go_ret
          exact ⟨_, rfl, fun h => (by cases h), HBX.out.be⟩
      · go_wp2_with fail
        go_ret
        exact ⟨_, rfl, fun h => (by cases h), HBX.out.be⟩
end Go.Proofs.YtdnpoomagjcpfaaGreat
