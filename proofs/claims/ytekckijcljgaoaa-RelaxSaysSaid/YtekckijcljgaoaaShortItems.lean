/- The contract of the reference's ShortItems. -/
import Derived.Test.YtekckijcljgaoaaDist
import Derived.Test.YtekckijcljgaoaaSizes
import Derived.Deep.LoopGhost
namespace Go.Proofs.Ytekckijcljgaoaa
open Go.RowKit
set_option linter.unusedVariables false

def ShortPost (its : List Item) (len : Nat) (w : World) (e : Ending) (w' : World) : Prop :=
  ∃ g L, e = .returned (.slice (some ⟨g, 0, none⟩) len len) ∧ Blk w' g 4 (rowL len (fun i => .bool (L i))) ∧ SizesOf its len L ∧ w.heap.size ≤ g ∧ Below w.heap.size w w'

theorem shorts_add (its : List Item) (n : Nat) (L : Nat → Bool) (j : Nat) (hj : j < n) (h0 : L j = false) : shorts n (fun i => if i = j then true else L i) < shorts n L :=
  shorts_lt n L _ (fun i _ h => by by_cases e : i = j; · simp [e]
                                   · simpa [e] using h) j hj h0 (by simp)

set_option maxRecDepth 100000 in
set_option maxHeartbeats 4000000 in
theorem shortItems_any (a : Option Addr) (len cap : Nat) (its : List Item) (w : World) (h : Came w a len cap 6 (its.map itemCells)) (he : itemsE its = 0) :
    Calls Try.prog 46 #[.slice a len cap] w (ShortPost its len w) := by
  have hl : its.length = len := by simpa using h.count
  have hle := h.le
  have hmx := h.max
  obtain ⟨hbig, hok⟩ := items_ok he
  rw [hl] at hbig hok
  have HCM := Lib.hid h
  have HL := Lib.hid hl
  have HOK := Lib.hid (fun i hi => item_ok (hok i hi))
  have hT : ∀ i, i < len → tgt its i ≤ len := by
    intro i hi
    unfold tgt
    rcases HOK.out i hi with ⟨_, h2, _⟩ | ⟨h2, _⟩ <;> omega
  have HT := Lib.hid hT
  have hmk := run_make_rep (P := Try.prog) 23 4 (.bool false) 1 Try.underlying23 Try.infoT4 rfl len (by omega) (by omega)
  clear h hl hok he hT
  go_enter Try.func46, Try.ntmps46
  go_wp2_with fail
  clear hmk
  go_loopw [12] (fun u wr => ∃ k : Nat, k ≤ len ∧ u = .int .i64 k ∧ Blk wr w.heap.size 4 (rowL len (fun i => .bool (if i < k then baseL its i else false))) ∧ Below w.heap.size w wr) (fun u _ => len - (intOf u).toNat)
  case atStart =>
    refine ⟨0, Nat.zero_le _, rfl, ?_, (Below.refl _ _).alloc (Nat.le_refl _) _⟩
    exact (Blk.new w _ _).rowCongr fun i _ => by simp
  case round =>
    obtain ⟨k, hk, rfl, hblk, hb⟩ := hrel
    by_cases hlt : k < len
    · obtain ⟨b0, off, ea, hbl, hcell⟩ := came_items HCM.out (by omega)
      subst ea
      have hkl : k < its.length := by have := HL.out; omega
      have hcs := (hcell k hkl).later hb hbl
      rw [← itAt_get hkl] at hcs
      have HBL : Hid (baseL its k = (!lab its k && !shortB (itAt its k).n)) := rfl
      have HLB : Hid (lab its k = decide (0 ≤ (itAt its k).tg)) := rfl
      obtain ⟨it, hit⟩ : ∃ it, it = itAt its k := ⟨_, rfl⟩
      rw [← hit] at hcs HBL HLB
      have HCS := Lib.hid hcs
      have hb1 := hblk.row (i := k) hlt
      have hf1 := hblk.free k
      rw [if_neg (Nat.lt_irrefl k)] at hb1
      have hgl : w.heap.size < wr.heap.size := hblk.lt
      have HBLK := Lib.hid hblk
      have HB := Lib.hid hb
      clear hit hcs hcell hblk hb
      obtain ⟨op, d, a, b, n, tg⟩ := it
      obtain ⟨c0, c1, c2, c3, c4, c5⟩ := HCS.out
      simp only at c0 c1 c2 c3 c4 c5 HBL HLB
      by_cases htg : tg < 0
      · have HBV : Hid (baseL its k = !shortB n) := by unfold Hid; rw [HBL.out, HLB.out, decide_eq_false (by omega)]; rfl
        have HSI := fun w => Lib.hid (isShort_any n w)
        obtain ⟨sb, hsb⟩ : ∃ sb, sb = shortB n := ⟨_, rfl⟩
        rw [← hsb] at HBV HSI
        clear hsb HBL HLB
        go_wp2_with (go_at_call 33; refine (HSI _).out.mono ?_; rintro e w5 ⟨rfl, rfl⟩)
        go_roundw
        case rel =>
          refine ⟨k + 1, by omega, by go_num, ((HBLK.out.rowSet k _).alloc _).rowCongr fun i hi => ?_, (HB.out.setCell (p := ⟨w.heap.size, k, none⟩) (Nat.le_refl _) _).alloc (by simp; omega) _⟩
          by_cases e : i = k
          · subst e; rw [if_pos rfl, if_pos (by omega), HBV.out]
          · rw [if_neg e]
            by_cases e2 : i < k
            · rw [if_pos e2, if_pos (by omega)]
            · rw [if_neg e2, if_neg (by omega)]
        case measure => simp [intOf]; omega
      · have HBV : Hid (baseL its k = false) := by unfold Hid; rw [HBL.out, HLB.out, decide_eq_true (by omega)]; rfl
        clear HBL HLB
        go_wp2_with fail
        go_roundw
        case rel =>
          refine ⟨k + 1, by omega, by go_num, ((HBLK.out.rowSet k _).alloc _).rowCongr fun i hi => ?_, (HB.out.setCell (p := ⟨w.heap.size, k, none⟩) (Nat.le_refl _) _).alloc (by simp; omega) _⟩
          by_cases e : i = k
          · subst e; rw [if_pos rfl, if_pos (by omega), HBV.out]
          · rw [if_neg e]
            by_cases e2 : i < k
            · rw [if_pos e2, if_pos (by omega)]
            · rw [if_neg e2, if_neg (by omega)]
        case measure => simp [intOf]; omega
    · have ek : k = len := by omega
      subst ek
      have HBLK := Lib.hid (hblk.rowCongr (g := fun i => .bool (baseL its i)) fun i hi => by rw [if_pos hi])
      have HB := Lib.hid hb
      clear hblk hb
      go_wp2_with fail
      obtain ⟨wo, hwo⟩ : ∃ wo, wo = wr := ⟨_, rfl⟩
      rw [← hwo] at HBLK HB ⊢
      clear hwo
      go_loopg [6] (shorts k (baseL its) * (k + 1) + k) (fun gk u w2 => ∃ (L : Nat → Bool) (m : Nat), m ≤ k ∧ u = .int .i64 ((m : Int) - 1) ∧ Blk w2 w.heap.size 4 (rowL k (fun i => .bool (L i))) ∧ Grows its k L ∧ (∀ i, m ≤ i → i < k → farL its L i = true → L i = true) ∧ gk = shorts k L * (k + 1) + m ∧ Below w.heap.size w w2)
      case atStart => exact ⟨baseL its, k, Nat.le_refl _, rfl, HBLK.out, Grows.start _ _, fun i h1 h2 => by omega, rfl, HB.out⟩
      case round =>
        clear HBLK HB
        obtain ⟨L, m, hm, rfl, hblk, hgr, hcl, hgk, hb⟩ := hrel
        have HBLK := Lib.hid hblk
        have HGR := Lib.hid hgr
        have HCL := Lib.hid hcl
        have HGK := Lib.hid hgk
        have HB := Lib.hid hb
        clear hblk hgr hcl hgk hb
        cases m with
        | zero =>
          go_wp2_with fail
          go_ret
          exact ⟨_, L, rfl, HBLK.out, HGR.out.done (fun i hi => HCL.out i (Nat.zero_le _) hi), Nat.le_refl _, HB.out⟩
        | succ j =>
          have ej : (((j + 1 : Nat) : Int) - 1) = (j : Int) := by omega
          rw [ej]
          clear ej
          obtain ⟨b0, off, ea, hbl, hcell⟩ := came_items HCM.out (by omega)
          subst ea
          have hjl : j < its.length := by have := HL.out; omega
          have hcs := (hcell j hjl).later HB.out hbl
          rw [← itAt_get hjl] at hcs
          have HFL : Hid (farL its L j = (lab its j && !shortB (posL L (tgt its j) - posL L j - 1))) := rfl
          have HLB : Hid (lab its j = decide (0 ≤ (itAt its j).tg)) := rfl
          have HTG : Hid (tgt its j = (itAt its j).tg.toNat) := rfl
          have htl := HT.out j (by omega)
          have c5 := hcs.c5
          have hb1 := HBLK.out.row (i := j) (by omega)
          have hf1 := HBLK.out.free j
          have hgl : w.heap.size < wr.heap.size := HBLK.out.lt
          have HD := fun (t : Nat) (ht : t ≤ k) (hit : (itAt its j).tg = (t : Int)) => Lib.hid (dist_any (some ⟨b0, off, none⟩) k cap its wr (HCM.out.below HB.out) hbig w.heap.size 0 k L (fun i hi => by rw [Nat.zero_add]; exact HBLK.out.row hi) HBLK.out.lt ⟨Nat.le_refl _, by omega⟩ j t (by omega) ht hit)
          have hj1 : j < k := by omega
          obtain ⟨tg, htg⟩ : ∃ tg, tg = (itAt its j).tg := ⟨_, rfl⟩
          rw [← htg] at HD HLB HTG c5
          clear htg hcs hcell
          by_cases hneg : tg < 0
          · have HFN : Hid (farL its L j = false) := by unfold Hid; rw [HFL.out, HLB.out, decide_eq_false (by omega)]; rfl
            clear HFL HLB HTG HD
            go_wp2_with fail
            go_roundg (shorts k L * (k + 1) + j)
            case rel => exact ⟨L, j, by omega, by go_num, HBLK.out, HGR.out, fun i h1 h2 h3 => by
              by_cases e : i = j
              · subst e; rw [HFN.out] at h3; cases h3
              · exact HCL.out i (by omega) h2 h3, rfl, HB.out⟩
            case measure => rw [HGK.out]; omega
          · obtain ⟨t, rfl⟩ := Int.eq_ofNat_of_zero_le (show 0 ≤ tg by omega)
            have ht : tgt its j = t := by rw [HTG.out]; omega
            rw [ht] at htl HFL
            have HLB2 : Hid (lab its j = true) := by unfold Hid; rw [HLB.out, decide_eq_true (by omega)]
            cases hlj : L j
            · rw [hlj] at hb1
              have HLJ := Lib.hid hlj
              have hps : posL L (j + 1) = posL L j + 1 := by show posL L j + (if L j = true then 2 else 1) = _; rw [hlj]; rfl
              have HDD := HD t htl rfl
              rw [hps] at HDD
              have bt := posL_bd L t
              have bj := posL_bd L j
              have HFE : Hid (farL its L j = !shortB (posL L t - (posL L j + 1))) := by unfold Hid; rw [HFL.out, HLB2.out, Bool.true_and, show posL L t - posL L j - 1 = posL L t - (posL L j + 1) by omega]
              obtain ⟨D, hD⟩ : ∃ D, D = posL L t - (posL L j + 1) := ⟨_, rfl⟩
              rw [← hD] at HDD HFE
              have HSI := fun w => Lib.hid (isShort_any D w)
              clear hlj hps HD HFL HLB HTG ht bt bj hD
              cases hsb : shortB D
              · rw [hsb] at HSI HFE
                have HFT : Hid (farL its L j = true) := HFE.out
                go_wp2_with (first | (go_at_call 33; refine (HSI _).out.mono ?_; rintro e w5 ⟨rfl, rfl⟩) | (go_at_call 78; refine HDD.out.mono ?_; rintro e w4 ⟨rfl, hb4⟩; have HB4 := Lib.hid hb4; have hb1' := (HBLK.out.below hb4 hgl).row (i := j) hj1; have hf1' := (HBLK.out.below hb4 hgl).free j; clear hb4))
                go_roundg (shorts k (fun i => if i = j then true else L i) * (k + 1) + k)
                case rel =>
                  refine ⟨fun i => if i = j then true else L i, k, Nat.le_refl _, by go_num, ((HBLK.out.below HB4.out hgl).rowSet j _).rowCongr fun i _ => ?_, HGR.out.add HT.out fun i hi => ?_, fun i h1 h2 => by omega, rfl, Below.setCell (p := ⟨w.heap.size, j, none⟩) ?_ (Nat.le_refl _) _⟩
                  · by_cases e : i = j <;> simp [e]
                  · by_cases e : i = j
                    · subst e; exact .inr ⟨HFT.out, by simp⟩
                    · exact .inl (by simp [e])
                  · exact HB.out.trans (HB4.out.mono (by omega))
                case measure =>
                  rw [HGK.out]
                  have := shorts_add its k L j hj1 HLJ.out
                  have h5 := Nat.mul_le_mul_right (k + 1) this
                  rw [Nat.succ_mul] at h5
                  omega
              · rw [hsb] at HSI HFE
                have HFN : Hid (farL its L j = false) := HFE.out
                go_wp2_with (first | (go_at_call 33; refine (HSI _).out.mono ?_; rintro e w5 ⟨rfl, rfl⟩) | (go_at_call 78; refine HDD.out.mono ?_; rintro e w4 ⟨rfl, hb4⟩; have HB4 := Lib.hid hb4; clear hb4))
                go_roundg (shorts k L * (k + 1) + j)
                case rel => exact ⟨L, j, by omega, by go_num, HBLK.out.below HB4.out hgl, HGR.out, fun i h1 h2 h3 => by
                  by_cases e : i = j
                  · subst e; rw [HFN.out] at h3; cases h3
                  · exact HCL.out i (by omega) h2 h3, rfl, HB.out.trans (HB4.out.mono (by omega))⟩
                case measure => rw [HGK.out]; omega
            · rw [hlj] at hb1
              have HLJ := Lib.hid hlj
              clear hlj HD HFL HLB HTG ht
              go_wp2_with fail
              go_roundg (shorts k L * (k + 1) + j)
              case rel => exact ⟨L, j, by omega, by go_num, HBLK.out, HGR.out, fun i h1 h2 h3 => by
                by_cases e : i = j
                · subst e; exact HLJ.out
                · exact HCL.out i (by omega) h2 h3, rfl, HB.out⟩
              case measure => rw [HGK.out]; omega
end Go.Proofs.Ytekckijcljgaoaa
