/- sched's Order and Schedule at straight code. -/
import Derived.Test.YtnfgjcdiophphabSchedBuild
namespace Go.Proofs.Ytnfgjcdiophphab
open Go.RowKit
set_option linter.unusedVariables false
set_option linter.unusedSimpArgs false

theorem ownI_set {w : World} {base g m cap : Nat} {zs : List Int} (h : OwnI w base (.slice (some ⟨g, 0, none⟩) m cap) zs) {j : Nat} (hj : j < zs.length) (x : Int) : OwnI (w.setCell ⟨g, j, none⟩ (.int .i64 x)) base (.slice (some ⟨g, 0, none⟩) m cap) (zs.set j x) := by
  obtain ⟨h1, h2⟩ := h
  have hl : (intVs (zs.set j x)).length = (zs.set j x).length * 1 := by simp [intVs]
  refine ⟨hl, .inr ?_⟩
  rcases h2 with ⟨h2, _⟩ | ⟨g', cap', cur, hv, hb, hg, hle, hmx, hcs, htk⟩
  · simp at h2
  · simp only [Value.slice.injEq, Option.some.injEq, Addr.mk.injEq, and_true] at hv
    obtain ⟨rfl, hm, rfl⟩ := hv
    have hB : Blk w g 3 cur.toList := by unfold Blk; rw [Array.toArray_toList]; exact hg
    have hS := hB.set j (.int .i64 x)
    unfold Blk at hS
    refine ⟨g, cap, (cur.toList.set j (.int .i64 x)).toArray, by rw [hm, List.length_set], hb, hS, by rw [List.length_set]; exact hle, hmx, by rw [List.size_toArray, List.length_set, Array.length_toList]; exact hcs, ?_⟩
    rw [List.length_set, List.toList_toArray, List.take_set, htk]
    simp [intVs, List.map_set]

theorem idstep (out : List Nat) (j : Nat) (hj : j < out.length) : (List.range j ++ out.drop j).set j j = List.range (j + 1) ++ out.drop (j + 1) := by
  rw [List.drop_eq_getElem_cons hj, List.set_append, if_neg (by simp), List.length_range, Nat.sub_self, List.set_cons_zero, List.range_succ, List.append_assoc]
  rfl

def pickO (os : List Op5) (out : List Nat) : List Op5 := out.map (opAt0 os)
theorem pickO_good {os : List Op5} {D : Nat → Nat → Bool} {n : Nat} {out : List Nat} (hl : os.length = n) (ho : Ord D n out) (hg : ∀ o ∈ os, GoodOp o) : ∀ o ∈ pickO os out, GoodOp o := by
  intro o h
  obtain ⟨i, hi, rfl⟩ := List.mem_map.1 h
  have := ho.lt i hi
  rw [opAt0_get (by omega)]
  exact hg _ (List.getElem_mem _)
theorem pickO_range (os : List Op5) : pickO os (List.range os.length) = os := by
  apply List.ext_getElem?
  intro i
  unfold pickO
  rw [List.getElem?_map]
  by_cases h : i < os.length
  · rw [List.getElem?_range h, List.getElem?_eq_getElem h]
    simp [opAt0_get h]
  · rw [List.getElem?_eq_none (by simpa using h), List.getElem?_eq_none (by omega)]
    rfl
theorem pickO_take (os : List Op5) (out : List Nat) (k : Nat) (h : k < out.length) : pickO os (out.take (k + 1)) = pickO os (out.take k) ++ [opAt0 os out[k]] := by
  unfold pickO
  rw [List.take_succ_eq_append_getElem h, List.map_append]
  rfl

/-- what Order answers at straight code -/
def OrderLaw (os : List Op5) (n : Nat) (w : World) (e : Ending) (w' : World) : Prop :=
  ∃ v out, e = .returned (.tuple #[v, .int .i64 0]) ∧ IsSched (depB os) n out ∧ (runS (pickO os out)).done ≤ (runS os).done ∧ OwnI w' w.heap.size v (wrL out) ∧ Below w.heap.size w w'

set_option maxRecDepth 100000 in
set_option maxHeartbeats 8000000 in
theorem schedOrder_ok (os : List Op5) (a : Option Addr) (n c : Nat) (w : World) (h : Came w a n c 5 (os.map opC)) (hn : n ≤ 256) (hg : ∀ o ∈ os, GoodOp o) :
    Calls Try.prog 70 #[.slice a n c] w (OrderLaw os n w) := by
  have hl : os.length = n := by simpa using h.count
  have HL := Lib.hid hl
  have HC := Lib.hid h
  have HG := Lib.hid hg
  have hle := h.le
  have hmx := h.max
  have HCY := Lib.hid (cycles_ok os a n c w h (by omega) hg)
  have HOD := fun w h => Lib.hid (order_ok os a n c w h hn hg (fun w h => build_ok os a n c w h hn hg))
  unfold OrderPost at HOD
  obtain ⟨D, hD⟩ : ∃ D, D = depB os := ⟨_, rfl⟩
  unfold OrderLaw
  rw [← hD] at HOD ⊢
  have d1 : decide ((256 : Int) < (n : Int)) = false := decide_eq_false (by omega)
  obtain ⟨i0, hi0, hz0, hz1, hz2⟩ := info_parts Try.infoO92
  obtain ⟨was, hwas⟩ : ∃ x, x = (runS os).done := ⟨_, rfl⟩
  rw [← hwas] at HCY
  have HWAS := Lib.hid hwas
  clear h hl hg hD hwas
  go_enter Try.func70, Try.ntmps70
  go_wp2_with fail
  refine HCY.out.mono ?_
  rintro e w1 ⟨rfl, hb1⟩
  have HB1 := Lib.hid hb1
  clear hb1 HCY
  go_wp2_with fail
  refine (HOD w1 (HC.out.below HB1.out)).out.mono ?_
  rintro e w2 ⟨v, out, rfl, ⟨hord, hlen⟩, hown, hb2⟩
  obtain ⟨va, vm, vc, rfl⟩ := owns_shape hown
  have hvm : vm = n := by rw [(ownI_came hown).1]; simp [wrL]; exact hlen
  subst hvm
  have HOR := Lib.hid hord
  have HLN := Lib.hid hlen
  have HOW := Lib.hid (owns_base hown HB1.out.size)
  have HB2 := Lib.hid (HB1.out.trans (hb2.mono HB1.out.size))
  have hcm := (ownI_came hown).2
  have hvle := hcm.le
  have hvmx := hcm.max
  have HVC := Lib.hid hcm
  have hsz2 := HB2.out.size
  clear hord hlen hown hb2 HOD hcm
  go_wp2_with fail
  go_loopw [7, 28] (fun v u wx => ∃ k : Nat, k ≤ vm ∧ u = .int .i64 (k : Int) ∧ wx.ownsRow w2.heap.size 92 5 v (pickO os (out.take k)).length (flat5 (pickO os (out.take k))) ∧ Below w2.heap.size w2 wx) (fun _ u _ => vm - (intOf u).toNat)
  case atStart => exact ⟨0, Nat.zero_le _, rfl, World.ownsRow_nil _ _ _ _, Below.refl _ _⟩
  case round =>
    obtain ⟨k, hk, rfl, hown, hbel⟩ := hrel
    obtain ⟨pa, pl, pc, rfl⟩ := owns_shape hown
    have HOWN := Lib.hid hown
    have HB := Lib.hid hbel
    have hsz := hbel.size
    have hpl : (pickO os (out.take k)).length ≤ 256 := by
      have := HLN.out
      simp [pickO]; omega
    clear hown hbel
    by_cases hlt : k < vm
    · have hkl : k < out.length := by have := HLN.out; omega
      obtain ⟨b1, o1, ea1, _, hc1⟩ := (HVC.out.below HB.out).ints (by omega)
      subst ea1
      have cl := hc1 k (by simp [wrL]; exact hkl)
      obtain ⟨i, hi⟩ : ∃ i, i = out[k] := ⟨_, rfl⟩
      have cl2 : wr.cell? ⟨b1, o1 + k, none⟩ = some (.int .i64 (i : Int)) := by rw [cl, hi]; simp [wrL]
      have hin : i < vm := by rw [hi]; exact HOR.out.lt _ (List.getElem_mem hkl)
      have hil : i < os.length := by have := HL.out; omega
      obtain ⟨b2, o2, ea2, hb2l, hc2⟩ := came_ops ((HC.out.below HB2.out).below HB.out) (by omega)
      subst ea2
      have HPT := Lib.hid (pickO_take os out k hkl)
      rw [← hi, opAt0_get hil] at HPT
      have ho := hc2 i hil
      generalize os[i] = oo at ho HPT
      obtain ⟨o, d, aa, bb, nn⟩ := oo
      obtain ⟨c0, c1, c2, c3, c4⟩ := ho
      simp only [] at c0 c1 c2 c3 c4
      have HAL := Lib.hid (World.ownsRow.alloc HOWN.out (.cells #[.int .i64 o, .int .i64 d, .int .i64 aa, .int .i64 bb, .int .i64 nn] 92))
      have HA2 := Lib.hid (cell_five_new wr [.int .i64 o, .int .i64 d, .int .i64 aa, .int .i64 bb, .int .i64 nn] 92)
      have HA3 : Hid (∀ u ∈ ([.int .i64 o, .int .i64 d, .int .i64 aa, .int .i64 bb, .int .i64 nn] : List Value), u.oneCell' = true) := by
        intro u hu; simp at hu; rcases hu with rfl | rfl | rfl | rfl | rfl <;> rfl
      clear cl hc1 hc2 hi
      go_wp2_with (at_builtin; refine wpList_append_own _ rfl _ _ 89 rfl w2.heap.size 92 i0 (.agg #[.int .i64 0, .int .i64 0, .int .i64 0, .int .i64 0, .int .i64 0]) 5 40 Try.underlying89 hi0 hz0 hz1 hz2 rfl (by decide) _ _ _ rfl HAL.out ⟨wr.heap.size, 0, none⟩ 1 1 [.int .i64 o, .int .i64 d, .int .i64 aa, .int .i64 bb, .int .i64 nn] rfl rfl HA2.out HA3.out (by unfold maxLen; omega) (by omega) (by simp; omega) ?_)
      intro v' w3 hown' hgrow _
      have HOW3 := Lib.hid hown'
      have hvb : ∀ q, (Value.slice pa pl pc).ownBlock = some q → w2.heap.size ≤ q := fun q hq => (World.ownsRow.lt HOWN.out q hq).1
      have HB3 := Lib.hid ((HB.out.alloc hsz (.cells #[.int .i64 o, .int .i64 d, .int .i64 aa, .int .i64 bb, .int .i64 nn] 92)).grown hgrow (by simp; omega) hvb)
      clear hown' hgrow hvb HAL HA2 HA3
      go_wp2
      go_roundw
      case rel => exact ⟨k + 1, by omega, by go_num, by rw [HPT.out, List.length_append, flat5_append]; exact HOW3.out, HB3.out⟩
      case measure => simp [intOf]; omega
    · have ek : k = vm := by omega
      subst ek
      have hto : out.take k = out := List.take_of_length_le (by have := HLN.out; omega)
      rw [hto] at HOWN hpl
      clear hto
      have hpn : (pickO os out).length = k := by have := HLN.out; simp [pickO]; omega
      obtain ⟨qa, qc, hqv, hqm⟩ := came_flat5 HOWN.out
      rw [hpn] at hqv hqm
      simp only [Value.slice.injEq] at hqv
      obtain ⟨rfl, rfl, rfl⟩ := hqv
      have HCY2 := Lib.hid (cycles_ok (pickO os out) pa pl pc wr hqm (by omega) (pickO_good HL.out HOR.out HG.out))
      have HB3 := Lib.hid (HB2.out.trans (HB.out.mono hsz2))
      have HOW3 := Lib.hid (ownsRow_below HOW.out HB.out)
      obtain ⟨now, hnow⟩ : ∃ x, x = (runS (pickO os out)).done := ⟨_, rfl⟩
      rw [← hnow] at HCY2
      have HNOW := Lib.hid hnow
      clear HOWN hqm hpn hpl hnow HB2 HOW HB
      go_wp2_with fail
      refine HCY2.out.mono ?_
      rintro e w4 ⟨rfl, hb4⟩
      have HB4 := Lib.hid (HB3.out.trans (hb4.mono HB3.out.size))
      have HOW4 := Lib.hid (ownsRow_below HOW3.out hb4)
      clear HB3 HOW3 hb4 HCY2
      by_cases hlt2 : now < was
      · have y1 : decide ((now : Int) < (was : Int)) = true := decide_eq_true (by omega)
        have y2 : decide (now < was) = true := decide_eq_true hlt2
        have HLE : Hid ((runS (pickO os out)).done ≤ (runS os).done) := by unfold Hid; rw [← HNOW.out, ← HWAS.out]; omega
        clear hlt2 HVC HC HG
        go_wp2_with fail
        go_ret2
        exact ⟨_, out, rfl, ⟨HOR.out, HLN.out⟩, HLE.out, HOW4.out, HB4.out⟩
      · have y1 : decide ((now : Int) < (was : Int)) = false := decide_eq_false (by omega)
        have y2 : decide (now < was) = false := decide_eq_false hlt2
        clear hlt2 HVC HC HG
        go_wp2_with fail
        clear y1 y2
        go_loopw [51] (fun u wx => ∃ j : Nat, j ≤ pl ∧ u = .int .i64 (j : Int) ∧ OwnI wx w.heap.size (.slice va pl vc) (wrL (List.range j ++ out.drop j)) ∧ Below w.heap.size w wx) (fun u _ => pl - (intOf u).toNat)
        case atStart => exact ⟨0, Nat.zero_le _, rfl, by rw [List.range_zero, List.nil_append, List.drop_zero]; exact HOW4.out, HB4.out⟩
        case round =>
          clear HOW4 HB4
          obtain ⟨j, hj, rfl, hown, hbel⟩ := hrel
          have HB := Lib.hid hbel
          have hbw := hbel.size
          clear hbel
          by_cases hlj : j < pl
          · have hll : (wrL (List.range j ++ out.drop j)).length = pl := by have := HLN.out; simp [wrL]; omega
            obtain ⟨g, rfl, hgw⟩ : ∃ g, va = some ⟨g, 0, none⟩ ∧ w.heap.size ≤ g := by
              obtain ⟨_, h2⟩ := hown
              rcases h2 with ⟨h2, h3⟩ | ⟨g, cap', cur, hv, hb, _⟩
              · omega
              · simp only [Value.slice.injEq] at hv
                exact ⟨g, hv.1, hb⟩
            obtain ⟨b1, o1, ea1, hb1l, hc1⟩ := (ownI_came hown).2.ints (by omega)
            simp only [Option.some.injEq, Addr.mk.injEq, and_true] at ea1
            obtain ⟨rfl, rfl⟩ := ea1
            have cl := hc1 j (by omega)
            rw [Nat.zero_add] at cl
            have fz : wr.frozen? ⟨g, j, none⟩ = false := by
              obtain ⟨_, h2⟩ := hown
              rcases h2 with ⟨h2, _⟩ | ⟨g', cap', cur, hv, hb, hg, _⟩
              · simp at h2
              · simp only [Value.slice.injEq, Option.some.injEq, Addr.mk.injEq, and_true] at hv
                obtain ⟨rfl, _, _⟩ := hv
                have hB : Blk wr g 3 cur.toList := by unfold Blk; rw [Array.toArray_toList]; exact hg
                exact hB.free j
            obtain ⟨z, hz⟩ : ∃ z, z = (wrL (List.range j ++ out.drop j))[j]'(by omega) := ⟨_, rfl⟩
            rw [← hz] at cl
            have hset := ownI_set hown (j := j) (by omega) (j : Int)
            have hst : (wrL (List.range j ++ out.drop j)).set j (j : Int) = wrL (List.range (j + 1) ++ out.drop (j + 1)) := by
              have hjl : j < out.length := by have := HLN.out; omega
              rw [← idstep out j hjl]
              unfold wrL
              rw [List.map_set]
            rw [hst] at hset
            have HSET := Lib.hid hset
            clear hz hc1 hset hst hown
            go_wp2_with fail
            go_roundw
            case rel => exact ⟨j + 1, by omega, by go_num, HSET.out, HB.out.setCell (p := ⟨g, j, none⟩) hgw _⟩
            case measure => simp [intOf]; omega
          · have ej : j = pl := by omega
            subst ej
            have hdr : out.drop j = [] := List.drop_of_length_le (by have := HLN.out; omega)
            rw [hdr, List.append_nil] at hown
            have HOWN := Lib.hid hown
            have HLE : Hid ((runS (pickO os (List.range j))).done ≤ (runS os).done) := by
              unfold Hid
              have e := pickO_range os
              rw [HL.out] at e
              rw [e]
              exact Nat.le_refl _
            clear hown hdr
            go_wp2_with fail
            go_ret2
            exact ⟨_, List.range j, rfl, ⟨Ord.range D j, by simp⟩, HLE.out, HOWN.out, HB.out⟩

/-- what Schedule answers at straight code -/
def ScheduleLaw (os : List Op5) (n : Nat) (w : World) (e : Ending) (w' : World) : Prop :=
  ∃ v out, e = .returned (.tuple #[v, .int .i64 0]) ∧ IsSched (depB os) n out ∧ (runS (pickO os out)).done ≤ (runS os).done ∧ w'.ownsRow w.heap.size 92 5 v (pickO os out).length (flat5 (pickO os out)) ∧ Below w.heap.size w w'

set_option maxRecDepth 100000 in
set_option maxHeartbeats 8000000 in
theorem schedule_ok (os : List Op5) (a : Option Addr) (n c : Nat) (w : World) (h : Came w a n c 5 (os.map opC)) (hn : n ≤ 256) (hg : ∀ o ∈ os, GoodOp o) :
    Calls Try.prog 42 #[.slice a n c] w (ScheduleLaw os n w) := by
  have hl : os.length = n := by simpa using h.count
  have HL := Lib.hid hl
  have HC := Lib.hid h
  have hle := h.le
  have hmx := h.max
  have HOD := Lib.hid (schedOrder_ok os a n c w h hn hg)
  unfold OrderLaw at HOD
  obtain ⟨D, hD⟩ : ∃ D, D = depB os := ⟨_, rfl⟩
  unfold ScheduleLaw
  rw [← hD] at HOD ⊢
  obtain ⟨i0, hi0, hz0, hz1, hz2⟩ := info_parts Try.infoO92
  clear h hl hg hD
  go_enter Try.func42, Try.ntmps42
  go_wp2_with fail
  refine HOD.out.mono ?_
  rintro e w2 ⟨v, out, rfl, ⟨hord, hlen⟩, hdone, hown, hb2⟩
  obtain ⟨va, vm, vc, rfl⟩ := owns_shape hown
  have hvm : vm = n := by rw [(ownI_came hown).1]; simp [wrL]; exact hlen
  subst hvm
  have HOR := Lib.hid hord
  have HLN := Lib.hid hlen
  have HDN := Lib.hid hdone
  have HB2 := Lib.hid hb2
  have hcm := (ownI_came hown).2
  have hvle := hcm.le
  have hvmx := hcm.max
  have HVC := Lib.hid hcm
  have hsz2 := hb2.size
  clear hord hlen hown hb2 HOD hcm hdone
  go_wp2_with fail
  go_loopw [6, 19] (fun v u wx => ∃ k : Nat, k ≤ vm ∧ u = .int .i64 (k : Int) ∧ wx.ownsRow w2.heap.size 92 5 v (pickO os (out.take k)).length (flat5 (pickO os (out.take k))) ∧ Below w2.heap.size w2 wx) (fun _ u _ => vm - (intOf u).toNat)
  case atStart => exact ⟨0, Nat.zero_le _, rfl, World.ownsRow_nil _ _ _ _, Below.refl _ _⟩
  case round =>
    obtain ⟨k, hk, rfl, hown, hbel⟩ := hrel
    obtain ⟨pa, pl, pc, rfl⟩ := owns_shape hown
    have HOWN := Lib.hid hown
    have HB := Lib.hid hbel
    have hsz := hbel.size
    have hpl : (pickO os (out.take k)).length ≤ 256 := by
      have := HLN.out
      simp [pickO]; omega
    clear hown hbel
    by_cases hlt : k < vm
    · have hkl : k < out.length := by have := HLN.out; omega
      obtain ⟨b1, o1, ea1, _, hc1⟩ := (HVC.out.below HB.out).ints (by omega)
      subst ea1
      have cl := hc1 k (by simp [wrL]; exact hkl)
      obtain ⟨i, hi⟩ : ∃ i, i = out[k] := ⟨_, rfl⟩
      have cl2 : wr.cell? ⟨b1, o1 + k, none⟩ = some (.int .i64 (i : Int)) := by rw [cl, hi]; simp [wrL]
      have hin : i < vm := by rw [hi]; exact HOR.out.lt _ (List.getElem_mem hkl)
      have hil : i < os.length := by have := HL.out; omega
      obtain ⟨b2, o2, ea2, hb2l, hc2⟩ := came_ops ((HC.out.below HB2.out).below HB.out) (by omega)
      subst ea2
      have HPT := Lib.hid (pickO_take os out k hkl)
      rw [← hi, opAt0_get hil] at HPT
      have ho := hc2 i hil
      generalize os[i] = oo at ho HPT
      obtain ⟨o, d, aa, bb, nn⟩ := oo
      obtain ⟨c0, c1, c2, c3, c4⟩ := ho
      simp only [] at c0 c1 c2 c3 c4
      have HAL := Lib.hid (World.ownsRow.alloc HOWN.out (.cells #[.int .i64 o, .int .i64 d, .int .i64 aa, .int .i64 bb, .int .i64 nn] 92))
      have HA2 := Lib.hid (cell_five_new wr [.int .i64 o, .int .i64 d, .int .i64 aa, .int .i64 bb, .int .i64 nn] 92)
      have HA3 : Hid (∀ u ∈ ([.int .i64 o, .int .i64 d, .int .i64 aa, .int .i64 bb, .int .i64 nn] : List Value), u.oneCell' = true) := by
        intro u hu; simp at hu; rcases hu with rfl | rfl | rfl | rfl | rfl <;> rfl
      clear cl hc1 hc2 hi
      go_wp2_with (at_builtin; refine wpList_append_own _ rfl _ _ 89 rfl w2.heap.size 92 i0 (.agg #[.int .i64 0, .int .i64 0, .int .i64 0, .int .i64 0, .int .i64 0]) 5 40 Try.underlying89 hi0 hz0 hz1 hz2 rfl (by decide) _ _ _ rfl HAL.out ⟨wr.heap.size, 0, none⟩ 1 1 [.int .i64 o, .int .i64 d, .int .i64 aa, .int .i64 bb, .int .i64 nn] rfl rfl HA2.out HA3.out (by unfold maxLen; omega) (by omega) (by simp; omega) ?_)
      intro v' w3 hown' hgrow _
      have HOW3 := Lib.hid hown'
      have hvb : ∀ q, (Value.slice pa pl pc).ownBlock = some q → w2.heap.size ≤ q := fun q hq => (World.ownsRow.lt HOWN.out q hq).1
      have HB3 := Lib.hid ((HB.out.alloc hsz (.cells #[.int .i64 o, .int .i64 d, .int .i64 aa, .int .i64 bb, .int .i64 nn] 92)).grown hgrow (by simp; omega) hvb)
      clear hown' hgrow hvb HAL HA2 HA3
      go_wp2
      go_roundw
      case rel => exact ⟨k + 1, by omega, by go_num, by rw [HPT.out, List.length_append, flat5_append]; exact HOW3.out, HB3.out⟩
      case measure => simp [intOf]; omega
    · have ek : k = vm := by omega
      subst ek
      have hto : out.take k = out := List.take_of_length_le (by have := HLN.out; omega)
      rw [hto] at HOWN
      have HOWZ := Lib.hid (owns_base HOWN.out hsz2)
      have HBZ := Lib.hid (HB2.out.trans (HB.out.mono hsz2))
      clear hto hpl HOWN HB HB2
      go_wp2_with fail
      go_ret2
      exact ⟨_, out, rfl, ⟨HOR.out, HLN.out⟩, HDN.out, HOWZ.out, HBZ.out⟩

theorem sched_one {D : Nat → Nat → Bool} {out : List Nat} (h : IsSched D 1 out) : out = [0] := by
  obtain ⟨h1, h2⟩ := h
  match out, h2 with
  | [a], _ =>
    have := h1.lt a List.mem_cons_self
    have e : a = 0 := by omega
    rw [e]

set_option maxHeartbeats 2000000 in
theorem schedFact_ok (w : World) : Calls Try.prog 39 #[] w fun e w' => e = .returned (.bool true) ∧ Below w.heap.size w w' := by
  have hgood : ∀ o ∈ [(⟨11, 1, 0, 0, 0⟩ : Op5)], GoodOp o := by
    intro o ho
    simp only [List.mem_cons, List.not_mem_nil, or_false] at ho
    subst ho
    exact ⟨by decide, by decide⟩
  have hb : Below w.heap.size w (w.alloc (.cells (flat5 [(⟨11, 1, 0, 0, 0⟩ : Op5)]).toArray 92)) := (Below.refl _ _).alloc (Nat.le_refl _) _
  obtain ⟨a, c, he, hc⟩ := came_flat5 (w := w.alloc (.cells (flat5 [(⟨11, 1, 0, 0, 0⟩ : Op5)]).toArray 92)) (base := 0) (e := 92) (v := .slice (some ⟨w.heap.size, 0, none⟩) 1 1) (l := [⟨11, 1, 0, 0, 0⟩]) ⟨rfl, .inr ⟨w.heap.size, 1, _, rfl, Nat.zero_le _, heap_alloc_new w _, Nat.le_refl _, by unfold maxLen; omega, rfl, rfl⟩⟩
  simp only [Value.slice.injEq] at he
  obtain ⟨rfl, hz2, rfl⟩ := he
  clear hz2
  have HOL := Lib.hid (schedOrder_ok [⟨11, 1, 0, 0, 0⟩] _ 1 1 _ hc (by omega) hgood)
  unfold OrderLaw at HOL
  have HDP := fun w => Lib.hid (depends_any 11 1 0 0 0 11 1 0 0 0 w (by omega) (by omega))
  unfold DepPost at HDP
  rw [show depOf 11 1 0 0 11 1 0 0 = true by decide] at HDP
  have HB := Lib.hid hb
  clear hc hb hgood
  go_enter Try.func39, Try.ntmps39
  go_wp2_with fail
  refine HOL.out.mono ?_
  rintro e w2 ⟨v, out, rfl, hsch, _, hown, hb2⟩
  have ho := sched_one hsch
  subst ho
  obtain ⟨va, vm, vc, rfl⟩ := owns_shape hown
  obtain ⟨hvm, hcm⟩ := ownI_came hown
  have hvm1 : vm = 1 := hvm
  subst hvm1
  obtain ⟨b1, o1, ea1, hb1l, hc1⟩ := hcm.ints (by omega)
  subst ea1
  have cl := hc1 0 (by decide)
  have cl2 : w2.cell? ⟨b1, o1, none⟩ = some (.int .i64 0) := cl
  have HB2 := Lib.hid (HB.out.trans (hb2.mono HB.out.size))
  have hvle := hcm.le
  have hvmx := hcm.max
  clear hown hb2 hcm hc1 cl HOL hsch hvm
  go_wp2_with fail
  refine (HDP _).out.mono ?_
  rintro e w3 ⟨rfl, hb3⟩
  have HB3 := Lib.hid (HB2.out.trans (hb3.mono HB2.out.size))
  clear hb3
  go_wp2_with fail
  go_ret
  exact ⟨rfl, HB3.out⟩
end Go.Proofs.Ytnfgjcdiophphab
