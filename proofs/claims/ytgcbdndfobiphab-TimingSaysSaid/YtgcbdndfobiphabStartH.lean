/- timing's start at any state with valid registers: it returns a number (numbers may wrap). -/
import Derived.Test.YtgcbdndfobiphabTimeG
import Derived.Test.YtgcbdndfobiphabTimeC
namespace Go.Proofs.Ytgcbdndfobiphab
open Go.RowKit
set_option linter.unusedVariables false
set_option linter.unusedSimpArgs false

def posW (t0 t : Int) : Nat := ((t - t0) % 18446744073709551616).toNat
def resL (wr : List Int) (lat t0 : Int) : List Nat := wr.map fun x => ((x - lat - t0) % 18446744073709551616).toNat
theorem posW_zero (t0 : Int) : posW t0 t0 = 0 := by unfold posW; omega
theorem above_le (l : List Nat) (t : Nat) : above l t ≤ l.length := by unfold above; exact List.length_filter_le _ _
theorem posW_step {wr : List Int} {lat t0 t : Int} (h : wr.contains (wrap64 (t + lat)) = true) (hb : posW t0 t + above (resL wr lat t0) (posW t0 t) ≤ wr.length) (hl : wr.length ≤ 16384) :
    posW t0 (wrap64 (t + 1)) + above (resL wr lat t0) (posW t0 (wrap64 (t + 1))) ≤ wr.length ∧ above (resL wr lat t0) (posW t0 (wrap64 (t + 1))) < above (resL wr lat t0) (posW t0 t) := by
  have h1 : posW t0 (wrap64 (t + 1)) = posW t0 t + 1 := by unfold posW wrap64 at *; omega
  have h2 : posW t0 t ∈ resL wr lat t0 := by
    unfold resL
    rw [List.contains_iff_mem] at h
    refine List.mem_map.2 ⟨_, h, ?_⟩
    unfold posW wrap64; omega
  have h3 := above_drop h2
  rw [h1]
  omega
theorem ti_cells {w : World} {b : Nat} {t : TypeId} {S : TI} {wv : Value} (h : Blk w b t (tiCells S wv)) : w.cell? ⟨b, 0, none⟩ = some (.int .i64 S.next) ∧ w.cell? ⟨b, 1, none⟩ = some (.int .i64 S.div) ∧ w.cell? ⟨b, 2, none⟩ = some (.int .i64 S.done) ∧ (∀ i : Nat, i < 16 → w.cell? ⟨b, 3 + i, none⟩ = some (.int .i64 (S.rd i))) ∧ w.cell? ⟨b, 19, none⟩ = some wv := by
  refine ⟨h.cell 0, h.cell 1, h.cell 2, fun i hi => ?_, h.cell 19⟩
  have hs : i = 0 ∨ i = 1 ∨ i = 2 ∨ i = 3 ∨ i = 4 ∨ i = 5 ∨ i = 6 ∨ i = 7 ∨ i = 8 ∨ i = 9 ∨ i = 10 ∨ i = 11 ∨ i = 12 ∨ i = 13 ∨ i = 14 ∨ i = 15 := by omega
  rcases hs with rfl | rfl | rfl | rfl | rfl | rfl | rfl | rfl | rfl | rfl | rfl | rfl | rfl | rfl | rfl | rfl
  all_goals exact h.cell _

def StartPost (w : World) (e : Ending) (w' : World) : Prop := (∃ t : Int, e = .returned (.int .i64 t)) ∧ Below w.heap.size w w'

set_option maxRecDepth 100000 in
set_option maxHeartbeats 4000000 in
theorem start_any (S : TI) (wv : Value) (op d a b n : Int) (lat : Nat) (w : World) (hlat : 1 ≤ lat ∧ lat ≤ 100000) (hd : 0 ≤ d ∧ d ≤ 15) (ha : 0 ≤ a ∧ a ≤ 15) (hb : 0 ≤ b ∧ b ≤ 15) (hl : S.wr.length ≤ 16384) (hw : WrI w wv S.wr) :
    Calls Try.prog 26 #[.agg (tiCells S wv).toArray, .agg #[.int .i64 op, .int .i64 d, .int .i64 a, .int .i64 b, .int .i64 n], .int .i64 (lat : Int)] w (StartPost w) := by
  have HRD := fun w => Lib.hid (reads_any op d a b n w)
  have HWR := fun w => Lib.hid (writes_any op d a b n w)
  have HDV := fun w => Lib.hid (divides_any op w)
  have hdb := wrOf_bd (op := op) hd
  have HRM := Lib.hid (fun r (h : r ∈ readsOf op a b) => reads_mem ha hb h)
  obtain ⟨X, hX⟩ : ∃ X, X = wrOf op d := ⟨_, rfl⟩
  rw [← hX] at HWR hdb
  obtain ⟨rs, hrs⟩ : ∃ rs, rs = readsOf op a b := ⟨_, rfl⟩
  rw [← hrs] at HRD HRM
  obtain ⟨dv, hdv⟩ : ∃ dv, dv = divB op := ⟨_, rfl⟩
  rw [← hdv] at HDV
  clear hX hrs hdv ha hb hd
  obtain ⟨wa, wc, rfl, hc, _⟩ := hw
  have hle := hc.le
  have hmx := hc.max
  have HC := Lib.hid hc
  have HB0 : Hid (Below w.heap.size w ((w.alloc (.cells (tiCells S (.slice wa S.wr.length wc)).toArray 25)).alloc (.cells #[.int .i64 op, .int .i64 d, .int .i64 a, .int .i64 b, .int .i64 n] 27))) := ((Below.refl _ _).alloc (Nat.le_refl _) _).alloc (by simp) _
  have HS0 := Lib.hid ((Blk.new w (tiCells S (.slice wa S.wr.length wc)) 25).alloc (.cells #[.int .i64 op, .int .i64 d, .int .i64 a, .int .i64 b, .int .i64 n] 27))
  have HO0 : Hid (Blk ((w.alloc (.cells (tiCells S (.slice wa S.wr.length wc)).toArray 25)).alloc (.cells #[.int .i64 op, .int .i64 d, .int .i64 a, .int .i64 b, .int .i64 n] 27)) (w.heap.size + 1) 27 [.int .i64 op, .int .i64 d, .int .i64 a, .int .i64 b, .int .i64 n]) := by
    have h2 := Blk.new (w.alloc (.cells (tiCells S (.slice wa S.wr.length wc)).toArray 25)) [.int .i64 op, .int .i64 d, .int .i64 a, .int .i64 b, .int .i64 n] 27
    rw [World.size_alloc] at h2
    exact h2
  clear hc
  go_enter Try.func26, Try.ntmps26
  go_upto_region 1 with fail
  generalize (w.alloc (.cells (tiCells S (.slice wa S.wr.length wc)).toArray 25)).alloc (.cells #[.int .i64 op, .int .i64 d, .int .i64 a, .int .i64 b, .int .i64 n] 27) = w1 at HB0 HS0 HO0 ⊢
  obtain ⟨c0, _⟩ := ti_cells HS0.out
  obtain ⟨p0, p1, p2, p3, p4⟩ := op_cells5 HO0.out
  go_wp2_with fail
  refine (HRD _).out.mono ?_
  rintro e w2 ⟨v, rfl, hown, hb2⟩
  obtain ⟨ra, rc, rfl, hcr⟩ := came_own_int hown
  have HB2 := Lib.hid (HB0.out.trans (hb2.mono (B' := w.heap.size) HB0.out.size))
  have HS2 := Lib.hid (HS0.out.below hb2 HS0.out.lt)
  have HO2 := Lib.hid (HO0.out.below hb2 HO0.out.lt)
  have HC2 := Lib.hid (HC.out.below HB2.out)
  have HCR := Lib.hid hcr
  have hrl := hcr.count
  simp only [List.length_map] at hrl
  have hrle := hcr.le
  have hrmx := hcr.max
  clear hown hb2 hcr c0 p0 p1 p2 p3 p4 HB0 HS0 HO0 HC
  obtain ⟨c0, c1, c2, c3, c19⟩ := ti_cells HS2.out
  have C3 := Lib.hid c3
  obtain ⟨p0, p1, p2, p3, p4⟩ := op_cells5 HO2.out
  clear c3
  go_wp2_with fail
  go_loop [7, 16] (fun m u => ∃ (k : Nat) (mv : Int), k ≤ rs.length ∧ u = .int .i64 (k : Int) ∧ m = .int .i64 mv) (fun m u => rs.length - (intOf u).toNat)
  case atStart => exact ⟨0, _, Nat.zero_le _, rfl, rfl⟩
  case round =>
    obtain ⟨k, m, hk, rfl, rfl⟩ := hrel
    by_cases hlt : k < rs.length
    · obtain ⟨b', off, ea, _, hcell⟩ := HCR.out.ints (by omega)
      subst ea
      have cl := hcell k hlt
      have hr := HRM.out _ (List.getElem_mem hlt)
      obtain ⟨i, hi⟩ : ∃ i : Nat, rs[k] = (i : Int) := ⟨rs[k].toNat, by omega⟩
      rw [hi] at cl hr
      have ci := C3.out i (by omega)
      obtain ⟨q, hq⟩ : ∃ q, q = S.rd i := ⟨_, rfl⟩
      rw [← hq] at ci
      clear hcell hi hq
      by_cases hmq : m < q
      all_goals
        go_wp2
        go_round
        case rel => exact ⟨k + 1, _, by omega, by go_num, rfl⟩
        case measure => simp [intOf]; omega
    · have ek : k = rs.length := by omega
      subst ek
      obtain ⟨sd, hsd⟩ : ∃ sd, sd = S.div := ⟨_, rfl⟩
      rw [← hsd] at c1
      clear HRM HCR hsd
      obtain ⟨rx, hrx⟩ : ∃ rx, rx = S.rd X.toNat := ⟨_, rfl⟩
      obtain ⟨x, hx⟩ : ∃ x : Nat, X = (x : Int) := ⟨X.toNat, by omega⟩
      have cx := C3.out x (by omega)
      rw [show S.rd x = rx by rw [hrx, hx]; rfl] at cx
      subst hx
      have HRX : Hid (S.rd x = rx) := by unfold Hid; rw [hrx]; rfl
      clear hrx
      have hs : ∃ m', (dv = false ∧ m' = m) ∨ (dv = true ∧ m < sd ∧ m' = sd) ∨ (dv = true ∧ ¬ m < sd ∧ m' = m) := by
        cases dv
        · exact ⟨m, .inl ⟨rfl, rfl⟩⟩
        · by_cases e : m < sd
          · exact ⟨sd, .inr (.inl ⟨rfl, e, rfl⟩)⟩
          · exact ⟨m, .inr (.inr ⟨rfl, e, rfl⟩)⟩
      obtain ⟨m', hs⟩ := hs
      rcases hs with ⟨rfl, rfl⟩ | ⟨rfl, hms, rfl⟩ | ⟨rfl, hms, rfl⟩
      all_goals
        go_wp2_with fail
        refine (HDV _).out.mono ?_
        rintro e w' ⟨rfl, rfl⟩
        go_wp2_with fail
        refine (HWR _).out.mono ?_
        rintro e w' ⟨rfl, rfl⟩
        have HS3 := Lib.hid (HS2.out.alloc (.cells #[.int .i64 op, .int .i64 d, .int .i64 a, .int .i64 b, .int .i64 n] 27))
        have HB3 := Lib.hid (HB2.out.alloc HB2.out.size (.cells #[.int .i64 op, .int .i64 d, .int .i64 a, .int .i64 b, .int .i64 n] 27))
        have HC3 := Lib.hid (HC2.out.below ((Below.refl _ _).alloc (Nat.le_refl _) (.cells #[.int .i64 op, .int .i64 d, .int .i64 a, .int .i64 b, .int .i64 n] 27)))
        clear p0 p1 p2 p3 p4 c0 c1 c2 c19 cx HS2 HO2 HB2 HC2 HDV HWR
        generalize w2.alloc (.cells #[.int .i64 op, .int .i64 d, .int .i64 a, .int .i64 b, .int .i64 n] 27) = w3 at HS3 HB3 HC3 ⊢
        by_cases hx0 : x = 0
        · have q : ((x : Int) != 0) = false := by simp [hx0]
          clear hx0
          go_wp2
          go_ret
          exact ⟨⟨_, rfl⟩, HB3.out⟩
        · have q : ((x : Int) != 0) = true := by simp [hx0]
          obtain ⟨c0, c1, c2, c3, c19⟩ := ti_cells HS3.out
          have cx := c3 x (by omega)
          have hxe : S.rd x = rx := HRX.out
          rw [hxe] at cx
          clear c3 hxe
          obtain ⟨z, hz⟩ : ∃ z, z = wrap64 (wrap64 (rx + 1) - (lat : Int)) := ⟨_, rfl⟩
          have HZ := Lib.hid hz
          by_cases hcm : m' < z
          · have hcm2 : m' < wrap64 (wrap64 (rx + 1) - (lat : Int)) := by rw [← hz]; exact hcm
            clear hz
            go_wp2_with fail
            go_loop [7] (fun v => ∃ t : Int, v = .int .i64 t ∧ posW z t + above (resL S.wr (lat : Int) z) (posW z t) ≤ S.wr.length) (fun v => above (resL S.wr (lat : Int) z) (posW z (intOf v)))
            case atStart => exact ⟨z, by rw [HZ.out], by rw [posW_zero]; have := above_le (resL S.wr (lat : Int) z) 0; simp [resL] at this ⊢; exact this⟩
            case round =>
              obtain ⟨t, rfl, hinv⟩ := hrel
              have HCT := fun w h => contains_ints w wa S.wr.length wc S.wr (wrap64 (t + (lat : Int))) h
              have HSP := Lib.hid (fun h => posW_step (wr := S.wr) (lat := (lat : Int)) (t0 := z) (t := t) h hinv hl)
              obtain ⟨r, hr⟩ : ∃ r, r = S.wr.contains (wrap64 (t + (lat : Int))) := ⟨_, rfl⟩
              rw [← hr] at HCT HSP
              clear hr hinv
              cases r
              · go_wp2_with fail
                refine (HCT _ HC3.out).mono ?_
                rintro e w' ⟨rfl, rfl⟩
                go_wp2
                go_ret
                exact ⟨⟨_, rfl⟩, HB3.out⟩
              · go_wp2_with fail
                refine (HCT _ HC3.out).mono ?_
                rintro e w' ⟨rfl, rfl⟩
                go_wp2
                go_round
                case rel => exact ⟨_, rfl, (HSP.out (by simp)).1⟩
                case measure => exact (HSP.out (by simp)).2
          · have hcm2 : ¬ m' < wrap64 (wrap64 (rx + 1) - (lat : Int)) := by rw [← hz]; exact hcm
            clear hz
            go_wp2_with fail
            go_loop [7] (fun v => ∃ t : Int, v = .int .i64 t ∧ posW m' t + above (resL S.wr (lat : Int) m') (posW m' t) ≤ S.wr.length) (fun v => above (resL S.wr (lat : Int) m') (posW m' (intOf v)))
            case atStart => exact ⟨m', rfl, by rw [posW_zero]; have := above_le (resL S.wr (lat : Int) m') 0; simp [resL] at this ⊢; exact this⟩
            case round =>
              obtain ⟨t, rfl, hinv⟩ := hrel
              have HCT := fun w h => contains_ints w wa S.wr.length wc S.wr (wrap64 (t + (lat : Int))) h
              have HSP := Lib.hid (fun h => posW_step (wr := S.wr) (lat := (lat : Int)) (t0 := m') (t := t) h hinv hl)
              obtain ⟨r, hr⟩ : ∃ r, r = S.wr.contains (wrap64 (t + (lat : Int))) := ⟨_, rfl⟩
              rw [← hr] at HCT HSP
              clear hr hinv
              cases r
              · go_wp2_with fail
                refine (HCT _ HC3.out).mono ?_
                rintro e w' ⟨rfl, rfl⟩
                go_wp2
                go_ret
                exact ⟨⟨_, rfl⟩, HB3.out⟩
              · go_wp2_with fail
                refine (HCT _ HC3.out).mono ?_
                rintro e w' ⟨rfl, rfl⟩
                go_wp2
                go_round
                case rel => exact ⟨_, rfl, (HSP.out (by simp)).1⟩
                case measure => exact (HSP.out (by simp)).2
end Go.Proofs.Ytgcbdndfobiphab
