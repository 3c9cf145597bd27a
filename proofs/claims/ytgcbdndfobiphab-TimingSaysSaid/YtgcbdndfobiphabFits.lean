/- The reference's fits, where only the cycles of results can stand against it. -/
import Derived.Test.YtgcbdndfobiphabTimeG
import Derived.Test.YtgcbdndfobiphabTimeC
import Derived.Test.YtgcbdndfobiphabRefC
namespace Go.Proofs.Ytgcbdndfobiphab
open Go.RowKit
set_option linter.unusedVariables false
set_option linter.unusedSimpArgs false

set_option maxRecDepth 100000 in
set_option maxHeartbeats 4000000 in
theorem fits_ok (S : TS) (wv : Value) (op d a b n : Int) (t lat : Nat) (w : World) (B : Nat) (hB : B ≤ 1152921504606846976) (hlat : 1 ≤ lat ∧ lat ≤ 100000) (hd : 0 ≤ d ∧ d ≤ 15) (ha : 0 ≤ a ∧ a ≤ 15) (hb : 0 ≤ b ∧ b ≤ 15) (ok : S.Ok B) (hw : WrAt w wv S.wr)
    (htb : t ≤ B + 1) (h1 : S.next ≤ t) (h2 : ∀ r ∈ readsOf op a b, S.rd r.toNat ≤ t) (h3 : divB op = true → S.div ≤ t) (h4 : wrOf op d ≠ 0 → S.rd (wrOf op d).toNat < t + lat) :
    Calls Try.prog 30 #[.agg (stCells S wv).toArray, .agg #[.int .i64 op, .int .i64 d, .int .i64 a, .int .i64 b, .int .i64 n], .int .i64 (t : Int), .int .i64 (lat : Int)] w fun e w' => e = .returned (.bool (decide (wrOf op d = 0) || !S.wr.contains (t + lat))) ∧ Below w.heap.size w w' := by
  have HRD := fun w => Lib.hid (opr_any op d a b n w)
  have HWR := fun w => Lib.hid (opw_any op d a b n w)
  have hdb := wrOf_bd (op := op) hd
  have HRM := Lib.hid (fun r (h : r ∈ readsOf op a b) => reads_mem ha hb h)
  have H2 := Lib.hid h2
  obtain ⟨X, hX⟩ : ∃ X, X = wrOf op d := ⟨_, rfl⟩
  rw [← hX] at HWR hdb h4 ⊢
  obtain ⟨res, hres⟩ : ∃ res, res = (decide (X = 0) || !S.wr.contains (t + lat)) := ⟨_, rfl⟩
  rw [← hres]
  have HRES := Lib.hid hres
  clear hres
  obtain ⟨rs, hrs⟩ : ∃ rs, rs = readsOf op a b := ⟨_, rfl⟩
  rw [← hrs] at HRD HRM H2
  clear hX hrs ha hb hd h2
  obtain ⟨wa, wc, rfl, hc⟩ := hw
  have hle := hc.le
  have hmx := hc.max
  have HOK := Lib.hid ok
  have oi := ok.d
  have on := ok.n
  have orr := Lib.hid ok.r
  have HC := Lib.hid hc
  have hdv : (op == 4) = true ∨ ((op == 4) = false ∧ ((op == 5) = true ∨ (op == 5) = false)) := by
    cases (op == 4) <;> cases (op == 5) <;> simp
  have hdiv : ((op == 4) = true ∨ (op == 5) = true) → ¬ (t : Int) < (S.div : Int) := by
    intro h
    have := h3 (by unfold divB; rcases h with h | h <;> rw [h] <;> simp)
    omega
  have HDIV := Lib.hid hdiv
  have HB0 : Hid (Below w.heap.size w ((w.alloc (.cells (stCells S (.slice wa S.wr.length wc)).toArray 25)).alloc (.cells #[.int .i64 op, .int .i64 d, .int .i64 a, .int .i64 b, .int .i64 n] 27))) := ((Below.refl _ _).alloc (Nat.le_refl _) _).alloc (by simp) _
  have HS0 := Lib.hid ((Blk.new w (stCells S (.slice wa S.wr.length wc)) 25).alloc (.cells #[.int .i64 op, .int .i64 d, .int .i64 a, .int .i64 b, .int .i64 n] 27))
  have HO0 : Hid (Blk ((w.alloc (.cells (stCells S (.slice wa S.wr.length wc)).toArray 25)).alloc (.cells #[.int .i64 op, .int .i64 d, .int .i64 a, .int .i64 b, .int .i64 n] 27)) (w.heap.size + 1) 27 [.int .i64 op, .int .i64 d, .int .i64 a, .int .i64 b, .int .i64 n]) := by
    have h2 := Blk.new (w.alloc (.cells (stCells S (.slice wa S.wr.length wc)).toArray 25)) [.int .i64 op, .int .i64 d, .int .i64 a, .int .i64 b, .int .i64 n] 27
    rw [World.size_alloc] at h2
    exact h2
  clear hc ok h3 hdiv
  go_enter Try.func30, Try.ntmps30
  go_upto_region 1 with fail
  generalize (w.alloc (.cells (stCells S (.slice wa S.wr.length wc)).toArray 25)).alloc (.cells #[.int .i64 op, .int .i64 d, .int .i64 a, .int .i64 b, .int .i64 n] 27) = w1 at HB0 HS0 HO0 ⊢
  obtain ⟨c0, _⟩ := st_cells HS0.out
  obtain ⟨p0, p1, p2, p3, p4⟩ := op_cells5 HO0.out
  have d1 : decide ((t : Int) < (S.next : Int)) = false := decide_eq_false (by omega)
  have d1n : ¬ t < S.next := by omega
  go_wp2_with fail
  refine (HRD _).out.mono ?_
  rintro e w2 ⟨v, rfl, hown, hb2⟩
  obtain ⟨ra, rc, rfl, hcr⟩ := came_own_int hown
  have HB2 := Lib.hid (HB0.out.trans (hb2.mono (B' := w.heap.size) HB0.out.size))
  have HS2 := Lib.hid (HS0.out.below hb2 HS0.out.lt)
  have HO2 := Lib.hid (HO0.out.below hb2 HO0.out.lt)
  have HC2 := Lib.hid (HC.out.below HB2.out)
  have HCR := Lib.hid hcr
  have hrl := hcr.count
  simp only [List.length_map] at hrl
  have hrle := hcr.le
  have hrmx := hcr.max
  clear hown hb2 hcr c0 p0 p1 p2 p3 p4 HB0 HS0 HO0 HC
  obtain ⟨c0, c1, c2, c3, c19⟩ := st_cells HS2.out
  have C3 := Lib.hid c3
  obtain ⟨p0, p1, p2, p3, p4⟩ := op_cells5 HO2.out
  clear c3
  go_wp2_with fail
  go_loop [8, 21] (fun m u => ∃ (k : Nat), k ≤ rs.length ∧ u = .int .i64 (k : Int) ∧ m = .bool false) (fun m u => rs.length - (intOf u).toNat)
  case atStart => exact ⟨0, Nat.zero_le _, rfl, rfl⟩
  case round =>
    obtain ⟨k, hk, rfl, rfl⟩ := hrel
    by_cases hlt : k < rs.length
    · obtain ⟨b', off, ea, _, hcell⟩ := HCR.out.ints (by omega)
      subst ea
      have cl := hcell k hlt
      have hr := HRM.out _ (List.getElem_mem hlt)
      have hrt := H2.out _ (List.getElem_mem hlt)
      obtain ⟨i, hi⟩ : ∃ i : Nat, rs[k] = (i : Int) := ⟨rs[k].toNat, by omega⟩
      rw [hi] at cl hr hrt
      have ci := C3.out i (by omega)
      obtain ⟨q, hq⟩ : ∃ q, q = S.rd i := ⟨_, rfl⟩
      rw [show (i : Int).toNat = i from rfl, ← hq] at hrt
      rw [← hq] at ci
      have d2 : decide ((t : Int) < (q : Int)) = false := decide_eq_false (by omega)
      have d2n : ¬ t < q := by omega
      clear hcell hi hq
      go_wp2_with fail
      go_round
      case rel => exact ⟨k + 1, by omega, by go_num, rfl⟩
      case measure => simp [intOf]; omega
    · have ek : k = rs.length := by omega
      subst ek
      clear HRM HCR H2
      obtain ⟨rx, hrx⟩ : ∃ rx, rx = S.rd X.toNat := ⟨_, rfl⟩
      rw [← hrx] at h4
      obtain ⟨x, hx⟩ : ∃ x : Nat, X = (x : Int) := ⟨X.toNat, by omega⟩
      have cx := C3.out x (by omega)
      rw [show S.rd x = rx by rw [hrx, hx]; rfl] at cx
      subst hx
      have HRX : Hid (S.rd x = rx) := by unfold Hid; rw [hrx]; rfl
      have hrxb := orr.out x
      rw [HRX.out] at hrxb
      clear hrx
      obtain ⟨sd, hsd⟩ : ∃ sd, sd = S.div := ⟨_, rfl⟩
      rw [← hsd] at c1 HDIV oi
      clear hsd
      have hs : ((op == 4) = true ∧ ¬ (t : Int) < (sd : Int)) ∨ ((op == 4) = false ∧ (op == 5) = true ∧ ¬ (t : Int) < (sd : Int)) ∨ ((op == 4) = false ∧ (op == 5) = false) := by
        rcases hdv with h | ⟨h, h' | h'⟩
        · exact .inl ⟨h, Int.not_lt.2 (by have := HDIV.out (.inl h); omega)⟩
        · exact .inr (.inl ⟨h, h', Int.not_lt.2 (by have := HDIV.out (.inr h'); omega)⟩)
        · exact .inr (.inr ⟨h, h'⟩)
      clear hdv HDIV
      rcases hs with ⟨v1, v3⟩ | ⟨v1, v2, v3⟩ | ⟨v1, v2⟩
      case' inl => have v3d : decide ((t : Int) < (sd : Int)) = false := decide_eq_false v3
      case' inr.inl => have v3d : decide ((t : Int) < (sd : Int)) = false := decide_eq_false v3
      all_goals
        go_wp2_with fail
        refine (HWR _).out.mono ?_
        rintro e w3 ⟨rfl, hb3⟩
        have HS3 := Lib.hid (HS2.out.below hb3 HS2.out.lt)
        have HB3 := Lib.hid (HB2.out.trans (hb3.mono HB2.out.size))
        have HC3 := Lib.hid (HC2.out.below hb3)
        clear hb3 c0 c1 c2 c19 cx p0 p1 p2 p3 p4 HS2 HB2 HC2 HO2 HWR
        obtain ⟨c0, c1, c2, c3, c19⟩ := st_cells HS3.out
        have cx := c3 x (by omega)
        rw [HRX.out] at cx
        clear c3
        by_cases hx0 : x = 0
        · have q : ((x : Int) == 0) = true := by simp [hx0]
          have HR : Hid (res = true) := by unfold Hid; rw [HRES.out]; simp [hx0]
          clear hx0
          go_wp2_with fail
          go_ret
          exact ⟨ret_bool HR.out.symm, HB3.out⟩
        · have q : ((x : Int) == 0) = false := by simp [hx0]
          have h4' := h4 (by omega)
          have HR : Hid (res = !S.wr.contains (t + lat)) := by unfold Hid; rw [HRES.out, decide_eq_false (by omega)]; rfl
          clear hx0 h4
          go_wp2_with fail
          go_loop [8, 53] (fun m u => ∃ (k : Nat), k ≤ S.wr.length ∧ u = .int .i64 (k : Int) ∧ m = .bool false ∧ ∀ y ∈ S.wr.take k, y ≠ t + lat) (fun m u => S.wr.length - (intOf u).toNat)
          case atStart => exact ⟨0, Nat.zero_le _, rfl, rfl, by simp⟩
          case round =>
            obtain ⟨k, hk, rfl, rfl, hno⟩ := hrel
            have HNO := Lib.hid hno
            clear hno
            by_cases hlt : k < S.wr.length
            · obtain ⟨b', off, ea, _, hcell⟩ := HC3.out.ints (by omega)
              subst ea
              have cl := hcell k (by simp [wrL]; exact hlt)
              obtain ⟨z, hz⟩ : ∃ z, z = S.wr[k] := ⟨_, rfl⟩
              have cl2 : w3.cell? ⟨b', off + k, none⟩ = some (.int .i64 (z : Int)) := by rw [cl, hz]; simp [wrL]
              have HT := Lib.hid (List.take_succ_eq_append_getElem hlt)
              rw [← hz] at HT
              have HZM : Hid (z ∈ S.wr) := by show _ ∈ _; rw [hz]; exact List.getElem_mem hlt
              clear hcell cl hz
              by_cases hzt : z = t + lat
              · have qz : ((z : Int) == (t : Int) + (lat : Int)) = true := by rw [beq_iff_eq]; omega
                have HF : Hid (res = false) := by
                  show _ = _
                  rw [HR.out]
                  rw [← hzt, List.contains_iff_mem.2 HZM.out]; rfl
                clear hzt
                go_wp2_with fail
                go_ret
                exact ⟨ret_bool HF.out.symm, HB3.out⟩
              · have qz : ((z : Int) == (t : Int) + (lat : Int)) = false := beq_eq_false_iff_ne.2 (by omega)
                have HN : Hid (∀ y ∈ S.wr.take (k + 1), y ≠ t + lat) := by
                  intro y hy
                  rw [HT.out] at hy
                  rcases List.mem_append.1 hy with hy | hy
                  · exact HNO.out y hy
                  · simp at hy; subst hy; exact hzt
                clear hzt
                go_wp2_with fail
                go_round
                case rel => exact ⟨k + 1, by omega, by go_num, rfl, HN.out⟩
                case measure => simp [intOf]; omega
            · have ek : k = S.wr.length := by omega
              subst ek
              have HF : Hid (res = true) := by
                show _ = _
                rw [HR.out]
                have := HNO.out
                rw [List.take_length] at this
                rw [Bool.not_eq_true', ← Bool.not_eq_true, List.contains_iff_mem]
                exact fun h => this _ h rfl
              have hgt : decide ((rx : Int) < (t : Int) + (lat : Int)) = true := decide_eq_true (by omega)
              have hgtn : rx < t + lat := h4'
              go_wp2_with fail
              go_ret
              exact ⟨ret_bool HF.out.symm, HB3.out⟩
end Go.Proofs.Ytgcbdndfobiphab
