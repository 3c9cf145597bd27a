/- timing's start: the cycle in which an instruction is issued. -/
import Derived.Test.YtgcbdndfobiphabTimeB
import Derived.Test.YtgcbdndfobiphabTimingC
import Derived.Deep.Cut
namespace Go.Proofs.Ytgcbdndfobiphab
open Go.RowKit
set_option linter.unusedVariables false
set_option linter.unusedSimpArgs false

def rdMax (rd : Nat → Nat) (l : List Int) (m : Nat) : Nat := l.foldl (fun m r => max m (rd r.toNat)) m
def skip (wr : List Nat) (lat : Nat) : Nat → Nat → Nat
  | 0, t => t
  | f + 1, t => if wr.contains (t + lat) then skip wr lat f (t + 1) else t
def IsSkip (wr : List Nat) (lat t0 t : Nat) : Prop := t0 ≤ t ∧ (∀ u, t0 ≤ u → u < t → u + lat ∈ wr) ∧ t + lat ∉ wr
theorem IsSkip.unique {wr : List Nat} {lat t0 t t' : Nat} (h : IsSkip wr lat t0 t) (h' : IsSkip wr lat t0 t') : t = t' := by
  rcases Nat.lt_trichotomy t t' with e | e | e
  · exact absurd (h'.2.1 t h.1 e) h.2.2
  · exact e
  · exact absurd (h.2.1 t' h'.1 e) h'.2.2
def above (wr : List Nat) (t : Nat) : Nat := (wr.filter fun x => decide (t ≤ x)).length
theorem above_mono (wr : List Nat) (t : Nat) : above wr (t + 1) ≤ above wr t := by
  unfold above
  induction wr with
  | nil => simp
  | cons a l ih =>
    by_cases h1 : t + 1 ≤ a
    · simpa [List.filter_cons, h1, show t ≤ a by omega] using ih
    · by_cases h2 : t ≤ a
      · have e : ¬ (t < a) := by omega
        simp [List.filter_cons, e, h2, Nat.succ_le_iff] at ih ⊢; omega
      · have e : ¬ (t < a) := by omega
        simpa [List.filter_cons, e, h2, Nat.succ_le_iff] using ih
theorem above_drop {wr : List Nat} {t : Nat} (h : t ∈ wr) : above wr (t + 1) < above wr t := by
  unfold above
  induction wr with
  | nil => simp at h
  | cons a l ih =>
    rcases List.mem_cons.1 h with rfl | h
    · have := above_mono l t
      unfold above at this
      have e : ¬ (t + 1 ≤ t) := by omega
      simp only [List.filter_cons, e, decide_false, Nat.le_refl, decide_true, if_true, List.length_cons]
      simp only [Bool.false_eq_true, if_false]; omega
    · have := ih h
      by_cases h1 : t + 1 ≤ a
      · simp only [List.filter_cons, h1, show t ≤ a by omega, decide_true, if_true, List.length_cons]; omega
      · by_cases h2 : t ≤ a
        · simp only [List.filter_cons, h1, h2, decide_true, decide_false, if_true, List.length_cons, Bool.false_eq_true, if_false]; omega
        · simp only [List.filter_cons, h1, h2, decide_false, Bool.false_eq_true, if_false]; omega
theorem skip_is (wr : List Nat) (lat : Nat) : ∀ (f t : Nat), above wr (t + lat) < f → IsSkip wr lat t (skip wr lat f t)
  | 0, t, h => by omega
  | f + 1, t, h => by
    rw [skip]
    by_cases hc : wr.contains (t + lat) = true
    · rw [if_pos hc]
      rw [List.contains_iff_mem] at hc
      have h1 := above_drop hc
      obtain ⟨a, b, c⟩ := skip_is wr lat f (t + 1) (by rw [show t + 1 + lat = t + lat + 1 by omega]; omega)
      refine ⟨by omega, fun u hu hlt => ?_, c⟩
      by_cases e : u = t
      · rw [e]; exact hc
      · exact b u (by omega) hlt
    · rw [if_neg hc]
      rw [List.contains_iff_mem] at hc
      exact ⟨Nat.le_refl _, fun u h1 h2 => by omega, hc⟩
theorem IsSkip.le {wr : List Nat} {lat t0 t B : Nat} (h : IsSkip wr lat t0 t) (h0 : t0 ≤ B) (hw : ∀ x ∈ wr, x ≤ B) (hl : 1 ≤ lat) : t ≤ B := by
  by_cases e : t = t0
  · omega
  · have := hw _ (h.2.1 (t - 1) (by have := h.1; omega) (by have := h.1; omega))
    omega

def startOf (S : TS) (op d a b : Int) (lat : Nat) : Nat :=
  let m := rdMax S.rd (readsOf op a b) S.next
  let m := if divB op then max m S.div else m
  if wrOf op d = 0 then m else skip S.wr lat (S.wr.length + 1) (max m (S.rd (wrOf op d).toNat + 1 - lat))
theorem rdMax_le (rd : Nat → Nat) (B : Nat) (h : ∀ i, rd i ≤ B) : ∀ (l : List Int) (m : Nat), m ≤ B → rdMax rd l m ≤ B
  | [], m, hm => hm
  | a :: l, m, hm => rdMax_le rd B h l _ (Nat.max_le.2 ⟨hm, h _⟩)
theorem rdMax_ge (rd : Nat → Nat) : ∀ (l : List Int) (m : Nat), m ≤ rdMax rd l m
  | [], m => Nat.le_refl _
  | a :: l, m => Nat.le_trans (Nat.le_max_left _ _) (rdMax_ge rd l _)
theorem rdMax_take (rd : Nat → Nat) (l : List Int) (m k : Nat) (h : k < l.length) : rdMax rd (l.take (k + 1)) m = max (rdMax rd (l.take k) m) (rd (l[k]).toNat) := by
  unfold rdMax
  rw [List.take_add_one, List.getElem?_eq_getElem h, List.foldl_append]
  rfl
theorem startOf_le {S : TS} {B : Nat} (ok : S.Ok B) (op d a b : Int) (lat : Nat) (hl : 1 ≤ lat) : startOf S op d a b lat ≤ B ∧ S.next ≤ startOf S op d a b lat := by
  have h1 := rdMax_le S.rd B ok.r (readsOf op a b) S.next ok.n
  have h2 := rdMax_ge S.rd (readsOf op a b) S.next
  unfold startOf
  simp only []
  generalize rdMax S.rd (readsOf op a b) S.next = m at *
  have h3 : (if divB op then max m S.div else m) ≤ B ∧ m ≤ (if divB op then max m S.div else m) := by
    have := ok.d
    split <;> omega
  generalize (if divB op then max m S.div else m) = m' at *
  by_cases e : wrOf op d = 0
  · rw [if_pos e]; omega
  · rw [if_neg e]
    have hs := skip_is S.wr lat (S.wr.length + 1) (max m' (S.rd (wrOf op d).toNat + 1 - lat)) (by unfold above; have := List.length_filter_le (fun x => decide (max m' (S.rd (wrOf op d).toNat + 1 - lat) + lat ≤ x)) S.wr; omega)
    have := ok.r (wrOf op d).toNat
    exact ⟨hs.le (by omega) (fun x hx => (ok.w x hx).2) hl, by have := hs.1; omega⟩

theorem wrOf_bd {op d : Int} (h : 0 ≤ d ∧ d ≤ 15) : 0 ≤ wrOf op d ∧ wrOf op d ≤ 15 := by unfold wrOf; repeat (first | split | omega)
theorem reads_mem {op a b r : Int} (ha : 0 ≤ a ∧ a ≤ 15) (hb : 0 ≤ b ∧ b ≤ 15) (h : r ∈ readsOf op a b) : 0 ≤ r ∧ r ≤ 15 := by
  have h1 := (List.mem_filter.1 h).1
  unfold rawReads at h1
  repeat (first | (split at h1) | (simp at h1; done) | (simp at h1; omega))

theorem came_own_int {w : World} {base : Nat} {e : TypeId} {v : Value} {n : Nat} {l : List Int} (h : w.ownsRow base e 1 v n (l.map (Value.int .i64))) : ∃ a cap, v = .slice a n cap ∧ Came w a n cap 1 (l.map intCells) := by
  obtain ⟨a, m, cap, rfl⟩ := owns_shape h
  obtain ⟨rfl, h2⟩ := came_of_owns (E := intCells) (zs := l) (fun z => ⟨_, rfl⟩) (by simpa [intCells] using h)
  exact ⟨a, cap, rfl, h2⟩

theorem st_cells {w : World} {b : Nat} {t : TypeId} {S : TS} {wv : Value} (h : Blk w b t (stCells S wv)) : w.cell? ⟨b, 0, none⟩ = some (.int .i64 (S.next : Int)) ∧ w.cell? ⟨b, 1, none⟩ = some (.int .i64 (S.div : Int)) ∧ w.cell? ⟨b, 2, none⟩ = some (.int .i64 (S.done : Int)) ∧ (∀ i : Nat, i < 16 → w.cell? ⟨b, 3 + i, none⟩ = some (.int .i64 (S.rd i : Int))) ∧ w.cell? ⟨b, 19, none⟩ = some wv := by
  refine ⟨h.cell 0, h.cell 1, h.cell 2, fun i hi => ?_, h.cell 19⟩
  have hs : i = 0 ∨ i = 1 ∨ i = 2 ∨ i = 3 ∨ i = 4 ∨ i = 5 ∨ i = 6 ∨ i = 7 ∨ i = 8 ∨ i = 9 ∨ i = 10 ∨ i = 11 ∨ i = 12 ∨ i = 13 ∨ i = 14 ∨ i = 15 := by omega
  rcases hs with rfl | rfl | rfl | rfl | rfl | rfl | rfl | rfl | rfl | rfl | rfl | rfl | rfl | rfl | rfl | rfl
  all_goals exact h.cell _
theorem op_cells5 {w : World} {b : Nat} {t : TypeId} {op d a b' n : Int} (h : Blk w b t [.int .i64 op, .int .i64 d, .int .i64 a, .int .i64 b', .int .i64 n]) : w.cell? ⟨b, 0, none⟩ = some (.int .i64 op) ∧ w.cell? ⟨b, 1, none⟩ = some (.int .i64 d) ∧ w.cell? ⟨b, 2, none⟩ = some (.int .i64 a) ∧ w.cell? ⟨b, 3, none⟩ = some (.int .i64 b') ∧ w.cell? ⟨b, 4, none⟩ = some (.int .i64 n) :=
  ⟨h.cell 0, h.cell 1, h.cell 2, h.cell 3, h.cell 4⟩

theorem contains_wrL (wr : List Nat) (t lat : Nat) : (wrL wr).contains ((t : Int) + (lat : Int)) = wr.contains (t + lat) := by
  unfold wrL
  induction wr with
  | nil => rfl
  | cons a l ih =>
    simp only [List.map_cons, List.contains_cons, ih]
    congr 1
    rw [Bool.eq_iff_iff]
    simp only [beq_iff_eq]
    omega
theorem if_max (m q : Nat) : Value.int .i64 (if m < q then (q : Int) else (m : Int)) = .int .i64 ((max m q : Nat) : Int) := by
  congr 1; split <;> omega

set_option maxRecDepth 100000 in
set_option maxHeartbeats 4000000 in
theorem start_ok (S : TS) (wv : Value) (op d a b n : Int) (lat : Nat) (w : World) (B : Nat) (hB : B ≤ 1152921504606846976) (hlat : 1 ≤ lat ∧ lat ≤ 100000) (hd : 0 ≤ d ∧ d ≤ 15) (ha : 0 ≤ a ∧ a ≤ 15) (hb : 0 ≤ b ∧ b ≤ 15) (ok : S.Ok B) (hw : WrAt w wv S.wr) :
    Calls Try.prog 26 #[.agg (stCells S wv).toArray, .agg #[.int .i64 op, .int .i64 d, .int .i64 a, .int .i64 b, .int .i64 n], .int .i64 (lat : Int)] w fun e w' => e = .returned (.int .i64 (startOf S op d a b lat : Int)) ∧ Below w.heap.size w w' := by
  have HRD := fun w => Lib.hid (reads_any op d a b n w)
  have HWR := fun w => Lib.hid (writes_any op d a b n w)
  have HDV := fun w => Lib.hid (divides_any op w)
  have hdb := wrOf_bd (op := op) hd
  have HRM := Lib.hid (fun r (h : r ∈ readsOf op a b) => reads_mem ha hb h)
  have HST : Hid (startOf S op d a b lat = if wrOf op d = 0 then (if divB op then max (rdMax S.rd (readsOf op a b) S.next) S.div else (rdMax S.rd (readsOf op a b) S.next)) else skip S.wr lat (S.wr.length + 1) (max (if divB op then max (rdMax S.rd (readsOf op a b) S.next) S.div else (rdMax S.rd (readsOf op a b) S.next)) (S.rd (wrOf op d).toNat + 1 - lat))) := rfl
  have HMX := Lib.hid (rdMax_le S.rd B ok.r (readsOf op a b) S.next ok.n)
  have HMX2 := Lib.hid (fun k => rdMax_le S.rd B ok.r ((readsOf op a b).take k) S.next ok.n)
  obtain ⟨res, hres⟩ : ∃ res, res = startOf S op d a b lat := ⟨_, rfl⟩
  rw [← hres] at HST ⊢
  obtain ⟨X, hX⟩ : ∃ X, X = wrOf op d := ⟨_, rfl⟩
  rw [← hX] at HST HWR hdb
  obtain ⟨rs, hrs⟩ : ∃ rs, rs = readsOf op a b := ⟨_, rfl⟩
  rw [← hrs] at HST HRD HRM HMX HMX2
  obtain ⟨dv, hdv⟩ : ∃ dv, dv = divB op := ⟨_, rfl⟩
  rw [← hdv] at HST HDV
  clear hres hX hrs hdv ha hb hd
  obtain ⟨wa, wc, rfl, hc⟩ := hw
  have hle := hc.le
  have hmx := hc.max
  have HOK := Lib.hid ok
  have oi := ok.d
  have on := ok.n
  have orr := Lib.hid ok.r
  have HC := Lib.hid hc
  have HB0 : Hid (Below w.heap.size w ((w.alloc (.cells (stCells S (.slice wa S.wr.length wc)).toArray 25)).alloc (.cells #[.int .i64 op, .int .i64 d, .int .i64 a, .int .i64 b, .int .i64 n] 27))) := ((Below.refl _ _).alloc (Nat.le_refl _) _).alloc (by simp) _
  have HS0 := Lib.hid ((Blk.new w (stCells S (.slice wa S.wr.length wc)) 25).alloc (.cells #[.int .i64 op, .int .i64 d, .int .i64 a, .int .i64 b, .int .i64 n] 27))
  have HO0 : Hid (Blk ((w.alloc (.cells (stCells S (.slice wa S.wr.length wc)).toArray 25)).alloc (.cells #[.int .i64 op, .int .i64 d, .int .i64 a, .int .i64 b, .int .i64 n] 27)) (w.heap.size + 1) 27 [.int .i64 op, .int .i64 d, .int .i64 a, .int .i64 b, .int .i64 n]) := by
    have h2 := Blk.new (w.alloc (.cells (stCells S (.slice wa S.wr.length wc)).toArray 25)) [.int .i64 op, .int .i64 d, .int .i64 a, .int .i64 b, .int .i64 n] 27
    rw [World.size_alloc] at h2
    exact h2
  clear hc ok
  go_enter Try.func26, Try.ntmps26
  go_upto_region 1 with fail
  generalize (w.alloc (.cells (stCells S (.slice wa S.wr.length wc)).toArray 25)).alloc (.cells #[.int .i64 op, .int .i64 d, .int .i64 a, .int .i64 b, .int .i64 n] 27) = w1 at HB0 HS0 HO0 ⊢
  obtain ⟨c0, _⟩ := st_cells HS0.out
  obtain ⟨p0, p1, p2, p3, p4⟩ := op_cells5 HO0.out
  go_wp2_with fail
  refine (HRD _).out.mono ?_
  rintro e w2 ⟨v, rfl, hown, hb2⟩
  obtain ⟨ra, rc, rfl, hcr⟩ := came_own_int hown
  have HB2 := Lib.hid (HB0.out.trans (hb2.mono (B' := w.heap.size) HB0.out.size))
  have HS2 := Lib.hid (HS0.out.below hb2 HS0.out.lt)
  have HO2 := Lib.hid (HO0.out.below hb2 HO0.out.lt)
  have HC2 := Lib.hid (HC.out.below HB2.out)
  have HCR := Lib.hid hcr
  have hrl := hcr.count
  simp only [List.length_map] at hrl
  have hrle := hcr.le
  have hrmx := hcr.max
  clear hown hb2 hcr c0 p0 p1 p2 p3 p4 HB0 HS0 HO0 HC
  obtain ⟨c0, c1, c2, c3, c19⟩ := st_cells HS2.out
  have C3 := Lib.hid c3
  obtain ⟨p0, p1, p2, p3, p4⟩ := op_cells5 HO2.out
  clear c3
  go_wp2_with fail
  go_loop [7, 16] (fun m u => ∃ k : Nat, k ≤ rs.length ∧ u = .int .i64 (k : Int) ∧ m = .int .i64 (rdMax S.rd (rs.take k) S.next : Int)) (fun m u => rs.length - (intOf u).toNat)
  case atStart => exact ⟨0, Nat.zero_le _, rfl, rfl⟩
  case round =>
    obtain ⟨k, hk, rfl, rfl⟩ := hrel
    by_cases hlt : k < rs.length
    · obtain ⟨b', off, ea, _, hcell⟩ := HCR.out.ints (by omega)
      subst ea
      have cl := hcell k hlt
      have hr := HRM.out _ (List.getElem_mem hlt)
      have HT := Lib.hid (rdMax_take S.rd rs S.next k hlt)
      obtain ⟨i, hi⟩ : ∃ i : Nat, rs[k] = (i : Int) := ⟨rs[k].toNat, by omega⟩
      rw [hi] at cl hr HT
      have ci := C3.out i (by omega)
      have hbd := orr.out i
      have hmb := HMX2.out k
      obtain ⟨m, hm⟩ : ∃ m, m = rdMax S.rd (rs.take k) S.next := ⟨_, rfl⟩
      rw [← hm] at HT hmb ⊢
      obtain ⟨q, hq⟩ : ∃ q, q = S.rd i := ⟨_, rfl⟩
      rw [← hq] at ci hbd
      have HQ := Lib.hid hq
      have hmax : max (m : Int) (q : Int) = ((max m q : Nat) : Int) := by omega
      clear hcell hi hm hq
      go_wp2
      go_round
      case rel => exact ⟨k + 1, by omega, by go_num, by rw [HT.out, HQ.out]; exact if_max _ _⟩
      case measure => simp [intOf]; omega
    · have ek : k = rs.length := by omega
      subst ek
      rw [List.take_length]
      obtain ⟨m, hm⟩ : ∃ m, m = rdMax S.rd rs S.next := ⟨_, rfl⟩
      rw [← hm] at HST HMX ⊢
      have hmb := HMX.out
      obtain ⟨sd, hsd⟩ : ∃ sd, sd = S.div := ⟨_, rfl⟩
      rw [← hsd] at c1 oi HST
      clear HMX2 HMX HRM hm HCR hsd
      obtain ⟨m', hm'⟩ : ∃ m', m' = if dv then max m sd else m := ⟨_, rfl⟩
      rw [← hm'] at HST
      have hm'b : m' ≤ B := by rw [hm']; split <;> omega
      have hs : (dv = false ∧ m' = m) ∨ (dv = true ∧ m < sd ∧ m' = sd) ∨ (dv = true ∧ ¬ m < sd ∧ m' = m) := by
        cases dv
        · simp at hm'; exact .inl ⟨rfl, hm'⟩
        · simp at hm'
          by_cases e : m < sd
          · exact .inr (.inl ⟨rfl, e, by omega⟩)
          · exact .inr (.inr ⟨rfl, e, by omega⟩)
      clear hm'
      obtain ⟨rx, hrx⟩ : ∃ rx, rx = S.rd X.toNat := ⟨_, rfl⟩
      have hrxb := orr.out X.toNat
      rw [← hrx] at HST hrxb
      obtain ⟨x, hx⟩ : ∃ x : Nat, X = (x : Int) := ⟨X.toNat, by omega⟩
      have cx := C3.out x (by omega)
      rw [show S.rd x = rx by rw [hrx, hx]; rfl] at cx
      subst hx
      have HRX : Hid (S.rd x = rx) := by unfold Hid; rw [hrx]; rfl
      clear hrx
      rcases hs with ⟨rfl, rfl⟩ | ⟨rfl, hms, rfl⟩ | ⟨rfl, hms, rfl⟩
      all_goals
        go_wp2_with fail
        refine (HDV _).out.mono ?_
        rintro e w' ⟨rfl, rfl⟩
        go_wp2_with fail
        refine (HWR _).out.mono ?_
        rintro e w' ⟨rfl, rfl⟩
        have HS3 := Lib.hid (HS2.out.alloc (.cells #[.int .i64 op, .int .i64 d, .int .i64 a, .int .i64 b, .int .i64 n] 27))
        have HB3 := Lib.hid (HB2.out.alloc HB2.out.size (.cells #[.int .i64 op, .int .i64 d, .int .i64 a, .int .i64 b, .int .i64 n] 27))
        have HC3 := Lib.hid (HC2.out.below ((Below.refl _ _).alloc (Nat.le_refl _) (.cells #[.int .i64 op, .int .i64 d, .int .i64 a, .int .i64 b, .int .i64 n] 27)))
        clear p0 p1 p2 p3 p4 c0 c1 c2 c19 cx HS2 HO2 HB2 HC2 HDV HWR
        generalize w2.alloc (.cells #[.int .i64 op, .int .i64 d, .int .i64 a, .int .i64 b, .int .i64 n] 27) = w3 at HS3 HB3 HC3 ⊢
        by_cases hx0 : x = 0
        · have q : ((x : Int) != 0) = false := by simp [hx0]
          have HR : Hid (res = m') := by unfold Hid; rw [HST.out, if_pos (by omega)]
          clear hx0
          go_wp2
          go_ret
          exact ⟨ret_int (by rw [HR.out]), HB3.out⟩
        · have q : ((x : Int) != 0) = true := by simp [hx0]
          have HR : Hid (res = skip S.wr lat (S.wr.length + 1) (max m' (rx + 1 - lat))) := by unfold Hid; rw [HST.out, if_neg (by omega)]
          obtain ⟨c0, c1, c2, c3, c19⟩ := st_cells HS3.out
          have cx := c3 x (by omega)
          have hxe : S.rd x = rx := HRX.out
          rw [hxe] at cx
          have HSK := Lib.hid (skip_is S.wr lat (S.wr.length + 1) (max m' (rx + 1 - lat)) (by unfold above; have := List.length_filter_le (fun x => decide (max m' (rx + 1 - lat) + lat ≤ x)) S.wr; omega))
          rw [← HR.out] at HSK
          have HWB := Lib.hid (fun y hy => (HOK.out.w y hy).2)
          clear c3 hxe
          by_cases hcm : (m' : Int) < (rx : Int) + 1 - (lat : Int)
          · have HT0 : Hid (((max m' (rx + 1 - lat) : Nat) : Int) = (rx : Int) + 1 - (lat : Int)) := by unfold Hid; omega
            obtain ⟨t0, ht0⟩ : ∃ t0, t0 = max m' (rx + 1 - lat) := ⟨_, rfl⟩
            have ht0b : t0 ≤ B := by omega
            rw [← ht0] at HT0 HSK
            clear ht0
            go_wp2_with fail
            go_loop [7] (fun v => ∃ t : Nat, v = .int .i64 (t : Int) ∧ t0 ≤ t ∧ t ≤ B + 1 ∧ ∀ u, t0 ≤ u → u < t → u + lat ∈ S.wr) (fun v => above S.wr ((intOf v).toNat + lat))
            case atStart => exact ⟨t0, by rw [HT0.out], Nat.le_refl _, by omega, fun u h1 h2 => by omega⟩
            case round =>
              obtain ⟨t, rfl, hge, htB, hall⟩ := hrel
              have HALL := Lib.hid hall
              have HCT := fun w h => contains_ints w wa S.wr.length wc (wrL S.wr) ((t : Int) + (lat : Int)) h
              have HCE := Lib.hid (contains_wrL S.wr t lat)
              obtain ⟨r, hr⟩ : ∃ r, r = (wrL S.wr).contains ((t : Int) + (lat : Int)) := ⟨_, rfl⟩
              rw [← hr] at HCE HCT
              clear hr hall
              cases r
              · have HNO : Hid (t + lat ∉ S.wr) := by unfold Hid; intro h; have := HCE.out; rw [← List.contains_iff_mem] at h; rw [h] at this; simp at this
                go_wp2_with fail
                refine (HCT _ HC3.out).mono ?_
                rintro e w' ⟨rfl, rfl⟩
                go_wp2
                go_ret
                exact ⟨ret_int (by rw [IsSkip.unique HSK.out ⟨hge, HALL.out, HNO.out⟩]), HB3.out⟩
              · have HYES : Hid (t + lat ∈ S.wr) := by unfold Hid; have := HCE.out; rw [← List.contains_iff_mem]; exact this.symm
                have htB2 : t ≤ B := by have := HWB.out _ HYES.out; omega
                go_wp2_with fail
                refine (HCT _ HC3.out).mono ?_
                rintro e w' ⟨rfl, rfl⟩
                go_wp2
                go_round
                case rel => exact ⟨t + 1, by go_num, by omega, by omega, fun u h1 h2 => by
                  by_cases e : u = t
                  · rw [e]; exact HYES.out
                  · exact HALL.out u h1 (by omega)⟩
                case measure =>
                  have := above_drop HYES.out
                  simp only [intOf]
                  rw [show ((t : Int) + 1).toNat + lat = t + lat + 1 by omega]
                  simpa using this
          · have HT0 : Hid (((max m' (rx + 1 - lat) : Nat) : Int) = (m' : Int)) := by unfold Hid; omega
            obtain ⟨t0, ht0⟩ : ∃ t0, t0 = max m' (rx + 1 - lat) := ⟨_, rfl⟩
            have ht0b : t0 ≤ B := by omega
            rw [← ht0] at HT0 HSK
            clear ht0
            go_wp2_with fail
            go_loop [7] (fun v => ∃ t : Nat, v = .int .i64 (t : Int) ∧ t0 ≤ t ∧ t ≤ B + 1 ∧ ∀ u, t0 ≤ u → u < t → u + lat ∈ S.wr) (fun v => above S.wr ((intOf v).toNat + lat))
            case atStart => exact ⟨t0, by rw [HT0.out], Nat.le_refl _, by omega, fun u h1 h2 => by omega⟩
            case round =>
              obtain ⟨t, rfl, hge, htB, hall⟩ := hrel
              have HALL := Lib.hid hall
              have HCT := fun w h => contains_ints w wa S.wr.length wc (wrL S.wr) ((t : Int) + (lat : Int)) h
              have HCE := Lib.hid (contains_wrL S.wr t lat)
              obtain ⟨r, hr⟩ : ∃ r, r = (wrL S.wr).contains ((t : Int) + (lat : Int)) := ⟨_, rfl⟩
              rw [← hr] at HCE HCT
              clear hr hall
              cases r
              · have HNO : Hid (t + lat ∉ S.wr) := by unfold Hid; intro h; have := HCE.out; rw [← List.contains_iff_mem] at h; rw [h] at this; simp at this
                go_wp2_with fail
                refine (HCT _ HC3.out).mono ?_
                rintro e w' ⟨rfl, rfl⟩
                go_wp2
                go_ret
                exact ⟨ret_int (by rw [IsSkip.unique HSK.out ⟨hge, HALL.out, HNO.out⟩]), HB3.out⟩
              · have HYES : Hid (t + lat ∈ S.wr) := by unfold Hid; have := HCE.out; rw [← List.contains_iff_mem]; exact this.symm
                have htB2 : t ≤ B := by have := HWB.out _ HYES.out; omega
                go_wp2_with fail
                refine (HCT _ HC3.out).mono ?_
                rintro e w' ⟨rfl, rfl⟩
                go_wp2
                go_round
                case rel => exact ⟨t + 1, by go_num, by omega, by omega, fun u h1 h2 => by
                  by_cases e : u = t
                  · rw [e]; exact HYES.out
                  · exact HALL.out u h1 (by omega)⟩
                case measure =>
                  have := above_drop HYES.out
                  simp only [intOf]
                  rw [show ((t : Int) + 1).toNat + lat = t + lat + 1 by omega]
                  simpa using this
end Go.Proofs.Ytgcbdndfobiphab
