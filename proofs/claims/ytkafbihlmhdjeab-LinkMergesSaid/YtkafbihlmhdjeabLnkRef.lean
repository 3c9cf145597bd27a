/- The reference's sameLinked. -/
import Derived.Test.YtkafbihlmhdjeabLnkMerge
import Derived.Test.YtkafbihlmhdjeabSmallRef
import Derived.BigRegion
import Derived.BigQuiet
import Derived.Deep.QuietTactic
namespace Go.Proofs.Ytkafbihlmhdjeab
open Go.RowKit
set_option linter.unusedVariables false
set_option linter.unusedSimpArgs false

/-- the matrix of what is not told apart -/
structure EqAt (w : World) (g n nn : Nat) (Y : Nat → Nat → Bool) : Prop where
  sq : nn = n * n
  row : Blk w g 4 (rowL nn fun q => .bool (Y (q / n) (q % n)))
theorem EqAt.below {w w' : World} {g n nn : Nat} {Y : Nat → Nat → Bool} (h : EqAt w g n nn Y) (hb : Below w.heap.size w w') : EqAt w' g n nn Y := ⟨h.sq, h.row.below hb h.row.lt⟩
theorem mat_lt {n i k : Nat} (hi : i < n) (hk : k < n) : i * n + k < n * n := by
  have h1 : (i + 1) * n ≤ n * n := Nat.mul_le_mul_right n hi
  rw [Nat.add_mul] at h1
  omega
theorem mat_div {n i k : Nat} (hk : k < n) : (i * n + k) / n = i ∧ (i * n + k) % n = k := by
  have hn : 0 < n := by omega
  constructor
  · rw [Nat.mul_comm, Nat.mul_add_div hn, Nat.div_eq_of_lt hk, Nat.add_zero]
  · rw [Nat.mul_comm, Nat.mul_add_mod, Nat.mod_eq_of_lt hk]
theorem EqAt.cell {w : World} {g n nn : Nat} {Y : Nat → Nat → Bool} (h : EqAt w g n nn Y) {i k m : Nat} (hi : i < n) (hk : k < n) (hm : m = i * n) : m + k < nn ∧ w.cell? ⟨g, m + k, none⟩ = some (.bool (Y i k)) := by
  have h1 := mat_lt hi hk
  have h2 := mat_div (i := i) hk
  have hq := h.sq
  subst hm
  refine ⟨by omega, ?_⟩
  rw [h.row.row (by omega), h2.1, h2.2]

/-- the boxes of sameLinked -/
structure S2St (w wx : World) (f h : LF) (g n nn : Nat) (Y : Nat → Nat → Bool) : Prop where
  be : Below w.heap.size w wx
  bf : Blk wx w.heap.size 53 (lfC f)
  bh : Blk wx (w.heap.size + 1) 53 (lfC h)
  fo : f.Ok wx
  ho : h.Ok wx
  eq : EqAt wx g n nn Y
theorem S2St.later {w wx wy : World} {f h : LF} {g n nn : Nat} {Y : Nat → Nat → Bool} (s : S2St w wx f h g n nn Y) (hb : Below wx.heap.size wx wy) : S2St w wy f h g n nn Y :=
  ⟨s.be.trans (hb.mono s.be.size), s.bf.below hb s.bf.lt, s.bh.below hb s.bh.lt, s.fo.below hb, s.ho.below hb, s.eq.below hb⟩
theorem S2St.cells {w wx : World} {f h : LF} {g n nn : Nat} {Y : Nat → Nat → Bool} (s : S2St w wx f h g n nn Y) : SameCells w wx f h := ⟨s.bf.cell 1, s.bf.cell 2, s.bf.cell 3, s.bh.cell 1, s.bh.cell 2, s.bh.cell 3⟩
theorem S2St.lt {w wx : World} {f h : LF} {g n nn : Nat} {Y : Nat → Nat → Bool} (s : S2St w wx f h g n nn Y) : w.heap.size < wx.heap.size ∧ w.heap.size + 1 < wx.heap.size := ⟨s.bf.lt, s.bh.lt⟩

theorem sameL_len {X : Nat → Nat → Bool} {f h : LF} (s : sameL X f h = true) : f.its.length = h.its.length ∧ f.calls.length = h.calls.length ∧ f.maps.length = h.maps.length := by
  rw [sameL_iff] at s
  exact ⟨by simpa using congrArg List.length s.2.1, callsEq_len _ _ s.2.2.2, by simpa using congrArg List.length s.2.2.1⟩

set_option maxRecDepth 100000 in
set_option maxHeartbeats 8000000 in
theorem sameLinked_any (w : World) (f h : LF) (hf : f.Ok w) (hh : h.Ok w) (g n nn : Nat) (Y : Nat → Nat → Bool) (hg : EqAt w g n nn Y) (hn : n ≤ 256) (k1 : FnsIn n f.calls) (k2 : FnsIn n h.calls) :
    Calls Try.prog 36 #[f.v, h.v, .slice (some ⟨g, 0, none⟩) nn nn, .int .i64 (n : Int)] w (BoolB (sameL Y f h) w) := by
  obtain ⟨w1, hw1⟩ : ∃ w1, w1 = ((w.alloc (.cells #[.int .i64 f.name, .slice f.ia f.il f.ic, .slice f.ca f.cl f.cc, .slice f.ma f.ml f.mc, .int .i64 f.size] 53)).alloc (.cells #[.int .i64 h.name, .slice h.ia h.il h.ic, .slice h.ca h.cl h.cc, .slice h.ma h.ml h.mc, .int .i64 h.size] 53)) := ⟨_, rfl⟩
  have hb : Below w.heap.size w w1 := by rw [hw1]; exact ((Below.refl _ _).alloc (Nat.le_refl _) _).alloc (by simp) _
  have bf : Blk w1 w.heap.size 53 (lfC f) := by rw [hw1]; exact (Blk.new w _ _).alloc _
  have bh : Blk w1 (w.heap.size + 1) 53 (lfC h) := by
    have := Blk.new (w.alloc (.cells #[.int .i64 f.name, .slice f.ia f.il f.ic, .slice f.ca f.cl f.cc, .slice f.ma f.ml f.mc, .int .i64 f.size] 53)) (lfC h) 53
    rw [World.size_alloc] at this
    rw [hw1]; exact this
  have HS : Hid (S2St w w1 f h g n nn Y) := ⟨hb, bf, bh, hf.below hb, hh.below hb, hg.below hb⟩
  have K1 := Lib.hid k1
  have K2 := Lib.hid k2
  have hil := hf.ilen
  have hcl := hf.clen
  have hml := hf.mlen
  have jil := hh.ilen
  have jcl := hh.clen
  have jml := hh.mlen
  have hir := hf.ireach
  have hcr := hf.creach
  have hmr := hf.mreach
  have hnn : nn ≤ 65536 := by
    have := hg.sq
    have h2 := Nat.mul_le_mul hn hn
    omega
  obtain ⟨R, hR⟩ : ∃ R, R = sameL Y f h := ⟨_, rfl⟩
  rw [← hR]
  have HR := Lib.hid hR
  clear hb bf bh hf hh hg k1 k2 hR
  unfold LF.v
  have hcs : (¬ f.size = h.size) ∨ (f.size = h.size ∧ ¬ f.il = h.il) ∨ (f.size = h.size ∧ f.il = h.il ∧ ¬ f.cl = h.cl) ∨ (f.size = h.size ∧ f.il = h.il ∧ f.cl = h.cl ∧ ¬ f.ml = h.ml) ∨ (f.size = h.size ∧ f.il = h.il ∧ f.cl = h.cl ∧ f.ml = h.ml) := by omega
  have HNO : Hid ((¬ f.size = h.size ∨ ¬ f.il = h.il ∨ ¬ f.cl = h.cl ∨ ¬ f.ml = h.ml) → R = false) := fun hx => by
    rw [HR.out, ← Bool.not_eq_true]
    intro hs
    have h1 := sameL_len hs
    have h2 := (sameL_iff.1 hs).1
    omega
  have HIL : Hid (f.its.length = f.il ∧ f.calls.length = f.cl ∧ f.maps.length = f.ml ∧ h.its.length = h.il ∧ h.calls.length = h.cl ∧ h.maps.length = h.ml) := ⟨hil, hcl, hml, jil, jcl, jml⟩
  clear hil hcl hml jil jcl jml
  rcases hcs with h1 | ⟨h1, h2⟩ | ⟨h1, h2, h3⟩ | ⟨h1, h2, h3, h4⟩ | ⟨h1, h2, h3, h4⟩
  · have t1 : (f.size != h.size) = true := by simp [h1]
    have HE := Lib.hid (HNO.out (.inl h1))
    clear h1
    go_enter Try.func36, Try.ntmps36
    go_wp2_with fail
    go_ret
    rw [← hw1]
    exact ⟨ret_bool HE.out.symm, HS.out.be⟩
  · have t1 : (f.size != h.size) = false := by simp [h1]
    have t2 : ((f.il : Int) != (h.il : Int)) = true := by rw [bne_iff_ne]; omega
    have HE := Lib.hid (HNO.out (.inr (.inl h2)))
    clear h1 h2
    go_enter Try.func36, Try.ntmps36
    go_wp2_with fail
    go_ret
    rw [← hw1]
    exact ⟨ret_bool HE.out.symm, HS.out.be⟩
  · have t1 : (f.size != h.size) = false := by simp [h1]
    have t2 : ((f.il : Int) != (h.il : Int)) = false := by rw [bne_eq_false_iff_eq]; omega
    have t3 : ((f.cl : Int) != (h.cl : Int)) = true := by rw [bne_iff_ne]; omega
    have HE := Lib.hid (HNO.out (.inr (.inr (.inl h3))))
    clear h1 h2 h3
    go_enter Try.func36, Try.ntmps36
    go_wp2_with fail
    go_ret
    rw [← hw1]
    exact ⟨ret_bool HE.out.symm, HS.out.be⟩
  · have t1 : (f.size != h.size) = false := by simp [h1]
    have t2 : ((f.il : Int) != (h.il : Int)) = false := by rw [bne_eq_false_iff_eq]; omega
    have t3 : ((f.cl : Int) != (h.cl : Int)) = false := by rw [bne_eq_false_iff_eq]; omega
    have t4 : ((f.ml : Int) != (h.ml : Int)) = true := by rw [bne_iff_ne]; omega
    have HE := Lib.hid (HNO.out (.inr (.inr (.inr h4))))
    clear h1 h2 h3 h4
    go_enter Try.func36, Try.ntmps36
    go_wp2_with fail
    go_ret
    rw [← hw1]
    exact ⟨ret_bool HE.out.symm, HS.out.be⟩
  · have t1 : (f.size != h.size) = false := by simp [h1]
    have t2 : ((f.il : Int) != (h.il : Int)) = false := by rw [bne_eq_false_iff_eq]; omega
    have t3 : ((f.cl : Int) != (h.cl : Int)) = false := by rw [bne_eq_false_iff_eq]; omega
    have t4 : ((f.ml : Int) != (h.ml : Int)) = false := by rw [bne_eq_false_iff_eq]; omega
    have HEQ : Hid (f.size = h.size ∧ h.il = f.il ∧ h.cl = f.cl ∧ h.ml = f.ml) := ⟨h1, h2.symm, h3.symm, h4.symm⟩
    clear h1 h2 h3 h4 HNO
    go_enter Try.func36, Try.ntmps36
    go_wp2_with fail
    rw [← hw1]
    clear hw1
    have hLT := HS.out.lt
    go_loopw [49] (fun v wr => ∃ k m : Nat, k ≤ f.il ∧ v = .int .i64 k ∧ (f.its.map itKey).take k = (h.its.map itKey).take k ∧ wr = w1.drewN m) (fun v _ => f.il - (intOf v).toNat)
    case atStart => exact ⟨0, 0, Nat.zero_le _, rfl, rfl, rfl⟩
    case round =>
      obtain ⟨k, m, hk, rfl, hz, rfl⟩ := hrel
      have HZ := Lib.hid hz
      clear hz
      obtain ⟨c1, c2, c3, d1, d2, d3⟩ := HS.out.cells
      by_cases hlt : k < f.il
      · obtain ⟨b1, o1, e1, _, q1⟩ := came_items HS.out.fo.icame (by omega)
        obtain ⟨b2, o2, e2, _, q2⟩ := came_items HS.out.ho.icame (by have := HEQ.out; omega)
        have t1 : k < f.its.length := by have := HIL.out; omega
        have t2 : k < h.its.length := by have := HIL.out; have := HEQ.out; omega
        obtain ⟨p0, p1, p2, p3, p4, p5⟩ := q1 k t1
        obtain ⟨r0, r1, r2, r3, r4, r5⟩ := q2 k t2
        have hlI : (k : Int) < (h.il : Int) := by have := HEQ.out; omega
        rw [e1] at c1
        rw [e2] at d1
        have T1 : Hid ((f.its.map itKey).take (k + 1) = (f.its.map itKey).take k ++ [itKey f.its[k]]) := by show _ = _; rw [take_snoc _ _ (by simpa using t1)]; simp
        have T2 : Hid ((h.its.map itKey).take (k + 1) = (h.its.map itKey).take k ++ [itKey h.its[k]]) := by show _ = _; rw [take_snoc _ _ (by simpa using t2)]; simp
        have TN : Hid (R = true → itKey f.its[k] = itKey h.its[k]) := fun hr => by
          rw [HR.out, sameL_iff] at hr
          have h9 := congrArg (fun l => l[k]?) hr.2.1
          simp only [List.getElem?_map, List.getElem?_eq_getElem t1, List.getElem?_eq_getElem t2, Option.map_some, Option.some.injEq] at h9
          exact h9
        generalize f.its[k] = x at p0 p1 p2 p3 p4 p5 T1 TN
        generalize h.its[k] = y at r0 r1 r2 r3 r4 r5 T2 TN
        clear q1 q2 c2 c3 d2 d3 e1 e2
        obtain ⟨xo, xd, xa, xb, xn, xt⟩ := x
        obtain ⟨yo, yd, ya, yb, yn, yt⟩ := y
        simp only [show ∀ i : Item, itKey i = (i.op, i.d, i.a, i.b, i.n, i.tg) from fun _ => rfl] at T1 T2 TN
        simp only at p0 p1 p2 p3 p4 p5 r0 r1 r2 r3 r4 r5
        have hcs : (xo = yo ∧ xd = yd ∧ xa = ya ∧ xb = yb ∧ xn = yn ∧ xt = yt) ∨ (¬ xo = yo) ∨ (xo = yo ∧ ¬ xd = yd) ∨ (xo = yo ∧ xd = yd ∧ ¬ xa = ya) ∨ (xo = yo ∧ xd = yd ∧ xa = ya ∧ ¬ xb = yb) ∨ (xo = yo ∧ xd = yd ∧ xa = ya ∧ xb = yb ∧ ¬ xn = yn) ∨ (xo = yo ∧ xd = yd ∧ xa = ya ∧ xb = yb ∧ xn = yn ∧ ¬ xt = yt) := by
          by_cases h1 : xo = yo <;> by_cases h2 : xd = yd <;> by_cases h3 : xa = ya <;> by_cases h4 : xb = yb <;> by_cases h5 : xn = yn <;> by_cases h6 : xt = yt <;> simp [h1, h2, h3, h4, h5, h6]
        rcases hcs with ⟨rfl, rfl, rfl, rfl, rfl, rfl⟩ | hx | ⟨rfl, hx⟩ | ⟨rfl, rfl, hx⟩ | ⟨rfl, rfl, rfl, hx⟩ | ⟨rfl, rfl, rfl, rfl, hx⟩ | ⟨rfl, rfl, rfl, rfl, rfl, hx⟩
        · go_wp2_with fail
          go_quiet (fail)
          go_wp2_with fail
          go_roundw
          case rel => exact ⟨k + 1, _, by omega, by go_num, by rw [T1.out, T2.out, HZ.out], rfl⟩
          case measure => simp [intOf]; omega
        all_goals
          have HNE : Hid (R = false) := by
            show _ = _
            rw [← Bool.not_eq_true]
            intro hr
            have h9 := TN.out hr
            simp only [Prod.mk.injEq] at h9
            exact hx (by simp [h9])
          go_wp2_with fail
          go_quiet (fail)
          go_wp2_with fail
          go_ret
          exact ⟨ret_bool HNE.out.symm, HS.out.be.trans (drewN_add w1 m nq ▸ below_drewN_self _ _ _)⟩
      · have HIT : Hid (f.its.map itKey = h.its.map itKey) := by
          have h1 := HZ.out
          have h2 := HIL.out
          have h3 := HEQ.out
          rw [List.take_of_length_le (by simp; omega), List.take_of_length_le (by simp; omega)] at h1
          exact h1
        clear HZ c1 d1 c3 d3
        go_wp2_with fail
        clear c2 d2
        go_loopw [67] (fun v wr => ∃ k m : Nat, k ≤ f.cl ∧ v = .int .i64 k ∧ callsEq Y f.calls h.calls = callsEq Y (f.calls.drop k) (h.calls.drop k) ∧ wr = w1.drewN m) (fun v _ => f.cl - (intOf v).toNat)
        case atStart => exact ⟨0, m, Nat.zero_le _, rfl, rfl, rfl⟩
        case round =>
          obtain ⟨k2, m2, hk2, rfl, hz, rfl⟩ := hrel
          obtain ⟨c1, c2, c3, d1, d2, d3⟩ := HS.out.cells
          by_cases hlt2 : k2 < f.cl
          · obtain ⟨b1, o1, e1, _, q1⟩ := came_lcs HS.out.fo.ccame (by omega)
            obtain ⟨b2, o2, e2, _, q2⟩ := came_lcs HS.out.ho.ccame (by have := HEQ.out; omega)
            have t1 : k2 < f.calls.length := by have := HIL.out; omega
            have t2 : k2 < h.calls.length := by have := HIL.out; have := HEQ.out; omega
            obtain ⟨p0, p1⟩ := q1 k2 t1
            obtain ⟨r0, r1⟩ := q2 k2 t2
            have hlI : (k2 : Int) < (h.cl : Int) := by have := HEQ.out; omega
            have hlF : (k2 : Int) < (f.cl : Int) := by omega
            rw [e1] at c2
            rw [e2] at d2
            rw [callsEq_drop _ _ t1 t2] at hz
            have f1 := K1.out _ (List.getElem_mem t1)
            have f2 := K2.out _ (List.getElem_mem t2)
            have HRC : Hid (R = true → callsEq Y f.calls h.calls = true) := fun hr => by rw [HR.out, sameL_iff] at hr; exact hr.2.2.2
            generalize f.calls[k2] = x at p0 p1 hz f1
            generalize h.calls[k2] = y at r0 r1 hz f2
            clear q1 q2 c1 c3 d1 d3 e1 e2
            obtain ⟨xi, xf⟩ := x
            obtain ⟨yi, yf⟩ := y
            simp only at p0 p1 r0 r1 hz f1 f2
            obtain ⟨x2, rfl⟩ := Int.eq_ofNat_of_zero_le f1.1
            obtain ⟨y2, rfl⟩ := Int.eq_ofNat_of_zero_le f2.1
            simp only [Int.toNat_natCast] at hz
            obtain ⟨mm, hmm⟩ : ∃ mm, mm = x2 * n := ⟨_, rfl⟩
            have hmul : (x2 : Int) * (n : Int) = (mm : Int) := by rw [hmm]; simp
            obtain ⟨hq1, hq2⟩ := HS.out.eq.cell (i := x2) (k := y2) (by omega) (by omega) hmm
            have hq1I : (mm : Int) + (y2 : Int) < (nn : Int) := by omega
            have HZ := Lib.hid hz
            have HMM := Lib.hid hmm
            clear hz hmm
            generalize Y x2 y2 = yb at hq2 HZ
            have q0 := fun z : After w1.heap.size (w1.drewN m2).drew => (z.below.cell (p := ⟨w.heap.size, 2, none⟩) hLT.1).trans c2
            have q1 := fun z : After w1.heap.size (w1.drewN m2).drew => (z.below.cell (p := ⟨w.heap.size + 1, 2, none⟩) hLT.2).trans d2
            by_cases hx : xi = yi
            · have t3 : (xi != yi) = false := by simp [hx]
              have HX : Hid ((xi == yi) = true) := by show _ = _; simp [hx]
              clear hx
              cases yb
              · have HNE : Hid (R = false) := by
                  show _ = _
                  rw [← Bool.not_eq_true]
                  intro hr
                  have h9 := HRC.out hr
                  rw [HZ.out, HX.out] at h9
                  simp at h9
                go_wp2_with fail
                go_quiet (fail)
                go_wp2_with fail
                go_ret
                exact ⟨ret_bool HNE.out.symm, HS.out.be.trans (drewN_add w1 m2 nq ▸ below_drewN_self _ _ _)⟩
              · have HN : Hid (callsEq Y f.calls h.calls = callsEq Y (f.calls.drop (k2 + 1)) (h.calls.drop (k2 + 1))) := by show _ = _; rw [HZ.out, HX.out]; rfl
                go_wp2_with fail
                go_quiet (fail)
                go_wp2_with fail
                go_roundw
                case rel => exact ⟨k2 + 1, _, by omega, by go_num, HN.out, rfl⟩
                case measure => simp [intOf]; omega
            · have t3 : (xi != yi) = true := by simp [hx]
              have HNE : Hid (R = false) := by
                show _ = _
                rw [← Bool.not_eq_true]
                intro hr
                have h9 := HRC.out hr
                rw [HZ.out] at h9
                simp [hx] at h9
              clear hx
              go_wp2_with fail
              go_quiet (fail)
              go_wp2_with fail
              go_ret
              exact ⟨ret_bool HNE.out.symm, HS.out.be.trans (drewN_add w1 m2 nq ▸ below_drewN_self _ _ _)⟩
          · have HCE : Hid (callsEq Y f.calls h.calls = true) := by
              have h1 := hz
              have h2 := HIL.out
              have h3 := HEQ.out
              rw [List.drop_of_length_le (by omega), List.drop_of_length_le (by omega)] at h1
              exact h1
            clear hz c1 d1 c2 d2
            go_wp2_with fail
            clear c3 d3
            generalize hw2 : w1.drewN m2 = w2
            have HS2 : Hid (S2St w w2 f h g n nn Y) := HS.out.later (by rw [← hw2]; exact below_drewN_self _ _ _)
            clear hw2 HS hLT
            go_loopw [108] (fun v wr => ∃ k : Nat, k ≤ f.ml ∧ v = .int .i64 k ∧ (f.maps.map lmKey).take k = (h.maps.map lmKey).take k ∧ S2St w wr f h g n nn Y) (fun v _ => f.ml - (intOf v).toNat)
            case atStart => exact ⟨0, Nat.zero_le _, rfl, rfl, HS2.out⟩
            case round =>
              clear HS2
              obtain ⟨k3, hk3, rfl, hz, hs⟩ := hrel
              obtain ⟨w3, hw3⟩ : ∃ w3, w3 = wr := ⟨_, rfl⟩
              rw [← hw3] at hs ⊢
              clear hw3
              have HZ := Lib.hid hz
              have HS := Lib.hid hs
              clear hz hs
              have hLT := HS.out.lt
              obtain ⟨c1, c2, c3, d1, d2, d3⟩ := HS.out.cells
              by_cases hlt3 : k3 < f.ml
              · obtain ⟨b1, o1, e1, g1, q1⟩ := came_lms HS.out.fo.mcame (by omega)
                obtain ⟨b2, o2, e2, g2, q2⟩ := came_lms HS.out.ho.mcame (by have := HEQ.out; omega)
                have t1 : k3 < f.maps.length := by have := HIL.out; omega
                have t2 : k3 < h.maps.length := by have := HIL.out; have := HEQ.out; omega
                obtain ⟨p0, p1, p2, p3⟩ := q1 k3 t1
                obtain ⟨r0, r1, r2, r3⟩ := q2 k3 t2
                have hlI : (k3 : Int) < (h.ml : Int) := by have := HEQ.out; omega
                have hlF : (k3 : Int) < (f.ml : Int) := by omega
                rw [e1] at c3
                rw [e2] at d3
                have T1 : Hid ((f.maps.map lmKey).take (k3 + 1) = (f.maps.map lmKey).take k3 ++ [lmKey f.maps[k3]]) := by show _ = _; rw [take_snoc _ _ (by simpa using t1)]; simp
                have T2 : Hid ((h.maps.map lmKey).take (k3 + 1) = (h.maps.map lmKey).take k3 ++ [lmKey h.maps[k3]]) := by show _ = _; rw [take_snoc _ _ (by simpa using t2)]; simp
                have TN : Hid (R = true → lmKey f.maps[k3] = lmKey h.maps[k3]) := fun hr => by
                  rw [HR.out, sameL_iff] at hr
                  have h9 := congrArg (fun l => l[k3]?) hr.2.2.1
                  simp only [List.getElem?_map, List.getElem?_eq_getElem t1, List.getElem?_eq_getElem t2, Option.map_some, Option.some.injEq] at h9
                  exact h9
                have O1 := Lib.hid (HS.out.fo.maps _ (List.getElem_mem t1))
                have O2 := Lib.hid (HS.out.ho.maps _ (List.getElem_mem t2))
                generalize f.maps[k3] = x at p0 p1 p2 p3 T1 TN O1
                generalize h.maps[k3] = y at r0 r1 r2 r3 T2 TN O2
                clear q1 q2 c1 c2 d1 d2 e1 e2
                have HTN : Hid (R = true → x.item = y.item ∧ x.after = y.after ∧ x.slots = y.slots ∧ x.regs = y.regs) := fun hr => by
                  have h9 := TN.out hr
                  unfold lmKey at h9
                  simpa using h9
                have HTK : Hid (x.item = y.item ∧ x.after = y.after ∧ x.slots = y.slots ∧ x.regs = y.regs → lmKey x = lmKey y) := fun ⟨a, b, c, d⟩ => by unfold lmKey; rw [a, b, c, d]
                go_wp2_with fail
                go_region
                all_goals
                  clear p0 p1 p2 p3 r0 r1 r2 r3 c3 d3
                  by_cases h1 : x.item = y.item
                  · have z1 : (x.item != y.item) = false := by simp [h1]
                    by_cases h2 : x.after = y.after
                    · have z2 : (x.after != y.after) = false := by simp [h2]
                      have z2' : (x.after == y.after) = true := by simp [h2]
                      by_cases h3 : x.regs = y.regs
                      · have z3 : (x.regs != y.regs) = false := by simp [h3]
                        have HTA : Hid (decide (x.slots = y.slots) = true → (f.maps.map lmKey).take (k3 + 1) = (h.maps.map lmKey).take (k3 + 1)) := fun hd => by
                          rw [T1.out, T2.out, HZ.out, HTK.out ⟨h1, h2, of_decide_eq_true hd, h3⟩]
                        have HTB : Hid (decide (x.slots = y.slots) = false → R = false) := fun hd => by
                          rw [← Bool.not_eq_true]
                          exact fun hr => (of_decide_eq_false hd) (HTN.out hr).2.2.1
                        clear h1 h2 h3
                        go_wp2_with fail
                        refine Calls.mono (same_ints _ x.sa x.sn x.sc x.slots y.sa y.sn y.sc y.slots (O1.out.below ?hb1).came (O2.out.below ?hb2).came) ?_
                        case hb1 => exact (((Below.refl _ _).alloc (Nat.le_refl _) _).alloc (by simp) _).drew
                        case hb2 => exact (((Below.refl _ _).alloc (Nat.le_refl _) _).alloc (by simp) _).drew
                        rintro e w4 ⟨q, rfl, hw4⟩
                        have HS4 : Hid (S2St w w4 f h g n nn Y) := HS.out.later (by rw [hw4]; exact Below.trans (((Below.refl _ _).alloc (Nat.le_refl _) _).alloc (by simp) _).drew (below_drewN_self _ _ _))
                        clear hw4
                        generalize decide (x.slots = y.slots) = dd at HTA HTB ⊢
                        cases dd
                        · have HNE := Lib.hid (HTB.out rfl)
                          go_wp2_with fail
                          go_ret
                          exact ⟨ret_bool HNE.out.symm, HS4.out.be⟩
                        · have HN := Lib.hid (HTA.out rfl)
                          go_wp2_with fail
                          go_roundw
                          case rel => exact ⟨k3 + 1, by omega, by go_num, HN.out, HS4.out⟩
                          case measure => simp [intOf]; omega
                      · have z3 : (x.regs != y.regs) = true := by simp [h3]
                        have HNQ : Hid (¬ (x.item = y.item ∧ x.after = y.after ∧ x.slots = y.slots ∧ x.regs = y.regs)) := fun hx => h3 hx.2.2.2
                        clear h1 h2 h3
                        have HNE : Hid (R = false) := by
                          show _ = _
                          rw [← Bool.not_eq_true]
                          exact fun hr => HNQ.out (HTN.out hr)
                        clear HNQ
                        go_wp2_with fail
                        go_ret
                        exact ⟨ret_bool HNE.out.symm, HS.out.be.trans (Below.mono (((Below.refl _ _).alloc (Nat.le_refl _) _).alloc (by simp) _).drew HS.out.be.size)⟩
                    · have z2 : (x.after != y.after) = true := by simp [h2]
                      have z2' : (x.after == y.after) = false := by simp [h2]
                      have HNQ : Hid (¬ (x.item = y.item ∧ x.after = y.after ∧ x.slots = y.slots ∧ x.regs = y.regs)) := fun hx => h2 hx.2.1
                      clear h1 h2
                      have HNE : Hid (R = false) := by
                        show _ = _
                        rw [← Bool.not_eq_true]
                        exact fun hr => HNQ.out (HTN.out hr)
                      clear HNQ
                      go_wp2_with fail
                      go_ret
                      exact ⟨ret_bool HNE.out.symm, HS.out.be.trans (Below.mono (((Below.refl _ _).alloc (Nat.le_refl _) _).alloc (by simp) _).drew HS.out.be.size)⟩
                  · have z1 : (x.item != y.item) = true := by simp [h1]
                    have HNQ : Hid (¬ (x.item = y.item ∧ x.after = y.after ∧ x.slots = y.slots ∧ x.regs = y.regs)) := fun hx => h1 hx.1
                    clear h1
                    have HNE : Hid (R = false) := by
                      show _ = _
                      rw [← Bool.not_eq_true]
                      exact fun hr => HNQ.out (HTN.out hr)
                    clear HNQ
                    go_wp2_with fail
                    go_ret
                    exact ⟨ret_bool HNE.out.symm, HS.out.be.trans (Below.mono (((Below.refl _ _).alloc (Nat.le_refl _) _).alloc (by simp) _).drew HS.out.be.size)⟩
              · have HMT : Hid (R = true) := by
                  have h1 := HZ.out
                  have h2 := HIL.out
                  have h3 := HEQ.out
                  rw [List.take_of_length_le (by simp; omega), List.take_of_length_le (by simp; omega)] at h1
                  show _ = _
                  rw [HR.out, sameL_iff]
                  exact ⟨h3.1, HIT.out, h1, HCE.out⟩
                go_wp2_with fail
                go_ret
                exact ⟨ret_bool HMT.out.symm, HS.out.be⟩
end Go.Proofs.Ytkafbihlmhdjeab
