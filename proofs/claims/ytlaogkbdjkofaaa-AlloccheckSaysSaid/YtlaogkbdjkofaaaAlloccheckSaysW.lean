/- The walk of AlloccheckSays. -/
import Derived.Test.YtlaogkbdjkofaaaAcceptW
import Derived.Test.YtlaogkbdjkofaaaAcceptedW
import Derived.Test.YtlaogkbdjkofaaaAllocE
import Derived.Test.YtlaogkbdjkofaaaVFact
import Derived.Test.YtlaogkbdjkofaaaVSmall
namespace Go.Proofs.Ytlaogkbdjkofaaa
open Go.RowKit
set_option linter.unusedVariables false
set_option linter.unusedSimpArgs false

def alV (p1 p2 : Nat) (r0 r1 : Int) : AL := ⟨some ⟨p1, 0, none⟩, 2, 2, [r0, r1], some ⟨p2, 0, none⟩, 2, 2, [-1, -1], 0⟩
theorem came_two {w : World} {p : Nat} {r0 r1 : Int} (h : Blk w p 3 [.int .i64 r0, .int .i64 r1]) : Came w (some ⟨p, 0, none⟩) 2 2 1 ([r0, r1].map intCells) := by
  have h1 : w.ownsRow 0 3 1 (.slice (some ⟨p, 0, none⟩) 2 2) [r0, r1].length ([r0, r1].map (Value.int .i64)) := ⟨rfl, .inr ⟨p, 2, #[.int .i64 r0, .int .i64 r1], rfl, Nat.zero_le _, h, Nat.le_refl _, by decide, rfl, rfl⟩⟩
  obtain ⟨la, lc, he, hc⟩ := came_ownsV h1
  injection he with e1 e2 e3
  subst e1 e3
  exact hc
theorem alV_ok {w : World} {p1 p2 : Nat} {r0 r1 : Int} (h1 : Blk w p1 3 [.int .i64 r0, .int .i64 r1]) (h2 : Blk w p2 3 [.int .i64 (-1), .int .i64 (-1)]) (i0 : I64 r0) (i1 : I64 r1) : (alV p1 p2 r0 r1).Ok w :=
  ⟨came_two h1, by show 2 * 8 ≤ _; omega, fun z hz => by simp [alV] at hz; rcases hz with rfl | rfl <;> assumption, came_two h2, by show 2 * 8 ≤ _; omega, fun z hz => by simp [alV] at hz; subst hz; unfold I64; omega, by show I64 0; unfold I64; omega⟩
theorem alV_E {p q p1 p2 : Nat} {r1 : Int} (h : r1 = 1 ∨ r1 = -1) : allocE (f1V p q) (alV p1 p2 (-1) r1) = 0 := by
  unfold allocE
  rw [if_neg (by rw [f1V_fn]; simp), if_neg (by simp [alV, f1V]), if_neg (by simp [alV])]
  show pairsE 0 [-1, r1] [-1, -1] = 0
  rcases h with rfl | rfl <;> decide
theorem f1V_reach {p q : Nat} {a : AL} {X0 : Nat → Nat → Bool} {i : Nat} {X : Nat → Nat → Bool} (h : ReachS (f1V p q) a X0 i X) : i = 0 ∧ X = X0 := by
  induction h with
  | start => exact ⟨rfl, rfl⟩
  | @step i X X' b t _ hb hx ht ih =>
    obtain ⟨rfl, rfl⟩ := ih
    have hb2 : some b1V = some b := hb
    injection hb2 with hb2
    subst hb2
    cases ht
theorem f1V_good {p q p1 p2 : Nat} : GoodS (f1V p q) (alV p1 p2 (-1) 1) (startX (alV p1 p2 (-1) 1) ((f1V p q).params.map Int.toNat)) := by
  intro i X b hr hb
  obtain ⟨rfl, rfl⟩ := f1V_reach hr
  have hb2 : some b1V = some b := hb
  injection hb2 with hb2
  subst hb2
  intro h
  have h2 : blkT (alV p1 p2 (-1) 1) b1V (startX (alV p1 p2 (-1) 1) [1]) = some (startX (alV p1 p2 (-1) 1) [1]) := by rfl
  have h3 : blkT (alV p1 p2 (-1) 1) b1V (startX (alV p1 p2 (-1) 1) [1]) = none := h
  rw [h2] at h3
  cases h3
theorem f1V_bad {p q p1 p2 : Nat} : ¬ GoodS (f1V p q) (alV p1 p2 (-1) (-1)) (startX (alV p1 p2 (-1) (-1)) ((f1V p q).params.map Int.toNat)) := fun h =>
  h 0 _ b1V .start rfl (by show blkT (alV p1 p2 (-1) (-1)) b1V (startX (alV p1 p2 (-1) (-1)) [1]) = none; rfl)
theorem acc1 (p q : Nat) (wx : World) (r1 z0 : Int) (hok : (f1V p q).Ok wx) (h : (r1 = 1 ∧ z0 = 0) ∨ (r1 = -1 ∧ z0 = 14)) :
    Calls Try.prog 13 #[(f1V p q).v, .agg #[.slice (some ⟨wx.heap.size, 0, none⟩) 2 2, .slice (some ⟨wx.heap.size + 1, 0, none⟩) 2 2, .int .i64 0]] ((wx.alloc (.cells #[.int .i64 (-1), .int .i64 r1] 3)).alloc (.cells #[.int .i64 (-1), .int .i64 (-1)] 3)) fun e w' => e = .returned (.int .i64 z0) ∧ Below wx.heap.size wx w' := by
  have hb : Below wx.heap.size wx ((wx.alloc (.cells #[.int .i64 (-1), .int .i64 r1] 3)).alloc (.cells #[.int .i64 (-1), .int .i64 (-1)] 3)) := ((Below.refl _ _).alloc (Nat.le_refl _) _).alloc (by simp) _
  have h2 := Blk.new (wx.alloc (.cells #[.int .i64 (-1), .int .i64 r1] 3)) [.int .i64 (-1), .int .i64 (-1)] 3
  rw [World.size_alloc] at h2
  have h1 := (Blk.new wx [.int .i64 (-1), .int .i64 r1] 3).alloc (.cells #[.int .i64 (-1), .int .i64 (-1)] 3)
  have i0 : I64 (-1) := by unfold I64; omega
  have i1 : I64 r1 := by unfold I64; omega
  refine (accept_any _ (f1V p q) (hok.below hb) (alV wx.heap.size (wx.heap.size + 1) (-1) r1) (alV_ok h1 h2 i0 i1)).mono ?_
  rintro e w' ⟨z, rfl, hb2, _, hz⟩
  refine ⟨?_, hb.trans (hb2.mono hb.size)⟩
  rcases h with ⟨rfl, rfl⟩ | ⟨rfl, rfl⟩
  · rcases hz (alV_E (.inl rfl)) with ⟨rfl, _⟩ | ⟨_, hn⟩
    · rfl
    · exact absurd f1V_good hn
  · rcases hz (alV_E (.inr rfl)) with ⟨_, hg⟩ | ⟨rfl, _⟩
    · exact absurd hg f1V_bad
    · rfl
/-- the law's boxes -/
structure BoxA (f : VF) (a : AL) (w w' : World) : Prop where
  be : Below w.heap.size w w'
  bf : Blk w' w.heap.size 25 (fC f)
  ba : Blk w' (w.heap.size + 1) 27 (aC a)
theorem BoxA.below {f : VF} {a : AL} {w w' w'' : World} (h : BoxA f a w w') (hb : Below w'.heap.size w' w'') : BoxA f a w w'' := ⟨h.be.trans (hb.mono h.be.size), h.bf.below hb h.bf.lt, h.ba.below hb h.ba.lt⟩

set_option maxRecDepth 100000 in
set_option maxHeartbeats 8000000 in
theorem alloccheckSays_walk (f : VF) (a : AL) (w : World) (hf : f.Ok w) (ha : a.Ok w) : Calls Try.prog 3 #[f.v, a.v] w fun e w' => e = .returned (.bool true) ∧ Below w.heap.size w w' := by
  have hB0 : BoxA f a w ((w.alloc (.cells #[.int .i64 f.name, .slice f.pa f.pn f.pc, .int .i64 f.regs, .slice f.sa f.sn f.sc] 25)).alloc (.cells #[.slice a.ra a.rn a.rc, .slice a.sa a.sn a.sc, .int .i64 a.k] 27)) := by
    have h2 := Blk.new (w.alloc (.cells #[.int .i64 f.name, .slice f.pa f.pn f.pc, .int .i64 f.regs, .slice f.sa f.sn f.sc] 25)) [.slice a.ra a.rn a.rc, .slice a.sa a.sn a.sc, .int .i64 a.k] 27
    rw [World.size_alloc] at h2
    exact ⟨((Below.refl _ _).alloc (Nat.le_refl _) _).alloc (by simp) _, (Blk.new w [.int .i64 f.name, .slice f.pa f.pn f.pc, .int .i64 f.regs, .slice f.sa f.sn f.sc] 25).alloc _, h2⟩
  have HS1 := fun wx => Lib.hid (same1_ok wx)
  have HSM := fun wx (h : Below w.heap.size w wx) => Lib.hid (small_ok wx f (hf.below h))
  have HAR := fun wx (h : Below w.heap.size w wx) => Lib.hid (allocError_any wx f (hf.below h) a (ha.below h))
  have HCK := fun wx (h : Below w.heap.size w wx) => Lib.hid (allocCheck_any wx f (hf.below h) a (ha.below h))
  have HAC := fun wx (h : Below w.heap.size w wx) => Lib.hid (accept_any wx f (hf.below h) a (ha.below h))
  have HAD := fun wx (h : Below w.heap.size w wx) n nb m (h1 : FnOk f n nb) (h2 : a.Good n m) (h3 : n ≤ 40) => Lib.hid (accepted_any wx f (hf.below h) a (ha.below h) n nb m h1 h2 h3)
  have HF := Lib.hid hf
  have HAO := Lib.hid ha
  unfold VF.v at HSM
  unfold VF.v AL.v at HAR HCK HAC HAD ⊢
  have HB0 := Lib.hid hB0
  obtain ⟨ae, hae⟩ : ∃ ae, ae = allocE f a := ⟨_, rfl⟩
  rw [← hae] at HAR HCK
  have HAE := Lib.hid hae
  clear hf ha hB0 hae
  go_enter Try.func3, Try.ntmps3
  go_upto_region 1 with fail
  generalize (w.alloc (.cells #[.int .i64 f.name, .slice f.pa f.pn f.pc, .int .i64 f.regs, .slice f.sa f.sn f.sc] 25)).alloc (.cells #[.slice a.ra a.rn a.rc, .slice a.sa a.sn a.sc, .int .i64 a.k] 27) = w0 at HB0 ⊢
  obtain ⟨pf, hpf⟩ : ∃ pf, pf = w.heap.size := ⟨_, rfl⟩
  rw [← hpf]
  have HPF := Lib.hid hpf
  clear hpf
  go_wp2_with fail
  refine (HS1 _).out.mono ?_
  rintro e w1 ⟨p, q, rfl, hok1, hb1⟩
  have HB1 := Lib.hid (HB0.out.below hb1)
  have HO1 := Lib.hid hok1
  clear hb1 hok1 HB0
  go_wp2_with fail
  refine (acc1 p q w1 1 0 HO1.out (.inl ⟨rfl, rfl⟩)).mono ?_
  rintro e w2 ⟨rfl, hb2⟩
  have HB2 := Lib.hid (HB1.out.below hb2)
  clear hb2 HB1 HO1
  go_wp2_with fail
  refine (HS1 _).out.mono ?_
  rintro e w3 ⟨p2, q2, rfl, hok3, hb3⟩
  have HB3 := Lib.hid (HB2.out.below hb3)
  have HO3 := Lib.hid hok3
  clear hb3 hok3 HB2 HS1
  go_wp2_with fail
  refine (acc1 p2 q2 w3 (-1) 14 HO3.out (.inr ⟨rfl, rfl⟩)).mono ?_
  rintro e w4 ⟨rfl, hb4⟩
  have HB4 := Lib.hid (HB3.out.below hb4)
  clear hb4 HB3 HO3
  have c0 := HB4.out.bf.cell 0
  have c1 := HB4.out.bf.cell 1
  have c2 := HB4.out.bf.cell 2
  have c3 := HB4.out.bf.cell 3
  simp only [fC, List.getElem?_cons_zero, List.getElem?_cons_succ] at c0 c1 c2 c3
  rw [← HPF.out] at c0 c1 c2 c3
  go_wp2_with fail
  refine (HSM _ HB4.out.be).out.mono ?_
  rintro e w5 ⟨sm, rfl, hsm, hb5⟩
  have HB5 := Lib.hid (HB4.out.below hb5)
  clear hb5 HB4 HSM c0 c1 c2 c3
  cases sm with
  | false =>
    go_wp2_with fail
    go_ret
    exact ⟨rfl, HB5.out.be⟩
  | true =>
    have hsm2 := hsm rfl
    have HSML := Lib.hid hsm2
    clear hsm hsm2
    have c0 := HB5.out.bf.cell 0
    have c1 := HB5.out.bf.cell 1
    have c2 := HB5.out.bf.cell 2
    have c3 := HB5.out.bf.cell 3
    have b0 := HB5.out.ba.cell 0
    have b1 := HB5.out.ba.cell 1
    have b2 := HB5.out.ba.cell 2
    simp only [fC, aC, List.getElem?_cons_zero, List.getElem?_cons_succ] at c0 c1 c2 c3 b0 b1 b2
    rw [← HPF.out] at c0 c1 c2 c3 b0 b1 b2
    go_wp2_with fail
    refine (HAR _ HB5.out.be).out.mono ?_
    rintro e w6 ⟨rfl, hb6⟩
    have HB6 := Lib.hid (HB5.out.below hb6)
    clear hb6 HB5 HAR c0 c1 c2 c3 b0 b1 b2
    have c0 := HB6.out.bf.cell 0
    have c1 := HB6.out.bf.cell 1
    have c2 := HB6.out.bf.cell 2
    have c3 := HB6.out.bf.cell 3
    have b0 := HB6.out.ba.cell 0
    have b1 := HB6.out.ba.cell 1
    have b2 := HB6.out.ba.cell 2
    simp only [fC, aC, List.getElem?_cons_zero, List.getElem?_cons_succ] at c0 c1 c2 c3 b0 b1 b2
    rw [← HPF.out] at c0 c1 c2 c3 b0 b1 b2
    go_wp2_with fail
    refine (HCK _ HB6.out.be).out.mono ?_
    rintro e w7 ⟨rfl, hb7⟩
    have HB7 := Lib.hid (HB6.out.below hb7)
    clear hb7 HB6 HCK c0 c1 c2 c3 b0 b1 b2
    have hne : (ae != ae) = false := by simp
    have c0 := HB7.out.bf.cell 0
    have c1 := HB7.out.bf.cell 1
    have c2 := HB7.out.bf.cell 2
    have c3 := HB7.out.bf.cell 3
    have b0 := HB7.out.ba.cell 0
    have b1 := HB7.out.ba.cell 1
    have b2 := HB7.out.ba.cell 2
    simp only [fC, aC, List.getElem?_cons_zero, List.getElem?_cons_succ] at c0 c1 c2 c3 b0 b1 b2
    rw [← HPF.out] at c0 c1 c2 c3 b0 b1 b2
    go_wp2_with fail
    refine (HAC _ HB7.out.be).out.mono ?_
    rintro e w8 ⟨z, rfl, hb8, hz1, hz2⟩
    have HB8 := Lib.hid (HB7.out.below hb8)
    clear hb8 HB7 HAC c0 c1 c2 c3 b0 b1 b2 hne
    rw [← HAE.out] at hz1 hz2
    by_cases h0 : ae = 0
    · have hE : allocE f a = 0 := by rw [← HAE.out]; exact h0
      obtain ⟨n, hok⟩ := fnOk HF.out (allocE_fn hE)
      have hga := AL.good HAO.out hok.regs hE
      have hn40 : n ≤ 40 := by have := HSML.out.1; have := hok.regs; omega
      have HZ := Lib.hid (hz2 h0)
      have q0 : (ae != 0) = false := by simp [h0]
      have HAD2 := HAD _ HB8.out.be n _ _ hok hga hn40
      clear hz1 hz2 h0 hE hok hga hn40 HAD
      have c0 := HB8.out.bf.cell 0
      have c1 := HB8.out.bf.cell 1
      have c2 := HB8.out.bf.cell 2
      have c3 := HB8.out.bf.cell 3
      have b0 := HB8.out.ba.cell 0
      have b1 := HB8.out.ba.cell 1
      have b2 := HB8.out.ba.cell 2
      simp only [fC, aC, List.getElem?_cons_zero, List.getElem?_cons_succ] at c0 c1 c2 c3 b0 b1 b2
      rw [← HPF.out] at c0 c1 c2 c3 b0 b1 b2
      go_wp2_with fail
      refine HAD2.out.mono ?_
      rintro e w9 ⟨ok, whole, rfl, hgo, hb9⟩
      have HB9 := Lib.hid (HB8.out.below hb9)
      clear hb9 HB8 HAD2 c0 c1 c2 c3 b0 b1 b2
      cases whole with
      | false =>
        clear hgo
        go_wp2_with fail
        go_ret
        exact ⟨rfl, HB9.out.be⟩
      | true =>
        have hgo2 := hgo rfl
        clear hgo
        rcases HZ.out with ⟨rfl, hg⟩ | ⟨rfl, hg⟩
        · obtain rfl : ok = true := hgo2.2 hg
          clear hgo2 hg HZ
          go_wp2_with fail
          go_ret
          exact ⟨rfl, HB9.out.be⟩
        · have hok2 : ok = false := by
            cases ok
            · rfl
            · exact absurd (hgo2.1 rfl) hg
          subst hok2
          clear hgo2 hg HZ
          go_wp2_with fail
          go_ret
          exact ⟨rfl, HB9.out.be⟩
    · obtain rfl : z = ae := hz1 h0
      have q0 : (z != 0) = true := by simp [h0]
      have q1 : (z == z) = true := by simp
      clear hz1 hz2 h0
      go_wp2_with fail
      go_ret
      exact ⟨rfl, HB8.out.be⟩
end Go.Proofs.Ytlaogkbdjkofaaa
