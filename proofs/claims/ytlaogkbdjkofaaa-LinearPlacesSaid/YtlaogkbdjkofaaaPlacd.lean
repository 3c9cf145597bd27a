/- What occurs and what is kept; allocations of the required form. The reference's Occurs and Kept (printed by wip/occ.py). The law's 'placed'. -/
import Derived.Test.YtlaogkbdjkofaaaAllocP
import Derived.Test.YtlaogkbdjkofaaaColLaw
import Derived.Test.YtlaogkbdjkofaaaVAlive
import Derived.Test.YtlaogkbdjkofaaaVCheck
import Derived.Test.YtlaogkbdjkofaaaAllocE
namespace Go.Proofs.Ytlaogkbdjkofaaa
open Go.RowKit
set_option linter.unusedVariables false
set_option linter.unusedSimpArgs false

theorem foldF_use (r : Nat) : ∀ (l : List VI) (g : Nat → Bool), l.foldr insF g r = true → (∃ x ∈ l, (r : Int) ∈ usesV x) ∨ g r = true
  | [], g, h => .inr h
  | x :: l, g, h => by
    have h1 : (if (r : Int) ∈ usesV x then true else if (r : Int) = defV x then false else (l.foldr insF g) r) = true := h
    by_cases e : (r : Int) ∈ usesV x
    · exact .inl ⟨x, List.mem_cons_self, e⟩
    · rw [if_neg e] at h1
      split at h1
      · cases h1
      · exact (foldF_use r l g h1).imp (fun ⟨y, hy, h2⟩ => ⟨y, List.mem_cons_of_mem _ hy, h2⟩) id
theorem gen_occ {f : VF} {nb i q r : Nat} (hi : i < nb) (h : genAt (f.blk i) q r = true) : OccB f nb r := by
  rcases foldF_use r _ _ h with ⟨x, hx, hu⟩ | hg
  · obtain ⟨k, hk⟩ := List.getElem?_of_mem (List.mem_of_mem_drop hx)
    exact ⟨i, hi, .inl ⟨k, x, hk, .inr hu⟩⟩
  · refine ⟨i, hi, .inr ?_⟩
    by_cases e : (r : Int) ∈ endV (f.blk i).e
    · exact e
    · rw [if_neg e] at hg; cases hg
theorem live_occ {f : VF} {nb : Nat} (ht : TosV f nb) {i r : Nat} (h : LiveI f i r) : i < nb → OccB f nb r := by
  have h0 := h.pos
  induction h with
  | here i r hg => exact fun hi => gen_occ hi (q := 0) (by rw [genAt_zero h0]; exact hg)
  | step i t r _ h2 _ ih =>
    intro hi
    have := ht i hi _ h2
    exact ih h0 (by omega)
theorem aliveP_occ {f : VF} {nb : Nat} (ht : TosV f nb) {i q r : Nat} (hi : i < nb) (h : AliveP f i q r) : OccB f nb r := by
  rcases h with h | ⟨_, t, h1, h2⟩
  · exact gen_occ hi h
  · have := ht i hi _ h1
    exact live_occ ht h2 (by omega)
/-- an allocation of the required form -/
structure PlacedA (f : VF) (n nb : Nat) (k : Int) (a : AL) : Prop where
  err : allocE f a = 0
  spot : ∀ r, r < n → (plc 100 a r ≠ 0 ↔ 1 ≤ r ∧ OccP f nb r)
  le : ∀ r, r < n → a.reg.getD r 0 ≤ k
  kept : ∀ r, 1 ≤ r → r < n → KeptP f nb r → 0 ≤ a.slot.getD r (-1)
  apart : ∀ x y, 1 ≤ x ∧ x < n → 1 ≤ y ∧ y < n → x ≠ y → ClashP f nb x y → plc 100 a x ≠ 0 → plc 100 a x ≠ plc 100 a y
theorem pairsE_okC {k : Int} : ∀ (rs ss : List Int), (∀ i (h : i < rs.length) (h' : i < ss.length), (rs[i] = -1 ∨ (1 ≤ rs[i] ∧ rs[i] ≤ 10)) ∧ (-1 ≤ ss[i] ∧ ss[i] < k) ∧ ¬ (0 < rs[i] ∧ 0 ≤ ss[i])) → pairsE k rs ss = 0
  | [], _, _ => by unfold pairsE; rfl
  | _ :: _, [], _ => by unfold pairsE; rfl
  | r :: rs, s :: ss, h => by
    obtain ⟨h1, h2, h3⟩ := h 0 (by simp) (by simp)
    simp only [List.getElem_cons_zero] at h1 h2 h3
    unfold pairsE
    rw [if_neg (by omega), if_neg h3]
    exact pairsE_okC rs ss fun i hi hi' => h (i + 1) (by simp; omega) (by simp; omega)
theorem map_getD (n : Nat) (g : Nat → Int) (d : Int) {r : Nat} (hr : r < n) : ((List.range n).map g).getD r d = g r := by
  rw [List.getD_eq_getElem?_getD, List.getElem?_map, List.getElem?_range hr]
  rfl
def OccPost (P : Prop) (w : World) (e : Ending) (w' : World) : Prop := ∃ t : Bool, e = .returned (.bool t) ∧ (t = true ↔ P) ∧ Below w.heap.size w w'
set_option maxRecDepth 100000 in
set_option maxHeartbeats 8000000 in
theorem occurs_any (w : World) (f : VF) (hf : f.Ok w) (n nb : Nat) (hok : FnOk f n nb) (r : Nat) (hr : 1 ≤ r ∧ r < n) :
    Calls Try.prog 26 #[f.v, .int .i64 (r : Int)] w (OccPost (OccP f nb r) w) := by
  have HF := Lib.hid hf
  have hlen := hf.len
  have hsn := hok.sn
  have hn2 := hok.n2
  have hnb2 := hok.nb2
  have hb0 : BoxV f w (w.alloc (.cells #[.int .i64 f.name, .slice f.pa f.pn f.pc, .int .i64 f.regs, .slice f.sa f.sn f.sc] 25)) f.pa f.sa := ⟨(Below.refl _ _).alloc (Nat.le_refl _) _, Blk.new w [.int .i64 f.name, .slice f.pa f.pn f.pc, .int .i64 f.regs, .slice f.sa f.sn f.sc] 25⟩
  have htos : TosV f nb := by rw [hok.nbl]; exact hok.fits.tos
  have HAL := fun wx (h : Below w.heap.size w wx) (i q r : Nat) (hi : i < nb) (hq : q ≤ 10000) (hr : r ≠ 0) (hr2 : r ≤ 10000) => alive_any wx f (hf.below h) nb hok.nbl hnb2.2 htos hok.ins i q r hi hq hr hr2
  have HAM := fun wx (h : Below w.heap.size w wx) (r : Int) => among_any wx f.pa f.pn f.pc f.params (hf.pcame.below h) r
  have HOK := Lib.hid hok
  unfold VF.v at HAL ⊢
  obtain ⟨pa, hpa⟩ : ∃ s, s = f.pa := ⟨_, rfl⟩
  obtain ⟨sa, hsa⟩ : ∃ s, s = f.sa := ⟨_, rfl⟩
  rw [← hpa, ← hsa] at hb0 HAL ⊢
  rw [← hpa] at HAM
  rw [hsn] at hb0 HAL ⊢
  have HB0 := Lib.hid hb0
  have HSA := Lib.hid hsa
  have HAL := Lib.hid HAL
  have HAM := Lib.hid HAM
  have HSN := Lib.hid hsn
  clear hf hok htos hb0 hpa hsa hsn
  go_enter Try.func26, Try.ntmps26
  go_upto_region 1 with fail
  generalize w.alloc (.cells #[.int .i64 f.name, .slice pa f.pn f.pc, .int .i64 f.regs, .slice sa nb f.sc] 25) = w1 at HB0 ⊢
  have c1 := HB0.out.box.cell 1
  have c3 := HB0.out.box.cell 3
  simp only [List.getElem?_cons_zero, List.getElem?_cons_succ] at c1 c3
  rw [HSN.out] at c3
  have HA := Lib.hid (HAM.out w1 HB0.out.be (r : Int))
  obtain ⟨pm, hpm⟩ : ∃ x, x = decide ((r : Int) ∈ f.params) := ⟨_, rfl⟩
  rw [← hpm] at HA
  have HPM : Hid (pm = true ↔ (r : Int) ∈ f.params) := by rw [hpm]; exact decide_eq_true_iff
  clear hpm
  go_wp2_with fail
  refine HA.out.mono ?_
  rintro e wx ⟨rfl, hwx⟩
  rw [← hwx]
  clear hwx wx HA
  cases pm with
  | true =>
    have HP := Lib.hid (HPM.out.1 rfl)
    go_wp2_with fail
    go_ret
    exact ⟨true, rfl, ⟨fun _ => .inl HP.out, fun _ => rfl⟩, HB0.out.be⟩
  | false =>
  have HNP : Hid (¬ (r : Int) ∈ f.params) := fun h => by have := HPM.out.2 h; cases this
  have HB1 := HB0
  clear HPM HB0 HAM
  go_wp2_with fail
  clear c1 c3
  go_loopw [16] (fun u wr => ∃ i : Nat, i ≤ nb ∧ u = .int .i64 (i : Int) ∧ BoxV f w wr pa sa ∧ ¬ OccB f i r) (fun u _ => nb - (intOf u).toNat)
  case atStart => exact ⟨0, Nat.zero_le _, rfl, HB1.out, fun ⟨i, hi, _⟩ => absurd hi (Nat.not_lt_zero _)⟩
  case round =>
    clear HB1
    obtain ⟨i, hi, rfl, hbx, hno⟩ := hrel
    have HBX := Lib.hid hbx
    have HNO := Lib.hid hno
    clear hbx hno
    by_cases hlt : i < nb
    · have hib : i < f.blocks.length := by have := HOK.out.nbl; omega
      obtain ⟨gb, ob, hsa, hgb, d0, d1, d2, d3, d4, d5, d6⟩ := HF.out.cells HBX.out.be hib
      have hbo : f.blocks[i].Ok w := HF.out.blocks _ (List.getElem_mem _)
      rw [VF.blk_get f hib] at d0 d1 d2 d3 d4 d5 d6 hbo
      have hins := HOK.out.ins i hlt
      obtain ⟨bk, hbk⟩ : ∃ b, b = f.blk i := ⟨_, rfl⟩
      rw [← hbk] at d0 d1 d2 d3 d4 d5 d6 hbo hins
      rw [← HSA.out] at hsa
      subst hsa
      have hbl := hbo.len
      have HBO := Lib.hid hbo
      have HBK := Lib.hid hbk
      obtain ⟨sb, hsb⟩ : ∃ s, s = bk.sa := ⟨_, rfl⟩
      rw [← hsb] at d0
      have HSB := Lib.hid hsb
      have hb4 : Below wr.heap.size wr (wr.alloc (.cells #[.slice sb bk.sn bk.sc, .int .i64 bk.e.kind, .int .i64 bk.e.op, .int .i64 bk.e.a, .int .i64 bk.e.b, .int .i64 bk.e.n, .slice bk.e.sa bk.e.sn bk.e.sc] 63)) := (Below.refl _ _).alloc (Nat.le_refl _) _
      have hbv : Blk (wr.alloc (.cells #[.slice sb bk.sn bk.sc, .int .i64 bk.e.kind, .int .i64 bk.e.op, .int .i64 bk.e.a, .int .i64 bk.e.b, .int .i64 bk.e.n, .slice bk.e.sa bk.e.sn bk.e.sc] 63)) wr.heap.size 63 [.slice sb bk.sn bk.sc, .int .i64 bk.e.kind, .int .i64 bk.e.op, .int .i64 bk.e.a, .int .i64 bk.e.b, .int .i64 bk.e.n, .slice bk.e.sa bk.e.sn bk.e.sc] := Blk.new wr _ _
      have HBX4 := Lib.hid (HBX.out.below hb4)
      have HBV := Lib.hid hbv
      clear hbk hsb hb4 hbv hbo
      go_upto_region 6 with fail
      obtain ⟨vb, hvb⟩ : ∃ x, x = wr.heap.size := ⟨_, rfl⟩
      rw [← hvb] at HBV ⊢
      clear hvb d0 d1 d2 d3 d4 d5 d6 HBX
      generalize wr.alloc (.cells #[.slice sb bk.sn bk.sc, .int .i64 bk.e.kind, .int .i64 bk.e.op, .int .i64 bk.e.a, .int .i64 bk.e.b, .int .i64 bk.e.n, .slice bk.e.sa bk.e.sn bk.e.sc] 63) = w4 at HBX4 HBV ⊢
      have v0 := HBV.out.cell 0
      simp only [List.getElem?_cons_zero] at v0
      have hvl := HBV.out.lt
      have HB4 : Hid (∀ wx, Below w4.heap.size w4 wx → Blk wx vb 63 [.slice sb bk.sn bk.sc, .int .i64 bk.e.kind, .int .i64 bk.e.op, .int .i64 bk.e.a, .int .i64 bk.e.b, .int .i64 bk.e.n, .slice bk.e.sa bk.e.sn bk.e.sc]) := fun wx h => HBV.out.below h hvl
      go_wp2_with fail
      clear v0
      go_loopw [23] (fun u wx => ∃ k : Nat, k ≤ bk.sn ∧ u = .int .i64 (k : Int) ∧ BoxV f w wx pa (some ⟨gb, ob, none⟩) ∧ Below w4.heap.size w4 wx ∧ ¬ ∃ (k' : Nat) (x : VI), k' < k ∧ bk.ins[k']? = some x ∧ ((r : Int) = defV x ∨ (r : Int) ∈ usesV x)) (fun u _ => bk.sn - (intOf u).toNat)
      case atStart => exact ⟨0, Nat.zero_le _, rfl, HBX4.out, Below.refl _ _, fun ⟨k, x, hk, _⟩ => absurd hk (Nat.not_lt_zero _)⟩
      case round =>
        clear HBX4 HBV
        obtain ⟨k, hk, rfl, hbx, hbe4, hnk⟩ := hrel
        have HBX := Lib.hid hbx
        have HNK := Lib.hid hnk
        have HBE := Lib.hid hbe4
        clear hbx hnk hbe4
        by_cases hkl : k < bk.sn
        ·
          have hkb : k < bk.ins.length := by omega
          obtain ⟨z, hz⟩ : ∃ z, z = bk.ins[k] := ⟨_, rfl⟩
          obtain ⟨gi, oi, hsb2, hgi, d0, d1, d2, d3, d4, d5⟩ := HBO.out.cells HBX.out.be hkb
          rw [← hz] at d0 d1 d2 d3 d4 d5
          rw [← HSB.out] at hsb2
          subst hsb2
          have HID := insDef_any z
          have HIU := Lib.hid fun wx (h : Below w.heap.size w wx) => insUses_any z wx (by rw [hz]; exact (HBO.out.ins _ (List.getElem_mem _)).below h)
          unfold viV at HID HIU
          have HZQ0 : bk.ins[k]? = some z := by rw [hz]; exact List.getElem?_eq_getElem hkb
          have HZQ : Hid ((f.blk i).ins[k]? = some z) := by rw [← HBK.out]; exact HZQ0
          have hfz := HOK.out.fits.ins i hib z (by rw [← HBK.out]; exact List.mem_of_getElem? HZQ0)
          have HNX : Hid (¬ ((r : Int) = defV z ∨ (r : Int) ∈ usesV z) → ¬ ∃ (k' : Nat) (x : VI), k' < k + 1 ∧ bk.ins[k']? = some x ∧ ((r : Int) = defV x ∨ (r : Int) ∈ usesV x)) := fun hn ⟨k', x, h1, h2, h3⟩ => by
            by_cases e : k' = k
            · subst e
              rw [HZQ0] at h2
              injection h2 with h2
              subst h2
              exact hn h3
            · exact HNK.out ⟨k', x, by omega, h2, h3⟩
          have hb5 : Below wr.heap.size wr (wr.alloc (.cells #[.int .i64 z.op, .int .i64 z.d, .int .i64 z.a, .int .i64 z.b, .int .i64 z.n, .slice z.sa z.sn z.sc] 65)) := (Below.refl _ _).alloc (Nat.le_refl _) _
          have hxb : Blk (wr.alloc (.cells #[.int .i64 z.op, .int .i64 z.d, .int .i64 z.a, .int .i64 z.b, .int .i64 z.n, .slice z.sa z.sn z.sc] 65)) wr.heap.size 65 (viC z) := Blk.new wr _ _
          have HBV5 := Lib.hid (And.intro (HBX.out.below hb5) hxb)
          have HBE5 := Lib.hid (HBE.out.trans (hb5.mono HBE.out.size))
          have hdz := hfz.d
          clear hz HZQ0 hfz hb5 hxb HBX HNK HBE
          go_upto_region 9 with fail
          obtain ⟨xb, hxb⟩ : ∃ x, x = wr.heap.size := ⟨_, rfl⟩
          rw [← hxb] at HBV5 ⊢
          clear hxb d0 d1 d2 d3 d4 d5
          generalize wr.alloc (.cells #[.int .i64 z.op, .int .i64 z.d, .int .i64 z.a, .int .i64 z.b, .int .i64 z.n, .slice z.sa z.sn z.sc] 65) = w5 at HBV5 HBE5 ⊢
          have d0 := HBV5.out.2.cell 0
          have d1 := HBV5.out.2.cell 1
          have d2 := HBV5.out.2.cell 2
          have d3 := HBV5.out.2.cell 3
          have d4 := HBV5.out.2.cell 4
          have d5 := HBV5.out.2.cell 5
          simp only [viC, List.getElem?_cons_zero, List.getElem?_cons_succ] at d0 d1 d2 d3 d4 d5
          have HID := Lib.hid HID
          have hcs : defV z = (r : Int) ∨ defV z ≠ (r : Int) := by omega
          rcases hcs with hdp | hdp
          · have hq1 : (defV z == (r : Int)) = true := by simp [hdp]
            have HY : Hid ((r : Int) = defV z) := hdp.symm
            clear hdp
            go_wp2_with fail
            refine (HID.out _).mono ?_
            rintro e w8 ⟨rfl, hb8⟩
            have HB8 := Lib.hid (HBV5.out.1.below hb8)
            clear hb8 d0 d1 d2 d3 d4 d5
            go_wp2_with fail
            go_ret
            exact ⟨true, rfl, ⟨fun _ => .inr ⟨i, hlt, .inl ⟨k, z, HZQ.out, .inl HY.out⟩⟩, fun _ => rfl⟩, HB8.out.be⟩
          · have hq1 : (defV z == (r : Int)) = false := by simp [hdp]
            have HY : Hid (¬ (r : Int) = defV z) := fun h => hdp h.symm
            clear hdp
            go_wp2_with fail
            refine (HID.out _).mono ?_
            rintro e w8 ⟨rfl, hb8⟩
            have HB8 := Lib.hid (HBV5.out.1.below hb8)
            have HBE8 := Lib.hid (HBE5.out.trans (hb8.mono HBE5.out.size))
            have hx8 := HBV5.out.2.below hb8 HBV5.out.2.lt
            clear hb8 d0 d1 d2 d3 d4 d5 HBV5 HBE5
            have d0 := hx8.cell 0
            have d1 := hx8.cell 1
            have d2 := hx8.cell 2
            have d3 := hx8.cell 3
            have d4 := hx8.cell 4
            have d5 := hx8.cell 5
            simp only [viC, List.getElem?_cons_zero, List.getElem?_cons_succ] at d0 d1 d2 d3 d4 d5
            clear hx8
            go_wp2_with fail
            refine (HIU.out w8 HB8.out.be).mono ?_
            rintro e w9 ⟨v9, rfl, ho9, hb9⟩
            obtain ⟨a9, c9, rfl⟩ := ownG_shape ho9
            have HA9 := Lib.hid (among_any w9 a9 _ c9 (usesV z) (came_owns_ints ho9) (r : Int))
            have HB9 := Lib.hid (HB8.out.below hb9)
            have HBE9 := Lib.hid (HBE8.out.trans (hb9.mono HBE8.out.size))
            obtain ⟨um, hum⟩ : ∃ x, x = decide ((r : Int) ∈ usesV z) := ⟨_, rfl⟩
            rw [← hum] at HA9
            have HUM : Hid (um = true ↔ (r : Int) ∈ usesV z) := by rw [hum]; exact decide_eq_true_iff
            generalize (usesV z).length = lz at HA9 ⊢
            clear hum ho9 hb9 d0 d1 d2 d3 d4 d5 HB8 HBE8
            go_wp2_with fail
            refine HA9.out.mono ?_
            rintro e wx ⟨rfl, hwx⟩
            rw [← hwx]
            clear hwx wx HA9
            cases um with
            | true =>
              have HP := Lib.hid (HUM.out.1 rfl)
              go_wp2_with fail
              go_ret
              exact ⟨true, rfl, ⟨fun _ => .inr ⟨i, hlt, .inl ⟨k, z, HZQ.out, .inr HP.out⟩⟩, fun _ => rfl⟩, HB9.out.be⟩
            | false =>
              have HN : Hid (¬ ((r : Int) = defV z ∨ (r : Int) ∈ usesV z)) := fun h => h.elim HY.out fun h => by have := HUM.out.2 h; cases this
              clear HUM
              go_wp2_with fail
              go_roundw
              case rel => exact ⟨k + 1, by omega, by go_num, HB9.out, HBE9.out, HNX.out HN.out⟩
              case measure => simp [intOf]; omega
        ·
          have hvx := HB4.out wr HBE.out
          have e2 := hvx.cell 3
          have e3 := hvx.cell 4
          simp only [List.getElem?_cons_zero, List.getElem?_cons_succ] at e2 e3
          have hem := end_mem (e := bk.e) (r := r) (by omega)
          by_cases h1 : bk.e.a = (r : Int) ∨ bk.e.b = (r : Int)
          · have HY : Hid ((r : Int) ∈ endV (f.blk i).e) := by rw [← HBK.out]; exact hem.2 h1
            have hq : (bk.e.a == (r : Int)) = true ∨ ((bk.e.a == (r : Int)) = false ∧ (bk.e.b == (r : Int)) = true) := by
              by_cases e : bk.e.a = (r : Int)
              · left; simp [e]
              · right; exact ⟨by simp [e], by simp; exact h1.resolve_left e⟩
            clear h1 hem hvx
            rcases hq with hq1 | ⟨hq1, hq2⟩
            all_goals
              go_wp2_with fail
              go_ret
              exact ⟨true, rfl, ⟨fun _ => .inr ⟨i, hlt, .inr HY.out⟩, fun _ => rfl⟩, HBX.out.be⟩
          · have HN : Hid (¬ OccB f (i + 1) r) := fun ⟨i', h2, h3⟩ => by
              by_cases e : i' = i
              · subst e
                rw [← HBK.out] at h3
                rcases h3 with ⟨k', x, h4, h5⟩ | h3
                · exact HNK.out ⟨k', x, by have := (List.getElem?_eq_some_iff.1 h4).1; omega, h4, h5⟩
                · exact h1 (hem.1 h3)
              · exact HNO.out ⟨i', by omega, h3⟩
            have hq1 : (bk.e.a == (r : Int)) = false := by simp; exact fun h => h1 (.inl h)
            have hq2 : (bk.e.b == (r : Int)) = false := by simp; exact fun h => h1 (.inr h)
            clear h1 hem hvx
            go_wp2_with fail
            go_roundw
            case rel => exact ⟨i + 1, by omega, by go_num, HBX.out, HN.out⟩
            case measure => simp [intOf]; omega
    · have ei : nb = i := by omega
      subst ei
      go_wp2_with fail
      go_ret
      exact ⟨false, rfl, ⟨fun h => (by cases h), fun h => (h.elim HNP.out HNO.out).elim⟩, HBX.out.be⟩
set_option maxRecDepth 100000 in
set_option maxHeartbeats 8000000 in
theorem kept_any (w : World) (f : VF) (hf : f.Ok w) (n nb : Nat) (hok : FnOk f n nb) (r : Nat) (hr : 1 ≤ r ∧ r < n) :
    Calls Try.prog 34 #[f.v, .int .i64 (r : Int)] w (OccPost (KeptP f nb r) w) := by
  have HF := Lib.hid hf
  have hlen := hf.len
  have hsn := hok.sn
  have hn2 := hok.n2
  have hnb2 := hok.nb2
  have hb0 : BoxV f w (w.alloc (.cells #[.int .i64 f.name, .slice f.pa f.pn f.pc, .int .i64 f.regs, .slice f.sa f.sn f.sc] 25)) f.pa f.sa := ⟨(Below.refl _ _).alloc (Nat.le_refl _) _, Blk.new w [.int .i64 f.name, .slice f.pa f.pn f.pc, .int .i64 f.regs, .slice f.sa f.sn f.sc] 25⟩
  have htos : TosV f nb := by rw [hok.nbl]; exact hok.fits.tos
  have HAL := fun wx (h : Below w.heap.size w wx) (i q r : Nat) (hi : i < nb) (hq : q ≤ 10000) (hr : r ≠ 0) (hr2 : r ≤ 10000) => alive_any wx f (hf.below h) nb hok.nbl hnb2.2 htos hok.ins i q r hi hq hr hr2
  have HAM := fun wx (h : Below w.heap.size w wx) (r : Int) => among_any wx f.pa f.pn f.pc f.params (hf.pcame.below h) r
  have HOK := Lib.hid hok
  unfold VF.v at HAL ⊢
  obtain ⟨pa, hpa⟩ : ∃ s, s = f.pa := ⟨_, rfl⟩
  obtain ⟨sa, hsa⟩ : ∃ s, s = f.sa := ⟨_, rfl⟩
  rw [← hpa, ← hsa] at hb0 HAL ⊢
  rw [← hpa] at HAM
  rw [hsn] at hb0 HAL ⊢
  have HB0 := Lib.hid hb0
  have HSA := Lib.hid hsa
  have HAL := Lib.hid HAL
  have HAM := Lib.hid HAM
  have HSN := Lib.hid hsn
  clear hf hok htos hb0 hpa hsa hsn
  go_enter Try.func34, Try.ntmps34
  go_upto_region 1 with fail
  generalize w.alloc (.cells #[.int .i64 f.name, .slice pa f.pn f.pc, .int .i64 f.regs, .slice sa nb f.sc] 25) = w1 at HB0 ⊢
  have c3 := HB0.out.box.cell 3
  simp only [List.getElem?_cons_zero, List.getElem?_cons_succ] at c3
  rw [HSN.out] at c3
  have HB1 := HB0
  clear HB0 HAM
  go_wp2_with fail
  clear c3
  go_loopw [12] (fun u wr => ∃ i : Nat, i ≤ nb ∧ u = .int .i64 (i : Int) ∧ BoxV f w wr pa sa ∧ ¬ KeptP f i r) (fun u _ => nb - (intOf u).toNat)
  case atStart => exact ⟨0, Nat.zero_le _, rfl, HB1.out, fun ⟨i, hi, _⟩ => absurd hi (Nat.not_lt_zero _)⟩
  case round =>
    clear HB1
    obtain ⟨i, hi, rfl, hbx, hno⟩ := hrel
    have HBX := Lib.hid hbx
    have HNO := Lib.hid hno
    clear hbx hno
    by_cases hlt : i < nb
    · have hib : i < f.blocks.length := by have := HOK.out.nbl; omega
      obtain ⟨gb, ob, hsa, hgb, d0, d1, d2, d3, d4, d5, d6⟩ := HF.out.cells HBX.out.be hib
      have hbo : f.blocks[i].Ok w := HF.out.blocks _ (List.getElem_mem _)
      rw [VF.blk_get f hib] at d0 d1 d2 d3 d4 d5 d6 hbo
      have hins := HOK.out.ins i hlt
      obtain ⟨bk, hbk⟩ : ∃ b, b = f.blk i := ⟨_, rfl⟩
      rw [← hbk] at d0 d1 d2 d3 d4 d5 d6 hbo hins
      rw [← HSA.out] at hsa
      subst hsa
      have hbl := hbo.len
      have HBO := Lib.hid hbo
      have HBK := Lib.hid hbk
      obtain ⟨sb, hsb⟩ : ∃ s, s = bk.sa := ⟨_, rfl⟩
      rw [← hsb] at d0
      have HSB := Lib.hid hsb
      have hb4 : Below wr.heap.size wr (wr.alloc (.cells #[.slice sb bk.sn bk.sc, .int .i64 bk.e.kind, .int .i64 bk.e.op, .int .i64 bk.e.a, .int .i64 bk.e.b, .int .i64 bk.e.n, .slice bk.e.sa bk.e.sn bk.e.sc] 63)) := (Below.refl _ _).alloc (Nat.le_refl _) _
      have hbv : Blk (wr.alloc (.cells #[.slice sb bk.sn bk.sc, .int .i64 bk.e.kind, .int .i64 bk.e.op, .int .i64 bk.e.a, .int .i64 bk.e.b, .int .i64 bk.e.n, .slice bk.e.sa bk.e.sn bk.e.sc] 63)) wr.heap.size 63 [.slice sb bk.sn bk.sc, .int .i64 bk.e.kind, .int .i64 bk.e.op, .int .i64 bk.e.a, .int .i64 bk.e.b, .int .i64 bk.e.n, .slice bk.e.sa bk.e.sn bk.e.sc] := Blk.new wr _ _
      have HBX4 := Lib.hid (HBX.out.below hb4)
      have HBV := Lib.hid hbv
      clear hbk hsb hb4 hbv hbo
      go_upto_region 4 with fail
      obtain ⟨vb, hvb⟩ : ∃ x, x = wr.heap.size := ⟨_, rfl⟩
      rw [← hvb] at HBV ⊢
      clear hvb d0 d1 d2 d3 d4 d5 d6 HBX
      generalize wr.alloc (.cells #[.slice sb bk.sn bk.sc, .int .i64 bk.e.kind, .int .i64 bk.e.op, .int .i64 bk.e.a, .int .i64 bk.e.b, .int .i64 bk.e.n, .slice bk.e.sa bk.e.sn bk.e.sc] 63) = w4 at HBX4 HBV ⊢
      have v0 := HBV.out.cell 0
      simp only [List.getElem?_cons_zero] at v0
      have hvl := HBV.out.lt
      have HB4 : Hid (∀ wx, Below w4.heap.size w4 wx → Blk wx vb 63 [.slice sb bk.sn bk.sc, .int .i64 bk.e.kind, .int .i64 bk.e.op, .int .i64 bk.e.a, .int .i64 bk.e.b, .int .i64 bk.e.n, .slice bk.e.sa bk.e.sn bk.e.sc]) := fun wx h => HBV.out.below h hvl
      go_wp2_with fail
      clear v0
      go_loopw [20] (fun u wx => ∃ k : Nat, k ≤ bk.sn ∧ u = .int .i64 (k : Int) ∧ BoxV f w wx pa (some ⟨gb, ob, none⟩) ∧ Below w4.heap.size w4 wx ∧ ¬ ∃ (k' : Nat) (x : VI), k' < k ∧ bk.ins[k']? = some x ∧ (callB x.op = true ∧ (r : Int) ≠ defV x ∧ AliveP f i (k' + 1) r)) (fun u _ => bk.sn - (intOf u).toNat)
      case atStart => exact ⟨0, Nat.zero_le _, rfl, HBX4.out, Below.refl _ _, fun ⟨k, x, hk, _⟩ => absurd hk (Nat.not_lt_zero _)⟩
      case round =>
        clear HBX4 HBV
        obtain ⟨k, hk, rfl, hbx, hbe4, hnk⟩ := hrel
        have HBX := Lib.hid hbx
        have HNK := Lib.hid hnk
        have HBE := Lib.hid hbe4
        clear hbx hnk hbe4
        by_cases hkl : k < bk.sn
        ·
          have hkb : k < bk.ins.length := by omega
          obtain ⟨z, hz⟩ : ∃ z, z = bk.ins[k] := ⟨_, rfl⟩
          obtain ⟨gi, oi, hsb2, hgi, d0, d1, d2, d3, d4, d5⟩ := HBO.out.cells HBX.out.be hkb
          rw [← hz] at d0 d1 d2 d3 d4 d5
          rw [← HSB.out] at hsb2
          subst hsb2
          have HID := insDef_any z
          have HIU := Lib.hid fun wx (h : Below w.heap.size w wx) => insUses_any z wx (by rw [hz]; exact (HBO.out.ins _ (List.getElem_mem _)).below h)
          unfold viV at HID HIU
          have HZQ0 : bk.ins[k]? = some z := by rw [hz]; exact List.getElem?_eq_getElem hkb
          have HZQ : Hid ((f.blk i).ins[k]? = some z) := by rw [← HBK.out]; exact HZQ0
          have hfz := HOK.out.fits.ins i hib z (by rw [← HBK.out]; exact List.mem_of_getElem? HZQ0)
          have HNX : Hid (¬ (callB z.op = true ∧ (r : Int) ≠ defV z ∧ AliveP f i (k + 1) r) → ¬ ∃ (k' : Nat) (x : VI), k' < k + 1 ∧ bk.ins[k']? = some x ∧ (callB x.op = true ∧ (r : Int) ≠ defV x ∧ AliveP f i (k' + 1) r)) := fun hn ⟨k', x, h1, h2, h3⟩ => by
            by_cases e : k' = k
            · subst e
              rw [HZQ0] at h2
              injection h2 with h2
              subst h2
              exact hn h3
            · exact HNK.out ⟨k', x, by omega, h2, h3⟩
          have hb5 : Below wr.heap.size wr (wr.alloc (.cells #[.int .i64 z.op, .int .i64 z.d, .int .i64 z.a, .int .i64 z.b, .int .i64 z.n, .slice z.sa z.sn z.sc] 65)) := (Below.refl _ _).alloc (Nat.le_refl _) _
          have hxb : Blk (wr.alloc (.cells #[.int .i64 z.op, .int .i64 z.d, .int .i64 z.a, .int .i64 z.b, .int .i64 z.n, .slice z.sa z.sn z.sc] 65)) wr.heap.size 65 (viC z) := Blk.new wr _ _
          have HBV5 := Lib.hid (And.intro (HBX.out.below hb5) hxb)
          have HBE5 := Lib.hid (HBE.out.trans (hb5.mono HBE.out.size))
          have hdz := hfz.d
          clear hz HZQ0 hfz hb5 hxb HBX HNK HBE
          go_upto_region 7 with fail
          obtain ⟨xb, hxb⟩ : ∃ x, x = wr.heap.size := ⟨_, rfl⟩
          rw [← hxb] at HBV5 ⊢
          clear hxb d0 d1 d2 d3 d4 d5
          generalize wr.alloc (.cells #[.int .i64 z.op, .int .i64 z.d, .int .i64 z.a, .int .i64 z.b, .int .i64 z.n, .slice z.sa z.sn z.sc] 65) = w5 at HBV5 HBE5 ⊢
          have d0 := HBV5.out.2.cell 0
          have d1 := HBV5.out.2.cell 1
          have d2 := HBV5.out.2.cell 2
          have d3 := HBV5.out.2.cell 3
          have d4 := HBV5.out.2.cell 4
          have d5 := HBV5.out.2.cell 5
          simp only [viC, List.getElem?_cons_zero, List.getElem?_cons_succ] at d0 d1 d2 d3 d4 d5
          have HID := Lib.hid HID
          have hcb : callB z.op = ((z.op == 101) || (z.op == 102)) := rfl
          have hcs : callB z.op = false ∨ (callB z.op = true ∧ defV z = (r : Int)) ∨ (callB z.op = true ∧ defV z ≠ (r : Int)) := by
            cases callB z.op
            · exact .inl rfl
            · by_cases h : defV z = (r : Int)
              · exact .inr (.inl ⟨rfl, h⟩)
              · exact .inr (.inr ⟨rfl, h⟩)
          have hk1 : callB z.op = true → (z.op == 101) = true ∨ ((z.op == 101) = false ∧ (z.op == 102) = true) := fun h => by
            rw [hcb] at h
            cases h1 : (z.op == 101)
            · right; rw [h1] at h; exact ⟨rfl, by simpa using h⟩
            · left; rfl
          rcases hcs with hc | ⟨hc, hdp⟩ | ⟨hc, hdp⟩
          · have h1 : (z.op == 101) = false := by rw [hcb] at hc; simp at hc; simp; exact hc.1
            have h2 : (z.op == 102) = false := by rw [hcb] at hc; simp at hc; simp; exact hc.2
            have HN : Hid (¬ (callB z.op = true ∧ (r : Int) ≠ defV z ∧ AliveP f i (k + 1) r)) := fun h => by have := h.1; rw [hc] at this; cases this
            clear hcb hk1 hc
            go_wp2_with fail
            go_roundw
            case rel => exact ⟨k + 1, by omega, by go_num, HBV5.out.1, HBE5.out, HNX.out HN.out⟩
            case measure => simp [intOf]; omega
          · have HN : Hid (¬ (callB z.op = true ∧ (r : Int) ≠ defV z ∧ AliveP f i (k + 1) r)) := fun h => h.2.1 hdp.symm
            have hq1 : (defV z != (r : Int)) = false := by simp [hdp]
            have hk2 := hk1 hc
            clear hcb hk1 hc hdp
            rcases hk2 with h1 | ⟨h1, h2⟩
            all_goals
              go_wp2_with fail
              refine (HID.out _).mono ?_
              rintro e w8 ⟨rfl, hb8⟩
              have HB8 := Lib.hid (HBV5.out.1.below hb8)
              have HBE8 := Lib.hid (HBE5.out.trans (hb8.mono HBE5.out.size))
              clear hb8 d0 d1 d2 d3 d4 d5
              go_wp2_with fail
              go_roundw
              case rel => exact ⟨k + 1, by omega, by go_num, HB8.out, HBE8.out, HNX.out HN.out⟩
              case measure => simp [intOf]; omega
          · have HC : Hid (callB z.op = true ∧ (r : Int) ≠ defV z) := ⟨hc, fun h => hdp h.symm⟩
            have hq1 : (defV z != (r : Int)) = true := by simp [hdp]
            have hk2 := hk1 hc
            clear hcb hk1 hc hdp
            rcases hk2 with h1 | ⟨h1, h2⟩
            all_goals
              go_wp2_with fail
              refine (HID.out _).mono ?_
              rintro e w8 ⟨rfl, hb8⟩
              have HB8 := Lib.hid (HBV5.out.1.below hb8)
              have HBE8 := Lib.hid (HBE5.out.trans (hb8.mono HBE5.out.size))
              have c0 := HB8.out.box.cell 0
              have c1 := HB8.out.box.cell 1
              have c2 := HB8.out.box.cell 2
              have c3 := HB8.out.box.cell 3
              simp only [List.getElem?_cons_zero, List.getElem?_cons_succ] at c0 c1 c2 c3
              rw [HSN.out] at c3
              have HA20 := Lib.hid (HAL.out w8 HB8.out.be i (k + 1) r hlt (by omega) (by omega) (by omega))
              have ek1 : ((k + 1 : Nat) : Int) = (k : Int) + 1 := by omega
              rw [ek1] at HA20
              clear hb8 d0 d1 d2 d3 d4 d5 ek1
              go_wp2_with fail
              refine HA20.out.mono ?_
              rintro e w9 ⟨t, rfl, ht, hb9⟩
              have HB9 := Lib.hid (HB8.out.below hb9)
              have HBE9 := Lib.hid (HBE8.out.trans (hb9.mono HBE8.out.size))
              cases t with
              | true =>
                have HCY := Lib.hid (ht.1 rfl)
                clear ht hb9 c0 c1 c2 c3
                go_wp2_with fail
                go_ret
                exact ⟨true, rfl, ⟨fun _ => ⟨i, hlt, k, z, HZQ.out, HC.out.1, HC.out.2, HCY.out⟩, fun _ => rfl⟩, HB9.out.be⟩
              | false =>
                have HN : Hid (¬ (callB z.op = true ∧ (r : Int) ≠ defV z ∧ AliveP f i (k + 1) r)) := fun h => by have := ht.2 h.2.2; cases this
                clear ht hb9 c0 c1 c2 c3
                go_wp2_with fail
                go_roundw
                case rel => exact ⟨k + 1, by omega, by go_num, HB9.out, HBE9.out, HNX.out HN.out⟩
                case measure => simp [intOf]; omega
        ·
          have HN : Hid (¬ KeptP f (i + 1) r) := fun ⟨i', h2, k', x, h4, h5⟩ => by
            by_cases e : i' = i
            · subst e
              rw [← HBK.out] at h4
              exact HNK.out ⟨k', x, by have := (List.getElem?_eq_some_iff.1 h4).1; omega, h4, h5⟩
            · exact HNO.out ⟨i', by omega, k', x, h4, h5⟩
          go_wp2_with fail
          go_roundw
          case rel => exact ⟨i + 1, by omega, by go_num, HBX.out, HN.out⟩
          case measure => simp [intOf]; omega
    · have ei : nb = i := by omega
      subst ei
      go_wp2_with fail
      go_ret
      exact ⟨false, rfl, ⟨fun h => (by cases h), fun h => (HNO.out h).elim⟩, HBX.out.be⟩

/-- a function's box and an allocation's box -/
structure BoxP (f : VF) (a : AL) (w wr : World) (pf pb : Nat) (pa sa ra la : Option Addr) (n : Nat) : Prop where
  be : Below w.heap.size w wr
  bf : Blk wr pf 25 [.int .i64 f.name, .slice pa f.pn f.pc, .int .i64 f.regs, .slice sa f.sn f.sc]
  ba : Blk wr pb 27 [.slice ra n a.rc, .slice la n a.sc, .int .i64 a.k]
theorem BoxP.below {f : VF} {a : AL} {w wr w' : World} {pf pb : Nat} {pa sa ra la : Option Addr} {n : Nat} (h : BoxP f a w wr pf pb pa sa ra la n) (hb : Below wr.heap.size wr w') : BoxP f a w w' pf pb pa sa ra la n := ⟨h.be.trans (hb.mono h.be.size), h.bf.below hb h.bf.lt, h.ba.below hb h.ba.lt⟩
theorem AL.cellR {a : AL} {w wx : World} (h : a.Ok w) (hb : Below w.heap.size w wx) {n r : Nat} (hn : a.rn = n) (hr : r < n) : ∃ g off, a.ra = some ⟨g, off, none⟩ ∧ wx.cell? ⟨g, off + r, none⟩ = some (.int .i64 (a.reg.getD r 0)) := by
  have hl : a.reg.length = a.rn := by simpa using h.rcame.count
  obtain ⟨g, off, ha, hg, hc⟩ := h.rcame.ints (by omega)
  refine ⟨g, off, ha, ?_⟩
  have h1 := hc r (by omega)
  rw [List.getD_eq_getElem?_getD, List.getElem?_eq_getElem (by omega)]
  exact (hb.cell (p := ⟨g, off + r, none⟩) hg).trans h1
theorem AL.cellS {a : AL} {w wx : World} (h : a.Ok w) (hb : Below w.heap.size w wx) {n r : Nat} (hn : a.sn = n) (hr : r < n) : ∃ g off, a.sa = some ⟨g, off, none⟩ ∧ wx.cell? ⟨g, off + r, none⟩ = some (.int .i64 (a.slot.getD r (-1))) := by
  have hl : a.slot.length = a.sn := by simpa using h.scame.count
  obtain ⟨g, off, ha, hg, hc⟩ := h.scame.ints (by omega)
  refine ⟨g, off, ha, ?_⟩
  have h1 := hc r (by omega)
  rw [List.getD_eq_getElem?_getD, List.getElem?_eq_getElem (by omega)]
  exact (hb.cell (p := ⟨g, off + r, none⟩) hg).trans h1
set_option maxRecDepth 100000 in
set_option maxHeartbeats 8000000 in
theorem placed_any (w : World) (f : VF) (hf : f.Ok w) (a : AL) (ha : a.Ok w) (n nb : Nat) (k : Int) (hk : I64 k) (hok : FnOk f n nb) (hrn : a.rn = n) (hsn : a.sn = n) (hsl : ∀ z ∈ a.slot, z ≤ 8192) (hp : PlacedA f n nb k a) :
    Calls Try.prog 28 #[f.v, a.v, .int .i64 k] w (fun e w' => e = .returned (.bool true) ∧ Below w.heap.size w w') := by
  have hb0 : BoxP f a w ((w.alloc (.cells #[.int .i64 f.name, .slice f.pa f.pn f.pc, .int .i64 f.regs, .slice f.sa f.sn f.sc] 25)).alloc (.cells #[.slice a.ra n a.rc, .slice a.sa n a.sc, .int .i64 a.k] 27)) w.heap.size (w.heap.size + 1) f.pa f.sa a.ra a.sa n := by
    have h2 := Blk.new (w.alloc (.cells #[.int .i64 f.name, .slice f.pa f.pn f.pc, .int .i64 f.regs, .slice f.sa f.sn f.sc] 25)) [.slice a.ra n a.rc, .slice a.sa n a.sc, .int .i64 a.k] 27
    rw [World.size_alloc] at h2
    exact ⟨((Below.refl _ _).alloc (Nat.le_refl _) _).alloc (by simp) _, (Blk.new w [.int .i64 f.name, .slice f.pa f.pn f.pc, .int .i64 f.regs, .slice f.sa f.sn f.sc] 25).alloc _, h2⟩
  have HAE := fun wx (h : Below w.heap.size w wx) => allocError_any wx f (hf.below h) a (ha.below h)
  have HSP := fun wx (h : Below w.heap.size w wx) (r : Nat) (h1 : r < n) => spot_any wx a (ha.below h) r (by omega) (by omega) hsl
  have HOC := fun wx (h : Below w.heap.size w wx) (r : Nat) (h1 : 1 ≤ r ∧ r < n) => occurs_any wx f (hf.below h) n nb hok r h1
  have HKE := fun wx (h : Below w.heap.size w wx) (r : Nat) (h1 : 1 ≤ r ∧ r < n) => kept_any wx f (hf.below h) n nb hok r h1
  have HRC := fun wx (h : Below w.heap.size w wx) (r : Nat) (h1 : r < n) => AL.cellR ha h hrn h1
  have HSC := fun wx (h : Below w.heap.size w wx) (r : Nat) (h1 : r < n) => AL.cellS ha h hsn h1
  have hrl := ha.rcame.le
  have hrm := ha.rcame.max
  have hsl2 := ha.scame.le
  have hsm := ha.scame.max
  rw [hp.err] at HAE
  rw [hrn] at hrl
  rw [hsn] at hsl2
  unfold VF.v AL.v at HAE ⊢
  unfold VF.v at HOC HKE
  unfold AL.v at HSP
  rw [hrn, hsn] at HAE HSP ⊢
  have HP := Lib.hid hp
  have HREG := Lib.hid hok.regs
  have hn2 := hok.n2
  obtain ⟨pa, hpa⟩ : ∃ s, s = f.pa := ⟨_, rfl⟩
  obtain ⟨sa, hsa⟩ : ∃ s, s = f.sa := ⟨_, rfl⟩
  obtain ⟨ra, hra⟩ : ∃ s, s = a.ra := ⟨_, rfl⟩
  obtain ⟨la, hla⟩ : ∃ s, s = a.sa := ⟨_, rfl⟩
  simp only [← hpa, ← hsa, ← hra, ← hla] at hb0 HAE HSP HOC HKE HRC HSC ⊢
  have HB0 := Lib.hid hb0
  have HAE := Lib.hid HAE
  have HSP := Lib.hid HSP
  have HOC := Lib.hid HOC
  have HKE := Lib.hid HKE
  have HRC := Lib.hid HRC
  have HSC := Lib.hid HSC
  have hk1 := hk.1
  have hk2 := hk.2
  clear hf ha hok hrn hsn hsl hp hb0 hpa hsa hra hla hk
  go_enter Try.func28, Try.ntmps28
  go_upto_region 1 with fail
  generalize (w.alloc (.cells #[.int .i64 f.name, .slice pa f.pn f.pc, .int .i64 f.regs, .slice sa f.sn f.sc] 25)).alloc (.cells #[.slice ra n a.rc, .slice la n a.sc, .int .i64 a.k] 27) = w1 at HB0 ⊢
  obtain ⟨pf, hpf⟩ : ∃ x, x = w.heap.size := ⟨_, rfl⟩
  have HB1 : Hid (BoxP f a w w1 pf (pf + 1) pa sa ra la n) := by rw [hpf]; exact HB0.out
  rw [← hpf]
  clear hpf HB0
  have c0 := HB1.out.bf.cell 0
  have c1 := HB1.out.bf.cell 1
  have c2 := HB1.out.bf.cell 2
  have c3 := HB1.out.bf.cell 3
  have a0 := HB1.out.ba.cell 0
  have a1 := HB1.out.ba.cell 1
  have a2 := HB1.out.ba.cell 2
  simp only [List.getElem?_cons_zero, List.getElem?_cons_succ] at c0 c1 c2 c3 a0 a1 a2
  go_wp2_with fail
  refine (HAE.out w1 HB1.out.be).mono ?_
  rintro e w2 ⟨rfl, hb2⟩
  have HB2 := Lib.hid (HB1.out.below hb2)
  clear hb2 HB1 c0 c1 c2 c3 a0 a1 a2 HAE
  have c2 := HB2.out.bf.cell 2
  simp only [List.getElem?_cons_zero, List.getElem?_cons_succ] at c2
  rw [HREG.out] at c2
  go_wp2_with fail
  clear c2
  go_loopw [14] (fun u wr => ∃ r : Nat, r ≤ n ∧ u = .int .i64 (r : Int) ∧ BoxP f a w wr pf (pf + 1) pa sa ra la n) (fun u _ => n - (intOf u).toNat)
  case atStart => exact ⟨0, Nat.zero_le _, rfl, HB2.out⟩
  case round =>
    clear HB2
    obtain ⟨r, hr, rfl, hbx⟩ := hrel
    have HBX := Lib.hid hbx
    clear hbx
    by_cases hlt : r < n
    · have hle := HP.out.le r hlt
      have hsp := HP.out.spot r hlt
      have hke := HP.out.kept r
      obtain ⟨p, hpp⟩ : ∃ p, p = plc 100 a r := ⟨_, rfl⟩
      have HS1 := Lib.hid (HSP.out wr HBX.out.be r hlt)
      rw [← hpp] at HS1 hsp
      obtain ⟨zr, hzr⟩ : ∃ z, z = a.reg.getD r 0 := ⟨_, rfl⟩
      obtain ⟨zs, hzs⟩ : ∃ z, z = a.slot.getD r (-1) := ⟨_, rfl⟩
      rw [← hzr] at hle
      rw [← hzs] at hke
      have HCR := Lib.hid fun wx (h : Below w.heap.size w wx) => HRC.out wx h r hlt
      have HCS := Lib.hid fun wx (h : Below w.heap.size w wx) => HSC.out wx h r hlt
      rw [← hzr] at HCR
      rw [← hzs] at HCS
      have HSPQ := Lib.hid hsp
      have HKEQ := Lib.hid hke
      have q9 : decide (k < zr) = false := by simp; omega
      have a0 := HBX.out.ba.cell 0
      have a1 := HBX.out.ba.cell 1
      have a2 := HBX.out.ba.cell 2
      simp only [List.getElem?_cons_zero, List.getElem?_cons_succ] at a0 a1 a2
      clear hpp hzr hzs hsp hke
      by_cases h0 : r = 0
      ·
        subst h0
        have hp0 : p = 0 := Decidable.byContradiction fun h => by have := (HSPQ.out.1 h).1; omega
        rw [hp0] at HS1
        clear hp0
        go_wp2_with fail
        refine HS1.out.mono ?_
        rintro e w3 ⟨rfl, hb3⟩
        have HB3 := Lib.hid (HBX.out.below hb3)
        obtain ⟨g, off, hra, cr⟩ := HCR.out w3 HB3.out.be
        subst hra
        rw [Nat.add_zero] at cr
        clear hb3 a0 a1 a2 HBX
        have a0 := HB3.out.ba.cell 0
        have a1 := HB3.out.ba.cell 1
        simp only [List.getElem?_cons_zero, List.getElem?_cons_succ] at a0 a1
        go_wp2_with fail
        go_roundw
        case rel => exact ⟨1, by omega, by go_num, HB3.out⟩
        case measure => simp [intOf]; omega
      ·
        have hr1 : 1 ≤ r := by omega
        have hrI : (0 : Int) < (r : Int) := by omega
        go_wp2_with fail
        refine HS1.out.mono ?_
        rintro e w3 ⟨rfl, hb3⟩
        have HB3 := Lib.hid (HBX.out.below hb3)
        have HO1 := Lib.hid (HOC.out w3 HB3.out.be r ⟨hr1, hlt⟩)
        clear hb3 a0 a1 a2 HBX HS1
        have c0 := HB3.out.bf.cell 0
        have c1 := HB3.out.bf.cell 1
        have c2 := HB3.out.bf.cell 2
        have c3 := HB3.out.bf.cell 3
        simp only [List.getElem?_cons_zero, List.getElem?_cons_succ] at c0 c1 c2 c3
        go_wp2_with fail
        refine HO1.out.mono ?_
        rintro e w4 ⟨t, rfl, ht, hb4⟩
        have HB4 := Lib.hid (HB3.out.below hb4)
        have HK1 := Lib.hid (HKE.out w4 HB4.out.be r ⟨hr1, hlt⟩)
        have hpt : (p != 0) = t := by
          have h1 : p ≠ 0 ↔ t = true := HSPQ.out.trans ⟨fun h => ht.2 h.2, fun h => ⟨hr1, ht.1 h⟩⟩
          cases t
          · simp at h1; simp [h1]
          · simp at h1; simp [h1]
        obtain ⟨g, off, hra, cr⟩ := HCR.out w4 HB4.out.be
        subst hra
        clear hb4 c0 c1 c2 c3 HB3 HO1 ht
        have c0 := HB4.out.bf.cell 0
        have c1 := HB4.out.bf.cell 1
        have c2 := HB4.out.bf.cell 2
        have c3 := HB4.out.bf.cell 3
        have a0 := HB4.out.ba.cell 0
        simp only [List.getElem?_cons_zero, List.getElem?_cons_succ] at c0 c1 c2 c3 a0
        cases t
        all_goals
          go_wp2_with fail
          refine HK1.out.mono ?_
          rintro e w5 ⟨u, rfl, hu, hb5⟩
          have HB5 := Lib.hid (HB4.out.below hb5)
          obtain ⟨g2, off2, hla, cs⟩ := HCS.out w5 HB5.out.be
          subst hla
          clear hb5 c0 c1 c2 c3 a0 cr HB4 HK1
          have a1 := HB5.out.ba.cell 1
          simp only [List.getElem?_cons_zero, List.getElem?_cons_succ] at a1
          cases u with
          | true =>
            have h9 := HKEQ.out hr1 hlt (hu.1 rfl)
            have q8 : decide (zs < 0) = false := by simp; omega
            clear hu
            go_wp2_with fail
            go_roundw
            case rel => exact ⟨r + 1, by omega, by go_num, HB5.out⟩
            case measure => simp [intOf]; omega
          | false =>
            clear hu
            go_wp2_with fail
            go_roundw
            case rel => exact ⟨r + 1, by omega, by go_num, HB5.out⟩
            case measure => simp [intOf]; omega
    · have er : n = r := by omega
      subst er
      go_wp2_with fail
      go_ret
      exact ⟨rfl, HBX.out.be⟩
end Go.Proofs.Ytlaogkbdjkofaaa
