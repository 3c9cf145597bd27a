/- The walk of LinkCalls (printed by linkcalls.py). -/
import Derived.Test.YtkafbihlmhdjeabLnkCont
import Derived.Test.YtkafbihlmhdjeabLinkK
namespace Go.Proofs.Ytkafbihlmhdjeab
open Go.RowKit
set_option linter.unusedVariables false
set_option linter.unusedSimpArgs false

theorem callsIn {xs : List LF} {c : Nat → Nat} {m : Nat} (hm : Merged xs c) (hc : chkE xs = 0) (hl : ∀ f ∈ xs, f.its.length = f.il) (h : m < xs.length) : LinkIn xs c m :=
  ⟨fun k hk => by rw [fnAt_get hk]; exact chkE_fn hc hl _ (List.getElem_mem hk), hm.le, hm.rep, h⟩
theorem came_drop {w : World} {g off : Nat} {len cap : Nat} {zs : List Int} (h : Came w (some ⟨g, off, none⟩) len cap 1 (zs.map intCells)) (k : Nat) (hk : k ≤ len) : Came w (some ⟨g, off + k, none⟩) (len - k) (cap - k) 1 ((zs.drop k).map intCells) := by
  have hc := h.count
  have hle := h.le
  have hmx := h.max
  refine ⟨by simp at hc ⊢; omega, by omega, by omega, fun h => by simp at h, ?_, fun h0 _ => ?_⟩
  · intro v hv
    obtain ⟨z, _, rfl⟩ := List.mem_map.1 hv
    rfl
  · obtain ⟨b, o, ha, hb, hcell⟩ := h.cells (by omega) (by omega)
    simp only [Option.some.injEq, Addr.mk.injEq, and_true] at ha
    obtain ⟨rfl, rfl⟩ := ha
    refine ⟨g, off + k, rfl, hb, fun i v hv j hj => ?_⟩
    have := hcell (k + i) v (by rw [List.getElem?_map] at hv ⊢; rw [List.getElem?_drop] at hv; exact hv) j hj
    rw [← this]
    congr 2
    omega
/-- what the walk is handed: addresses and what is decoded there -/
structure CallsOk (xs : List LF) (c : Nat → Nat) (P : Nat → Int) (code : List Int) : Prop where
  len : code.length ≤ 16384
  pos : ∀ f, f < xs.length → 0 ≤ P (bpos xs c (c f)) ∧ P (bpos xs c (c f)) ≤ 16384
  dec : ∀ i t (hi : i < xs.length) (hc : c i = i) (ht : t < (fnAt xs i).its.length), ∃ (n9 : Int) (sz pj : Nat), P (bpos xs c i + t) = (pj : Int) ∧
    decode (code.drop pj) = ⟨(fnAt xs i).its[t].op, (fnAt xs i).its[t].d, (fnAt xs i).its[t].a, (fnAt xs i).its[t].b, n9, (sz : Int), 0⟩ ∧ P (bpos xs c i + t + 1) = ((pj + sz : Nat) : Int) ∧ 1 ≤ sz ∧ sz ≤ 2 ∧ pj + sz ≤ code.length ∧
    ∀ y ∈ (fnAt xs i).calls, y.item = (t : Int) → ((fnAt xs i).its[t].op = 20 → ((pj + sz : Nat) : Int) + n9 = P (bpos xs c (c y.fn.toNat))) ∧ ((fnAt xs i).its[t].op = 11 → n9 = 2 * P (bpos xs c (c y.fn.toNat)) + 1)
theorem calls_ok {xs : List LF} {c : Nat → Nat} {m : Nat} (h : LinkIn xs c m) {long : Bool} {L : Nat → Bool} (h16 : (finS xs c m).1.length ≤ 16384) (hS : SizesOf (finS xs c m).1 (finS xs c m).1.length L) (hfit : posL (allL (finS xs c m).1 long L) (finS xs c m).1.length ≤ 16384) :
    CallsOk xs c (posL (allL (finS xs c m).1 long L)) (patch (posL (allL (finS xs c m).1 long L)) (finS xs c m).2 (codeTo (finS xs c m).1 (allL (finS xs c m).1 long L) (finS xs c m).1.length)) := by
  have hlen := finS_len (l := xs) (c := c) (main := m)
  refine ⟨?_, fun f hf => ?_, fun i t hi hc ht => ?_⟩
  · have h7 := codeTo_len (finS xs c m).1 (allL (finS xs c m).1 long L) (finS xs c m).1.length
    rw [patch_len]
    omega
  · have h1 := (h.toBv hf).2
    have h2 := posL_bd (allL (finS xs c m).1 long L) (bpos xs c (c f))
    have h3 := pos_ord (allL (finS xs c m).1 long L) (show bpos xs c (c f) ≤ (finS xs c m).1.length by omega)
    omega
  · obtain ⟨n9, h1, h2⟩ := h.dec (long := long) (by rw [← hlen]; exact h16) hS hi hc ht
    have hn := bpos_next xs c hi hc
    have hb := posL_bd (allL (finS xs c m).1 long L) (bpos xs c i + t)
    have h5 : posL (allL (finS xs c m).1 long L) (bpos xs c i + t + 1) = posL (allL (finS xs c m).1 long L) (bpos xs c i + t) + (if allL (finS xs c m).1 long L (bpos xs c i + t) = true then 2 else 1) := rfl
    have h6 := pos_ord (allL (finS xs c m).1 long L) (show bpos xs c i + t + 1 ≤ (finS xs c m).1.length by omega)
    have h7 := codeTo_len (finS xs c m).1 (allL (finS xs c m).1 long L) (finS xs c m).1.length
    have h8 := patch_len (posL (allL (finS xs c m).1 long L)) (finS xs c m).2 (codeTo (finS xs c m).1 (allL (finS xs c m).1 long L) (finS xs c m).1.length)
    have e1 : (if allL (finS xs c m).1 long L (bpos xs c i + t) = true then (2 : Int) else 1) = ((if allL (finS xs c m).1 long L (bpos xs c i + t) = true then 2 else 1 : Nat) : Int) := by split <;> rfl
    rw [e1] at h1 h5
    have h9 : 1 ≤ (if allL (finS xs c m).1 long L (bpos xs c i + t) = true then 2 else 1 : Nat) ∧ (if allL (finS xs c m).1 long L (bpos xs c i + t) = true then 2 else 1 : Nat) ≤ 2 := by split <;> omega
    generalize (if allL (finS xs c m).1 long L (bpos xs c i + t) = true then 2 else 1 : Nat) = sz at h1 h5 h9
    have h10 : posL (allL (finS xs c m).1 long L) (bpos xs c i + t + 1) = (((posL (allL (finS xs c m).1 long L) (bpos xs c i + t)).toNat + sz : Nat) : Int) := by omega
    refine ⟨n9, sz, (posL (allL (finS xs c m).1 long L) (bpos xs c i + t)).toNat, by omega, h1, h10, h9.1, h9.2, by omega, fun y hy hyt => ?_⟩
    rw [← h10]
    exact h2 y hy hyt
set_option maxRecDepth 100000 in
set_option maxHeartbeats 8000000 in
theorem linkCalls_zero (a : Option Addr) (len cap : Nat) (l : List LF) (w : World) (long : Bool) (h : Lnk w a len cap l) (hc : len = 0) :
    Calls Try.prog 6 #[.slice a len cap, .bool long] w fun e w' => e = .returned (.bool true) ∧ Below w.heap.size w w' := by
  have HFACT := fun w => Lib.hid (linkFactK_ok w)
  have hle := h.came.le
  have hmx := h.came.max
  have hmx0 : max (12 : Int) 0 = 12 := by omega
  subst hc
  have HTK := Lib.hid (h.cut 0 (by omega))
  obtain ⟨xs, hxs⟩ : ∃ xs, xs = l.take 0 := ⟨_, rfl⟩
  rw [← hxs] at HTK
  clear hxs h
  go_enter Try.func6, Try.ntmps6
  go_wp2_with fail
  refine (HFACT _).out.mono ?_
  rintro e w1 ⟨rfl, hb⟩
  have HB1 := Lib.hid hb
  have HL1 := Lib.hid (HTK.out.below hb)
  clear hb HFACT HTK
  go_wp2_with fail
  refine (merge_any w1 _ _ _ xs HL1.out).mono ?_
  rintro e w2 ⟨hb2, hcs⟩
  have HB2 := Lib.hid (HB1.out.trans (hb2.mono HB1.out.size))
  have HL2 := Lib.hid (HL1.out.below hb2)
  obtain ⟨ce, hce⟩ : ∃ ce, ce = chkE xs := ⟨_, rfl⟩
  rw [← hce] at hcs
  have HCE := Lib.hid hce
  clear hb2 hce HL1 HB1
  rcases hcs with ⟨hne, rfl⟩ | ⟨rfl, g, c, rfl, hcl, hg, hm⟩
  · have hne' : (ce != 0) = true := by simp [hne]
    clear hne
    go_wp2_with fail
    go_ret
    exact ⟨rfl, HB2.out⟩
  · clear hcl hm hg
    go_wp2_with fail
    go_ret
    exact ⟨rfl, HB2.out⟩

set_option maxRecDepth 100000 in
set_option maxHeartbeats 8000000 in
theorem linkCalls_big (a : Option Addr) (len cap : Nat) (l : List LF) (w : World) (long : Bool) (h : Lnk w a len cap l) (hc : 12 < len) :
    Calls Try.prog 6 #[.slice a len cap, .bool long] w fun e w' => e = .returned (.bool true) ∧ Below w.heap.size w w' := by
  have HFACT := fun w => Lib.hid (linkFactK_ok w)
  have hle := h.came.le
  have hmx := h.came.max
  have hmx0 : max (12 : Int) 0 = 12 := by omega
  have HTK := Lib.hid (h.cut 12 (by omega))
  obtain ⟨xs, hxs⟩ : ∃ xs, xs = l.take 12 := ⟨_, rfl⟩
  rw [← hxs] at HTK
  clear hxs h
  go_enter Try.func6, Try.ntmps6
  go_wp2_with fail
  refine (HFACT _).out.mono ?_
  rintro e w1 ⟨rfl, hb⟩
  have HB1 := Lib.hid hb
  have HL1 := Lib.hid (HTK.out.below hb)
  clear hb HFACT HTK
  go_wp2_with fail
  refine (merge_any w1 _ _ _ xs HL1.out).mono ?_
  rintro e w2 ⟨hb2, hcs⟩
  have HB2 := Lib.hid (HB1.out.trans (hb2.mono HB1.out.size))
  have HL2 := Lib.hid (HL1.out.below hb2)
  obtain ⟨ce, hce⟩ : ∃ ce, ce = chkE xs := ⟨_, rfl⟩
  rw [← hce] at hcs
  have HCE := Lib.hid hce
  clear hb2 hce HL1 HB1
  rcases hcs with ⟨hne, rfl⟩ | ⟨rfl, g, c, rfl, hcl, hg, hm⟩
  · have hne' : (ce != 0) = true := by simp [hne]
    clear hne
    go_wp2_with fail
    go_ret
    exact ⟨rfl, HB2.out⟩
  have HCL := Lib.hid hcl
  have HM := Lib.hid hm
  have HXL : Hid (xs.length = 12) := HL2.out.len
  have HN : Hid ((12 : Nat) ≤ 12) := by unfold Hid; omega
  have HCHK : Hid (chkE xs = 0) := HCE.out.symm
  have HI : Hid (LinkIn xs c 11) := callsIn hm HCHK.out (fun f hf => (HL2.out.ok f hf).ilen) (by have := HXL.out; omega)
  have HLK := Lib.hid (link_any w2 a 12 cap xs HL2.out HCHK.out g c hcl 11 HI.out long)
  clear hcl hm hg HCE
  go_wp2_with fail
  refine HLK.out.mono ?_
  rintro e w5 (⟨_, rfl, hb5⟩ | ⟨h16, hb5, L, vc, vs, vm, ga, rfl, hok⟩)
  · have HB5 : Hid (Below w.heap.size w (w5.alloc (.cells #[.slice none 0 0, .int .i64 0, .slice none 0 0, .slice none 0 0, .slice none 0 0] 60))) := (HB2.out.trans (hb5.mono HB2.out.size)).alloc (by have := hb5.size; have := HB2.out.size; omega) _
    clear hb5 HLK
    go_wp2_with fail
    go_ret
    exact ⟨rfl, HB5.out⟩
  obtain ⟨h1, h2, h3, h4, ⟨vma, vmn, vmc, rfl⟩, h6⟩ := hok
  have hck := calls_ok HI.out h16 h1 h2 (long := long)
  obtain ⟨P, hP⟩ : ∃ P, P = posL (allL (finS xs c 11).1 long L) := ⟨_, rfl⟩
  rw [← hP] at h3 h4 h6 hck
  obtain ⟨code, hcd⟩ : ∃ code, code = patch P (finS xs c 11).2 (codeTo (finS xs c 11).1 (allL (finS xs c 11).1 long L) (finS xs c 11).1.length) := ⟨_, rfl⟩
  rw [← hcd] at h3 hck
  clear hcd hP h1 h2 h16
  obtain ⟨sts, hst⟩ : ∃ sts, sts = (repsL c 12).map fun r => P (bpos xs c r) := ⟨_, rfl⟩
  rw [← hst] at h4
  obtain ⟨mc, hmc⟩ : ∃ mc, mc = code.length := ⟨_, rfl⟩
  obtain ⟨ms, hms⟩ : ∃ ms, ms = sts.length := ⟨_, rfl⟩
  rw [← hmc] at h3
  rw [← hms] at h4
  obtain ⟨vca, vcc, rfl⟩ := ownG_shape h3
  obtain ⟨vsa, vsc, rfl⟩ := ownG_shape h4
  have hcode := (came_of_owns (E := intCells) (zs := code) (fun z => ⟨_, rfl⟩) h3).2
  have hsts := (came_of_owns (E := intCells) (zs := sts) (fun z => ⟨_, rfl⟩) h4).2
  obtain ⟨gim, hgim⟩ : ∃ gim, gim = w5.heap.size := ⟨_, rfl⟩
  have hb6 : Below w5.heap.size w5 (w5.alloc (.cells #[.slice vca mc vcc, .int .i64 0, .slice vsa ms vsc, .slice vma vmn vmc, .slice none 0 0] 60)) := (Below.refl _ _).alloc (Nat.le_refl _) _
  have HIMG : Hid (Blk (w5.alloc (.cells #[.slice vca mc vcc, .int .i64 0, .slice vsa ms vsc, .slice vma vmn vmc, .slice none 0 0] 60)) gim 60 [.slice vca mc vcc, .int .i64 0, .slice vsa ms vsc, .slice vma vmn vmc, .slice none 0 0]) := by rw [hgim]; exact Blk.new w5 _ _
  have HC6 := Lib.hid ((HCL.out.below hb5).below hb6)
  have HL6 := Lib.hid ((HL2.out.below hb5).below hb6)
  have HCODE := Lib.hid (hcode.below hb6)
  have HSTS := Lib.hid (hsts.below hb6)
  have HAT := Lib.hid (Blk.below h6 hb6 h6.lt)
  have HB6 : Hid (Below w.heap.size w (w5.alloc (.cells #[.slice vca mc vcc, .int .i64 0, .slice vsa ms vsc, .slice vma vmn vmc, .slice none 0 0] 60))) := (HB2.out.trans (hb5.mono HB2.out.size)).trans (hb6.mono (by have := hb5.size; have := HB2.out.size; omega))
  have HCK := Lib.hid hck
  have HST := Lib.hid hst
  have HMC := Lib.hid hmc
  have hmcl := hcode.le
  have hmc16 : mc ≤ 16384 := by rw [hmc]; exact hck.len
  have hmcx := hcode.max
  clear h3 h4 h6 hb5 hb6 hck hst hmc hms hcode hsts HLK
  go_upto_region 8 with fail
  rw [← hgim]
  clear hgim
  generalize (w5.alloc (.cells #[.slice vca mc vcc, .int .i64 0, .slice vsa ms vsc, .slice vma vmn vmc, .slice none 0 0] 60)) = w6 at HIMG HC6 HL6 HCODE HSTS HAT HB6 ⊢
  have g1 : w6.cell? ⟨gim, 1, none⟩ = some (.int .i64 0) := HIMG.out.cell 1
  go_wp2_with fail
  go_loopw [87] (fun u wr => ∃ i : Nat, i ≤ 12 ∧ u = .int .i64 (i : Int) ∧ Below w6.heap.size w6 wr) (fun u _ => 12 - (intOf u).toNat)
  case atStart => exact ⟨0, Nat.zero_le _, rfl, Below.refl _ _⟩
  clear g1
  case round =>
    obtain ⟨i, hi, rfl, hbe⟩ := hrel
    obtain ⟨wx, hwx⟩ : ∃ wx, wx = wr := ⟨_, rfl⟩
    rw [← hwx] at hbe ⊢
    clear hwx
    by_cases hin : i < 12
    · have hix : i < xs.length := by have := HXL.out; omega
      have hcl := HM.out.le i hix
      have hrp := HM.out.rep i hix
      obtain ⟨gl, off, rfl, hgl, hlc⟩ := came_lfs HL6.out.came (by omega)
      obtain ⟨d0, d1, d2, d3, d4⟩ := (hlc i hix).later hbe hgl
      have HFE : Hid (fnAt xs i = xs[i]) := fnAt_get hix
      have HFO := Lib.hid (HL6.out.ok _ (List.getElem_mem hix))
      generalize xs[i] = f at d0 d1 d2 d3 d4 HFE HFO
      have hglx : gl < wx.heap.size := Nat.lt_of_lt_of_le hgl hbe.size
      have hby : Below wx.heap.size wx (wx.alloc (.cells #[.int .i64 f.name, .slice f.ia f.il f.ic, .slice f.ca f.cl f.cc, .slice f.ma f.ml f.mc, .int .i64 f.size] 53)) := (Below.refl _ _).alloc (Nat.le_refl _) _
      have HFB : Hid (Blk (wx.alloc (.cells #[.int .i64 f.name, .slice f.ia f.il f.ic, .slice f.ca f.cl f.cc, .slice f.ma f.ml f.mc, .int .i64 f.size] 53)) wx.heap.size 53 (lfC f)) := Blk.new wx _ _
      have HBY := Lib.hid (hbe.trans (hby.mono hbe.size))
      have HII : Hid (i < 12) := hin
      obtain ⟨gfb, hgfb⟩ : ∃ gfb, gfb = wx.heap.size := ⟨_, rfl⟩
      clear hby hbe hlc hgl
      go_upto_region 15 with fail
      rw [← hgfb] at HFB ⊢
      clear hgfb
      generalize (wx.alloc (.cells #[.int .i64 f.name, .slice f.ia f.il f.ic, .slice f.ca f.cl f.cc, .slice f.ma f.ml f.mc, .int .i64 f.size] 53)) = wy at HFB HBY ⊢
      clear d0 d1 d2 d3 d4 hglx
      have c0 := (HBY.out.cell (p := ⟨g, i, none⟩) (Blk.lt HC6.out)).trans (HC6.out.cell hin)
      have a0 := (HBY.out.cell (p := ⟨ga, i, none⟩) HAT.out.lt).trans (HAT.out.row hin)
      have a1 := (HBY.out.cell (p := ⟨ga, c i, none⟩) HAT.out.lt).trans (HAT.out.row (i := c i) (by omega))
      rw [hrp] at a1
      have hps := HCK.out.pos i hix
      obtain ⟨pi, hpi⟩ : ∃ pi : Nat, P (bpos xs c (c i)) = (pi : Int) := ⟨(P (bpos xs c (c i))).toNat, by omega⟩
      rw [hpi] at a0 a1 hps
      obtain ⟨ci, hci⟩ : ∃ ci, ci = c i := ⟨_, rfl⟩
      rw [← hci] at c0 a1 hcl
      have HCI := Lib.hid hci
      have HPI := Lib.hid hpi
      clear hci hpi hrp
      by_cases hcie : ci = i
      · have t0 : ((ci : Int) != (i : Int)) = false := by simp [hcie]
        have HCE : Hid (c i = i) := by show _ = _; rw [← HCI.out]; exact hcie
        have m2 := (HBY.out.cell (p := ⟨gim, 2, none⟩) HIMG.out.lt).trans (HIMG.out.cell 2)
        simp only [List.getElem?_cons_zero, List.getElem?_cons_succ] at m2
        have hmem : sts.contains (pi : Int) = true := by
          rw [List.contains_iff_mem, HST.out, ← HPI.out]
          exact List.mem_map.2 ⟨i, by unfold repsL; rw [List.mem_filter]; exact ⟨List.mem_range.2 HII.out, by simp [HCE.out]⟩, by rw [HCE.out]⟩
        have HCON : ∀ wq, Came wq vsa ms vsc 1 (sts.map intCells) → Calls Try.prog 30 #[.slice vsa ms vsc, .int .i64 (pi : Int)] wq fun e w' => e = .returned (.bool true) ∧ w' = wq := fun wq hq => (contains_ints wq vsa ms vsc sts (pi : Int) hq).mono fun e w' h => ⟨by rw [h.1, hmem], h.2.symm⟩
        have HSY := Lib.hid (HSTS.out.below HBY.out)
        have hpp : decide ((pi : Int) < 0) = false := by simp
        have HCON2 := Lib.hid HCON
        clear hcie hcl a1 hmem HCON
        go_wp2_with fail
        go_quiet (first | (go_at_call 30; exact Calls.quiet_of_same (HCON2.out _ (HSY.out.below (below_drewN_self _ _ _)))))
        have HBZ : Hid (Below w6.heap.size w6 (wy.drewN nq)) := HBY.out.trans (below_drewN_self _ _ _)
        have HFZ : Hid (Blk (wy.drewN nq) gfb 53 (lfC f)) := HFB.out.below (below_drewN_self _ _ _) HFB.out.lt
        have e1 : (wy.drewN nq).cell? ⟨gfb, 1, none⟩ = some (.slice f.ia f.il f.ic) := HFZ.out.cell 1
        have a2 := (HBZ.out.cell (p := ⟨ga, i, none⟩) HAT.out.lt).trans (HAT.out.row hin)
        rw [HPI.out] at a2
        have HDEC : Hid (∀ t (ht : t < f.its.length), ∃ (n9 : Int) (sz pj : Nat), P (bpos xs c i + t) = (pj : Int) ∧
          decode (code.drop pj) = ⟨f.its[t].op, f.its[t].d, f.its[t].a, f.its[t].b, n9, (sz : Int), 0⟩ ∧ P (bpos xs c i + t + 1) = ((pj + sz : Nat) : Int) ∧ 1 ≤ sz ∧ sz ≤ 2 ∧ pj + sz ≤ code.length ∧
          ∀ y ∈ f.calls, y.item = (t : Int) → (f.its[t].op = 20 → ((pj + sz : Nat) : Int) + n9 = P (bpos xs c (c y.fn.toNat))) ∧ (f.its[t].op = 11 → n9 = 2 * P (bpos xs c (c y.fn.toNat)) + 1)) := by
          have hfe := HFE.out
          subst hfe
          exact fun t ht => HCK.out.dec i t hix HCE.out ht
        have HFN : Hid (FnOk xs.length f) := by
          have h9 := HI.out.fn i hix
          rwa [HFE.out] at h9
        have HP0 : Hid (P (bpos xs c i) = (pi : Int)) := by have h9 := HPI.out; rw [HCE.out] at h9; exact h9
        generalize wy.drewN nq = wz at HBZ HFZ e1 a2 ⊢
        clear HFB HCON2 HSY a0 m2 c0
        go_wp2_with fail
        go_loopw [11, 12, 147] (fun pv kv u wr => ∃ t kk : Nat, t ≤ f.il ∧ kk ≤ f.cl ∧ u = .int .i64 (t : Int) ∧ pv = .int .i64 (P (bpos xs c i + t)) ∧ kv = .int .i64 (kk : Int) ∧ (∀ q (hq : q < f.calls.length), q < kk ↔ f.calls[q].item < (t : Int)) ∧ Below wz.heap.size wz wr) (fun _ _ u _ => f.il - (intOf u).toNat)
        case atStart => exact ⟨0, 0, Nat.zero_le _, Nat.zero_le _, rfl, by rw [Nat.add_zero, HP0.out], rfl, fun q hq => by have := (HFN.out.calls _ (List.getElem_mem hq)).1; omega, Below.refl _ _⟩
        clear e1 a2
        case round =>
          obtain ⟨t, kk, ht, hkk, rfl, rfl, rfl, hkq, hbe⟩ := hrel
          obtain ⟨wv, hwv⟩ : ∃ wv, wv = wr := ⟨_, rfl⟩
          rw [← hwv] at hbe ⊢
          clear hwv
          have hilen := HFO.out.ilen
          have hclen := HFO.out.clen
          by_cases htl : t < f.il
          · have htI : t < f.its.length := by omega
            obtain ⟨n9, sz, pj, p1, p2, p3, p4, p5, p6, p7⟩ := HDEC.out t htI
            rw [p1]
            have hmcl' := HMC.out
            have hpm : pj < mc := by omega
            have hpmI : (pj : Int) < (mc : Int) := by omega
            have hbw : Below w6.heap.size w6 wv := HBZ.out.trans (hbe.mono HBZ.out.size)
            have m0 := (hbw.cell (p := ⟨gim, 0, none⟩) HIMG.out.lt).trans (HIMG.out.cell 0)
            simp only [List.getElem?_cons_zero] at m0
            have hcv := HCODE.out.below hbw
            obtain ⟨g1, o1, ea, hg1l, _⟩ := hcv.ints (by omega)
            subst ea
            have hcdrop := came_drop hcv pj (by omega)
            have hopI := HFO.out.its _ (List.getElem_mem htI)
            have hcall := HFN.out.calls
            have HIT : Hid (∀ y ∈ f.calls, y.item = (t : Int) → f.its[t].op = 20 ∨ f.its[t].op = 11) := fun y hy he => by
              have h9 := (hcall y hy).2.2.2.2.1
              rw [he, Int.toNat_natCast, List.getD_eq_getElem?_getD, List.getElem?_eq_getElem htI] at h9
              exact h9
            generalize f.its[t] = x at p2 p7 hopI HIT
            obtain ⟨xo, xd, xa, xb, xn, xt⟩ := x
            simp only at p2 p7 HIT
            have HD := Lib.hid (decode_any wv (some ⟨g1, o1 + pj, none⟩) (mc - pj) (vcc - pj) (code.drop pj) hcdrop)
            rw [p2] at HD
            have HP3 := Lib.hid p3
            have HP7 := Lib.hid p7
            have HKQ := Lib.hid hkq
            have HBV := Lib.hid hbe
            have hpv : pj < vcc := by omega
            have hszI : 1 ≤ sz ∧ sz ≤ 2 := ⟨p4, p5⟩
            have hpjb : pj + sz ≤ mc := by omega
            clear p1 p2 p3 p4 p5 p6 p7 hcv hcdrop hkq hbw hopI hcall hilen hmcl' hg1l
            go_wp2_with fail
            refine HD.out.mono ?_
            rintro e w7 ⟨rfl, hb7⟩
            simp only [Dec.val]
            have HB7 := Lib.hid (HBV.out.trans (hb7.mono HBV.out.size))
            have hil16 : f.il ≤ 16384 := by have := HFN.out.short; have := HFO.out.ilen; omega
            have hcl16 : f.cl ≤ 16384 := by have := HFN.out.short; have := HFN.out.few; have := HFO.out.clen; omega
            clear hb7 HD m0
            obtain ⟨gop, hgop⟩ : ∃ gop, gop = w7.heap.size := ⟨_, rfl⟩
            have OPB : Hid (Blk (w7.alloc (.cells #[.int .i64 xo, .int .i64 xd, .int .i64 xa, .int .i64 xb, .int .i64 n9] 36)) gop 36 [.int .i64 xo, .int .i64 xd, .int .i64 xa, .int .i64 xb, .int .i64 n9]) := by rw [hgop]; exact Blk.new w7 _ _
            have HB8 : Hid (Below wz.heap.size wz (w7.alloc (.cells #[.int .i64 xo, .int .i64 xd, .int .i64 xa, .int .i64 xb, .int .i64 n9] 36))) := HB7.out.alloc HB7.out.size _
            go_upto_region 30 with fail
            rw [← hgop]
            clear hgop
            generalize (w7.alloc (.cells #[.int .i64 xo, .int .i64 xd, .int .i64 xa, .int .i64 xb, .int .i64 n9] 36)) = w8 at OPB HB8 ⊢
            have b2 : w8.cell? ⟨gfb, 2, none⟩ = some (.slice f.ca f.cl f.cc) := (HB8.out.cell (p := ⟨gfb, 2, none⟩) HFZ.out.lt).trans (HFZ.out.cell 2)
            have HW8 : Hid (Below w6.heap.size w6 w8) := HBZ.out.trans (HB8.out.mono HBZ.out.size)
            have o0 : w8.cell? ⟨gop, 0, none⟩ = some (.int .i64 xo) := OPB.out.cell 0
            have o4 : w8.cell? ⟨gop, 4, none⟩ = some (.int .i64 n9) := OPB.out.cell 4
            by_cases hkc : kk < f.cl
            · have hkcI : (kk : Int) < (f.cl : Int) := by omega
              have hkl : kk < f.calls.length := by omega
              obtain ⟨gc2, oc2, hca, hgc2, hlcs⟩ := came_lcs (HFO.out.ccame.below HW8.out) (by omega)
              obtain ⟨x0, x1⟩ := hlcs kk hkl
              rw [hca] at b2
              have hq9 := HKQ.out
              have hne : ¬ f.calls[kk].item < (t : Int) := fun e => absurd ((hq9 kk hkl).2 e) (Nat.lt_irrefl _)
              by_cases hit : f.calls[kk].item = (t : Int)
              · have HKN : Hid (∀ q (hq : q < f.calls.length), q < kk + 1 ↔ f.calls[q].item < ((t + 1 : Nat) : Int)) := fun q hq => by
                  have h1 := hq9 q hq
                  rcases Nat.lt_trichotomy q kk with h | h | h
                  · have := h1.1 h; constructor <;> intro _ <;> omega
                  · subst h; constructor <;> intro _ <;> omega
                  · have := List.pairwise_iff_getElem.1 HFN.out.order kk q hkl hq h; constructor <;> intro _ <;> omega
                have hp7 := HP7.out _ (List.getElem_mem hkl) hit
                have hop := HIT.out _ (List.getElem_mem hkl) hit
                have hyc := HFN.out.calls _ (List.getElem_mem hkl)
                have hyf : 0 ≤ f.calls[kk].fn ∧ f.calls[kk].fn < xs.length := ⟨hyc.2.2.1, hyc.2.2.2.1⟩
                clear hyc hq9 hne hlcs hca
                generalize f.calls[kk] = y at x0 x1 hit hp7 hyf
                obtain ⟨fn, hfn⟩ : ∃ fn : Nat, y.fn = (fn : Int) := ⟨y.fn.toNat, by omega⟩
                rw [hit] at x0
                rw [hfn] at x1 hp7 hyf
                rw [Int.toNat_natCast] at hp7
                have hfnl : fn < 12 := by have := HXL.out; omega
                have a3 := (HW8.out.cell (p := ⟨ga, fn, none⟩) HAT.out.lt).trans (HAT.out.row hfnl)
                have hps2 := HCK.out.pos fn (by have := HXL.out; omega)
                obtain ⟨pt, hpt⟩ : ∃ pt : Nat, P (bpos xs c (c fn)) = (pt : Int) := ⟨(P (bpos xs c (c fn))).toNat, by omega⟩
                rw [hpt] at a3 hps2 hp7
                clear hpt hfn hit hyf
                have t1 : ((t : Int) == (t : Int)) = true := by simp
                rcases hop with hop | hop
                · have hn := hp7.1 hop
                  have q5 : ((pj : Int) + (sz : Int) + n9 != (pt : Int)) = false := by rw [bne_eq_false_iff_eq]; omega
                  have hnb : -100000000 ≤ n9 ∧ n9 ≤ 100000000 := by omega
                  rw [hop] at o0
                  clear hop hp7 hn
                  go_wp2_with fail
                  first
                    | (have hv : Value.int .i64 (wrap64 ((t : Int) + 1)) = .int .i64 ((t + 1 : Nat) : Int) := by go_num
                       rw [hv]
                       exact ⟨⟨t + 1, kk + 1, by omega, by omega, rfl, by rw [show bpos xs c i + (t + 1) = bpos xs c i + t + 1 from rfl, HP3.out]; go_num, by go_num, HKN.out, HB8.out⟩, by simp [intOf]; omega⟩)
                    | (go_roundw
                       case rel => exact ⟨t + 1, kk + 1, by omega, by omega, by go_num, by rw [show bpos xs c i + (t + 1) = bpos xs c i + t + 1 from rfl, HP3.out]; go_num, by go_num, HKN.out, HB8.out⟩
                       case measure => simp [intOf]; omega)
                · have hn := hp7.2 hop
                  have q5 : (n9 != 2 * (pt : Int) + 1) = false := by rw [bne_eq_false_iff_eq]; omega
                  rw [hop] at o0
                  clear hop hp7 hn
                  go_wp2_with fail
                  first
                    | (have hv : Value.int .i64 (wrap64 ((t : Int) + 1)) = .int .i64 ((t + 1 : Nat) : Int) := by go_num
                       rw [hv]
                       exact ⟨⟨t + 1, kk + 1, by omega, by omega, rfl, by rw [show bpos xs c i + (t + 1) = bpos xs c i + t + 1 from rfl, HP3.out]; go_num, by go_num, HKN.out, HB8.out⟩, by simp [intOf]; omega⟩)
                    | (go_roundw
                       case rel => exact ⟨t + 1, kk + 1, by omega, by omega, by go_num, by rw [show bpos xs c i + (t + 1) = bpos xs c i + t + 1 from rfl, HP3.out]; go_num, by go_num, HKN.out, HB8.out⟩
                       case measure => simp [intOf]; omega)
              · have HKN : Hid (∀ q (hq : q < f.calls.length), q < kk ↔ f.calls[q].item < ((t + 1 : Nat) : Int)) := fun q hq => by
                  have h1 := hq9 q hq
                  rcases Nat.lt_trichotomy q kk with h | h | h
                  · have := h1.1 h; constructor <;> intro _ <;> omega
                  · subst h; constructor <;> intro _ <;> omega
                  · have := List.pairwise_iff_getElem.1 HFN.out.order kk q hkl hq h; constructor <;> intro _ <;> omega
                clear hq9 hne hlcs hca
                generalize f.calls[kk] = y at x0 x1 hit
                have t1 : (y.item == (t : Int)) = false := by simp [hit]
                clear hit
                go_wp2_with fail
                first
                  | (have hv : Value.int .i64 (wrap64 ((t : Int) + 1)) = .int .i64 ((t + 1 : Nat) : Int) := by go_num
                     rw [hv]
                     exact ⟨⟨t + 1, kk, by omega, by omega, rfl, by rw [show bpos xs c i + (t + 1) = bpos xs c i + t + 1 from rfl, HP3.out]; go_num, rfl, HKN.out, HB8.out⟩, by simp [intOf]; omega⟩)
                  | (go_roundw
                     case rel => exact ⟨t + 1, kk, by omega, by omega, by go_num, by rw [show bpos xs c i + (t + 1) = bpos xs c i + t + 1 from rfl, HP3.out]; go_num, rfl, HKN.out, HB8.out⟩
                     case measure => simp [intOf]; omega)
            · have HKN : Hid (∀ q (hq : q < f.calls.length), q < kk ↔ f.calls[q].item < ((t + 1 : Nat) : Int)) := fun q hq => by
                have h1 := HKQ.out q hq
                have := h1.1 (by omega)
                constructor <;> intro _ <;> omega
              have hkcI : ¬ (kk : Int) < (f.cl : Int) := by omega
              go_wp2_with fail
              first
                | (have hv : Value.int .i64 (wrap64 ((t : Int) + 1)) = .int .i64 ((t + 1 : Nat) : Int) := by go_num
                   rw [hv]
                   exact ⟨⟨t + 1, kk, by omega, by omega, rfl, by rw [show bpos xs c i + (t + 1) = bpos xs c i + t + 1 from rfl, HP3.out]; go_num, rfl, HKN.out, HB8.out⟩, by simp [intOf]; omega⟩)
                | (go_roundw
                   case rel => exact ⟨t + 1, kk, by omega, by omega, by go_num, by rw [show bpos xs c i + (t + 1) = bpos xs c i + t + 1 from rfl, HP3.out]; go_num, rfl, HKN.out, HB8.out⟩
                   case measure => simp [intOf]; omega)
          · have HBN : Hid (Below w6.heap.size w6 wv) := HBZ.out.trans (hbe.mono HBZ.out.size)
            have htI2 : ¬ (t : Int) < (f.il : Int) := by omega
            clear hbe hkq
            go_wp2_with fail
            go_roundw
            case rel => exact ⟨i + 1, by omega, by go_num, HBN.out⟩
            case measure => simp [intOf]; omega
      · have t0 : ((ci : Int) != (i : Int)) = true := by simp; omega
        have t3 : ((pi : Int) != (pi : Int)) = false := by simp
        have hlt : ci < i := by omega
        have hltI : (ci : Int) < (12 : Int) := by omega
        have HBN := HBY
        go_wp2_with fail
        go_quiet (fail)
        have HBQ : Hid (Below w6.heap.size w6 (wy.drewN nq)) := HBY.out.trans (below_drewN_self _ _ _)
        go_wp2_with fail
        go_roundw
        case rel => exact ⟨i + 1, by omega, by go_num, HBQ.out⟩
        case measure => simp [intOf]; omega
    · have HBX := Lib.hid hbe
      clear hbe
      go_wp2_with fail
      go_ret
      exact ⟨rfl, HB6.out.trans (HBX.out.mono HB6.out.size)⟩

set_option maxRecDepth 100000 in
set_option maxHeartbeats 8000000 in
theorem linkCalls_small (a : Option Addr) (len cap : Nat) (l : List LF) (w : World) (long : Bool) (h : Lnk w a len cap l) (hc : ¬ 12 < len ∧ 0 < len) :
    Calls Try.prog 6 #[.slice a len cap, .bool long] w fun e w' => e = .returned (.bool true) ∧ Below w.heap.size w w' := by
  have HFACT := fun w => Lib.hid (linkFactK_ok w)
  have hle := h.came.le
  have hmx := h.came.max
  have hmx0 : max (12 : Int) 0 = 12 := by omega
  obtain ⟨hc1, hc2⟩ := hc
  obtain ⟨m1, hm1⟩ : ∃ m1, m1 = len - 1 := ⟨_, rfl⟩
  have hm1I : (len : Int) - 1 = (m1 : Int) := by omega
  have hm1b : m1 < len := by omega
  clear hm1
  have HTK := Lib.hid (h.cut len (by omega))
  obtain ⟨xs, hxs⟩ : ∃ xs, xs = l.take len := ⟨_, rfl⟩
  rw [← hxs] at HTK
  clear hxs h
  go_enter Try.func6, Try.ntmps6
  go_wp2_with fail
  refine (HFACT _).out.mono ?_
  rintro e w1 ⟨rfl, hb⟩
  have HB1 := Lib.hid hb
  have HL1 := Lib.hid (HTK.out.below hb)
  clear hb HFACT HTK
  go_wp2_with fail
  refine (merge_any w1 _ _ _ xs HL1.out).mono ?_
  rintro e w2 ⟨hb2, hcs⟩
  have HB2 := Lib.hid (HB1.out.trans (hb2.mono HB1.out.size))
  have HL2 := Lib.hid (HL1.out.below hb2)
  obtain ⟨ce, hce⟩ : ∃ ce, ce = chkE xs := ⟨_, rfl⟩
  rw [← hce] at hcs
  have HCE := Lib.hid hce
  clear hb2 hce HL1 HB1
  rcases hcs with ⟨hne, rfl⟩ | ⟨rfl, g, c, rfl, hcl, hg, hm⟩
  · have hne' : (ce != 0) = true := by simp [hne]
    clear hne
    go_wp2_with fail
    go_ret
    exact ⟨rfl, HB2.out⟩
  have HCL := Lib.hid hcl
  have HM := Lib.hid hm
  have HXL : Hid (xs.length = len) := HL2.out.len
  have HN : Hid ((len : Nat) ≤ 12) := by unfold Hid; omega
  have HCHK : Hid (chkE xs = 0) := HCE.out.symm
  have HI : Hid (LinkIn xs c m1) := callsIn hm HCHK.out (fun f hf => (HL2.out.ok f hf).ilen) (by have := HXL.out; omega)
  have HLK := Lib.hid (link_any w2 a len cap xs HL2.out HCHK.out g c hcl m1 HI.out long)
  clear hcl hm hg HCE
  go_wp2_with fail
  refine HLK.out.mono ?_
  rintro e w5 (⟨_, rfl, hb5⟩ | ⟨h16, hb5, L, vc, vs, vm, ga, rfl, hok⟩)
  · have HB5 : Hid (Below w.heap.size w (w5.alloc (.cells #[.slice none 0 0, .int .i64 0, .slice none 0 0, .slice none 0 0, .slice none 0 0] 60))) := (HB2.out.trans (hb5.mono HB2.out.size)).alloc (by have := hb5.size; have := HB2.out.size; omega) _
    clear hb5 HLK
    go_wp2_with fail
    go_ret
    exact ⟨rfl, HB5.out⟩
  obtain ⟨h1, h2, h3, h4, ⟨vma, vmn, vmc, rfl⟩, h6⟩ := hok
  have hck := calls_ok HI.out h16 h1 h2 (long := long)
  obtain ⟨P, hP⟩ : ∃ P, P = posL (allL (finS xs c m1).1 long L) := ⟨_, rfl⟩
  rw [← hP] at h3 h4 h6 hck
  obtain ⟨code, hcd⟩ : ∃ code, code = patch P (finS xs c m1).2 (codeTo (finS xs c m1).1 (allL (finS xs c m1).1 long L) (finS xs c m1).1.length) := ⟨_, rfl⟩
  rw [← hcd] at h3 hck
  clear hcd hP h1 h2 h16
  obtain ⟨sts, hst⟩ : ∃ sts, sts = (repsL c len).map fun r => P (bpos xs c r) := ⟨_, rfl⟩
  rw [← hst] at h4
  obtain ⟨mc, hmc⟩ : ∃ mc, mc = code.length := ⟨_, rfl⟩
  obtain ⟨ms, hms⟩ : ∃ ms, ms = sts.length := ⟨_, rfl⟩
  rw [← hmc] at h3
  rw [← hms] at h4
  obtain ⟨vca, vcc, rfl⟩ := ownG_shape h3
  obtain ⟨vsa, vsc, rfl⟩ := ownG_shape h4
  have hcode := (came_of_owns (E := intCells) (zs := code) (fun z => ⟨_, rfl⟩) h3).2
  have hsts := (came_of_owns (E := intCells) (zs := sts) (fun z => ⟨_, rfl⟩) h4).2
  obtain ⟨gim, hgim⟩ : ∃ gim, gim = w5.heap.size := ⟨_, rfl⟩
  have hb6 : Below w5.heap.size w5 (w5.alloc (.cells #[.slice vca mc vcc, .int .i64 0, .slice vsa ms vsc, .slice vma vmn vmc, .slice none 0 0] 60)) := (Below.refl _ _).alloc (Nat.le_refl _) _
  have HIMG : Hid (Blk (w5.alloc (.cells #[.slice vca mc vcc, .int .i64 0, .slice vsa ms vsc, .slice vma vmn vmc, .slice none 0 0] 60)) gim 60 [.slice vca mc vcc, .int .i64 0, .slice vsa ms vsc, .slice vma vmn vmc, .slice none 0 0]) := by rw [hgim]; exact Blk.new w5 _ _
  have HC6 := Lib.hid ((HCL.out.below hb5).below hb6)
  have HL6 := Lib.hid ((HL2.out.below hb5).below hb6)
  have HCODE := Lib.hid (hcode.below hb6)
  have HSTS := Lib.hid (hsts.below hb6)
  have HAT := Lib.hid (Blk.below h6 hb6 h6.lt)
  have HB6 : Hid (Below w.heap.size w (w5.alloc (.cells #[.slice vca mc vcc, .int .i64 0, .slice vsa ms vsc, .slice vma vmn vmc, .slice none 0 0] 60))) := (HB2.out.trans (hb5.mono HB2.out.size)).trans (hb6.mono (by have := hb5.size; have := HB2.out.size; omega))
  have HCK := Lib.hid hck
  have HST := Lib.hid hst
  have HMC := Lib.hid hmc
  have hmcl := hcode.le
  have hmc16 : mc ≤ 16384 := by rw [hmc]; exact hck.len
  have hmcx := hcode.max
  clear h3 h4 h6 hb5 hb6 hck hst hmc hms hcode hsts HLK
  go_upto_region 8 with fail
  rw [← hgim]
  clear hgim
  generalize (w5.alloc (.cells #[.slice vca mc vcc, .int .i64 0, .slice vsa ms vsc, .slice vma vmn vmc, .slice none 0 0] 60)) = w6 at HIMG HC6 HL6 HCODE HSTS HAT HB6 ⊢
  have g1 : w6.cell? ⟨gim, 1, none⟩ = some (.int .i64 0) := HIMG.out.cell 1
  go_wp2_with fail
  go_loopw [87] (fun u wr => ∃ i : Nat, i ≤ len ∧ u = .int .i64 (i : Int) ∧ Below w6.heap.size w6 wr) (fun u _ => len - (intOf u).toNat)
  case atStart => exact ⟨0, Nat.zero_le _, rfl, Below.refl _ _⟩
  clear g1
  case round =>
    obtain ⟨i, hi, rfl, hbe⟩ := hrel
    obtain ⟨wx, hwx⟩ : ∃ wx, wx = wr := ⟨_, rfl⟩
    rw [← hwx] at hbe ⊢
    clear hwx
    by_cases hin : i < len
    · have hix : i < xs.length := by have := HXL.out; omega
      have hcl := HM.out.le i hix
      have hrp := HM.out.rep i hix
      obtain ⟨gl, off, rfl, hgl, hlc⟩ := came_lfs HL6.out.came (by omega)
      obtain ⟨d0, d1, d2, d3, d4⟩ := (hlc i hix).later hbe hgl
      have HFE : Hid (fnAt xs i = xs[i]) := fnAt_get hix
      have HFO := Lib.hid (HL6.out.ok _ (List.getElem_mem hix))
      generalize xs[i] = f at d0 d1 d2 d3 d4 HFE HFO
      have hglx : gl < wx.heap.size := Nat.lt_of_lt_of_le hgl hbe.size
      have hby : Below wx.heap.size wx (wx.alloc (.cells #[.int .i64 f.name, .slice f.ia f.il f.ic, .slice f.ca f.cl f.cc, .slice f.ma f.ml f.mc, .int .i64 f.size] 53)) := (Below.refl _ _).alloc (Nat.le_refl _) _
      have HFB : Hid (Blk (wx.alloc (.cells #[.int .i64 f.name, .slice f.ia f.il f.ic, .slice f.ca f.cl f.cc, .slice f.ma f.ml f.mc, .int .i64 f.size] 53)) wx.heap.size 53 (lfC f)) := Blk.new wx _ _
      have HBY := Lib.hid (hbe.trans (hby.mono hbe.size))
      have HII : Hid (i < len) := hin
      obtain ⟨gfb, hgfb⟩ : ∃ gfb, gfb = wx.heap.size := ⟨_, rfl⟩
      clear hby hbe hlc hgl
      go_upto_region 15 with fail
      rw [← hgfb] at HFB ⊢
      clear hgfb
      generalize (wx.alloc (.cells #[.int .i64 f.name, .slice f.ia f.il f.ic, .slice f.ca f.cl f.cc, .slice f.ma f.ml f.mc, .int .i64 f.size] 53)) = wy at HFB HBY ⊢
      clear d0 d1 d2 d3 d4 hglx
      have c0 := (HBY.out.cell (p := ⟨g, i, none⟩) (Blk.lt HC6.out)).trans (HC6.out.cell hin)
      have a0 := (HBY.out.cell (p := ⟨ga, i, none⟩) HAT.out.lt).trans (HAT.out.row hin)
      have a1 := (HBY.out.cell (p := ⟨ga, c i, none⟩) HAT.out.lt).trans (HAT.out.row (i := c i) (by omega))
      rw [hrp] at a1
      have hps := HCK.out.pos i hix
      obtain ⟨pi, hpi⟩ : ∃ pi : Nat, P (bpos xs c (c i)) = (pi : Int) := ⟨(P (bpos xs c (c i))).toNat, by omega⟩
      rw [hpi] at a0 a1 hps
      obtain ⟨ci, hci⟩ : ∃ ci, ci = c i := ⟨_, rfl⟩
      rw [← hci] at c0 a1 hcl
      have HCI := Lib.hid hci
      have HPI := Lib.hid hpi
      clear hci hpi hrp
      by_cases hcie : ci = i
      · have t0 : ((ci : Int) != (i : Int)) = false := by simp [hcie]
        have HCE : Hid (c i = i) := by show _ = _; rw [← HCI.out]; exact hcie
        have m2 := (HBY.out.cell (p := ⟨gim, 2, none⟩) HIMG.out.lt).trans (HIMG.out.cell 2)
        simp only [List.getElem?_cons_zero, List.getElem?_cons_succ] at m2
        have hmem : sts.contains (pi : Int) = true := by
          rw [List.contains_iff_mem, HST.out, ← HPI.out]
          exact List.mem_map.2 ⟨i, by unfold repsL; rw [List.mem_filter]; exact ⟨List.mem_range.2 HII.out, by simp [HCE.out]⟩, by rw [HCE.out]⟩
        have HCON : ∀ wq, Came wq vsa ms vsc 1 (sts.map intCells) → Calls Try.prog 30 #[.slice vsa ms vsc, .int .i64 (pi : Int)] wq fun e w' => e = .returned (.bool true) ∧ w' = wq := fun wq hq => (contains_ints wq vsa ms vsc sts (pi : Int) hq).mono fun e w' h => ⟨by rw [h.1, hmem], h.2.symm⟩
        have HSY := Lib.hid (HSTS.out.below HBY.out)
        have hpp : decide ((pi : Int) < 0) = false := by simp
        have HCON2 := Lib.hid HCON
        clear hcie hcl a1 hmem HCON
        go_wp2_with fail
        go_quiet (first | (go_at_call 30; exact Calls.quiet_of_same (HCON2.out _ (HSY.out.below (below_drewN_self _ _ _)))))
        have HBZ : Hid (Below w6.heap.size w6 (wy.drewN nq)) := HBY.out.trans (below_drewN_self _ _ _)
        have HFZ : Hid (Blk (wy.drewN nq) gfb 53 (lfC f)) := HFB.out.below (below_drewN_self _ _ _) HFB.out.lt
        have e1 : (wy.drewN nq).cell? ⟨gfb, 1, none⟩ = some (.slice f.ia f.il f.ic) := HFZ.out.cell 1
        have a2 := (HBZ.out.cell (p := ⟨ga, i, none⟩) HAT.out.lt).trans (HAT.out.row hin)
        rw [HPI.out] at a2
        have HDEC : Hid (∀ t (ht : t < f.its.length), ∃ (n9 : Int) (sz pj : Nat), P (bpos xs c i + t) = (pj : Int) ∧
          decode (code.drop pj) = ⟨f.its[t].op, f.its[t].d, f.its[t].a, f.its[t].b, n9, (sz : Int), 0⟩ ∧ P (bpos xs c i + t + 1) = ((pj + sz : Nat) : Int) ∧ 1 ≤ sz ∧ sz ≤ 2 ∧ pj + sz ≤ code.length ∧
          ∀ y ∈ f.calls, y.item = (t : Int) → (f.its[t].op = 20 → ((pj + sz : Nat) : Int) + n9 = P (bpos xs c (c y.fn.toNat))) ∧ (f.its[t].op = 11 → n9 = 2 * P (bpos xs c (c y.fn.toNat)) + 1)) := by
          have hfe := HFE.out
          subst hfe
          exact fun t ht => HCK.out.dec i t hix HCE.out ht
        have HFN : Hid (FnOk xs.length f) := by
          have h9 := HI.out.fn i hix
          rwa [HFE.out] at h9
        have HP0 : Hid (P (bpos xs c i) = (pi : Int)) := by have h9 := HPI.out; rw [HCE.out] at h9; exact h9
        generalize wy.drewN nq = wz at HBZ HFZ e1 a2 ⊢
        clear HFB HCON2 HSY a0 m2 c0
        go_wp2_with fail
        go_loopw [11, 12, 147] (fun pv kv u wr => ∃ t kk : Nat, t ≤ f.il ∧ kk ≤ f.cl ∧ u = .int .i64 (t : Int) ∧ pv = .int .i64 (P (bpos xs c i + t)) ∧ kv = .int .i64 (kk : Int) ∧ (∀ q (hq : q < f.calls.length), q < kk ↔ f.calls[q].item < (t : Int)) ∧ Below wz.heap.size wz wr) (fun _ _ u _ => f.il - (intOf u).toNat)
        case atStart => exact ⟨0, 0, Nat.zero_le _, Nat.zero_le _, rfl, by rw [Nat.add_zero, HP0.out], rfl, fun q hq => by have := (HFN.out.calls _ (List.getElem_mem hq)).1; omega, Below.refl _ _⟩
        clear e1 a2
        case round =>
          obtain ⟨t, kk, ht, hkk, rfl, rfl, rfl, hkq, hbe⟩ := hrel
          obtain ⟨wv, hwv⟩ : ∃ wv, wv = wr := ⟨_, rfl⟩
          rw [← hwv] at hbe ⊢
          clear hwv
          have hilen := HFO.out.ilen
          have hclen := HFO.out.clen
          by_cases htl : t < f.il
          · have htI : t < f.its.length := by omega
            obtain ⟨n9, sz, pj, p1, p2, p3, p4, p5, p6, p7⟩ := HDEC.out t htI
            rw [p1]
            have hmcl' := HMC.out
            have hpm : pj < mc := by omega
            have hpmI : (pj : Int) < (mc : Int) := by omega
            have hbw : Below w6.heap.size w6 wv := HBZ.out.trans (hbe.mono HBZ.out.size)
            have m0 := (hbw.cell (p := ⟨gim, 0, none⟩) HIMG.out.lt).trans (HIMG.out.cell 0)
            simp only [List.getElem?_cons_zero] at m0
            have hcv := HCODE.out.below hbw
            obtain ⟨g1, o1, ea, hg1l, _⟩ := hcv.ints (by omega)
            subst ea
            have hcdrop := came_drop hcv pj (by omega)
            have hopI := HFO.out.its _ (List.getElem_mem htI)
            have hcall := HFN.out.calls
            have HIT : Hid (∀ y ∈ f.calls, y.item = (t : Int) → f.its[t].op = 20 ∨ f.its[t].op = 11) := fun y hy he => by
              have h9 := (hcall y hy).2.2.2.2.1
              rw [he, Int.toNat_natCast, List.getD_eq_getElem?_getD, List.getElem?_eq_getElem htI] at h9
              exact h9
            generalize f.its[t] = x at p2 p7 hopI HIT
            obtain ⟨xo, xd, xa, xb, xn, xt⟩ := x
            simp only at p2 p7 HIT
            have HD := Lib.hid (decode_any wv (some ⟨g1, o1 + pj, none⟩) (mc - pj) (vcc - pj) (code.drop pj) hcdrop)
            rw [p2] at HD
            have HP3 := Lib.hid p3
            have HP7 := Lib.hid p7
            have HKQ := Lib.hid hkq
            have HBV := Lib.hid hbe
            have hpv : pj < vcc := by omega
            have hszI : 1 ≤ sz ∧ sz ≤ 2 := ⟨p4, p5⟩
            have hpjb : pj + sz ≤ mc := by omega
            clear p1 p2 p3 p4 p5 p6 p7 hcv hcdrop hkq hbw hopI hcall hilen hmcl' hg1l
            go_wp2_with fail
            refine HD.out.mono ?_
            rintro e w7 ⟨rfl, hb7⟩
            simp only [Dec.val]
            have HB7 := Lib.hid (HBV.out.trans (hb7.mono HBV.out.size))
            have hil16 : f.il ≤ 16384 := by have := HFN.out.short; have := HFO.out.ilen; omega
            have hcl16 : f.cl ≤ 16384 := by have := HFN.out.short; have := HFN.out.few; have := HFO.out.clen; omega
            clear hb7 HD m0
            obtain ⟨gop, hgop⟩ : ∃ gop, gop = w7.heap.size := ⟨_, rfl⟩
            have OPB : Hid (Blk (w7.alloc (.cells #[.int .i64 xo, .int .i64 xd, .int .i64 xa, .int .i64 xb, .int .i64 n9] 36)) gop 36 [.int .i64 xo, .int .i64 xd, .int .i64 xa, .int .i64 xb, .int .i64 n9]) := by rw [hgop]; exact Blk.new w7 _ _
            have HB8 : Hid (Below wz.heap.size wz (w7.alloc (.cells #[.int .i64 xo, .int .i64 xd, .int .i64 xa, .int .i64 xb, .int .i64 n9] 36))) := HB7.out.alloc HB7.out.size _
            go_upto_region 30 with fail
            rw [← hgop]
            clear hgop
            generalize (w7.alloc (.cells #[.int .i64 xo, .int .i64 xd, .int .i64 xa, .int .i64 xb, .int .i64 n9] 36)) = w8 at OPB HB8 ⊢
            have b2 : w8.cell? ⟨gfb, 2, none⟩ = some (.slice f.ca f.cl f.cc) := (HB8.out.cell (p := ⟨gfb, 2, none⟩) HFZ.out.lt).trans (HFZ.out.cell 2)
            have HW8 : Hid (Below w6.heap.size w6 w8) := HBZ.out.trans (HB8.out.mono HBZ.out.size)
            have o0 : w8.cell? ⟨gop, 0, none⟩ = some (.int .i64 xo) := OPB.out.cell 0
            have o4 : w8.cell? ⟨gop, 4, none⟩ = some (.int .i64 n9) := OPB.out.cell 4
            by_cases hkc : kk < f.cl
            · have hkcI : (kk : Int) < (f.cl : Int) := by omega
              have hkl : kk < f.calls.length := by omega
              obtain ⟨gc2, oc2, hca, hgc2, hlcs⟩ := came_lcs (HFO.out.ccame.below HW8.out) (by omega)
              obtain ⟨x0, x1⟩ := hlcs kk hkl
              rw [hca] at b2
              have hq9 := HKQ.out
              have hne : ¬ f.calls[kk].item < (t : Int) := fun e => absurd ((hq9 kk hkl).2 e) (Nat.lt_irrefl _)
              by_cases hit : f.calls[kk].item = (t : Int)
              · have HKN : Hid (∀ q (hq : q < f.calls.length), q < kk + 1 ↔ f.calls[q].item < ((t + 1 : Nat) : Int)) := fun q hq => by
                  have h1 := hq9 q hq
                  rcases Nat.lt_trichotomy q kk with h | h | h
                  · have := h1.1 h; constructor <;> intro _ <;> omega
                  · subst h; constructor <;> intro _ <;> omega
                  · have := List.pairwise_iff_getElem.1 HFN.out.order kk q hkl hq h; constructor <;> intro _ <;> omega
                have hp7 := HP7.out _ (List.getElem_mem hkl) hit
                have hop := HIT.out _ (List.getElem_mem hkl) hit
                have hyc := HFN.out.calls _ (List.getElem_mem hkl)
                have hyf : 0 ≤ f.calls[kk].fn ∧ f.calls[kk].fn < xs.length := ⟨hyc.2.2.1, hyc.2.2.2.1⟩
                clear hyc hq9 hne hlcs hca
                generalize f.calls[kk] = y at x0 x1 hit hp7 hyf
                obtain ⟨fn, hfn⟩ : ∃ fn : Nat, y.fn = (fn : Int) := ⟨y.fn.toNat, by omega⟩
                rw [hit] at x0
                rw [hfn] at x1 hp7 hyf
                rw [Int.toNat_natCast] at hp7
                have hfnl : fn < len := by have := HXL.out; omega
                have a3 := (HW8.out.cell (p := ⟨ga, fn, none⟩) HAT.out.lt).trans (HAT.out.row hfnl)
                have hps2 := HCK.out.pos fn (by have := HXL.out; omega)
                obtain ⟨pt, hpt⟩ : ∃ pt : Nat, P (bpos xs c (c fn)) = (pt : Int) := ⟨(P (bpos xs c (c fn))).toNat, by omega⟩
                rw [hpt] at a3 hps2 hp7
                clear hpt hfn hit hyf
                have t1 : ((t : Int) == (t : Int)) = true := by simp
                rcases hop with hop | hop
                · have hn := hp7.1 hop
                  have q5 : ((pj : Int) + (sz : Int) + n9 != (pt : Int)) = false := by rw [bne_eq_false_iff_eq]; omega
                  have hnb : -100000000 ≤ n9 ∧ n9 ≤ 100000000 := by omega
                  rw [hop] at o0
                  clear hop hp7 hn
                  go_wp2_with fail
                  first
                    | (have hv : Value.int .i64 (wrap64 ((t : Int) + 1)) = .int .i64 ((t + 1 : Nat) : Int) := by go_num
                       rw [hv]
                       exact ⟨⟨t + 1, kk + 1, by omega, by omega, rfl, by rw [show bpos xs c i + (t + 1) = bpos xs c i + t + 1 from rfl, HP3.out]; go_num, by go_num, HKN.out, HB8.out⟩, by simp [intOf]; omega⟩)
                    | (go_roundw
                       case rel => exact ⟨t + 1, kk + 1, by omega, by omega, by go_num, by rw [show bpos xs c i + (t + 1) = bpos xs c i + t + 1 from rfl, HP3.out]; go_num, by go_num, HKN.out, HB8.out⟩
                       case measure => simp [intOf]; omega)
                · have hn := hp7.2 hop
                  have q5 : (n9 != 2 * (pt : Int) + 1) = false := by rw [bne_eq_false_iff_eq]; omega
                  rw [hop] at o0
                  clear hop hp7 hn
                  go_wp2_with fail
                  first
                    | (have hv : Value.int .i64 (wrap64 ((t : Int) + 1)) = .int .i64 ((t + 1 : Nat) : Int) := by go_num
                       rw [hv]
                       exact ⟨⟨t + 1, kk + 1, by omega, by omega, rfl, by rw [show bpos xs c i + (t + 1) = bpos xs c i + t + 1 from rfl, HP3.out]; go_num, by go_num, HKN.out, HB8.out⟩, by simp [intOf]; omega⟩)
                    | (go_roundw
                       case rel => exact ⟨t + 1, kk + 1, by omega, by omega, by go_num, by rw [show bpos xs c i + (t + 1) = bpos xs c i + t + 1 from rfl, HP3.out]; go_num, by go_num, HKN.out, HB8.out⟩
                       case measure => simp [intOf]; omega)
              · have HKN : Hid (∀ q (hq : q < f.calls.length), q < kk ↔ f.calls[q].item < ((t + 1 : Nat) : Int)) := fun q hq => by
                  have h1 := hq9 q hq
                  rcases Nat.lt_trichotomy q kk with h | h | h
                  · have := h1.1 h; constructor <;> intro _ <;> omega
                  · subst h; constructor <;> intro _ <;> omega
                  · have := List.pairwise_iff_getElem.1 HFN.out.order kk q hkl hq h; constructor <;> intro _ <;> omega
                clear hq9 hne hlcs hca
                generalize f.calls[kk] = y at x0 x1 hit
                have t1 : (y.item == (t : Int)) = false := by simp [hit]
                clear hit
                go_wp2_with fail
                first
                  | (have hv : Value.int .i64 (wrap64 ((t : Int) + 1)) = .int .i64 ((t + 1 : Nat) : Int) := by go_num
                     rw [hv]
                     exact ⟨⟨t + 1, kk, by omega, by omega, rfl, by rw [show bpos xs c i + (t + 1) = bpos xs c i + t + 1 from rfl, HP3.out]; go_num, rfl, HKN.out, HB8.out⟩, by simp [intOf]; omega⟩)
                  | (go_roundw
                     case rel => exact ⟨t + 1, kk, by omega, by omega, by go_num, by rw [show bpos xs c i + (t + 1) = bpos xs c i + t + 1 from rfl, HP3.out]; go_num, rfl, HKN.out, HB8.out⟩
                     case measure => simp [intOf]; omega)
            · have HKN : Hid (∀ q (hq : q < f.calls.length), q < kk ↔ f.calls[q].item < ((t + 1 : Nat) : Int)) := fun q hq => by
                have h1 := HKQ.out q hq
                have := h1.1 (by omega)
                constructor <;> intro _ <;> omega
              have hkcI : ¬ (kk : Int) < (f.cl : Int) := by omega
              go_wp2_with fail
              first
                | (have hv : Value.int .i64 (wrap64 ((t : Int) + 1)) = .int .i64 ((t + 1 : Nat) : Int) := by go_num
                   rw [hv]
                   exact ⟨⟨t + 1, kk, by omega, by omega, rfl, by rw [show bpos xs c i + (t + 1) = bpos xs c i + t + 1 from rfl, HP3.out]; go_num, rfl, HKN.out, HB8.out⟩, by simp [intOf]; omega⟩)
                | (go_roundw
                   case rel => exact ⟨t + 1, kk, by omega, by omega, by go_num, by rw [show bpos xs c i + (t + 1) = bpos xs c i + t + 1 from rfl, HP3.out]; go_num, rfl, HKN.out, HB8.out⟩
                   case measure => simp [intOf]; omega)
          · have HBN : Hid (Below w6.heap.size w6 wv) := HBZ.out.trans (hbe.mono HBZ.out.size)
            have htI2 : ¬ (t : Int) < (f.il : Int) := by omega
            clear hbe hkq
            go_wp2_with fail
            go_roundw
            case rel => exact ⟨i + 1, by omega, by go_num, HBN.out⟩
            case measure => simp [intOf]; omega
      · have t0 : ((ci : Int) != (i : Int)) = true := by simp; omega
        have t3 : ((pi : Int) != (pi : Int)) = false := by simp
        have hlt : ci < i := by omega
        have hltI : (ci : Int) < (len : Int) := by omega
        have HBN := HBY
        go_wp2_with fail
        go_quiet (fail)
        have HBQ : Hid (Below w6.heap.size w6 (wy.drewN nq)) := HBY.out.trans (below_drewN_self _ _ _)
        go_wp2_with fail
        go_roundw
        case rel => exact ⟨i + 1, by omega, by go_num, HBQ.out⟩
        case measure => simp [intOf]; omega
    · have HBX := Lib.hid hbe
      clear hbe
      go_wp2_with fail
      go_ret
      exact ⟨rfl, HB6.out.trans (HBX.out.mono HB6.out.size)⟩

theorem linkCalls_walk (a : Option Addr) (len cap : Nat) (l : List LF) (long : Bool) (w : World) (h : Lnk w a len cap l ∧ len * 88 ≤ 140737488351232) :
    Calls Try.prog 6 #[.slice a len cap, .bool long] w fun e w' => e = .returned (.bool true) ∧ Below w.heap.size w w' := by
  by_cases hb : 12 < len
  · exact linkCalls_big a len cap l w long h.1 hb
  · by_cases h0 : 0 < len
    · exact linkCalls_small a len cap l w long h.1 ⟨hb, h0⟩
    · obtain rfl : len = 0 := by omega
      exact linkCalls_zero a 0 cap l w long h.1 rfl
end Go.Proofs.Ytkafbihlmhdjeab
