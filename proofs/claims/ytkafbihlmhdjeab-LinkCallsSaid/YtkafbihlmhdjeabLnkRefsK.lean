/- The linker's refs: the references of a function. -/
import Derived.Test.YtkafbihlmhdjeabLnkAdd
import Derived.Test.YtkafbihlmhdjeabRelaxMath
namespace Go.Proofs.Ytkafbihlmhdjeab
open Go.RowKit
set_option linter.unusedVariables false
set_option linter.unusedSimpArgs false

theorem Try.infoP111 : (Try.prog.info? 111).map (fun i => (i.zero, i.size, i.bytes)) = some (some (.agg #[.int .i64 0, .int .i64 0]), 2, 16) := by kernel_rfl
def refStep (bg : List Int) (c : Nat → Nat) (base : Nat) (s : List Item × List (Int × Int)) (x : LC) : List Item × List (Int × Int) :=
  if (itAt s.1 (base + x.item.toNat)).op = 20 then (s.1.set (base + x.item.toNat) ⟨(itAt s.1 (base + x.item.toNat)).op, (itAt s.1 (base + x.item.toNat)).d, (itAt s.1 (base + x.item.toNat)).a, (itAt s.1 (base + x.item.toNat)).b, (itAt s.1 (base + x.item.toNat)).n, bg.getD (c x.fn.toNat) 0⟩, s.2)
  else (s.1.set (base + x.item.toNat) ⟨(itAt s.1 (base + x.item.toNat)).op, (itAt s.1 (base + x.item.toNat)).d, (itAt s.1 (base + x.item.toNat)).a, (itAt s.1 (base + x.item.toNat)).b, 1048576, (itAt s.1 (base + x.item.toNat)).tg⟩, s.2 ++ [(((base + x.item.toNat : Nat) : Int), bg.getD (c x.fn.toNat) 0)])
theorem refStep_len (bg : List Int) (c : Nat → Nat) (base : Nat) (s : List Item × List (Int × Int)) (x : LC) : (refStep bg c base s x).1.length = s.1.length ∧ (refStep bg c base s x).2.length ≤ s.2.length + 1 := by
  unfold refStep
  split
  · exact ⟨by simp, by simp⟩
  · exact ⟨by simp, by simp⟩
theorem refFold_len (bg : List Int) (c : Nat → Nat) (base : Nat) : ∀ (l : List LC) (s : List Item × List (Int × Int)), (l.foldl (refStep bg c base) s).1.length = s.1.length ∧ (l.foldl (refStep bg c base) s).2.length ≤ s.2.length + l.length
  | [], s => ⟨rfl, Nat.le_refl _⟩
  | x :: l, s => by
    have h1 := refStep_len bg c base s x
    have h2 := refFold_len bg c base l (refStep bg c base s x)
    simp only [List.foldl_cons, List.length_cons]
    omega
/-- boxes of functions stay -/
def KeptF (w w' : World) : Prop := ∀ g cs, Blk w g 53 cs → Blk w' g 53 cs
theorem KeptF.below {w wr wx : World} (h : KeptF w wr) (hb : Below wr.heap.size wr wx) : KeptF w wx := fun g cs hg => (h g cs hg).below hb (h g cs hg).lt
theorem KeptF.set {w wr : World} (h : KeptF w wr) {a : Addr} (hne : ∀ cs, ¬ Blk wr a.block 53 cs) (u : Value) : KeptF w (wr.setCell a u) := fun g cs hg => Blk.setOther (h g cs hg) (fun e => hne cs (e ▸ h g cs hg)) u
theorem KeptF.grown {w wr w' : World} (h : KeptF w wr) {B : Nat} {e : TypeId} {size n : Nat} {v : Value} {l : List Value} (ho : wr.ownsRow B e size v n l) (hne : e ≠ 53) (hg : wr.grownBy w' v.ownBlock) : KeptF w w' := fun g cs hb => (h g cs hb).of_heap (hg.block g (h g cs hb).lt fun e' => own_ty ho (h g cs hb) hne e'.symm)
theorem blk_ty {w : World} {g : Nat} {t t' : TypeId} {cs cs' : List Value} (h : Blk w g t cs) (h' : Blk w g t' cs') : t = t' := by
  have h1 : w.heap[g]? = _ := h
  have h2 : w.heap[g]? = _ := h'
  rw [h1] at h2
  injection h2 with h2
  injection h2 with _ h2 _
def RefsPostL (B p : Nat) (vi vb : Value) (r : List Item × List (Int × Int)) (bg : List Int) (w : World) (e : Ending) (w' : World) : Prop :=
  ∃ v va, e = .returned v ∧ LK B w' p vi vb va r.1 bg r.2 ∧ Below B w w' ∧ KeptF w w'

set_option maxRecDepth 100000 in
set_option maxHeartbeats 8000000 in
theorem lkRefs_any (w0 w : World) (B p : Nat) (vi vb va : Value) (its : List Item) (bg : List Int) (ads : List (Int × Int)) (h : LK B w p vi vb va its bg ads) (f : LF) (hf : f.Ok w0) (hB : w0.heap.size ≤ B) (hb : Below w0.heap.size w0 w) (base gc n : Nat) (c : Nat → Nat) (hc : ClsAt w0 gc n c)
    (hi : ∀ x ∈ f.calls, 0 ≤ x.item ∧ base + x.item.toNat < its.length) (hf2 : ∀ x ∈ f.calls, 0 ≤ x.fn ∧ x.fn < n ∧ c x.fn.toNat < bg.length) (hs : its.length ≤ 100000000) (ha : ads.length + f.cl ≤ 100000000) :
    Calls Try.prog 49 #[.pointer (some ⟨p, 0, none⟩), f.v, .int .i64 (base : Int), .slice (some ⟨gc, 0, none⟩) n n] w (RefsPostL B p vi vb (f.calls.foldl (refStep bg c base) (its, ads)) bg w) := by
  obtain ⟨ai, ci, ab, cb, aa, ca, rfl, rfl, rfl⟩ := h.shapes
  have hBw : B ≤ w.heap.size := Nat.le_trans h.hp (Nat.le_of_lt h.box.lt)
  have HI := Lib.hid hi
  have HF2 := Lib.hid hf2
  have HCL := Lib.hid hc
  have HF := Lib.hid hf
  have hcl := hf.clen
  have hcr := hf.creach
  have HB := Lib.hid hb
  obtain ⟨ni, hni⟩ : ∃ ni, ni = its.length := ⟨_, rfl⟩
  obtain ⟨nb, hnb⟩ : ∃ nb, nb = bg.length := ⟨_, rfl⟩
  have HBG : Hid (0 < nb → ∃ gb, ab = some ⟨gb, 0, none⟩) := fun h0 => by
    obtain ⟨g, c, hv, _⟩ := ownG_has h.ob (by omega)
    injection hv with hv _ _
    exact ⟨g, hv⟩
  have HIG : Hid (0 < ni → ∃ gi, ai = some ⟨gi, 0, none⟩) := fun h0 => by
    obtain ⟨g, c, hv, _⟩ := ownG_has h.oi (by omega)
    injection hv with hv _ _
    exact ⟨g, hv⟩
  have HLA : Hid (LK B (w.alloc (.cells #[.int .i64 f.name, .slice f.ia f.il f.ic, .slice f.ca f.cl f.cc, .slice f.ma f.ml f.mc, .int .i64 f.size] 53)) p (.slice ai its.length ci) (.slice ab bg.length cb) (.slice aa ads.length ca) its bg ads) := h.below ((Below.refl _ _).alloc (Nat.le_refl _) _)
  have HBA : Hid (Below B w (w.alloc (.cells #[.int .i64 f.name, .slice f.ia f.il f.ic, .slice f.ca f.cl f.cc, .slice f.ma f.ml f.mc, .int .i64 f.size] 53))) := (Below.refl _ _).alloc hBw _
  rw [← hni] at HLA hs HI ⊢
  rw [← hnb] at HLA HF2 ⊢
  have HNI := Lib.hid hni
  have HNB := Lib.hid hnb
  clear h hf hi hf2 hc hb hni hnb
  unfold LF.v
  generalize hca : f.ca = fa at HLA HBA ⊢
  have HCI : Hid (Came w0 fa f.cl f.cc 2 (f.calls.map lcC)) := by rw [← hca]; exact HF.out.ccame
  clear hca
  go_enter Try.func49, Try.ntmps49
  go_wp2_with fail
  have HKF : Hid (KeptF w (w.alloc (.cells #[.int .i64 f.name, .slice f.ia f.il f.ic, .slice fa f.cl f.cc, .slice f.ma f.ml f.mc, .int .i64 f.size] 53))) := fun g cs hg => hg.alloc _
  generalize hw1 : (w.alloc (.cells #[.int .i64 f.name, .slice f.ia f.il f.ic, .slice fa f.cl f.cc, .slice f.ma f.ml f.mc, .int .i64 f.size] 53)) = w1 at HLA HBA HKF ⊢
  clear hw1
  obtain ⟨i0, hi0, hz0, hz1, hz2⟩ := info_parts Try.infoP111
  go_loopw [15] (fun u wr => ∃ (k : Nat) (va : Value), k ≤ f.cl ∧ u = .int .i64 (k : Int) ∧ LK B wr p (.slice ai ni ci) (.slice ab nb cb) va ((f.calls.take k).foldl (refStep bg c base) (its, ads)).1 bg ((f.calls.take k).foldl (refStep bg c base) (its, ads)).2 ∧ Below B w wr ∧ KeptF w wr) (fun u _ => f.cl - (intOf u).toNat)
  case atStart => exact ⟨0, _, Nat.zero_le _, rfl, HLA.out, HBA.out, HKF.out⟩
  case round =>
    clear HLA HBA HKF
    obtain ⟨k, va, hk, rfl, hlk, hbe, hkf⟩ := hrel
    have HBE := Lib.hid hbe
    have HKF := Lib.hid hkf
    clear hkf
    by_cases hlt : k < f.cl
    · have hbw : Below w0.heap.size w0 wr := HB.out.trans (hbe.mono hB)
      obtain ⟨g, off, rfl, hg, hcc⟩ := came_lcs HCI.out (by omega)
      have hk' : k < f.calls.length := by omega
      obtain ⟨e0, e1⟩ := hcc k hk'
      replace e0 := (hbw.cell (p := ⟨g, off + k * 2, none⟩) hg).trans e0
      replace e1 := (hbw.cell (p := ⟨g, off + k * 2 + 1, none⟩) hg).trans e1
      have hgr : g < wr.heap.size := Nat.lt_of_lt_of_le hg hbw.size
      obtain ⟨s, hs9⟩ : ∃ s, s = (f.calls.take k).foldl (refStep bg c base) (its, ads) := ⟨_, rfl⟩
      have hsl : s.1.length = ni ∧ s.2.length ≤ ads.length + k := by
        have := refFold_len bg c base (f.calls.take k) (its, ads)
        rw [← hs9] at this
        rw [HNI.out]
        refine ⟨this.1, ?_⟩
        have h2 := this.2
        simp only [List.length_take] at h2
        omega
      have HTK : Hid ((f.calls.take (k + 1)).foldl (refStep bg c base) (its, ads) = refStep bg c base s f.calls[k]) := by
        show _ = _
        rw [List.take_succ_eq_append_getElem hk', List.foldl_append, ← hs9]
        rfl
      rw [← hs9] at hlk
      have hx1 := HI.out _ (List.getElem_mem hk')
      have hx2 := HF2.out _ (List.getElem_mem hk')
      generalize f.calls[k] = x at e0 e1 HTK hx1 hx2
      clear hs9 hcc
      obtain ⟨xi, xf⟩ := x
      simp only at e0 e1 hx1 hx2
      obtain ⟨j, rfl⟩ := Int.eq_ofNat_of_zero_le hx1.1
      obtain ⟨q, rfl⟩ := Int.eq_ofNat_of_zero_le hx2.1
      simp only [Int.toNat_natCast] at hx1 hx2
      have hqn : q < n := by omega
      obtain ⟨gb, rfl⟩ := HBG.out (by omega)
      obtain ⟨gi, rfl⟩ := HIG.out (by omega)
      obtain ⟨st, sa⟩ := s
      simp only at hsl hlk
      obtain ⟨d, hd⟩ : ∃ d, d = base + j := ⟨_, rfl⟩
      have hdl : d < st.length := by omega
      have HST : Hid (refStep bg c base (st, sa) ⟨(j : Int), (q : Int)⟩ = if st[d].op = 20 then (st.set d ⟨st[d].op, st[d].d, st[d].a, st[d].b, st[d].n, bg.getD (c q) 0⟩, sa) else (st.set d ⟨st[d].op, st[d].d, st[d].a, st[d].b, 1048576, st[d].tg⟩, sa ++ [((d : Int), bg.getD (c q) 0)])) := by
        show _ = _
        unfold refStep
        simp only [Int.toNat_natCast]
        rw [← hd, itAt_get hdl]
      have hcq : c q < bg.length := by rw [← HNB.out]; exact hx2.2.2
      have HTO : Hid (bg.getD (c q) 0 = bg[c q]) := by show _ = _; rw [List.getD_eq_getElem?_getD, List.getElem?_eq_getElem hcq]; rfl
      have HSL := Lib.hid hsl.1
      obtain ⟨m, hm⟩ : ∃ m, m = st.length := ⟨_, rfl⟩
      have HM := Lib.hid hm
      have hlk2 := hlk
      rw [← HSL.out, HNB.out] at hlk2
      have hit := hlk2.item hdl
      have hbg := hlk2.begin hcq
      have HLK := Lib.hid hlk2
      have hcl0 := HCL.out.cell hqn
      have hgcl : gc < w0.heap.size := Blk.lt HCL.out
      have hcl1 := (hbw.cell (p := ⟨gc, q, none⟩) hgcl).trans hcl0
      have hgcr : gc < wr.heap.size := Nat.lt_of_lt_of_le hgcl hbw.size
      have p0 : wr.cell? ⟨p, 0, none⟩ = some (.slice (some ⟨gi, 0, none⟩) ni ci) := hlk.box.cell 0
      have p1 : wr.cell? ⟨p, 1, none⟩ = some (.slice (some ⟨gb, 0, none⟩) nb cb) := hlk.box.cell 1
      have hpr := hlk.box.lt
      have hgrB : B ≤ wr.heap.size := Nat.le_trans hBw hbe.size
      have HNEV : va.ownBlock ≠ some wr.heap.size := fun e => Nat.lt_irrefl _ (hlk.oa.lt _ e).2
      clear hlk hlk2 hbw hm hcl0
      have hdI : (base : Int) + (j : Int) = (d : Int) := by omega
      obtain ⟨y, hy⟩ : ∃ y, y = st[d] := ⟨_, rfl⟩
      obtain ⟨tz, hto⟩ : ∃ tz, tz = bg[c q] := ⟨_, rfl⟩
      obtain ⟨cq, hcqe⟩ : ∃ cq, cq = c q := ⟨_, rfl⟩
      rw [← hto] at HTO hbg
      rw [HTO.out, ← hy] at HST
      rw [← hy] at hit
      rw [← hcqe] at hbg hcl1
      have hcqI : (cq : Int) < (nb : Int) := by rw [hcqe]; omega
      have HY := Lib.hid hy
      have hdn : (d : Int) < (ni : Int) := by have := HSL.out; omega
      have hqI : (q : Int) < (n : Int) := by omega
      have hbzy : Below wr.heap.size wr (wr.alloc (.cells #[.int .i64 (j : Int), .int .i64 (q : Int)] 56)) := (Below.refl _ _).alloc (Nat.le_refl _) _
      have hboxy : Blk (wr.alloc (.cells #[.int .i64 (j : Int), .int .i64 (q : Int)] 56)) wr.heap.size 56 [.int .i64 (j : Int), .int .i64 (q : Int)] := Blk.new wr _ _
      go_wp2_with fail
      generalize (wr.alloc (.cells #[.int .i64 (j : Int), .int .i64 (q : Int)] 56)) = wy at hbzy hboxy ⊢
      have HLY := Lib.hid (HLK.out.below hbzy)
      have HBY := Lib.hid (HBE.out.trans (hbzy.mono (Nat.le_trans hBw HBE.out.size)))
      have HKY := Lib.hid (HKF.out.below hbzy)
      replace p0 := (hbzy.cell (p := ⟨p, 0, none⟩) hpr).trans p0
      replace p1 := (hbzy.cell (p := ⟨p, 1, none⟩) hpr).trans p1
      replace hcl1 := (hbzy.cell (p := ⟨gc, q, none⟩) hgcr).trans hcl1
      have hb1 := (hbzy.cell (p := ⟨gb, cq, none⟩) hbg.2.2.2).trans hbg.1
      obtain ⟨i0', i1', i2', i3', i4', i5'⟩ := hit.1.later hbzy hit.2.2.2
      have fz4 := (HLY.out.item hdl).2.1 4 (by omega)
      have fz5 := (HLY.out.item hdl).2.1 5 (by omega)
      have x0 := hboxy.cell 0
      have x1 := hboxy.cell 1
      simp only [List.getElem?_cons_zero, List.getElem?_cons_succ] at x0 x1
      have HXB := Lib.hid hboxy
      clear hbg hit hy hto hcqe hd hbzy hboxy HBE HLK e0 e1
      go_quiet (fail)
      go_wp2_with fail
      go_quiet (fail)
      rw [drewN_add]
      generalize hwq : wy.drewN _ = wq
      have hqz : Below wy.heap.size wy wq := by rw [← hwq]; exact below_drewN_self _ _ _
      have HLQ := Lib.hid (HLY.out.below hqz)
      have hBy : B ≤ wy.heap.size := Nat.le_trans hBw HBY.out.size
      have HBQ := Lib.hid (HBY.out.trans (hqz.mono hBy))
      have HKQ := Lib.hid (HKY.out.below hqz)
      have hiq := HLQ.out.item hdl
      have fz4 := hiq.2.1 4 (by omega)
      have fz5 := hiq.2.1 5 (by omega)
      have hgB := hiq.2.2.1
      have hq1 := hiq.1
      rw [← HY.out] at hq1
      obtain ⟨i0', i1', i2', i3', i4', i5'⟩ := hq1
      have HXQ := Lib.hid (HXB.out.below hqz HXB.out.lt)
      clear hqz hwq p0 p1 hcl1 hb1 x0 x1 HLY HBY HXB hiq
      by_cases hop : y.op = 20
      · have z1 : (y.op == 20) = true := by simp [hop]
        have HN : Hid (LK B (wq.setCell ⟨gi, d * 6 + 5, none⟩ (.int .i64 tz)) p (.slice (some ⟨gi, 0, none⟩) ni ci) (.slice (some ⟨gb, 0, none⟩) nb cb) va (refStep bg c base (st, sa) ⟨(j : Int), (q : Int)⟩).1 bg (refStep bg c base (st, sa) ⟨(j : Int), (q : Int)⟩).2) := by
          have h1 := HLQ.out.setI (i := d) (j := 5) (u := .int .i64 tz) (y := ⟨y.op, y.d, y.a, y.b, y.n, tz⟩) hdl (by omega) (by rw [← HY.out]; rfl)
          rw [HSL.out, ← HNB.out] at h1
          show LK _ _ _ _ _ _ _ _ _
          rw [HST.out, if_pos hop]
          exact h1
        clear hop
        go_wp2_with fail
        go_roundw
        case rel => exact ⟨k + 1, va, by omega, rfl, by rw [HTK.out]; exact HN.out, HBQ.out.setCell (p := (⟨gi, d * 6 + 5, none⟩ : Addr)) hgB _, HKQ.out.set (a := ⟨gi, d * 6 + 5, none⟩) (fun cs hq => own_ty HLQ.out.oi hq (by decide) rfl) _⟩
        case measure => simp [intOf]; omega
      · have z1 : (y.op == 20) = false := by simp [hop]
        have HN : Hid (LK B (wq.setCell ⟨gi, d * 6 + 4, none⟩ (.int .i64 1048576)) p (.slice (some ⟨gi, 0, none⟩) ni ci) (.slice (some ⟨gb, 0, none⟩) nb cb) va (st.set d ⟨y.op, y.d, y.a, y.b, 1048576, y.tg⟩) bg sa) := by
          have h1 := HLQ.out.setI (i := d) (j := 4) (u := .int .i64 1048576) (y := ⟨y.op, y.d, y.a, y.b, 1048576, y.tg⟩) hdl (by omega) (by rw [← HY.out]; rfl)
          rw [HSL.out, ← HNB.out] at h1
          exact h1
        have HRS : Hid (refStep bg c base (st, sa) ⟨(j : Int), (q : Int)⟩ = (st.set d ⟨y.op, y.d, y.a, y.b, 1048576, y.tg⟩, sa ++ [((d : Int), tz)])) := by show _ = _; rw [HST.out, if_neg hop]
        have HBX := Lib.hid (Blk.setOther HXQ.out (a := ⟨gi, d * 6 + 4, none⟩) (fun e => by
          have h1 := HXQ.out
          have h2 := HLQ.out.oi
          exact own_ty h2 h1 (by decide) (by simp [Value.ownBlock]; exact e.symm)) (.int .i64 1048576))
        have HBW := Lib.hid (@Below.setCell _ _ _ HBQ.out (⟨gi, d * 6 + 4, none⟩ : Addr) hgB (.int .i64 1048576))
        have HK4 := Lib.hid (HKQ.out.set (a := ⟨gi, d * 6 + 4, none⟩) (fun cs hq => own_ty HLQ.out.oi hq (by decide) rfl) (.int .i64 1048576))
        clear hop HST
        go_wp2_with fail
        generalize wq.setCell ⟨gi, d * 6 + 4, none⟩ (.int .i64 1048576) = w4 at HN HBX HBW HK4 ⊢
        clear fz4 fz5 i0' i1' i2' i3' i4' i5' HLQ HBQ HXQ
        obtain ⟨vaa, vac, hva⟩ := ownG_shape HN.out.oa
        have HVA := Lib.hid hva
        obtain ⟨na, hna⟩ : ∃ na, na = sa.length := ⟨_, rfl⟩
        have hnab : na ≤ 100000000 := by omega
        have HNA := Lib.hid hna
        have hpy := HN.out.box.lt
        have hqy := HBX.out.lt
        have r0 := fun x : AfterR (Kept2 p wr.heap.size) w4.drew => (World.cell?_of_block (a := ⟨p, 2, none⟩) x.rel.1).trans (show w4.cell? ⟨p, 2, none⟩ = some va from HN.out.box.cell 2)
        rw [HVA.out, ← HNA.out] at r0
        have s0 := fun x : AfterR (Kept2 p wr.heap.size) w4.drew => (World.cell?_of_block (a := ⟨wr.heap.size, 0, none⟩) x.rel.2).trans (show w4.cell? ⟨wr.heap.size, 0, none⟩ = some (.int .i64 (j : Int)) from HBX.out.cell 0)
        have hBr : B ≤ wr.heap.size := hgrB
        have HNEQ : Hid (va.ownBlock ≠ some wr.heap.size) := HNEV
        clear hva hna
        refine wp_region_eagerRT (Kept2 p wr.heap.size) [(0, true), (1, true), (2, true), (3, true), (4, true), (5, true), (6, true), (7, true), (8, true), (9, true), (10, true), (11, false), (12, false), (13, true), (14, true), (15, false)] (by kernel_rfl) (by kernel_rfl) ?_
        repeat (refine eagR_readT rfl ?_; go_big_quiet_step (fail); refine wpQuiet_nil ?_)
        clear r0 s0
        refine eagR_doesT rfl rfl ?_
        intro K hK
        go_simp
        refine hK _ _ (fun _ => ⟨Below.heap_alloc _ _ _ hpy, Below.heap_alloc _ _ _ hqy⟩) ?_
        clear hK K
        have hbz : Below w4.heap.size w4 (w4.alloc (.cells #[.int .i64 (d : Int), .int .i64 tz] 111)).drew := ((Below.refl w4.heap.size w4).alloc (Nat.le_refl _) (.cells #[.int .i64 (d : Int), .int .i64 tz] 111)).drew
        have HLZ := Lib.hid (HN.out.below hbz)
        have hBw4 : B ≤ w4.heap.size := Nat.le_trans hBw HBW.out.size
        have HBZ := Lib.hid (HBW.out.trans (hbz.mono hBw4))
        have HNEW : Hid (Blk (w4.alloc (.cells #[.int .i64 (d : Int), .int .i64 tz] 111)).drew w4.heap.size 111 (adC ((d : Int), tz))) := Blk.new w4 (adC ((d : Int), tz)) 111
        have hBz : B ≤ (w4.alloc (.cells #[.int .i64 (d : Int), .int .i64 tz] 111)).drew.heap.size := Nat.le_trans hBw4 hbz.size
        have hyz := hbz.size
        have HKZ := Lib.hid (HK4.out.below hbz)
        clear hbz
        generalize (w4.alloc (.cells #[.int .i64 (d : Int), .int .i64 tz] 111)).drew = wz at HLZ HBZ HNEW hBz hyz HKZ ⊢
        refine eagR_doesT rfl rfl ?_
        intro K hK
        have hrow := HLZ.out.oa
        rw [HVA.out, ← HNA.out] at hrow
        refine wp_append_lies _ _ _ 89 rfl B 111 i0 (.agg #[.int .i64 0, .int .i64 0]) 2 16 Try.underlying89 hi0 hz0 hz1 hz2 rfl (by decide) (Value.slice vaa na vac) na _ rfl hrow ⟨w4.heap.size, 0, none⟩ 1 1 (adC ((d : Int), tz)) rfl rfl ?_ ?_ (by decide) ?_ ?_ hBz wz.heap.size rfl ?_
        · intro j u hj
          rw [Addr.add_lit, Nat.zero_add, HNEW.out.cell]
          exact hj
        · intro u hu
          simp [adC] at hu
          rcases hu with rfl | rfl <;> rfl
        · unfold maxLen; omega
        · omega
        intro g' cap' w9 hown' hgrow hwh hlt9
        have hown9 : w9.ownsRow B 111 2 (.slice (some ⟨g', 0, none⟩) (na + 1) cap') (sa ++ [((d : Int), tz)]).length ((sa ++ [((d : Int), tz)]).flatMap adC) := by
          rw [List.length_append, ← HNA.out, List.flatMap_append]
          simpa using hown'
        have hgrw : wz.grownBy w9 va.ownBlock := by rw [HVA.out, ← HNA.out]; exact hgrow
        have HL9 := Lib.hid (HLZ.out.growA hown9 hgrw)
        have HK9 := Lib.hid (HKZ.out.grown HLZ.out.oa (by decide) hgrw)
        have HBOX9 := Lib.hid (HLZ.out.box.of_heap (hgrw.block p HLZ.out.box.lt (fun e => own_ty HLZ.out.oa HLZ.out.box (by decide) e.symm)))
        have hpk : w9.heap[p]? = wz.heap[p]? := hgrw.block p HLZ.out.box.lt (fun e => own_ty HLZ.out.oa HLZ.out.box (by decide) e.symm)
        have hbx := HLZ.out.box.of_heap hpk
        have f0 := hbx.free 2
        have f0c := hbx.cell 2
        simp only [List.getElem?_cons_zero, List.getElem?_cons_succ] at f0c
        have hlp := hbx.lt
        have hqk : w9.heap[wr.heap.size]? = wz.heap[wr.heap.size]? := hgrw.block _ (Nat.lt_of_lt_of_le hqy (by omega)) (fun e => HNEQ.out e.symm)
        have HB9 := Lib.hid (HBZ.out.grown hgrw hBz (fun q hq => (HLZ.out.oa.lt q hq).1))
        go_simp
        refine hK _ _ (fun _ => ⟨hpk, hqk⟩) ?_
        clear hqk hK K hown' hgrow hwh hown9 hgrw hpk hbx hrow
        repeat (refine eagR_readT rfl ?_; go_big_quiet_step (fail); refine wpQuiet_nil ?_)
        refine eagR_freeT rfl rfl (by kernel_rfl) ?_
        intro K hK
        go_simp
        refine hK _ _ ?_
        clear hK K f0 f0c
        go_simp
        refine eagR_endT ?_
        go_wp2_with fail
        go_roundw
        case rel => exact ⟨k + 1, _, by omega, rfl, by rw [HTK.out, HRS.out]; exact HL9.out, HB9.out.setCell HLZ.out.hp _, HK9.out.set (a := ⟨p, 2, none⟩) (fun cs hq => absurd (blk_ty HBOX9.out hq) (by decide)) _⟩
        case measure => simp [intOf]; omega
    · have HLK := Lib.hid hlk
      have HALL : Hid (f.calls.take k = f.calls) := List.take_of_length_le (by omega)
      clear hlk hbe
      go_wp2_with fail
      refine bodyPost_ret (v := .tuple #[]) (by simp [results, Try.results49, go_sem]) rfl ⟨_, va, rfl, ?_, HBE.out, HKF.out⟩
      have := HLK.out
      rwa [HALL.out] at this
end Go.Proofs.Ytkafbihlmhdjeab
