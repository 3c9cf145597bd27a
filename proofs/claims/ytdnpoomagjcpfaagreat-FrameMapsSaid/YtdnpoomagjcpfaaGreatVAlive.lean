/- The reference's Alive and AliveAfter. -/
import Derived.Test.YtdnpoomagjcpfaaGreatVAliveM
import Derived.Deep.LoopGhost
namespace Go.Proofs.YtdnpoomagjcpfaaGreat
open Go.RowKit
set_option linter.unusedVariables false
set_option linter.unusedSimpArgs false

def pairC (p : Nat × Nat) : List Value := [.int .i64 (p.1 : Int), .int .i64 (p.2 : Int)]
theorem pairC_len (p : Nat × Nat) : (pairC p).length = 2 := rfl
theorem cntR_all (m : Nat) : cntR m (fun _ => false) = m := by
 unfold cntR
 rw [List.filter_eq_self.2 (by simp)]
 simp
theorem pair_last (l : List (Nat × Nat)) (x y : Nat) : ((l ++ [(x, y)]).flatMap pairC)[l.length * 2]? = some (.int .i64 (x : Int)) ∧ ((l ++ [(x, y)]).flatMap pairC)[l.length * 2 + 1]? = some (.int .i64 (y : Int)) := by
 have hl := flatN_len pairC_len l
 rw [List.flatMap_append]
 constructor
 ·rw [List.getElem?_append_right (by omega), hl, Nat.sub_self]; rfl
 ·rw [List.getElem?_append_right (by omega), hl, show l.length * 2 + 1 - l.length * 2 = 1 by omega]; rfl
/-- where the search stands -/
structure AlSt (f : VF) (w wr : World) (m r : Nat) (s0 : Nat × Nat) (v : Value) (seen : Nat → Bool) (todo : List (Nat × Nat)) (sa : Option Addr) : Prop where
 own : wr.ownsRow (w.heap.size + 1 + 1) 85 2 v todo.length (todo.flatMap pairC)
 row : BRow wr (w.heap.size + 1) m seen
 be : Below w.heap.size w wr
 box : Blk wr w.heap.size 25 [.int .i64 f.name, .slice f.pa f.pn f.pc, .int .i64 f.regs, .slice sa m f.sc]
 few : 2 * cntR m seen + todo.length ≤ 2 * m + 1
 small : ∀ p ∈ todo, p.2 ≤ 10000
theorem AlSt.below {f : VF} {w wr w' : World} {m r : Nat} {s0 : Nat × Nat} {v : Value} {seen : Nat → Bool} {todo : List (Nat × Nat)} {sa : Option Addr} (h : AlSt f w wr m r s0 v seen todo sa) (hb : Below wr.heap.size wr w') : AlSt f w w' m r s0 v seen todo sa :=
 ⟨ownG_below h.own hb, h.row.below hb (Blk.lt h.row), h.be.trans (hb.mono h.be.size), h.box.below hb h.box.lt, h.few, h.small⟩
theorem Tryz.infoP85 : (Tryz.prog.info? 85).map (fun i => (i.zero, i.size, i.bytes)) = some (some (.agg #[.int .i64 0, .int .i64 0]), 2, 16) := by kernel_rfl
theorem run_push (w : World) (ty : TypeId) (v : Value) (base n : Nat) (xs : List Value) (h : w.ownsRow base 85 2 v n xs) (x y : Nat) (hn : n ≤ 100000) (hb : base ≤ w.heap.size) :
  ∃ v' w', (Builtin.append_ #[74, 74] ty #[v, .slice (some ⟨w.heap.size, 0, none⟩) 1 1]).run Tryz.prog (w.alloc (.cells #[.int .i64 (x : Int), .int .i64 (y : Int)] 85)) = .ok v' w' ∧ w'.ownsRow base 85 2 v' (n + 1) (xs ++ pairC (x, y)) ∧ (w.alloc (.cells #[.int .i64 (x : Int), .int .i64 (y : Int)] 85)).grownBy w' v.ownBlock := by
 obtain ⟨i, hi, hz, hs, hby⟩ := info_partsV Tryz.infoP85
 have hbk := Blk.new w (pairC (x, y)) 85
 obtain ⟨v', w', e1, e2, e3, _⟩ := run_append_own (P := Tryz.prog) (w.alloc (.cells #[.int .i64 (x : Int), .int .i64 (y : Int)] 85)) base 74 ty 85 i (.agg #[.int .i64 0, .int .i64 0]) 2 16 Tryz.underlying74 hi hz hs hby rfl (by decide) v n xs (h.alloc _) ⟨w.heap.size, 0, none⟩ 1 1 (pairC (x, y)) rfl (fun j u hu => by
  rw [Addr.add_lit, Nat.zero_add]
  exact (hbk.cell j).trans hu) (by intro u hu; simp [pairC] at hu; rcases hu with rfl | rfl <;> rfl) (by unfold maxLen; omega) (by omega) (by simp; omega)
 exact ⟨v', w', e1, e2, e3⟩
theorem flat_snoc (l : List (Nat × Nat)) (p : Nat × Nat) : (l ++ [p]).flatMap pairC = l.flatMap pairC ++ pairC p := by rw [List.flatMap_append]; simp
def AlivePost (f : VF) (i q r : Nat) (w : World) (e : Ending) (w' : World) : Prop := ∃ b : Bool, e = .returned (.bool b) ∧ (b = true ↔ AliveP f i q r) ∧ Below w.heap.size w w'

set_option maxRecDepth 100000 in
set_option maxHeartbeats 8000000 in
theorem alive_any (w : World) (f : VF) (hf : f.Ok w) (m : Nat) (hm : m = f.blocks.length) (hm2 : m ≤ 4096) (htos : TosV f m) (hins : ∀ i, i < m → (f.blk i).ins.length ≤ 4096) (i q r : Nat) (hi : i < m) (hq : q ≤ 10000) (hr : r ≠ 0) (hr2 : r ≤ 10000) :
  Calls Tryz.prog 12 #[f.v, .int .i64 (i : Int), .int .i64 (q : Int), .int .i64 (r : Int)] w (AlivePost f i q r w) := by
 have hmk : ∀ w : World, (Instr.makeSlice 51 (.int .i64 (m : Int)) (.int .i64 (m : Int))).run Tryz.prog w = .ok (.slice (some ⟨w.heap.size, 0, none⟩) m m) (w.alloc (.cells (rowL m fun _ => .bool false).toArray 4)) := fun w => run_make_rep (P := Tryz.prog) 51 4 (.bool false) 1 Tryz.underlying51 Tryz.infoB4 rfl m (by omega) (by omega) w
 have hsm : f.sn = m := by rw [hm]; exact hf.len.symm
 have HF := Lib.hid hf
 have HTOS := Lib.hid htos
 have HINS := Lib.hid hins
 have HMB := Lib.hid hm
 have HSM := Lib.hid hsm
 clear hf htos hins hm
 unfold VF.v
 rw [hsm]
 clear hsm
 obtain ⟨sa, hsa0⟩ : ∃ s, s = f.sa := ⟨_, rfl⟩
 rw [← hsa0]
 have HSA := Lib.hid hsa0
 clear hsa0
 go_enter Tryz.func12, Tryz.ntmps12
 go_wp2_with fail
 have hown := World.ownsRow_lit (base := w.heap.size + 1 + 1) (e := 85) (size := 2) ((w.alloc (.cells #[.int .i64 f.name, .slice f.pa f.pn f.pc, .int .i64 f.regs, .slice sa m f.sc] 25)).alloc (.cells (rowL m fun _ => .bool false).toArray 4)) #[.int .i64 (i : Int), .int .i64 (q : Int)] 1 (by simp) (by decide) rfl
 have hb1 : Below w.heap.size w (((w.alloc (.cells #[.int .i64 f.name, .slice f.pa f.pn f.pc, .int .i64 f.regs, .slice sa m f.sc] 25)).alloc (.cells (rowL m fun _ => .bool false).toArray 4)).alloc (.cells #[.int .i64 (i : Int), .int .i64 (q : Int)] 85)) := (((Below.refl _ _).alloc (Nat.le_refl _) _).alloc (by simp) _).alloc (by simp; omega) _
 have hrow := (Blk.new (w.alloc (.cells #[.int .i64 f.name, .slice f.pa f.pn f.pc, .int .i64 f.regs, .slice sa m f.sc] 25)) (rowL m fun _ => .bool false) 4).alloc (.cells #[.int .i64 (i : Int), .int .i64 (q : Int)] 85)
 rw [World.size_alloc] at hrow
 have hbox := ((Blk.new w [.int .i64 f.name, .slice f.pa f.pn f.pc, .int .i64 f.regs, .slice sa m f.sc] 25).alloc (.cells (rowL m fun _ => .bool false).toArray 4)).alloc (.cells #[.int .i64 (i : Int), .int .i64 (q : Int)] 85)
 rw [World.size_alloc, World.size_alloc] at hown
 have HST : Hid (AlSt f w _ m r (i, q) _ (fun _ => false) [(i, q)] sa) := ⟨hown, hrow, hb1, hbox, by rw [cntR_all]; simp, fun p hp => by rw [List.mem_singleton.1 hp]; exact hq⟩
 have HDF := Lib.hid (DfsV.init f m r (i, q) hi)
 clear hown hb1 hrow hbox hmk
 generalize ((w.alloc _).alloc _).alloc _ = w1 at HST ⊢
 go_loopg [10] (2 * m + 1) (fun gk v wr => ∃ (seen : Nat → Bool) (todo : List (Nat × Nat)), AlSt f w wr m r (i, q) v seen todo sa ∧ DfsV f m r (i, q) seen todo ∧ 2 * cntR m seen + todo.length ≤ gk)
 case atStart => exact ⟨_, _, HST.out, HDF.out, by rw [cntR_all]; simp⟩
 case round =>
  clear HST HDF
  obtain ⟨seen, todo, hst, hdf, hgk⟩ := hrel
  rcases List.eq_nil_or_concat todo with rfl | ⟨todo', p, rfl⟩
  ·obtain ⟨a, c, rfl⟩ := ownG_shape hst.own
   have HB := Lib.hid hst.be
   have HNO := Lib.hid (hdf.no HTOS.out hr hi)
   clear hst hdf hgk
   simp only [List.length_nil]
   go_wp2_with fail
   go_ret
   exact ⟨false, rfl, by simp; exact HNO.out, HB.out⟩
  ·obtain ⟨x, y⟩ := p
   have hlen : (todo'.concat (x, y)).length = todo'.length + 1 := by simp
   rw [List.concat_eq_append] at *
   obtain ⟨g, cap, rfl, hg1, hg2, hg3, hg4⟩ := ownG_has hst.own (by rw [List.length_append]; simp)
   have hx : x < m := hdf.lt (x, y) (by simp)
   have hy : y ≤ 10000 := hst.small (x, y) (by simp)
   have HGK := Lib.hid hgk
   have HST := Lib.hid hst
   have HDF := Lib.hid hdf
   obtain ⟨n, hn⟩ : ∃ n, n = todo'.length := ⟨_, rfl⟩
   have hn9 : n ≤ 10000 := by have := hst.few; rw [List.length_append] at this; simp at this; omega
   have cxx := hst.own.cellAt (n * 2) (by rw [List.length_append]; simp; omega)
   have cyy := hst.own.cellAt (n * 2 + 1) (by rw [List.length_append]; simp; omega)
   rw [show (todo' ++ [(x, y)]).length = n + 1 by rw [List.length_append, hn]; rfl] at hg3 ⊢
   have HN := Lib.hid hn
   clear hgk hst hdf hlen hn
   rw [HN.out, (pair_last todo' x y).1, ← HN.out] at cxx
   rw [HN.out, (pair_last todo' x y).2, ← HN.out] at cyy
   have hb2 : Below wr.heap.size wr (wr.alloc (.cells #[.int .i64 (x : Int), .int .i64 (y : Int)] 85)) := (Below.refl _ _).alloc (Nat.le_refl _) _
   have hbx := HST.out.box.below hb2 HST.out.box.lt
   have c3 := hbx.cell 3
   simp only [List.getElem?_cons_zero, List.getElem?_cons_succ] at c3
   have hxb : x < f.blocks.length := by rw [← HMB.out]; exact hx
   have hbe2 := HST.out.be.trans (hb2.mono HST.out.be.size)
   obtain ⟨gb, ob, hsa, hgb, d0, d1, d2, d3, d4, d5, d6⟩ := HF.out.cells hbe2 hxb
   obtain ⟨b, hb⟩ : ∃ b, b = f.blk x := ⟨_, rfl⟩
   rw [VF.blk_get f hxb, ← hb] at d0 d1 d2 d3 d4 d5 d6
   rw [← HSA.out] at hsa
   subst hsa
   have hbo : b.Ok w := by rw [hb, ← VF.blk_get f hxb]; exact HF.out.blocks _ (List.getElem_mem _)
   have hbi := HINS.out x hx
   rw [← hb] at hbi
   have hbl := hbo.len
   have HB := Lib.hid hb
   have HBO := Lib.hid hbo
   clear hb2 hbx hbe2 hb hbo
   have hxm : (x : Int) < (m : Int) := by omega
   obtain ⟨sb, hsb⟩ : ∃ s, s = b.sa := ⟨_, rfl⟩
   rw [← hsb] at d0
   have HSB := Lib.hid hsb
   clear hsb
   go_wp2_with fail
   have hb3 : Below wr.heap.size wr ((wr.alloc (.cells #[.int .i64 (x : Int), .int .i64 (y : Int)] 85)).alloc (.cells #[.slice sb b.sn b.sc, .int .i64 b.e.kind, .int .i64 b.e.op, .int .i64 b.e.a, .int .i64 b.e.b, .int .i64 b.e.n, .slice b.e.sa b.e.sn b.e.sc] 46)) := ((Below.refl _ _).alloc (Nat.le_refl _) _).alloc (by simp) _
   have hV := Blk.new (wr.alloc (.cells #[.int .i64 (x : Int), .int .i64 (y : Int)] 85)) [.slice sb b.sn b.sc, .int .i64 b.e.kind, .int .i64 b.e.op, .int .i64 b.e.a, .int .i64 b.e.b, .int .i64 b.e.n, .slice b.e.sa b.e.sn b.e.sc] 46
   rw [World.size_alloc] at hV
   have hst4 := HST.out.below hb3
   have HPOP : Hid (AlSt f w ((wr.alloc (.cells #[.int .i64 (x : Int), .int .i64 (y : Int)] 85)).alloc (.cells #[.slice sb b.sn b.sc, .int .i64 b.e.kind, .int .i64 b.e.op, .int .i64 b.e.a, .int .i64 b.e.b, .int .i64 b.e.n, .slice b.e.sa b.e.sn b.e.sc] 46)) m r (i, q) (.slice (some ⟨g, 0, none⟩) n cap) seen todo' (some ⟨gb, ob, none⟩)) := by
    have ho := hst4.own
    rw [show (todo' ++ [(x, y)]).length = n + 1 by rw [List.length_append, HN.out]; rfl, flat_snoc] at ho
    have hf9 := hst4.few
    rw [List.length_append] at hf9
    refine ⟨?_, hst4.row, hst4.be, hst4.box, by simp at hf9; omega, fun p hp => hst4.small p (List.mem_append_left _ hp)⟩
    rw [← HN.out]
    exact ownsRow_pop (by rw [flatN_len pairC_len, HN.out]) ho
   have HPU := Lib.hid HDF.out.pop
   have HGK2 : Hid (2 * cntR m seen + todo'.length + 1 ≤ gk) := by
    have := HGK.out
    rw [List.length_append] at this
    exact this
   obtain ⟨V, hVe⟩ : ∃ V, V = wr.heap.size + 1 := ⟨_, rfl⟩
   rw [← hVe] at hV ⊢
   have HV := Lib.hid hV
   have hVl : V < ((wr.alloc (.cells #[.int .i64 (x : Int), .int .i64 (y : Int)] 85)).alloc (.cells #[.slice sb b.sn b.sc, .int .i64 b.e.kind, .int .i64 b.e.op, .int .i64 b.e.a, .int .i64 b.e.b, .int .i64 b.e.n, .slice b.e.sa b.e.sn b.e.sc] 46)).heap.size := hV.lt
   clear hb3 hV hst4 HST HGK cxx cyy c3 d0 d1 d2 d3 d4 d5 d6
   generalize ((wr.alloc (.cells #[.int .i64 (x : Int), .int .i64 (y : Int)] 85)).alloc (.cells #[.slice sb b.sn b.sc, .int .i64 b.e.kind, .int .i64 b.e.op, .int .i64 b.e.a, .int .i64 b.e.b, .int .i64 b.e.n, .slice b.e.sa b.e.sn b.e.sc] 46)) = w4 at HPOP HV hVl ⊢
   clear hVe
   go_loopw [8, 13, 14] (fun _ u13 u14 wr => ∃ (j : Nat) (df : Bool), u13 = .bool df ∧ u14 = .int .i64 (j : Int) ∧ j ≤ 20000 ∧ (y ≤ j ∧ (j ≤ b.ins.length ∨ j = y)) ∧ Below w4.heap.size w4 wr ∧ (df = false → genAt b y r = genAt b j r ∧ thruAt b y r = thruAt b j r) ∧ (df = true → genAt b y r = false ∧ thruAt b y r = false)) (fun _ _ u _ => b.ins.length - (intOf u).toNat)
   case atStart => exact ⟨y, false, rfl, rfl, by omega, ⟨Nat.le_refl _, .inr rfl⟩, Below.refl _ _, fun _ => ⟨rfl, rfl⟩, fun h => by cases h⟩
   case round =>
    obtain ⟨j, df, rfl, rfl, hj2, ⟨hj3, hj4⟩, hbw, hdf0, hdf1⟩ := hrel
    obtain ⟨w5, hw5⟩ : ∃ w5, w5 = wr := ⟨_, rfl⟩
    rw [← hw5] at hbw ⊢
    clear hw5
    have HDF0 := Lib.hid hdf0
    have HDF1 := Lib.hid hdf1
    have HBW := Lib.hid hbw
    have hV5 := HV.out.below hbw hVl
    have v0 := hV5.cell 0
    simp only [List.getElem?_cons_zero, List.getElem?_cons_succ] at v0
    clear hdf0 hdf1 hbw
    have HBB : Hid (Below w.heap.size w w4) := HPOP.out.be
    have hBW5 := HBB.out.trans (HBW.out.mono HBB.out.size)
    have HALIVE : Hid (∀ bb : Bool, bb = true → AliveP f x y r → (bb = true ↔ AliveP f i q r)) := fun bb h1 h2 => ⟨fun _ => HDF.out.sound (x, y) (by simp) h2, fun _ => h1⟩
    by_cases hjl : j < b.ins.length
    ·cases df
     ·obtain ⟨z, hz⟩ : ∃ z, z = b.ins[j] := ⟨_, rfl⟩
      obtain ⟨gi, oi, hsb2, hgi, d0, d1, d2, d3, d4, d5⟩ := HBO.out.cells hBW5 hjl
      rw [← hz] at d0 d1 d2 d3 d4 d5
      rw [← HSB.out] at hsb2
      subst hsb2
      have hzo : z.Ok w5 := by rw [hz]; exact (HBO.out.ins _ (List.getElem_mem _)).below hBW5
      have hIU := insUses_any z w5 hzo
      have hID := insDef_any z
      unfold viV at hIU hID
      have HGS : Hid (genAt b j r = if (r : Int) ∈ usesV z then true else if (r : Int) = defV z then false else genAt b (j + 1) r) := by rw [hz]; exact genAt_step hjl
      have HTS : Hid (thruAt b j r = if (r : Int) ∈ usesV z then true else if (r : Int) = defV z then false else thruAt b (j + 1) r) := by rw [hz]; exact thruAt_step hjl
      have HIU := Lib.hid hIU
      have HID := Lib.hid hID
      have HZ := Lib.hid hz
      have HV5 := Lib.hid hV5
      have HBW5 := Lib.hid hBW5
      have hjI : (j : Int) < (b.sn : Int) := by omega
      clear hzo hIU hID hz hV5 hBW5
      go_wp2_with fail
      refine HIU.out.mono ?_
      rintro e w6 ⟨v6, rfl, ho6, hb6⟩
      obtain ⟨a6, c6, rfl⟩ := ownG_shape ho6
      have HAM := Lib.hid (among_any w6 a6 _ c6 (usesV z) (came_owns_ints ho6) r)
      have HB6 := Lib.hid (HBW.out.trans (hb6.mono HBW.out.size))
      have HBW6 := HBW5.out.trans (hb6.mono HBW5.out.size)
      have HV6 := HV5.out.below hb6 HV5.out.lt
      clear d0 d1 d2 d3 d4 d5 v0
      obtain ⟨gi', oi', hsb3, hgi', d0, d1, d2, d3, d4, d5⟩ := HBO.out.cells HBW6 hjl
      rw [← HSB.out] at hsb3
      injection hsb3 with hsb3
      injection hsb3 with ee1 ee2 _
      subst ee1 ee2
      rw [← HZ.out] at d0 d1 d2 d3 d4 d5
      have v0 := HV6.cell 0
      simp only [List.getElem?_cons_zero, List.getElem?_cons_succ] at v0
      have HBW6 := Lib.hid HBW6
      clear ho6 hb6 HV6 hgi'
      generalize (usesV z).length = lz at HAM ⊢
      by_cases hmem : (r : Int) ∈ usesV z
      ·rw [decide_eq_true hmem] at HAM
       have HF : Hid (AliveP f x y r) := .inl (by rw [← HB.out, (HDF0.out (by simp)).1, HGS.out, if_pos hmem])
       clear hmem
       go_wp2_with fail
       refine HAM.out.mono ?_
       rintro e w7 ⟨rfl, rfl⟩
       go_wp2_with fail
       go_ret
       exact ⟨true, rfl, HALIVE.out true rfl HF.out, HBW6.out⟩
      ·rw [decide_eq_false hmem] at HAM
       have HMEM := Lib.hid hmem
       clear hmem
       go_wp2_with fail
       refine HAM.out.mono ?_
       rintro e w7 ⟨rfl, rfl⟩
       by_cases hdr : (r : Int) = defV z
       ·have hdz : (defV z == (r : Int)) = true := by simp [hdr]
        have HDR := Lib.hid hdr
        clear hdr
        go_wp2_with fail
        refine (HID.out _).mono ?_
        rintro e w8 ⟨rfl, hb8⟩
        have HB8 := Lib.hid (HB6.out.trans (hb8.mono HB6.out.size))
        clear hb8 d0 d1 d2 d3 d4 d5 v0
        go_wp2_with fail
        go_roundw
        case rel =>
         refine ⟨j + 1, true, rfl, by go_num, by omega, ⟨by omega, .inl (by omega)⟩, HB8.out, fun h => (by cases h), fun _ => ⟨?_, ?_⟩⟩
         ·rw [(HDF0.out (by simp)).1, HGS.out, if_neg HMEM.out, if_pos HDR.out]
         ·rw [(HDF0.out (by simp)).2, HTS.out, if_neg HMEM.out, if_pos HDR.out]
        case measure => simp [intOf]; omega
       ·have hdz : (defV z == (r : Int)) = false := by simp; exact fun h => hdr h.symm
        have HDR := Lib.hid hdr
        clear hdr
        go_wp2_with fail
        refine (HID.out _).mono ?_
        rintro e w8 ⟨rfl, hb8⟩
        have HB8 := Lib.hid (HB6.out.trans (hb8.mono HB6.out.size))
        clear hb8 d0 d1 d2 d3 d4 d5 v0
        go_wp2_with fail
        go_roundw
        case rel =>
         refine ⟨j + 1, false, rfl, by go_num, by omega, ⟨by omega, .inl (by omega)⟩, HB8.out, fun _ => ⟨?_, ?_⟩, fun h => (by cases h)⟩
         ·rw [(HDF0.out (by simp)).1, HGS.out, if_neg HMEM.out, if_neg HDR.out]
         ·rw [(HDF0.out (by simp)).2, HTS.out, if_neg HMEM.out, if_neg HDR.out]
        case measure => simp [intOf]; omega
     ·have hjI : (j : Int) < (b.sn : Int) := by omega
      clear hV5
      have HFIN := Lib.hid (HPOP.out.below HBW.out)
      have HDD : Hid (DfsV f m r (i, q) seen todo') := HPU.out.done ⟨by have := (HDF1.out (by simp)).1; rw [HB.out] at this; exact this, fun h => by have := (HDF1.out (by simp)).2; rw [HB.out] at this; rw [this] at h; cases h⟩
      go_wp2_with fail
      go_roundg (2 * cntR m seen + todo'.length)
      case measure => have := HGK2.out; omega
      case rel => exact ⟨seen, todo', HFIN.out, HDD.out, Nat.le_refl _⟩
    ·have hjI : ¬ (j : Int) < (b.sn : Int) := by omega
     cases df
     ·have v3 := hV5.cell 3
      have v4 := hV5.cell 4
      have v6 := hV5.cell 6
      simp only [List.getElem?_cons_zero, List.getElem?_cons_succ] at v3 v4 v6
      have HG : Hid (genAt b y r = decide ((r : Int) ∈ endV b.e)) := by show _ = _; rw [(HDF0.out (by simp)).1, genAt_end (by omega)]
      have HTT : Hid (thruAt b y r = true) := by show _ = _; rw [(HDF0.out (by simp)).2, thruAt_end (by omega)]
      have HV5 := Lib.hid hV5
      have HBW5 := Lib.hid hBW5
      clear hV5 hBW5
      by_cases ha : b.e.a = (r : Int)
      ·have ha9 : (b.e.a == (r : Int)) = true := by simp [ha]
       have HF : Hid (AliveP f x y r) := .inl (by rw [← HB.out, HG.out]; exact decide_eq_true ((end_mem hr).2 (.inl ha)))
       clear ha
       go_wp2_with fail
       go_ret
       exact ⟨true, rfl, HALIVE.out true rfl HF.out, HBW5.out⟩
      ·have ha9 : (b.e.a == (r : Int)) = false := by simp [ha]
       by_cases hb : b.e.b = (r : Int)
       ·have hb9 : (b.e.b == (r : Int)) = true := by simp [hb]
        have HF : Hid (AliveP f x y r) := .inl (by rw [← HB.out, HG.out]; exact decide_eq_true ((end_mem hr).2 (.inr hb)))
        clear ha hb
        go_wp2_with fail
        go_ret
        exact ⟨true, rfl, HALIVE.out true rfl HF.out, HBW5.out⟩
       ·have hb9 : (b.e.b == (r : Int)) = false := by simp [hb]
        have HNG : Hid (genAt b y r = false) := by show _ = _; rw [HG.out]; exact decide_eq_false fun h => ((end_mem hr).1 h).elim ha hb
        clear ha hb
        have HST5 := Lib.hid (HPOP.out.below HBW.out)
        obtain ⟨sn, hsn⟩ : ∃ s, s = b.e.sn := ⟨_, rfl⟩
        obtain ⟨se, hse⟩ : ∃ s, s = b.e.sa := ⟨_, rfl⟩
        rw [← hsn, ← hse] at v6
        have HCE : Hid (Came w se sn b.e.sc 1 (b.e.to.map intCells)) := by rw [hse, hsn]; exact HBO.out.e.came
        have htl : b.e.to.length = sn := by rw [hsn]; exact HBO.out.e.len
        have hreach := HBO.out.e.reach
        rw [← hsn] at hreach
        have HTO : Hid (∀ t ∈ b.e.to, 0 ≤ t ∧ t < m) := by rw [HB.out]; exact HTOS.out x hx
        have HSND : Hid (∀ t : Nat, (t : Int) ∈ b.e.to → AliveP f t 0 r → AliveP f i q r) := fun t ht hal => by
         refine HDF.out.sound (x, y) (by simp) (.inr ⟨?_, t, ?_, (aliveP_zero hr).1 hal⟩)
         ·rw [← HB.out]; exact HTT.out
         ·rw [← HB.out]; exact ht
        clear hsn hse HV5 HALIVE
        go_wp2_with fail
        go_loopw [10, 16, 91] (fun u10 _ u91 wr => ∃ (k : Nat) (seen : Nat → Bool) (todo : List (Nat × Nat)), u91 = .int .i64 (k : Int) ∧ k ≤ sn ∧ AlSt f w wr m r (i, q) u10 seen todo (some ⟨gb, ob, none⟩) ∧ PushV f m r (i, q) (x, y) seen todo (b.e.to.take k) ∧ 2 * cntR m seen + todo.length + 1 ≤ gk) (fun _ _ u _ => sn - (intOf u).toNat)
        case atStart => exact ⟨0, seen, todo', rfl, Nat.zero_le _, HST5.out, HPU.out, HGK2.out⟩
        case round =>
         clear HST5 HPU HGK2 HPOP
         obtain ⟨k, seen2, todo2, rfl, hk, hst, hpu, hgk⟩ := hrel
         obtain ⟨w7, hw7⟩ : ∃ w7, w7 = wr := ⟨_, rfl⟩
         rw [← hw7] at hst ⊢
         clear hw7
         have HST := Lib.hid hst
         have HPU := Lib.hid hpu
         have HGK := Lib.hid hgk
         obtain ⟨a2, c2, rfl⟩ := ownG_shape hst.own
         clear hst hpu hgk
         by_cases hkl : k < sn
         ·obtain ⟨gt, ot, rfl, hgt, hct⟩ := HCE.out.ints (by omega)
          have ck := (HST.out.be.cell (p := ⟨gt, ot + k, none⟩) hgt).trans (hct k (by omega))
          obtain ⟨t, ht⟩ : ∃ t, t = b.e.to[k]'(by omega) := ⟨_, rfl⟩
          rw [← ht] at ck
          have htm := HTO.out t (by rw [ht]; exact List.getElem_mem _)
          have HTK : Hid (b.e.to.take (k + 1) = b.e.to.take k ++ [t]) := by rw [ht]; exact List.take_succ_eq_append_getElem _
          have HME : Hid (t ∈ b.e.to) := by rw [ht]; exact List.getElem_mem _
          obtain ⟨t, rfl⟩ := Int.eq_ofNat_of_zero_le htm.1
          have htm2 : t < m := by omega
          have cs := HST.out.row.cell htm2
          have fs := Blk.free HST.out.row t
          clear ht htm hct
          cases hs : seen2 t
          ·rw [hs] at cs
           have hS := Blk.lt HST.out.row
           have hob : (Value.slice a2 todo2.length c2).ownBlock ≠ some (w.heap.size + 1) := fun e => by have := (HST.out.own.lt _ e).1; omega
           have hown8 := ownG_other (a := ⟨w.heap.size + 1, t, none⟩) HST.out.own hob (.bool true)
           have hle := HST.out.few
           have hcm : cntR m seen2 ≤ m := by
            have h1 : cntR m seen2 ≤ cntR m (fun _ => false) := cntR_le fun r _ h => by cases h
            rwa [cntR_all] at h1
           obtain ⟨v9, w9, hrun, hown9, hgr9⟩ := run_push _ 74 _ _ _ _ hown8 t 0 (by omega) (by have := HST.out.be.size; have := (HST.out.row).lt; simp [World.setCell]; omega)
           rw [show ((0 : Nat) : Int) = 0 from rfl] at hrun hgr9
           rw [show (w7.setCell ⟨w.heap.size + 1, t, none⟩ (.bool true)).heap.size = w7.heap.size from by simp [World.setCell]] at hrun
           have hr8 : BRow (w7.setCell ⟨w.heap.size + 1, t, none⟩ (.bool true)) (w.heap.size + 1) m (fun k => if k = t then true else seen2 k) := HST.out.row.set t true
           have hr9 : BRow w9 (w.heap.size + 1) m (fun k => if k = t then true else seen2 k) := Blk.of_heap (Blk.alloc hr8 _) (hgr9.block _ (by simp [World.setCell]; omega) (fun e => hob e.symm))
           have hbx8 := (HST.out.box.setOther (a := ⟨w.heap.size + 1, t, none⟩) (by simp) (.bool true)).alloc (.cells #[.int .i64 (t : Int), .int .i64 0] 85)
           have hbx9 := hbx8.of_heap (hgr9.block _ (by simp [World.setCell]; omega) (fun e => by have := (HST.out.own.lt _ e.symm).1; omega))
           have hbe8 : Below w.heap.size w ((w7.setCell ⟨w.heap.size + 1, t, none⟩ (.bool true)).alloc (.cells #[.int .i64 (t : Int), .int .i64 0] 85)) := (HST.out.be.setCell (p := ⟨w.heap.size + 1, t, none⟩) (by simp) _).alloc (by have := HST.out.be.size; simp [World.setCell]; omega) _
           have hbe9 := hbe8.trans (belowOf (base := 0) (B := w.heap.size) hgr9 (fun z hz => by have := (HST.out.own.lt _ hz).1; omega) hbe8.size)
           have hcnt := cntR_set htm2 hs
           have HN2 : Hid (PushV f m r (i, q) (x, y) (fun k => if k = t then true else seen2 k) (todo2 ++ [(t, 0)]) (b.e.to.take (k + 1))) := by rw [HTK.out]; exact HPU.out.push htm2 (HSND.out t HME.out)
           have HN3 : Hid (AlSt f w w9 m r (i, q) v9 (fun k => if k = t then true else seen2 k) (todo2 ++ [(t, 0)]) (some ⟨gb, ob, none⟩)) := by
            refine ⟨?_, hr9, hbe9, hbx9, ?_, fun p hp => ?_⟩
            ·rw [List.length_append, flat_snoc]; exact hown9
            ·rw [List.length_append]; simp only [List.length_cons, List.length_nil]; omega
            ·rcases List.mem_append.1 hp with h1 | h1
             ·exact HST.out.small p h1
             ·rw [List.mem_singleton.1 h1]; exact Nat.zero_le _
           have HN4 : Hid (2 * cntR m (fun k => if k = t then true else seen2 k) + (todo2 ++ [(t, 0)]).length + 1 ≤ gk) := by
            have := HGK.out
            show _ ≤ _
            rw [List.length_append]
            simp only [List.length_cons, List.length_nil]
            omega
           have HRUN := Lib.hid hrun
           clear hown8 hrun hown9 hgr9 hr8 hr9 hbx8 hbx9 hbe8 hbe9 hcnt hle hcm hs hob
           go_wp2_with (refine wpList_of_wp _ rfl (fun K Q' hk => wp_append_eq _ _ _ 74 74 rfl _ _ rfl rfl HRUN.out hk) ?_)
           go_roundw
           case rel => exact ⟨k + 1, _, _, by go_num, by omega, HN3.out, HN2.out, HN4.out⟩
           case measure => simp [intOf]; omega
          ·rw [hs] at cs
           have HN2 : Hid (PushV f m r (i, q) (x, y) seen2 todo2 (b.e.to.take (k + 1))) := by rw [HTK.out]; exact HPU.out.skip hs
           clear hs
           go_wp2_with fail
           go_roundw
           case rel => exact ⟨k + 1, seen2, todo2, by go_num, by omega, HST.out, HN2.out, HGK.out⟩
           case measure => simp [intOf]; omega
         ·have HALL : Hid (b.e.to.take k = b.e.to) := List.take_of_length_le (by omega)
          have HDD : Hid (DfsV f m r (i, q) seen2 todo2) := HPU.out.done ⟨by have := HNG.out; rw [HB.out] at this; exact this, fun _ t ht => HPU.out.to t (by rw [HALL.out, HB.out]; exact ht)⟩
          go_wp2_with fail
          go_roundg (2 * cntR m seen2 + todo2.length)
          case measure => have := HGK.out; omega
          case rel => exact ⟨seen2, todo2, HST.out, HDD.out, Nat.le_refl _⟩
     ·clear hV5
      have HFIN := Lib.hid (HPOP.out.below HBW.out)
      have HDD : Hid (DfsV f m r (i, q) seen todo') := HPU.out.done ⟨by have := (HDF1.out (by simp)).1; rw [HB.out] at this; exact this, fun h => by have := (HDF1.out (by simp)).2; rw [HB.out] at this; rw [this] at h; cases h⟩
      go_wp2_with fail
      go_roundg (2 * cntR m seen + todo'.length)
      case measure => have := HGK2.out; omega
      case rel => exact ⟨seen, todo', HFIN.out, HDD.out, Nat.le_refl _⟩
end Go.Proofs.YtdnpoomagjcpfaaGreat
