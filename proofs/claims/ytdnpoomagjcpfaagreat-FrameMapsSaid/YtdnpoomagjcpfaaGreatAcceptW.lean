/- alloccheck Accept: what it answers. -/
import Derived.Test.YtdnpoomagjcpfaaGreatAccMem
import Derived.Test.YtdnpoomagjcpfaaGreatBase
import Derived.Deep.LoopGhost
namespace Go.Proofs.YtdnpoomagjcpfaaGreat
open Go.RowKit
set_option linter.unusedVariables false
set_option linter.unusedSimpArgs false

theorem owns_popA {w : World} {B : Nat} {e : TypeId} {a : Option Addr} {n c : Nat} {xs : List Value} {x : Value} (h : w.ownsRow B e 1 (.slice a (n + 1) c) (n + 1) (xs ++ [x])) : w.ownsRow B e 1 (.slice a n c) n xs := by
  obtain ⟨h1, h2⟩ := h
  have hl : xs.length = n := by simpa using h1
  refine ⟨by simpa using hl, ?_⟩
  rcases h2 with ⟨h3, h4⟩ | ⟨g, cap, cur, h3, h4, h5, h6, h7, h8, h9⟩
  · omega
  · injection h3 with e1 e2 e3
    subst e1 e3
    refine .inr ⟨g, c, cur, rfl, h4, h5, by omega, h7, h8, ?_⟩
    have := congrArg (List.take n) h9
    rw [List.take_take] at this
    simp [hl] at this ⊢
    rw [← hl] at this ⊢
    simpa using this
theorem blk_ne {w : World} {p q : Nat} {t t' : TypeId} {cs cs' : List Value} (h : Blk w p t cs) (k : Blk w q t' cs') (hne : t ≠ t') : p ≠ q := fun e => by
  subst e
  have h1 : w.heap[p]? = _ := h
  have h2 : w.heap[p]? = _ := k
  rw [h1] at h2
  injection h2 with h2
  injection h2 with _ h2 _
  exact hne h2
instance belowPre (B : Nat) : PreR (Below B) := ⟨fun w => Below.refl B w, fun h k => h.trans k⟩
theorem snoc_cases {α : Type} (l : List α) : l = [] ∨ ∃ l' b, l = l' ++ [b] := by
  cases h : l.reverse with
  | nil => exact .inl (by simpa using h)
  | cons b t => exact .inr ⟨t.reverse, b, by have := congrArg List.reverse h; simpa using this⟩
theorem inssT_app (a : AL) : ∀ (l1 l2 : List VI) (M : Nat → Nat → Bool), inssT a (l1 ++ l2) M = (inssT a l1 M).bind (inssT a l2)
  | [], l2, M => rfl
  | x :: l1, l2, M => by
    simp only [List.cons_append, inssT]
    cases insT a x M with
    | none => rfl
    | some Z => simp only [Option.bind_some]; exact inssT_app a l1 l2 Z
theorem inssT_next {a : AL} {l : List VI} {k : Nat} {x : VI} {M X : Nat → Nat → Bool} (h : inssT a (l.take k) M = some X) (ht : l.take (k + 1) = l.take k ++ [x]) (hu : usedB a X (usesN x) = true) : inssT a (l.take (k + 1)) M = some (insX a x X) := by
  rw [ht, inssT_app, h]
  simp [inssT, insT, hu]
theorem inssT_fail {a : AL} {l : List VI} {k : Nat} {x : VI} {M X : Nat → Nat → Bool} (h : inssT a (l.take k) M = some X) (ht : l.take (k + 1) = l.take k ++ [x]) (hu : usedB a X (usesN x) = false) : inssT a l M = none := by
  rw [← List.take_append_drop (k + 1) l, ht, inssT_app, inssT_app, h]
  simp [inssT, insT, hu]
theorem blkT_fail {a : AL} {b : VB} {M : Nat → Nat → Bool} (h : inssT a b.ins M = none) : blkT a b M = none := by unfold blkT; rw [h]; rfl
def AcceptPost (f : VF) (a : AL) (w : World) (e : Ending) (w' : World) : Prop :=
  ∃ z, e = .returned (.int .i64 z) ∧ Below w.heap.size w w' ∧ (allocE f a ≠ 0 → z = allocE f a) ∧ (allocE f a = 0 → (z = 0 ∧ GoodS f a (startX a (f.params.map Int.toNat))) ∨ (z = 14 ∧ ¬ GoodS f a (startX a (f.params.map Int.toNat))))
/-- the one state that is there is set anew -/
theorem AccI.redo {w0 w w' : World} {pf cb Gs nb m n : Nat} {f : VF} {a : AL} {X Y : Nat → Nat → Bool} {gs : Nat → Nat} {bs cp : Nat → Nat → Nat} (h : AccI w0 w pf cb Gs nb m n f a (fun i => if i = 0 then some X else none) gs bs cp [] (.slice none 0 0)) (h0 : 0 < nb) {bs' cp' : Nat → Nat}
    (hr : RestS (fun k => inB' m (bs 0) k ∨ k = gs 0) w w') (hg : HG w' w0.heap.size (gs 0) m n Y bs' cp') : AccI w0 w' pf cb Gs nb m n f a (fun i => if i = 0 then some Y else none) gs (fun _ => bs') (fun _ => cp') [] (.slice none 0 0) := by
  have hot := h.st.hg 0 X h0 rfl
  refine ⟨h.be.trans (hr.toBelow (fun k hk => ?_) h.be.size), ?_, ?_, ⟨?_, fun i M hi hM => ?_, fun i j M N hi hj hM hN hne => ?_⟩, World.ownsRow_nil _ _ _ _⟩
  · rcases hk with ⟨i, hi, e⟩ | e
    · rw [e]; exact hot.lo.2 i hi
    · rw [e]; exact hot.lo.1
  · exact Blk.of_heap h.bf (hr.block _ (Blk.lt h.bf) (hot.blkNe h.bf (by decide) (by decide)))
  · exact Blk.of_heap h.chk (hr.block _ (Blk.lt h.chk) (hot.blkNe h.chk (by decide) (by decide)))
  · refine Blk.rowCongr (Blk.of_heap h.st.blk (hr.block _ (Blk.lt h.st.blk) (hot.blkNe h.st.blk (by decide) (by decide)))) fun i hi => ?_
    by_cases e : i = 0 <;> simp [e]
  · by_cases e : i = 0
    · subst e
      simp at hM
      subst hM
      exact hg
    · simp [e] at hM
  · by_cases e : i = 0
    · by_cases e2 : j = 0
      · omega
      · simp [e2] at hN
    · simp [e] at hM

set_option maxRecDepth 100000 in
set_option maxHeartbeats 8000000 in
theorem accept_any (w : World) (f : VF) (hf : f.Ok w) (a : AL) (ha : a.Ok w) : Calls Tryz.prog 28 #[f.v, a.v] w (AcceptPost f a w) := by
  have hb0 : Below w.heap.size w ((w.alloc (.cells #[.int .i64 f.name, .slice f.pa f.pn f.pc, .int .i64 f.regs, .slice f.sa f.sn f.sc] 25)).alloc (.cells #[.slice a.ra a.rn a.rc, .slice a.sa a.sn a.sc, .int .i64 a.k] 31)) := ((Below.refl _ _).alloc (Nat.le_refl _) _).alloc (by simp) _
  have hbf := (Blk.new w [.int .i64 f.name, .slice f.pa f.pn f.pc, .int .i64 f.regs, .slice f.sa f.sn f.sc] 25).alloc (.cells #[.slice a.ra a.rn a.rc, .slice a.sa a.sn a.sc, .int .i64 a.k] 31)
  have hba := Blk.new (w.alloc (.cells #[.int .i64 f.name, .slice f.pa f.pn f.pc, .int .i64 f.regs, .slice f.sa f.sn f.sc] 25)) [.slice a.ra a.rn a.rc, .slice a.sa a.sn a.sc, .int .i64 a.k] 31
  rw [World.size_alloc] at hba
  have hck := allocCheck_any _ f (hf.below hb0) a (ha.below hb0)
  unfold VF.v AL.v at hck ⊢
  have HF := Lib.hid hf
  have HAO := Lib.hid ha
  obtain ⟨ae, hae⟩ : ∃ ae, ae = allocE f a := ⟨_, rfl⟩
  rw [← hae] at hck
  have HAE := Lib.hid hae
  have HCK := Lib.hid hck
  have HB0 := Lib.hid hb0
  have HBF := Lib.hid hbf
  have HBA := Lib.hid hba
  clear hck hae hb0 hbf hba hf ha
  go_enter Tryz.func28, Tryz.ntmps28
  go_wp2_with fail
  generalize (w.alloc (.cells #[.int .i64 f.name, .slice f.pa f.pn f.pc, .int .i64 f.regs, .slice f.sa f.sn f.sc] 25)).alloc (.cells #[.slice a.ra a.rn a.rc, .slice a.sa a.sn a.sc, .int .i64 a.k] 31) = w1 at HCK HB0 HBF HBA ⊢
  refine HCK.out.mono ?_
  rintro e w2 ⟨rfl, hb2⟩
  have HB2 := Lib.hid (HB0.out.trans (hb2.mono HB0.out.size))
  have HBF2 := Lib.hid (HBF.out.below hb2 HBF.out.lt)
  have HBA2 := Lib.hid (HBA.out.below hb2 HBA.out.lt)
  clear hb2 HCK HB0 HBF HBA
  by_cases he : ae = 0
  · have he' : (ae != 0) = false := by simp [he]
    have hE : allocE f a = 0 := by rw [← HAE.out]; exact he
    have HE := Lib.hid hE
    clear he
    obtain ⟨n, hok⟩ := fnOk HF.out (allocE_fn hE)
    have hga := AL.good HAO.out hok.regs hE
    obtain ⟨kk, hkk⟩ : ∃ kk : Nat, a.k = (kk : Int) := ⟨a.k.toNat, by have := hga.k; have := hga.hm; omega⟩
    rw [hkk] at hga
    simp only [Int.toNat_natCast] at hga
    obtain ⟨nb, hnb⟩ : ∃ nb, nb = f.blocks.length := ⟨_, rfl⟩
    rw [← hnb] at hok
    have hregs := hok.regs
    have hsn := hok.sn
    have hn1 := hok.n2.1
    have hn2 := hok.n2.2
    have hnb1 := hok.nb2.1
    have hnb2 := hok.nb2.2
    have hkb := hga.hm.2
    have hpn6 := hok.pn
    have hbnd : nb * ((11 + kk) * n + 1) ≤ 302000000000 := Nat.le_trans (Nat.mul_le_mul hok.nb2.2 (Nat.add_le_add_right (Nat.mul_le_mul hga.hm.2 hok.n2.2) 1)) (by decide)
    have HBND := Lib.hid hbnd
    clear hbnd
    have HOK := Lib.hid hok
    have HGA := Lib.hid hga
    have HKK := Lib.hid hkk
    have HREG := Lib.hid hregs
    have HSN := Lib.hid hsn
    have HNB := Lib.hid hnb
    have HSF : Hid ((Tryz.prog.info? 25).map (·.size) = some 4) := by unfold Hid; kernel_rfl
    have HSA : Hid ((Tryz.prog.info? 31).map (·.size) = some 3) := by unfold Hid; kernel_rfl
    have hmk : ∀ w : World, (Instr.makeSlice 103 (.int .i64 (nb : Int)) (.int .i64 (nb : Int))).run Tryz.prog w = .ok (.slice (some ⟨w.heap.size, 0, none⟩) nb nb) (w.alloc (.cells (rowL nb fun _ => .slice none 0 0).toArray 104)) := fun w => run_make_rep (P := Tryz.prog) 103 104 (.slice none 0 0) 24 Tryz.underlying103 (by kernel_rfl) rfl nb (by omega) (by omega) w
    have hck := Blk.new w2 (chkC f a) 102
    have hb3 : Below w2.heap.size w2 (w2.alloc (.cells (chkC f a).toArray 102)) := (Below.refl _ _).alloc (Nat.le_refl _) _
    have HCK := Lib.hid hck
    have HB3 := Lib.hid hb3
    have c0 := HBF2.out.cell 0
    have c1 := HBF2.out.cell 1
    have c2 := HBF2.out.cell 2
    have c3 := HBF2.out.cell 3
    have b0 := HBA2.out.cell 0
    have b1 := HBA2.out.cell 1
    have b2 := HBA2.out.cell 2
    simp only [List.getElem?_cons_zero, List.getElem?_cons_succ] at b0 b1 b2 c0 c1 c2 c3
    clear hck hb3 hok hga hkk hregs hsn hnb hE
    go_upto_region 5 with fail
    change Code.wp _ _ _ _ (w2.alloc (.cells (chkC f a).toArray 102))
    clear c0 c1 c2 c3 b0 b1 b2 HSF HSA
    obtain ⟨cb, hcb⟩ : ∃ cb, cb = w2.heap.size := ⟨_, rfl⟩
    obtain ⟨pf, hpf⟩ : ∃ pf, pf = w.heap.size := ⟨_, rfl⟩
    have HPF := Lib.hid hpf
    have HBF3 := Lib.hid (HBF2.out.below HB3.out HBF2.out.lt)
    have HBA3 := Lib.hid (HBA2.out.below HB3.out HBA2.out.lt)
    have HB03 := Lib.hid (HB2.out.trans (HB3.out.mono HB2.out.size))
    generalize w2.alloc (.cells (chkC f a).toArray 102) = w3 at HCK HB3 HBF3 HBA3 HB03 ⊢
    rw [← hcb] at HCK ⊢
    have HBF4 : Hid (Blk w3 pf 25 (fC f)) := by unfold Hid; rw [hpf]; exact HBF3.out
    have HBA4 : Hid (Blk w3 (pf + 1) 31 [.slice a.ra a.rn a.rc, .slice a.sa a.sn a.sc, .int .i64 a.k]) := by unfold Hid; rw [hpf]; exact HBA3.out
    rw [← hpf]
    clear HB3 HBF3 HBA3 HBF2 HBA2 HB2 hcb hpf
    have c2 := HBF4.out.cell 2
    have c3 := HBF4.out.cell 3
    have b2 := HBA4.out.cell 2
    simp only [fC, List.getElem?_cons_zero, List.getElem?_cons_succ] at b2 c2 c3
    rw [HKK.out] at b2
    rw [HREG.out] at c2
    rw [HSN.out] at c3
    go_upto_region 7 with fail
    have hb4 : Below w3.heap.size w3 (w3.alloc (.cells (rowL nb fun _ => .slice none 0 0).toArray 104)) := (Below.refl _ _).alloc (Nat.le_refl _) _
    have HG0 := Lib.hid (Blk.new w3 (rowL nb fun _ => .slice none 0 0) 104)
    have HB04 := Lib.hid (HB03.out.trans (hb4.mono HB03.out.size))
    have HBF5 := Lib.hid (HBF4.out.below hb4 HBF4.out.lt)
    have HBA5 := Lib.hid (HBA4.out.below hb4 HBA4.out.lt)
    have HCK5 := Lib.hid (HCK.out.below hb4 HCK.out.lt)
    have HGS : Hid (w.heap.size ≤ w3.heap.size) := HB03.out.size
    clear hb4 HBF4 HBA4 HCK HB03 b2 c2 c3
    obtain ⟨Gs, hGs⟩ : ∃ Gs, Gs = w3.heap.size := ⟨_, rfl⟩
    rw [← hGs] at HG0 HGS
    generalize w3.alloc (.cells (rowL nb fun _ => .slice none 0 0).toArray 104) = w4 at HG0 HB04 HBF5 HBA5 HCK5 ⊢
    rw [← hGs]
    clear hGs
    have c2 := HBF5.out.cell 2
    simp only [fC, List.getElem?_cons_zero, List.getElem?_cons_succ] at c2
    rw [HREG.out] at c2
    have hnh := newHolds_any w4 (11 + kk) n (by omega) (by omega)
    rw [show (((11 + kk : Nat) : Int)) = 11 + (kk : Int) by omega] at hnh
    have HNH := Lib.hid hnh
    clear hnh
    go_wp2_with fail
    refine HNH.out.mono ?_
    rintro e w5 ⟨G, bs, rfl, hat, hb5⟩
    have HI0 : Hid (AccI w w5 pf cb Gs nb (11 + kk) n f a (fun _ => none) (fun _ => 0) (fun _ => bs) (fun _ _ => 0) [] (.slice none 0 0)) := by
      refine ⟨HB04.out.trans (hb5.mono HB04.out.size), HBF5.out.below hb5 HBF5.out.lt, Blk.below HCK5.out hb5 (Blk.lt HCK5.out), ⟨Blk.rowCongr (HG0.out.below hb5 HG0.out.lt) fun i _ => by simp, fun i M _ hM => (by cases hM), fun i j M N _ _ hM => (by cases hM)⟩, World.ownsRow_nil _ _ _ _⟩
    have HBA6 := Lib.hid (HBA5.out.below hb5 HBA5.out.lt)
    have cG := Blk.row HI0.out.st.blk hnb1
    have fG := Blk.free HI0.out.st.blk 0
    simp only [Option.isSome_none, Bool.false_eq_true, if_false] at cG
    have HI1 := Lib.hid (HI0.out.put (X := startX a []) HGS.out hnb1 rfl (HG.ofA hat (by omega)) (HB04.out.size) (fun i M _ hM => by cases hM))
    have HBA7 := Lib.hid (HBA6.out.setOther (a := ⟨Gs, 0, none⟩) (blk_ne HBA6.out HI0.out.st.blk (by decide)) (.slice (some ⟨G, 0, none⟩) (11 + kk) (11 + kk)))
    clear HI0 HNH HBA6 HBA5 hat hb5 HG0 HBF5 HCK5
    go_upto_region 8 with fail
    clear cG fG c2 hmk
    generalize w5.setCell ⟨Gs, 0, none⟩ (.slice (some ⟨G, 0, none⟩) (11 + kk) (11 + kk)) = w6 at HI1 HBA7 ⊢
    have c1 := HI1.out.bf.cell 1
    simp only [fC, List.getElem?_cons_zero, List.getElem?_cons_succ] at c1
    have HPL := Lib.hid HF.out.plen
    go_upto_block 0 with fail
    go_cut [10] from 42 (fun _ wx => ∃ (gs : Nat → Nat) (bs cp : Nat → Nat → Nat), AccI w wx pf cb Gs nb (11 + kk) n f a (fun i => if i = 0 then some (startX a (f.params.map Int.toNat)) else none) gs bs cp [] (.slice none 0 0))
    case first =>
     clear c1
     go_wp2_with fail
     go_loopw [44] (fun u wr => ∃ (k : Nat) (gs : Nat → Nat) (bs cp : Nat → Nat → Nat), k ≤ f.pn ∧ u = .int .i64 (k : Int) ∧ AccI w wr pf cb Gs nb (11 + kk) n f a (fun i => if i = 0 then some (startX a ((f.params.map Int.toNat).take k)) else none) gs bs cp [] (.slice none 0 0) ∧ Blk wr (pf + 1) 31 [.slice a.ra a.rn a.rc, .slice a.sa a.sn a.sc, .int .i64 a.k]) (fun u _ => f.pn - (intOf u).toNat)
     case atStart => exact ⟨0, _, _, _, Nat.zero_le _, rfl, HI1.out, HBA7.out⟩
     case round =>
       clear HI1 HBA7
       obtain ⟨k, gs, bs, cp, hk, rfl, hi, hba⟩ := hrel
       have HI := Lib.hid hi
       have HBA := Lib.hid hba
       clear hi hba
       by_cases hlt : k < f.pn
       · obtain ⟨b', off, ea, hbl, hcell⟩ := HF.out.pcame.ints (by omega)
         have hkl : k < f.params.length := by have := HPL.out; omega
         have cl := (HI.out.be.cell (p := ⟨b', off + k, none⟩) hbl).trans (hcell k hkl)
         have hr := HOK.out.par _ (List.getElem_mem hkl)
         have hkl2 : k < (f.params.map Int.toNat).length := by simpa using hkl
         have HT := Lib.hid (List.take_succ_eq_append_getElem hkl2)
         obtain ⟨r, hre⟩ : ∃ r : Nat, f.params[k] = (r : Int) := ⟨f.params[k].toNat, by omega⟩
         rw [hre] at cl hr
         have HT2 : Hid (startX a ((f.params.map Int.toNat).take (k + 1)) = defX (startX a ((f.params.map Int.toNat).take k)) (plc 11 a r).toNat r (fun _ => false)) := by
           show _ = _
           rw [HT.out, startX_snoc]
           simp only [List.getElem_map, hre, Int.toNat_natCast]
         have hrn : r < n := by omega
         clear hcell hre HT hkl2 hr
         have hpb := HGA.out.fit.pl r hrn
         obtain ⟨p, hp⟩ : ∃ p : Nat, plc 11 a r = (p : Int) := ⟨(plc 11 a r).toNat, by omega⟩
         rw [hp] at hpb HT2
         simp only [Int.toNat_natCast] at HT2
         have hpm : p < 11 + kk := by omega
         obtain ⟨X, hX⟩ : ∃ X, X = startX a ((f.params.map Int.toNat).take k) := ⟨_, rfl⟩
         rw [← hX] at HI HT2
         clear hX hpb
         rw [ea]
         obtain ⟨wd, hwd⟩ : ∃ wd, wd = wr.drew := ⟨_, rfl⟩
         have hde : Below wr.heap.size wr wd := by rw [hwd]; exact (Below.refl _ _).drew
         have HI2 := Lib.hid (HI.out.below hde)
         have HBA2 := Lib.hid (HBA.out.below hde HBA.out.lt)
         have HPLC := Lib.hid (place_any wd a (HAO.out.below HI2.out.be) r (by rw [HGA.out.fit.rn]; exact hrn) (by rw [HGA.out.fit.sn]; exact hrn) HGA.out.fit.sl)
         rw [hp] at HPLC
         unfold AL.v at HPLC
         have cG := Blk.row HI2.out.st.blk hnb1
         simp only [if_true, Option.isSome_some] at cG
         have hGl := Blk.lt HI2.out.st.blk
         have r0 := fun z : AfterR (Below wd.heap.size) wd => (z.rel.cell (p := ⟨Gs, 0, none⟩) hGl).trans cG
         have HMR : Hid (∀ w', clsRT (Below wd.heap.size) wd w' → w'.rangeAt (pf + 1) 0 [.slice a.ra a.rn a.rc, .slice a.sa a.sn a.sc, .int .i64 a.k]) := by
           rintro _ ⟨z, rfl⟩
           exact blk_range (Blk.below HBA2.out z.rel (Blk.lt HBA2.out))
         have HS3 : Hid ((Tryz.prog.info? 31).map (·.size) = some 3) := by unfold Hid; kernel_rfl
         obtain ⟨G0, hG0⟩ : ∃ G0, G0 = gs 0 := ⟨_, rfl⟩
         rw [← hG0] at r0
         have HG0 := Lib.hid hG0
         clear hde hp cG hGl hG0
         go_upto_region 11 with fail
         refine wp_region_eagerRT (Below wd.heap.size) [(0, true), (1, true), (2, true), (3, true), (4, true), (6, true), (5, false), (7, false)] (by kernel_rfl) (by kernel_rfl) ?_
         rw [← hwd]
         clear hwd
         iterate 3 (refine eagR_readT rfl ?_; go_big_quiet_step (fail); refine wpQuiet_nil ?_)
         refine eagR_readT rfl ?_
         refine loadMid rfl 31 _ rfl (pf + 1) 0 rfl [.slice a.ra a.rn a.rc, .slice a.sa a.sn a.sc, .int .i64 a.k] _ HMR.out Tryz.underlying31 rfl HS3.out ?_
         go_simp
         repeat (refine eagR_readT rfl ?_; go_big_quiet_step (fail); refine wpQuiet_nil ?_)
         clear r0
         refine eagR_doesT rfl rfl ?_
         intro K hK
         go_simp
         refine HPLC.out.mono ?_
         rintro e w7 ⟨rfl, hb7⟩
         refine hK _ _ (fun _ => hb7) ?_
         clear hK K
         have HI7 := Lib.hid (HI2.out.below hb7)
         have HBA7 := Lib.hid (HBA2.out.below hb7 HBA2.out.lt)
         have HDE := Lib.hid (define_any w7 w.heap.size (gs 0) (11 + kk) n X (bs 0) (cp 0) (HI7.out.st.hg 0 X hnb1 rfl) HI7.out.be.size p r hpm hrn (.slice none 0 0) (fun _ => false) (.inl ⟨rfl, fun _ => rfl⟩) (fun q hq => by cases hq) (by omega) (by omega))
         rw [← HG0.out] at HDE
         clear hb7 HPLC HI HBA HI2 HBA2
         go_simp
         refine eagR_freeT rfl rfl (by kernel_rfl) ?_
         intro K hK
         go_simp
         refine HDE.out.mono ?_
         rintro e w8 ⟨rfl, hrs, bs', cp', hg8, hbs⟩
         refine hK _ _ ?_
         clear hK K
         go_simp
         refine eagR_endT ?_
         rw [HG0.out] at hg8 hrs
         have HI8 := Lib.hid (HI7.out.redo hnb1 hrs hg8)
         have HBA8 : Hid (Blk w8 (pf + 1) 31 [.slice a.ra a.rn a.rc, .slice a.sa a.sn a.sc, .int .i64 a.k]) := Blk.of_heap HBA7.out (hrs.block _ (Blk.lt HBA7.out) ((HI7.out.st.hg 0 X hnb1 rfl).blkNe HBA7.out (by decide) (by decide)))
         clear hrs hg8 hbs HDE HI7 HBA7
         go_wp2_with fail
         go_roundw
         case rel => exact ⟨k + 1, gs, _, _, by omega, by go_num, by rw [HT2.out]; exact HI8.out, HBA8.out⟩
         case measure => simp [intOf]; omega
       · have ek : (f.params.map Int.toNat).take k = f.params.map Int.toNat := List.take_of_length_le (by have := HPL.out; simp; omega)
         rw [ek] at HI
         clear ek HBA
         go_wp2_with fail
         go_meet
         exact ⟨gs, bs, cp, HI.out⟩
    case rest =>
      obtain ⟨gs, bs, cp, hi⟩ := hcut
      obtain ⟨X0, hX0⟩ : ∃ X0, X0 = startX a (f.params.map Int.toNat) := ⟨_, rfl⟩
      rw [← hX0] at hi
      have HI := Lib.hid hi
      have HX0 := Lib.hid hX0
      clear hX0 hi HI1 HBA7 c1
      have HI1 : Hid (AccI w (wc.alloc (.cells #[.int .i64 0] 3)) pf cb Gs nb (11 + kk) n f a (fun i => if i = 0 then some X0 else none) gs bs cp [0] (.slice (some ⟨wc.heap.size, 0, none⟩) 1 1)) := by
        have h1 := HI.out.below ((Below.refl _ wc).alloc (Nat.le_refl _) (.cells #[.int .i64 0] 3))
        exact ⟨h1.be, h1.bf, h1.chk, h1.st, World.ownsRow_lit wc #[.int .i64 0] 1 HI.out.be.size (by decide) rfl⟩
      have HS0 : Hid (AccS f a X0 (fun i => if i = 0 then some X0 else none) [0] (fun _ _ => False)) := AccS.init (by rw [← HNB.out]; exact hnb1)
      have HSUP : Hid (∀ j N, MeetR f a X0 j N → SupS (11 + kk) n N) := fun j N h => h.sup HGA.out.fit (fun b hb x hx => by
        obtain ⟨j, hj, rfl⟩ := List.getElem_of_mem hb
        rw [VF.blk_get f hj] at hx
        exact (HOK.out.fits.ins j hj x hx).d) (by
        rw [HX0.out]
        refine startX_sup HGA.out.fit fun r hr => ?_
        obtain ⟨z, hz, rfl⟩ := List.mem_map.1 hr
        have := HOK.out.par z hz
        omega)
      clear HI
      go_wp2_with fail
      go_loopg [11] 700000000000 (fun gk v wr => ∃ (S : Nat → Option (Nat → Nat → Bool)) (gs : Nat → Nat) (bs cp : Nat → Nat → Nat) (work : List Nat), AccI w wr pf cb Gs nb (11 + kk) n f a S gs bs cp work v ∧ AccS f a X0 S work (fun _ _ => False) ∧ 2 * totN nb (11 + kk) n S + work.length ≤ gk ∧ gk ≤ 700000000000)
      case atStart => exact ⟨_, _, _, _, _, HI1.out, HS0.out, by have := totN_top nb (11 + kk) n (fun i => if i = 0 then some X0 else none); have := HBND.out; simp; omega, Nat.le_refl _⟩
      case round =>
        clear HI1 HS0
        obtain ⟨S, gs, bs, cp, work, hi, hs, hgk, hgm⟩ := hrel
        have HI := Lib.hid hi
        have HS := Lib.hid hs
        have HGK := Lib.hid hgk
        clear hi hs hgk
        rcases snoc_cases work with rfl | ⟨ws, i, rfl⟩
        · obtain ⟨va, vc, hv⟩ := ownG_shape HI.out.wk
          have HGO := Lib.hid HS.out.fix.good
          simp only [List.length_nil] at hv
          subst hv
          go_wp2_with fail
          go_ret
          exact ⟨0, rfl, HI.out.be, fun h => absurd HE.out h, fun _ => .inl ⟨rfl, by rw [← HX0.out]; exact HGO.out⟩⟩
        · obtain ⟨M, hM⟩ := HS.out.inw i (by simp)
          have hib := (HS.out.meets i M hM).1
          have hinb : i < nb := by rw [HNB.out]; exact hib
          obtain ⟨g, cap, hv, hg1, hg2, hg3, hg4⟩ := ownG_has HI.out.wk (by simp)
          obtain ⟨L, hL⟩ : ∃ L, L = ws.length := ⟨_, rfl⟩
          rw [List.length_append, ← hL] at hv hg3
          simp only [List.length_cons, List.length_nil, Nat.zero_add] at hv hg3
          have hL2 : L ≤ 700000000000 := by have := HGK.out; rw [List.length_append] at this; omega
          subst hv
          have cw : wr.cell? ⟨g, L, none⟩ = some (.int .i64 (i : Int)) := by
            have := HI.out.wk
            rw [List.length_append, ← hL] at this
            rw [World.ownsRow.cellAt this L (by omega), hL]
            simp
          have HIP : Hid (AccI w wr pf cb Gs nb (11 + kk) n f a S gs bs cp ws (.slice (some ⟨g, 0, none⟩) L cap)) := by
            have h1 := HI.out
            refine ⟨h1.be, h1.bf, h1.chk, h1.st, ?_⟩
            have h2 := h1.wk
            rw [List.length_append, List.map_append] at h2
            rw [← hL] at h2 ⊢
            exact owns_popA h2
          have HSP := fun X' => Lib.hid (HS.out.pop hM (X' := X'))
          have HGK2 : Hid (2 * totN nb (11 + kk) n S + ws.length + 1 ≤ gk) := by show _ ≤ _; have := HGK.out; rw [List.length_append] at this; simp at this; omega
          have HCL := Lib.hid (cloneHolds_any wr w.heap.size (gs i) (11 + kk) n M (bs i) (cp i) (HI.out.st.hg i M hinb hM) (by omega) (by omega))
          have cG := Blk.row HI.out.st.blk hinb
          rw [hM] at cG
          simp only [Option.isSome_some, if_true] at cG
          obtain ⟨Gi, hGi⟩ : ∃ Gi, Gi = gs i := ⟨_, rfl⟩
          rw [← hGi] at cG HCL
          unfold maxLen at hg4
          have HMR := Lib.hid (HS.out.meets i M hM).2
          have HM := Lib.hid hM
          clear hGi hM hg1 hg2 HI HS HGK hL
          go_upto_region 18 with fail
          refine HCL.out.mono ?_
          rintro e w2 ⟨Gh, bsh, cph, rfl, hgh, hb2⟩
          have HIW := Lib.hid (HIP.out.below hb2)
          obtain ⟨gb, ob, hsa, hgb, d0, d1, d2, d3, d4, d5, d6⟩ := HF.out.cells HIW.out.be hib
          obtain ⟨b, hb⟩ : ∃ b, b = f.blocks[i] := ⟨_, rfl⟩
          rw [← hb] at d0 d1 d2 d3 d4 d5 d6
          have HB : Hid (b = f.blk i) := by show _ = _; rw [hb, VF.blk_get f hib]
          have HBO : Hid (b.Ok w) := HF.out.blocks _ (by rw [hb]; exact List.getElem_mem _)
          have HFI : Hid (∀ x ∈ b.ins, x.Fits n) := by show ∀ x ∈ b.ins, _; rw [HB.out]; exact HOK.out.fits.ins i hib
          have HFE : Hid (∀ z ∈ endV b.e, 1 ≤ z ∧ z < n) := by show ∀ x ∈ endV b.e, _; rw [HB.out]; exact HOK.out.fits.ends i hib
          have HBL := Lib.hid HBO.out.len
          have hbl : b.sn ≤ 4096 := by have := HOK.out.ins i hinb; rw [← HB.out, HBL.out] at this; exact this
          have c3 := HIW.out.bf.cell 3
          simp only [fC, List.getElem?_cons_zero, List.getElem?_cons_succ] at c3
          rw [HSN.out, hsa] at c3
          have HSA := Lib.hid hsa
          clear hsa
          have HH := Lib.hid hgh
          have HB2 := Lib.hid hb2
          have hwz := HIP.out.be.size
          clear hgh hb2 HCL cw cG hb
          obtain ⟨wq, rfl⟩ : ∃ x, x = wr := ⟨_, rfl⟩
          go_upto_block 4 with fail
          go_cut [15] from 84 (fun _ wx => ∃ (X' : Nat → Nat → Bool) (bs' cp' : Nat → Nat), HG wx wq.heap.size Gh (11 + kk) n X' bs' cp' ∧ Below wq.heap.size wq wx ∧ inssT a b.ins M = some X')
          case first =>
            go_wp2_with fail
            have HM0 : Hid (∃ (bs' cp' : Nat → Nat), HG w2 wq.heap.size Gh (11 + kk) n M bs' cp') := ⟨_, _, HH.out⟩
            clear d0 d1 d2 d3 d4 d5 d6 c3 HIW HH
            go_loopw [84] (fun u wx => ∃ (k : Nat) (X : Nat → Nat → Bool) (bs' cp' : Nat → Nat), k ≤ b.sn ∧ u = .int .i64 (k : Int) ∧ HG wx wq.heap.size Gh (11 + kk) n X bs' cp' ∧ Below wq.heap.size wq wx ∧ inssT a (b.ins.take k) M = some X) (fun u _ => b.sn - (intOf u).toNat)
            case atStart => obtain ⟨bs', cp', h1⟩ := HM0.out; exact ⟨0, M, bs', cp', Nat.zero_le _, rfl, h1, HB2.out, by simp [inssT]⟩
            case round =>
              clear HM0 HB2
              obtain ⟨k, X, bs', cp', hk, rfl, hg, hbx, hx⟩ := hrel
              have HGX := Lib.hid hg
              have HBX := Lib.hid hbx
              have HX := Lib.hid hx
              have HIX := Lib.hid (HIP.out.below hbx)
              clear hg hbx hx
              by_cases hlt : k < b.sn
              · have hkl : k < b.ins.length := by have := HBL.out; omega
                obtain ⟨gi, oi, hbs, hgi, e0, e1, e2, e3, e4, e5⟩ := HBO.out.cells HIX.out.be hkl
                have HT := Lib.hid (List.take_succ_eq_append_getElem hkl)
                have HXM : Hid (b.ins[k] ∈ b.ins) := List.getElem_mem hkl
                obtain ⟨x, hxe⟩ : ∃ x, x = b.ins[k] := ⟨_, rfl⟩
                rw [← hxe] at e0 e1 e2 e3 e4 e5 HT HXM
                have HXO : Hid (x.Ok w) := HBO.out.ins x HXM.out
                have HXF := Lib.hid (HFI.out x HXM.out)
                clear hxe
                rw [hbs]
                have hba : Below wr.heap.size wr (wr.alloc (.cells (viC x).toArray 48)) := (Below.refl _ _).alloc (Nat.le_refl _) _
                have HIY := Lib.hid (HIX.out.below hba)
                have hszy : wq.heap.size ≤ (wr.alloc (.cells (viC x).toArray 48)).heap.size := Nat.le_trans HBX.out.size hba.size
                have HSZY := Lib.hid hszy
                have HBY := Lib.hid (HBX.out.trans (hba.mono HBX.out.size))
                have HGY := Lib.hid (HGX.out.below hba)
                have HINS := Lib.hid (ins_any w _ HIY.out.be cb f a HIY.out.chk HAO.out wq.heap.size Gh (11 + kk) n ⟨hwz, hszy⟩ X bs' cp' HGY.out HGA.out.fit (by omega) (by omega) x HXO.out HXF.out.uses HXF.out.a HXF.out.d)
                unfold viV at HINS
                clear hba hszy HGX HIX
                go_wp2_with fail
                refine HINS.out.mono ?_
                rintro e w8 ⟨hrs, hor⟩
                have HB8 : Hid (Below wq.heap.size wq w8) := HBY.out.trans (hrs.toBelow (fun q hq => by
                  rcases hq with ⟨j, hj, e9⟩ | e9
                  · rw [e9]; exact HGY.out.lo.2 j hj
                  · rw [e9]; exact HGY.out.lo.1) HSZY.out)
                clear hrs HINS
                rcases hor with ⟨hu, rfl⟩ | ⟨hu, rfl, bs2, cp2, hg8, _⟩
                · have HBAD : Hid (¬ GoodS f a X0) := HMR.out.bad (b := f.blk i) (by rw [List.getElem?_eq_getElem hib, VF.blk_get f hib]) (by rw [← HB.out]; exact blkT_fail (inssT_fail HX.out HT.out hu))
                  have HB9 : Hid (Below w.heap.size w w8) := HIP.out.be.trans (HB8.out.mono HIP.out.be.size)
                  clear hu
                  go_wp2_with fail
                  go_ret
                  exact ⟨14, rfl, HB9.out, fun h => absurd HE.out h, fun _ => .inr ⟨rfl, by rw [← HX0.out]; exact HBAD.out⟩⟩
                · have HX8 := Lib.hid (inssT_next HX.out HT.out hu)
                  have HG8 := Lib.hid hg8
                  clear hu hg8
                  go_wp2_with fail
                  go_roundw
                  case rel => exact ⟨k + 1, _, bs2, cp2, by omega, by go_num, HG8.out, HB8.out, HX8.out⟩
                  case measure => simp [intOf]; omega
              · have ek : b.ins.take k = b.ins := List.take_of_length_le (by have := HBL.out; omega)
                rw [ek] at HX
                clear ek
                go_wp2_with fail
                go_meet
                exact ⟨X, bs', cp', HGX.out, HBX.out, HX.out⟩
          case rest =>
            clear d0 d1 d2 d3 d4 d5 d6 c3 HIW HH HB2
            obtain ⟨Z, bz, cz, hg, hbx, hx⟩ := hcut
            have HIX := Lib.hid (HIP.out.below hbx)
            have HGX := Lib.hid hg
            have HBX := Lib.hid hbx
            have HX := Lib.hid hx
            obtain ⟨gb2, ob2, hsa2, hgb2, d0, d1, d2, d3, d4, d5, d6⟩ := HF.out.cells HIX.out.be hib
            have hbe : f.blocks[i] = b := by rw [HB.out, VF.blk_get f hib]
            rw [hbe] at d0 d1 d2 d3 d4 d5 d6
            rw [HSA.out] at hsa2
            injection hsa2 with hsa2
            injection hsa2 with e1 e2 _
            subst e1 e2
            have c3 := HIX.out.bf.cell 3
            simp only [fC, List.getElem?_cons_zero, List.getElem?_cons_succ] at c3
            rw [HSN.out, HSA.out] at c3
            have HEU := Lib.hid (endUses_any b.e wc (HBO.out.e.below HIX.out.be))
            unfold veV at HEU
            clear hbe hg hbx hx hgb2
            go_wp2_with fail
            refine HEU.out.mono ?_
            rintro e w7 ⟨v, rfl, hown, hb7⟩
            obtain ⟨la, lc, rfl, hlc⟩ := came_ownsV hown
            have HI7 := Lib.hid (HIX.out.below hb7)
            have HG7 := Lib.hid (HGX.out.below hb7)
            have huN : ((endV b.e).map Int.toNat).map (fun z : Nat => (z : Int)) = endV b.e := by
              rw [List.map_map]
              conv => rhs; rw [← List.map_id (endV b.e)]
              refine List.map_congr_left fun z hz => ?_
              have := HFE.out z hz
              simp; omega
            have HUD := Lib.hid (used_any w7 cb f a HI7.out.chk (HAO.out.below HI7.out.be) wq.heap.size Gh (11 + kk) n Z bz cz HG7.out HGA.out.fit (by omega) (by omega) la (endV b.e).length lc ((endV b.e).map Int.toNat) (by rw [huN]; exact hlc) (fun r hr => by
              obtain ⟨z, hz, rfl⟩ := List.mem_map.1 hr
              have := HFE.out z hz; omega))
            obtain ⟨ub, hub⟩ : ∃ ub, ub = usedB a Z ((endV b.e).map Int.toNat) := ⟨_, rfl⟩
            rw [← hub] at HUD
            have HUB := Lib.hid hub
            have HB7 := Lib.hid (HBX.out.trans (hb7.mono HBX.out.size))
            clear hub huN hlc hown hb7 HEU HIX HGX HBX
            go_wp2_with fail
            refine HUD.out.mono ?_
            rintro e w8 ⟨rfl, hb8⟩
            have HI8 := Lib.hid (HI7.out.below hb8)
            have HG8 := Lib.hid (HG7.out.below hb8)
            have HB8 := Lib.hid (HB7.out.trans (hb8.mono HB7.out.size))
            clear hb8 HUD HI7 HG7 HB7 d0 d1 d2 d3 d4 d5 d6 c3
            cases ub with
            | false =>
              have HBT : Hid (blkT a b M = none) := by show _ = _; unfold blkT; rw [HX.out]; simp only [Option.bind_some]; rw [← HUB.out]; rfl
              have HBAD : Hid (¬ GoodS f a X0) := HMR.out.bad (b := f.blk i) (by rw [List.getElem?_eq_getElem hib, VF.blk_get f hib]) (by rw [← HB.out]; exact HBT.out)
              go_wp2_with fail
              go_ret
              exact ⟨14, rfl, HI8.out.be, fun h => absurd HE.out h, fun _ => .inr ⟨rfl, by rw [← HX0.out]; exact HBAD.out⟩⟩
            | true =>
              have HBT : Hid (blkT a b M = some Z) := by show _ = _; unfold blkT; rw [HX.out]; simp only [Option.bind_some]; rw [← HUB.out]; rfl
              obtain ⟨gb2, ob2, hsa2, hgb2, d0, d1, d2, d3, d4, d5, d6⟩ := HF.out.cells HI8.out.be hib
              have hbe : f.blocks[i] = b := by rw [HB.out, VF.blk_get f hib]
              rw [hbe] at d0 d1 d2 d3 d4 d5 d6
              rw [HSA.out] at hsa2
              injection hsa2 with hsa2
              injection hsa2 with e1 e2 _
              subst e1 e2
              have c3 := HI8.out.bf.cell 3
              simp only [fC, List.getElem?_cons_zero, List.getElem?_cons_succ] at c3
              rw [HSN.out, HSA.out] at c3
              have HAP : Hid (∀ j N, j < nb → S j = some N → ∀ p q, p < 11 + kk → q < 11 + kk → bs j p ≠ bz q) := fun j N hj hN p q hp hq e => by
                have h1 := ((HIP.out.st.hg j N hj hN).row p hp).lt
                have h2 := HG8.out.lo.2 q hq
                omega
              have HPS := Lib.hid (HSP Z).out
              have HEL := Lib.hid HBO.out.e.len
              have hto2 : b.e.sn ≤ 2 := by have := HOK.out.tos i hinb; rw [← HB.out] at this; have h2 := HEL.out; omega
              clear hbe hgb2 HSP HX HUB HB8
              go_wp2_with fail
              clear d0 d1 d2 d3 d4 d5 d6 c3
              go_loopw [11, 113] (fun v u wx => ∃ (k : Nat) (S' : Nat → Option (Nat → Nat → Bool)) (gs' : Nat → Nat) (bs' cp' : Nat → Nat → Nat) (work' : List Nat), k ≤ b.e.sn ∧ u = .int .i64 (k : Int) ∧ AccI w wx pf cb Gs nb (11 + kk) n f a S' gs' bs' cp' work' v ∧ HG wx wq.heap.size Gh (11 + kk) n Z bz cz ∧ (∀ j N, j < nb → S' j = some N → ∀ p q, p < 11 + kk → q < 11 + kk → bs' j p ≠ bz q) ∧ AccS f a X0 S' work' (partX f S' i M Z k) ∧ 2 * totN nb (11 + kk) n S' + work'.length + 1 ≤ gk) (fun _ u _ => b.e.sn - (intOf u).toNat)
              case atStart =>
                refine ⟨0, S, gs, bs, cp, ws, Nat.zero_le _, rfl, ?_, HG8.out, HAP.out, HPS.out, HGK2.out⟩
                exact HI8.out
              case round =>
                clear HI8 HG8 HAP HPS HGK2 HIP HM
                obtain ⟨k, S', gs', bs', cp', work', hk, rfl, hi, hg, hap, hps, hgk⟩ := hrel
                have HI := Lib.hid hi
                have HGR := Lib.hid hg
                have HAP := Lib.hid hap
                have HPS := Lib.hid hps
                have HGK := Lib.hid hgk
                clear hi hg hap hps hgk
                by_cases hlt : k < b.e.sn
                · obtain ⟨gt, ot, hbt, hgt, hct⟩ := HBO.out.e.came.ints (by omega)
                  have hkl : k < b.e.to.length := by have := HEL.out; omega
                  have ct := (HI.out.be.cell (p := ⟨gt, ot + k, none⟩) hgt).trans (hct k hkl)
                  have hin := HOK.out.fits.tos i hib
                  rw [← HB.out] at hin
                  have hts := hin _ (List.getElem_mem hkl)
                  have HTK : Hid ((f.blk i).e.to[k]? = some b.e.to[k]) := by show _ = _; rw [← HB.out]; exact List.getElem?_eq_getElem hkl
                  obtain ⟨t, ht⟩ : ∃ t : Nat, b.e.to[k] = (t : Int) := ⟨b.e.to[k].toNat, by omega⟩
                  rw [ht] at ct HTK hts
                  have htl : t < f.blocks.length := by omega
                  have htn : t < nb := by rw [HNB.out]; exact htl
                  have HMT : Hid (MeetR f a X0 t Z) := by
                    have := HMR.out.step (b := f.blk i) (by rw [List.getElem?_eq_getElem hib, VF.blk_get f hib]) (by rw [← HB.out]; exact HBT.out) (b.e.to[k]) (by rw [← HB.out]; exact List.getElem_mem hkl)
                    rw [ht] at this
                    exact this
                  rw [hbt]
                  clear hct hin hts ht hbt hgt
                  go_upto_block 8 with fail
                  go_cut [] from 117 (fun wx => ∃ (S2 : Nat → Option (Nat → Nat → Bool)) (gs2 : Nat → Nat) (bs2 cp2 : Nat → Nat → Nat), AccI w wx pf cb Gs nb (11 + kk) n f a S2 gs2 bs2 cp2 work' u11 ∧ HG wx wq.heap.size Gh (11 + kk) n Z bz cz ∧ (∀ j N, j < nb → S2 j = some N → ∀ p q, p < 11 + kk → q < 11 + kk → bs2 j p ≠ bz q) ∧ AccS f a X0 S2 (work' ++ [t]) (partX f S2 i M Z (k + 1)) ∧ 2 * totN nb (11 + kk) n S2 + work'.length + 2 + 1 ≤ gk)
                  case first =>
                    have q22 : ∀ (w : World) (a : Option Addr) (n c n' c' : Nat), (binOp .eql 104 (.slice a n c) (.slice none n' c')).run Tryz.prog w = .ok (.bool a.isNone) w := fun w a n c n' c' => Lib.run_eql_slice_nil w _ _ a n c n' c' Tryz.underlying104
                    have cG := Blk.row HI.out.st.blk htn
                    have fG := Blk.free HI.out.st.blk t
                    rcases hSt : S' t with _ | N
                    · rw [hSt] at cG
                      simp only [Option.isSome_none, Bool.false_eq_true, if_false] at cG
                      have HST := Lib.hid hSt
                      have HCL := Lib.hid (cloneHolds_any wr wq.heap.size Gh (11 + kk) n Z bz cz HGR.out (by omega) (by omega))
                      clear hSt
                      clear cG
                      have cG := Blk.row HI.out.st.blk htn
                      rw [HST.out] at cG
                      simp only [Option.isSome_none, Bool.false_eq_true, if_false] at cG
                      go_wp2_with fail
                      refine HCL.out.mono ?_
                      rintro e w9 ⟨Gn, bn, cn, rfl, hgn, hb9⟩
                      have HI9 := Lib.hid (HI.out.below hb9)
                      have cG9 := Blk.row HI9.out.st.blk htn
                      rw [HST.out] at cG9
                      simp only [Option.isSome_none, Bool.false_eq_true, if_false] at cG9
                      have fG9 := Blk.free HI9.out.st.blk t
                      have hfr : ∀ j N, j < nb → S' j = some N → gs' j < wr.heap.size ∧ ∀ p, p < 11 + kk → bs' j p < wr.heap.size := fun j N hj hN => ⟨Blk.lt (HI.out.st.hg j N hj hN).blk, fun p hp => ((HI.out.st.hg j N hj hN).row p hp).lt⟩
                      have HI10 := Lib.hid (HI9.out.put HGS.out htn HST.out hgn HI.out.be.size hfr)
                      have hg9 := HGR.out.below hb9
                      have HG10 : Hid (HG (w9.setCell ⟨Gs, t, none⟩ (.slice (some ⟨Gn, 0, none⟩) (11 + kk) (11 + kk))) wq.heap.size Gh (11 + kk) n Z bz cz) := hg9.restS (S := fun q => q = Gs) (RestS.set (S := fun q => q = Gs) (RestS.refl _ w9) (p := ⟨Gs, t, none⟩) rfl _) (fun e => hg9.blkNe HI9.out.st.blk (by decide) (by decide) (.inr e.symm)) (fun q hq e => hg9.blkNe HI9.out.st.blk (by decide) (by decide) (.inl ⟨q, hq, e.symm⟩))
                      have HAP2 : Hid (∀ j N, j < nb → setS S' t Z j = some N → ∀ p q, p < 11 + kk → q < 11 + kk → (fun i => if i = t then bn else bs' i) j p ≠ bz q) := fun j N hj hN p q hp hq => by
                        by_cases e : j = t
                        · simp only [e, if_true]
                          have h1 := hgn.lo.2 p hp
                          have h2 := (HGR.out.row q hq).lt
                          omega
                        · rw [setS_ne S' Z e] at hN
                          simp only [e, if_false]
                          exact HAP.out j N hj hN p q hp hq
                      have HPS2 := HPS.out.put (t := (t : Int)) HTK.out (N := Z) htl HMT.out (.inl HST.out) (fun _ _ h => h)
                      simp only [Int.toNat_natCast] at HPS2
                      have HTT : Hid (2 * totN nb (11 + kk) n (setS S' t Z) + work'.length + 2 + 1 ≤ gk) := by
                        have h1 := totN_lt (m := 11 + kk) (n := n) (S := S') (N := Z) htn (by rw [HST.out]; exact Nat.lt_succ_of_le (cntT_top _ _ _))
                        have := HGK.out
                        show _ ≤ _
                        omega
                      have HPS3 := Lib.hid HPS2
                      clear hfr hg9 hgn hb9 cG fG HPS2 HCL HI9
                      go_wp2_with fail
                      go_meet
                      exact ⟨_, _, _, _, HI10.out, HG10.out, HAP2.out, HPS3.out, HTT.out⟩
                    · rw [hSt] at cG
                      simp only [Option.isSome_some, if_true] at cG
                      have hot := HI.out.st.hg t N htn hSt
                      have HOT := Lib.hid hot
                      have HAT := Lib.hid (HAP.out t N htn hSt)
                      have HME := Lib.hid (meet_any wr w.heap.size (gs' t) (11 + kk) n N Z (bs' t) (cp' t) wq.heap.size Gh bz cz hot HGR.out (fun p q hp hq => HAP.out t N htn hSt p q hp hq) (by omega) (by omega))
                      have HSN2 : Hid (SupS (11 + kk) n N) := HSUP.out t N (HPS.out.meets t N hSt).2
                      have HMN := Lib.hid (HPS.out.meets t N hSt).2
                      have HST := Lib.hid hSt
                      obtain ⟨Gt, hGt⟩ : ∃ Gt, Gt = gs' t := ⟨_, rfl⟩
                      rw [← hGt] at cG HME
                      have HGT := Lib.hid hGt
                      clear hSt hot hGt
                      go_wp2_with fail
                      refine HME.out.mono ?_
                      rintro e w9 ⟨ch, rfl, hch, hg9, hr9⟩
                      rw [HGT.out] at hg9
                      have HI9 := Lib.hid (HI.out.meet htn HST.out hg9 hr9)
                      have HG10 : Hid (HG w9 wq.heap.size Gh (11 + kk) n Z bz cz) := HGR.out.restS hr9 (fun ⟨p, hp, e⟩ => (HOT.out.row p hp).ne HGR.out.blk e.symm) (fun q hq ⟨p, hp, e⟩ => HAT.out p q hp hq e.symm)
                      have HCH := Lib.hid hch
                      clear hch hg9 hr9 HME cG fG
                      cases ch with
                      | false =>
                        have hle : leS N Z := fun p q hp => by
                          obtain ⟨h1, h2⟩ := HSN2.out p q hp
                          cases hz : Z p q
                          · have := HCH.out.2 ⟨p, q, h1, h2, hp, hz⟩
                            cases this
                          · rfl
                        have hself : setS S' t (meetS N Z) = S' := by
                          rw [meetS_of_le hle]
                          funext j
                          unfold setS
                          split
                          · rename_i e; subst e; exact HST.out.symm
                          · rfl
                        rw [hself] at HI9
                        have HPS3 := Lib.hid (HPS.out.stay (t := (t : Int)) HTK.out (by simp only [Int.toNat_natCast]; exact HST.out) hle)
                        clear hle hself
                        go_wp2_with fail
                        go_roundw
                        case rel => exact ⟨k + 1, S', gs', bs', cp', work', by omega, by go_num, HI9.out, HG10.out, HAP.out, HPS3.out, HGK.out⟩
                        case measure => simp [intOf]; omega
                      | true =>
                        have HPS2 := HPS.out.put (t := (t : Int)) HTK.out (N := meetS N Z) htl (by simp only [Int.toNat_natCast]; exact .and HMN.out HMT.out) (.inr ⟨N, by simp only [Int.toNat_natCast]; exact HST.out, meetS_le.1⟩) meetS_le.2
                        simp only [Int.toNat_natCast] at HPS2
                        have HPS3 := Lib.hid HPS2
                        have HAP2 : Hid (∀ j N2, j < nb → setS S' t (meetS N Z) j = some N2 → ∀ p q, p < 11 + kk → q < 11 + kk → bs' j p ≠ bz q) := fun j N2 hj hN p q hp hq => by
                          by_cases e : j = t
                          · rw [e]; exact HAT.out p q hp hq
                          · rw [setS_ne S' _ e] at hN
                            exact HAP.out j N2 hj hN p q hp hq
                        have HTT : Hid (2 * totN nb (11 + kk) n (setS S' t (meetS N Z)) + work'.length + 2 + 1 ≤ gk) := by
                          have h1 := totN_lt (m := 11 + kk) (n := n) (S := S') (N := meetS N Z) htn (by
                            rw [HST.out]
                            refine cntT_lt meetS_le.1 ?_
                            obtain ⟨p, q, h1, h2, h3, h4⟩ := HCH.out.1 rfl
                            exact ⟨p, q, h1, h2, h3, by unfold meetS; rw [h4, Bool.and_false]⟩)
                          have := HGK.out
                          show _ ≤ _
                          omega
                        clear HPS2
                        go_wp2_with fail
                        go_meet
                        exact ⟨_, _, _, _, HI9.out, HG10.out, HAP2.out, HPS3.out, HTT.out⟩
                  case rest =>
                    clear HI HGR HAP HPS HGK
                    obtain ⟨S2, gs2, bs2, cp2, hi, hg, hap, hps, hgk⟩ := hcut
                    have HI := Lib.hid hi
                    have HGR := Lib.hid hg
                    have HAP := Lib.hid hap
                    have HPS := Lib.hid hps
                    have HGK := Lib.hid hgk
                    clear hi hg hap hps hgk
                    obtain ⟨va, vc, rfl⟩ := ownG_shape HI.out.wk
                    obtain ⟨i1, hi1, hy0, hy1, hy2⟩ : ∃ i, Tryz.prog.info? 3 = some i ∧ i.zero = some (.int .i64 0) ∧ i.size = 1 ∧ i.bytes = 8 := info_partsV (by kernel_rfl)
                    have hwl : work'.length ≤ 700000000000 := by have := HGK.out; omega
                    have hba : Below wc.heap.size wc (wc.alloc (.cells #[.int .i64 (t : Int)] 3)) := (Below.refl _ _).alloc (Nat.le_refl _) _
                    have HIA := Lib.hid (HI.out.below hba)
                    have HGA2 := Lib.hid (HGR.out.below hba)
                    have hszA := HIA.out.be.size
                    clear hba
                    go_wp2_with (at_builtin; refine wpList_append_own _ rfl _ _ 22 rfl w.heap.size 3 i1 (.int .i64 0) 1 8 Tryz.underlying22 hi1 hy0 hy1 hy2 rfl (by decide) _ _ _ rfl HIA.out.wk ⟨wc.heap.size, 0, none⟩ 1 1 [.int .i64 (t : Int)] rfl rfl ?a2 ?a3 ?a4 ?a5 ?a6 ?_)
                    case a2 =>
                      intro j u hj
                      cases j with
                      | zero => simp at hj; subst hj; rw [Addr.add_lit, World.cell?_alloc_new]; rfl
                      | succ j => simp at hj
                    case a3 => intro u hu; simp at hu; subst hu; rfl
                    case a4 => unfold maxLen; omega
                    case a5 => omega
                    case a6 => exact hszA
                    intro v' w9 hown' hgrow _
                    have HI9 := Lib.hid (HIA.out.grow (work' := work' ++ [t]) (by simpa using hown') hgrow)
                    have hno := HGA2.out.noOwn HIA.out.wk (by decide) (by decide)
                    have HG9 := Lib.hid (HGA2.out.restS (RestS.ofGrown hgrow) hno.1 hno.2)
                    have HT9 : Hid (2 * totN nb (11 + kk) n S2 + (work' ++ [t]).length + 1 ≤ gk) := by have := HGK.out; show _ ≤ _; simp; omega
                    clear hown' hgrow hno hszA
                    go_wp2_with fail
                    go_roundw
                    case rel => exact ⟨k + 1, S2, gs2, bs2, cp2, work' ++ [t], by omega, by go_num, HI9.out, HG9.out, HAP.out, HPS.out, HT9.out⟩
                    case measure => simp [intOf]; omega
                · have HS2 := Lib.hid (HPS.out.done (by rw [← HB.out]; have := HEL.out; omega) (by rw [← HB.out]; exact HBT.out))
                  have HGK3 : Hid (2 * totN nb (11 + kk) n S' + work'.length < gk) := by show _ < _; have := HGK.out; omega
                  go_wp2_with fail
                  go_roundg (2 * totN nb (11 + kk) n S' + work'.length)
                  case measure => exact HGK3.out
                  case rel => exact ⟨S', gs', bs', cp', work', HI.out, HS2.out, Nat.le_refl _, by have := HGK3.out; omega⟩
  · have he' : (ae != 0) = true := by simp [he]
    have HN : Hid (allocE f a ≠ 0) := by show _ ≠ _; rw [← HAE.out]; exact he
    clear he
    go_wp2_with fail
    go_ret
    exact ⟨ae, rfl, HB2.out, fun _ => HAE.out, fun h => absurd h HN.out⟩
end Go.Proofs.YtdnpoomagjcpfaaGreat
