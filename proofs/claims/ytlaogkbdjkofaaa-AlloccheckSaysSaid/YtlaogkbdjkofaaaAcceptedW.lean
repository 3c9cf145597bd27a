/- The reference's Accepted: what it answers. -/
import Derived.Test.YtlaogkbdjkofaaaAccMem
import Derived.Test.YtlaogkbdjkofaaaEagerT
import Derived.Deep.LoopGhost
namespace Go.Proofs.Ytlaogkbdjkofaaa
open Go.RowKit
set_option linter.unusedVariables false
set_option linter.unusedSimpArgs false

instance belowPreT (B : Nat) : PreR (Below B) := ⟨fun w => Below.refl B w, fun h k => h.trans k⟩
theorem blk_neT {w : World} {p q : Nat} {t t' : TypeId} {cs cs' : List Value} (h : Blk w p t cs) (k : Blk w q t' cs') (hne : t ≠ t') : p ≠ q := fun e => by
  subst e
  have h1 : w.heap[p]? = _ := h
  have h2 : w.heap[p]? = _ := k
  rw [h1] at h2
  injection h2 with h2
  injection h2 with _ h2 _
  exact hne h2
def AcceptedPost (f : VF) (a : AL) (w : World) (e : Ending) (w' : World) : Prop :=
  ∃ ok whole : Bool, e = .returned (.tuple #[.bool ok, .bool whole]) ∧ (whole = true → (ok = true ↔ GoodS f a (startX a (f.params.map Int.toNat)))) ∧ Below w.heap.size w w'
theorem PutPost.row {w0 w' : World} {av : Value} {zs : List (Int × Int)} {e : Ending} (h : PutPost w0 av zs e w') : ∃ sa sc, e = .returned (.slice sa zs.length sc) ∧ PRow w' sa sc zs ∧ RestS (fun k => av.ownBlock = some k) w0 w' := by
  obtain ⟨v, rfl, hown, hr⟩ := h
  obtain ⟨sa, sc, rfl⟩ := ownG_shape hown
  exact ⟨sa, sc, rfl, ownG_base hown (Nat.zero_le _), hr⟩
theorem inssW_app (a : AL) : ∀ (l1 l2 : List VI) (M : List (Int × Int)), inssW a (l1 ++ l2) M = (inssW a l1 M).bind (inssW a l2)
  | [], l2, M => rfl
  | x :: l1, l2, M => by
    simp only [List.cons_append, inssW]
    split
    · exact inssW_app a l1 l2 _
    · rfl
theorem inssW_next {a : AL} {l : List VI} {k : Nat} {x : VI} {M X : List (Int × Int)} (h : inssW a (l.take k) M = some X) (ht : l.take (k + 1) = l.take k ++ [x]) (hu : goodW a X (usesV x) = true) : inssW a (l.take (k + 1)) M = some (insW a x X) := by
  rw [ht, inssW_app, h]
  simp [inssW, hu]
theorem inssW_fail {a : AL} {l : List VI} {k : Nat} {x : VI} {M X : List (Int × Int)} (h : inssW a (l.take k) M = some X) (ht : l.take (k + 1) = l.take k ++ [x]) (hu : goodW a X (usesV x) = false) : inssW a l M = none := by
  rw [← List.take_append_drop (k + 1) l, ht, inssW_app, inssW_app, h]
  simp [inssW, hu]
/-- where the reference fails, a way fails -/
theorem bad_of {f : VF} {a : AL} {n m : Nat} (ga : a.Good n m) (hf : f.Fits n) {X0 XR : Nat → Nat → Bool} {i : Nat} (hi : i < f.blocks.length) {zs : List (Int × Int)} (hr : RelW m n zs XR) (hx : ReachS f a X0 i XR) (hb : blkW a (f.blk i) zs = none) : ¬ GoodS f a X0 := fun hg => by
  have h1 := blkW_rel ga (hf.ins i hi) (hf.ends i hi) hr
  rw [hb] at h1
  refine hg i XR (f.blk i) hx (by rw [List.getElem?_eq_getElem hi, VF.blk_get f hi]) ?_
  cases h2 : blkT a (f.blk i) XR with
  | none => rfl
  | some Z => rw [h2] at h1; exact absurd h1 id
theorem inssW_relS {a : AL} {n m : Nat} (ga : a.Good n m) {l : List VI} (hl : ∀ x ∈ l, x.Fits n) {zs zs' : List (Int × Int)} {X : Nat → Nat → Bool} (h : RelW m n zs X) (e : inssW a l zs = some zs') : ∃ X', inssT a l X = some X' ∧ RelW m n zs' X' := by
  have h1 := inssW_rel ga hl h
  rw [e] at h1
  cases h2 : inssT a l X with
  | none => rw [h2] at h1; exact absurd h1 id
  | some X' => rw [h2] at h1; exact ⟨X', rfl, h1⟩
def alsoP (sp d : Int) (l : List (Int × Int)) : List Int := (l.filter (fun z => decide (z.1 = sp) && decide (z.2 ≠ d))).map (·.2)
theorem alsoP_len (sp d : Int) (l : List (Int × Int)) : (alsoP sp d l).length ≤ l.length := by unfold alsoP; rw [List.length_map]; exact List.length_filter_le _ _
theorem alsoP_succ {sp d : Int} {zs : List (Int × Int)} {k : Nat} {z : Int × Int} (h : zs.take (k + 1) = zs.take k ++ [z]) : alsoP sp d (zs.take (k + 1)) = alsoP sp d (zs.take k) ++ (if z.1 = sp ∧ z.2 ≠ d then [z.2] else []) := by
  unfold alsoP
  rw [h, List.filter_append, List.map_append]
  congr 1
  by_cases h1 : z.1 = sp <;> by_cases h2 : z.2 = d <;> simp [h1, h2]

set_option maxRecDepth 100000 in
set_option maxHeartbeats 8000000 in
theorem accepted_any (w : World) (f : VF) (hf : f.Ok w) (a : AL) (ha : a.Ok w) (n nb m : Nat) (hok : FnOk f n nb) (hga : a.Good n m) (hn40 : n ≤ 40) : Calls Try.prog 18 #[f.v, a.v, .int .i64 300] w (AcceptedPost f a w) := by
  have hmf : ∀ (fn : Fn) (first cap : Array Value) (w : World), (Instr.makeFunc fn first cap).run Try.prog w = .ok (.func fn first cap) w := fun _ _ _ _ => rfl
  have hb0 : Below w.heap.size w ((w.alloc (.cells #[.int .i64 f.name, .slice f.pa f.pn f.pc, .int .i64 f.regs, .slice f.sa f.sn f.sc] 25)).alloc (.cells #[.slice a.ra a.rn a.rc, .slice a.sa a.sn a.sc, .int .i64 a.k] 27)) := ((Below.refl _ _).alloc (Nat.le_refl _) _).alloc (by simp) _
  have hbf := (Blk.new w [.int .i64 f.name, .slice f.pa f.pn f.pc, .int .i64 f.regs, .slice f.sa f.sn f.sc] 25).alloc (.cells #[.slice a.ra a.rn a.rc, .slice a.sa a.sn a.sc, .int .i64 a.k] 27)
  have hba := Blk.new (w.alloc (.cells #[.int .i64 f.name, .slice f.pa f.pn f.pc, .int .i64 f.regs, .slice f.sa f.sn f.sc] 25)) [.slice a.ra a.rn a.rc, .slice a.sa a.sn a.sc, .int .i64 a.k] 27
  rw [World.size_alloc] at hba
  unfold VF.v AL.v
  have HF := Lib.hid hf
  have HAO := Lib.hid ha
  have hregs := hok.regs
  have hsn := hok.sn
  have hnb := hok.nbl
  have hn1 := hok.n2.1
  have hnb1 := hok.nb2.1
  have hnb2 := hok.nb2.2
  have hm9 := hga.hm.2
  have hm11 := hga.hm.1
  have hpn6 := hok.pn
  have HMN : Hid (m * n ≤ 360000) := Nat.le_trans (Nat.mul_le_mul hga.hm.2 hn40) (by decide)
  have HOK := Lib.hid hok
  have HGA := Lib.hid hga
  have HREG := Lib.hid hregs
  have HSN := Lib.hid hsn
  have HNB := Lib.hid hnb
  have HB0 := Lib.hid hb0
  have HBF := Lib.hid hbf
  have HBA := Lib.hid hba
  have HS3 : Hid ((Try.prog.info? 27).map (·.size) = some 3) := by unfold Hid; kernel_rfl
  clear hb0 hbf hba hf ha hok hga hregs hsn hnb
  go_enter Try.func18, Try.ntmps18
  go_upto_region 2 with fail
  generalize (w.alloc (.cells #[.int .i64 f.name, .slice f.pa f.pn f.pc, .int .i64 f.regs, .slice f.sa f.sn f.sc] 25)).alloc (.cells #[.slice a.ra a.rn a.rc, .slice a.sa a.sn a.sc, .int .i64 a.k] 27) = w1 at HB0 HBF HBA ⊢
  obtain ⟨pf, hpf⟩ : ∃ pf, pf = w.heap.size := ⟨_, rfl⟩
  have HAI : Hid (AllI w w1 pf (pf + 1) f a [] (.slice none 0 0)) := ⟨HB0.out, by rw [hpf]; exact HBF.out, by rw [hpf]; exact HBA.out, World.ownsRow_nil _ _ _ _, fun e he => by cases he⟩
  rw [← hpf]
  have HPF := Lib.hid hpf
  clear hpf HB0 HBF HBA
  have c1 := HAI.out.bf.cell 1
  simp only [fC, List.getElem?_cons_zero, List.getElem?_cons_succ] at c1
  have HPL := Lib.hid HF.out.plen
  have HPS : Hid (∀ k, ∀ r ∈ (f.params.map Int.toNat).take k, r < n) := fun k r hr => by
    obtain ⟨z, hz, rfl⟩ := List.mem_map.1 (List.mem_of_mem_take hr)
    have := HOK.out.par z hz
    omega
  go_upto_block 0 with fail
  go_cut [8, 10] from 28 (fun v _ wx => ∃ sa sc, v = .slice sa (startW a (f.params.map Int.toNat)).length sc ∧ PRow wx sa sc (startW a (f.params.map Int.toNat)) ∧ AllI w wx pf (pf + 1) f a [] (.slice none 0 0))
  case first =>
    go_wp2_with fail
    clear c1
    go_loopw [8, 31] (fun v u wr => ∃ (k : Nat) (sa : Option Addr) (sc : Nat), k ≤ f.pn ∧ u = .int .i64 (k : Int) ∧ v = .slice sa (startW a ((f.params.map Int.toNat).take k)).length sc ∧ PRow wr sa sc (startW a ((f.params.map Int.toNat).take k)) ∧ AllI w wr pf (pf + 1) f a [] (.slice none 0 0)) (fun _ u _ => f.pn - (intOf u).toNat)
    case atStart => exact ⟨0, none, 0, Nat.zero_le _, rfl, by simp [startW], World.ownsRow_nil _ _ _ _, HAI.out⟩
    case round =>
      clear HAI
      obtain ⟨k, sa, sc, hk, rfl, rfl, hp, hai⟩ := hrel
      have HP := Lib.hid hp
      have HAI := Lib.hid hai
      clear hp hai
      by_cases hlt : k < f.pn
      · obtain ⟨b', off, ea, hbl, hcell⟩ := HF.out.pcame.ints (by omega)
        have hkl : k < f.params.length := by have := HPL.out; omega
        have cl := (HAI.out.be.cell (p := ⟨b', off + k, none⟩) hbl).trans (hcell k hkl)
        have hr := HOK.out.par _ (List.getElem_mem hkl)
        have hkl2 : k < (f.params.map Int.toNat).length := by simpa using hkl
        have HT := Lib.hid (List.take_succ_eq_append_getElem hkl2)
        obtain ⟨r, hre⟩ : ∃ r : Nat, f.params[k] = (r : Int) := ⟨f.params[k].toNat, by omega⟩
        rw [hre] at cl hr
        have HT2 : Hid (startW a ((f.params.map Int.toNat).take (k + 1)) = putW (plc 100 a r) (r : Int) [] (startW a ((f.params.map Int.toNat).take k))) := by
          show _ = _
          rw [HT.out, startW_snoc]
          simp only [List.getElem_map, hre, Int.toNat_natCast]
        have hrn : r < n := by omega
        clear hcell hre HT hkl2 hr
        have hlen : (startW a ((f.params.map Int.toNat).take k)).length ≤ 400000 := by
          have h1 := (startW_rel HGA.out (HPS.out k)).len
          have h2 := HMN.out
          omega
        obtain ⟨zs, hzs⟩ : ∃ zs, zs = startW a ((f.params.map Int.toNat).take k) := ⟨_, rfl⟩
        rw [← hzs] at HP HT2 hlen ⊢
        clear hzs
        rw [ea]
        have c0 := HAI.out.ba.cell 0
        have c1 := HAI.out.ba.cell 1
        have c2 := HAI.out.ba.cell 2
        simp only [aC, List.getElem?_cons_zero, List.getElem?_cons_succ] at c0 c1 c2
        have HSPO := Lib.hid (spot_any wr a (HAO.out.below HAI.out.be) r (by rw [HGA.out.fit.rn]; exact hrn) (by rw [HGA.out.fit.sn]; exact hrn) HGA.out.fit.sl)
        unfold AL.v at HSPO
        go_wp2_with fail
        refine HSPO.out.mono ?_
        rintro e w3 ⟨rfl, hb3⟩
        have HP3 := Lib.hid (HP.out.below hb3)
        have HAI3 := Lib.hid (HAI.out.below hb3)
        have HPU := Lib.hid (wput_any w3 sa zs.length sc zs HP3.out.came hlen (plc 100 a r) (r : Int) w3.heap.size (Nat.le_refl _) (.slice none 0 0) [] (World.ownsRow_nil _ _ _ _) (by simp))
        clear hb3 HP HAI HSPO c0 c1 c2
        go_wp2_with fail
        refine HPU.out.mono ?_
        intro e w4 hp4
        obtain ⟨sa4, sc4, rfl, hp4, hr4⟩ := hp4.row
        rw [← HT2.out] at hp4
        have HP4 := Lib.hid hp4
        have HAI4 := Lib.hid (HAI3.out.below (hr4.toBelow (fun k hk => by cases hk) (Nat.le_refl _)))
        have HLE : Hid ((putW (plc 100 a r) (r : Int) [] zs).length = (startW a ((f.params.map Int.toNat).take (k + 1))).length) := by show _ = _; rw [HT2.out]
        rw [HLE.out]
        clear hp4 hr4 HPU HP3 HAI3 HLE
        go_wp2_with fail
        go_roundw
        case rel => exact ⟨k + 1, sa4, sc4, by omega, by go_num, rfl, HP4.out, HAI4.out⟩
        case measure => simp [intOf]; omega
      · have ek : (f.params.map Int.toNat).take k = f.params.map Int.toNat := List.take_of_length_le (by have := HPL.out; simp; omega)
        rw [ek] at HP ⊢
        clear ek
        go_wp2_with fail
        go_meet
        exact ⟨sa, sc, rfl, HP.out, HAI.out⟩
  case rest =>
    clear HAI c1
    obtain ⟨sa, sc, rfl, hp, hai⟩ := hcut
    obtain ⟨W0, hW0⟩ : ∃ W0, W0 = startW a (f.params.map Int.toNat) := ⟨_, rfl⟩
    obtain ⟨X0, hX0⟩ : ∃ X0, X0 = startX a (f.params.map Int.toNat) := ⟨_, rfl⟩
    have hrel : RelW m n W0 X0 := by
      have h1 := startW_rel HGA.out (HPS.out (f.params.map Int.toNat).length)
      rw [List.take_length] at h1
      rw [hW0, hX0]
      exact h1
    rw [← hW0] at hp ⊢
    have HX0 := Lib.hid hX0
    have h0b : 0 < f.blocks.length := by rw [← HNB.out]; exact hnb1
    have hAI1 : AllI w (wc.alloc (.cells #[.int .i64 0, .slice sa W0.length sc] 92)) pf (pf + 1) f a [⟨0, sa, sc, W0⟩] (.slice (some ⟨wc.heap.size, 0, none⟩) 1 1) := by
      have hba := (Below.refl _ wc).alloc (Nat.le_refl _) (.cells #[.int .i64 0, .slice sa W0.length sc] 92)
      have h1 := hai.below hba
      refine ⟨h1.be, h1.bf, h1.ba, World.ownsRow_lit wc #[.int .i64 0, .slice sa W0.length sc] 1 hai.be.size (by decide) rfl, fun e he => ?_⟩
      simp at he
      subst he
      exact hp.below hba
    have HAI1 := Lib.hid hAI1
    have HJ0 : Hid (AccJ f a m n X0 [⟨0, sa, sc, W0⟩] 0) := ⟨fun s hs => by simp at hs; subst hs; exact ⟨h0b, X0, hrel, .start⟩, ⟨W0, by simp [SE.p], hrel⟩, fun j _ hj => absurd hj (Nat.not_lt_zero _)⟩
    clear hW0 hX0 hrel hp hai hAI1 HPS HPL
    go_wp2_with fail
    go_loopw [11, 12] (fun v u wr => ∃ (k : Nat) (all : List SE), u = .int .i64 (k : Int) ∧ k ≤ 300 ∧ k ≤ all.length ∧ AllI w wr pf (pf + 1) f a all v ∧ AccJ f a m n X0 all k) (fun _ u _ => 301 - (intOf u).toNat)
    case atStart => exact ⟨0, _, rfl, by omega, by omega, HAI1.out, HJ0.out⟩
    case round =>
      clear HAI1 HJ0
      obtain ⟨k, all, rfl, hk3, hka, hai, hj⟩ := hrel
      have HAI := Lib.hid hai
      have HJ := Lib.hid hj
      clear hai hj
      obtain ⟨va, vc, hv, hvc, hvm, hcells⟩ := came_ses HAI.out.own
      obtain ⟨N, hN⟩ : ∃ N, N = all.length := ⟨_, rfl⟩
      rw [← hN] at hv hvc hka
      subst hv
      have HN := Lib.hid hN
      by_cases hlt : k < N
      · by_cases h300 : 300 < N
        · have q1 : (300 : Int) < (N : Int) := by omega
          clear hcells hN
          go_wp2_with fail
          exact bodyPost_ret (results_tmp2 rfl _ _ _) rfl ⟨true, false, rfl, fun h => (by cases h), HAI.out.be⟩
        · have q1 : ¬ (300 : Int) < (N : Int) := by omega
          have hka2 : k < all.length := by omega
          obtain ⟨gv, ov, rfl, ck0, ck1⟩ := hcells k hka2
          have HSE := Lib.hid (HAI.out.rows _ (List.getElem_mem hka2))
          have HSN2 := Lib.hid (HJ.out.seen _ (List.mem_map.2 ⟨all[k], List.getElem_mem hka2, rfl⟩))
          obtain ⟨e, he⟩ : ∃ e, e = all[k] := ⟨_, rfl⟩
          rw [← he] at ck0 ck1 HSE HSN2
          have HE := Lib.hid he
          clear hcells hN he
          go_upto_region 14 with fail
          have hb4 : Below wr.heap.size wr (wr.alloc (.cells #[.int .i64 (e.blk : Int), .slice e.sa e.zs.length e.sc] 92)) := (Below.refl _ _).alloc (Nat.le_refl _) _
          have HAI4 := Lib.hid (HAI.out.below hb4)
          have HSE4 := Lib.hid (HSE.out.below hb4)
          have HSB := Lib.hid (Blk.new wr [.int .i64 (e.blk : Int), .slice e.sa e.zs.length e.sc] 92)
          obtain ⟨sb, hsb⟩ : ∃ sb, sb = wr.heap.size := ⟨_, rfl⟩
          rw [← hsb] at HSB
          generalize wr.alloc (.cells #[.int .i64 (e.blk : Int), .slice e.sa e.zs.length e.sc] 92) = w4 at HAI4 HSE4 HSB hb4 ⊢
          rw [← hsb]
          have s0 := HSB.out.cell 0
          have s1 := HSB.out.cell 1
          simp only [List.getElem?_cons_zero, List.getElem?_cons_succ] at s0 s1
          have hib : e.blk < f.blocks.length := HSN2.out.1
          obtain ⟨gb, ob, hsa, hgb, d0, d1, d2, d3, d4, d5, d6⟩ := HF.out.cells HAI4.out.be hib
          have hinb : e.blk < nb := by rw [HNB.out]; exact hib
          obtain ⟨b, hb⟩ : ∃ b, b = f.blocks[e.blk] := ⟨_, rfl⟩
          rw [← hb] at d0 d1 d2 d3 d4 d5 d6
          have HB : Hid (b = f.blk e.blk) := by show _ = _; rw [hb, VF.blk_get f hib]
          have HBO : Hid (b.Ok w) := HF.out.blocks _ (by rw [hb]; exact List.getElem_mem _)
          have HFI : Hid (∀ x ∈ b.ins, x.Fits n) := by show ∀ x ∈ b.ins, _; rw [HB.out]; exact HOK.out.fits.ins e.blk hib
          have HFE : Hid (∀ z ∈ endV b.e, 1 ≤ z ∧ z < n) := by show ∀ x ∈ endV b.e, _; rw [HB.out]; exact HOK.out.fits.ends e.blk hib
          have HBL := Lib.hid HBO.out.len
          have hbl : b.sn ≤ 4096 := by have := HOK.out.ins e.blk hinb; rw [← HB.out, HBL.out] at this; exact this
          have c3 := HAI4.out.bf.cell 3
          simp only [fC, List.getElem?_cons_zero, List.getElem?_cons_succ] at c3
          rw [HSN.out, hsa] at c3
          obtain ⟨eb, heb⟩ : ∃ eb, eb = e.blk := ⟨_, rfl⟩
          obtain ⟨zs0, hzs0⟩ : ∃ zs0, zs0 = e.zs := ⟨_, rfl⟩
          obtain ⟨sa0, hsa0⟩ : ∃ sa0, sa0 = e.sa := ⟨_, rfl⟩
          obtain ⟨sc0, hsc0⟩ : ∃ sc0, sc0 = e.sc := ⟨_, rfl⟩
          have HSN3 := HSN2.out
          unfold SE.p at HSN3
          simp only [← heb, ← hzs0, ← hsa0, ← hsc0] at s0 s1 hib hinb d0 d1 d2 d3 d4 d5 d6 HB HSE4 HSN3 ⊢
          obtain ⟨_, XR, hxr, hxreach⟩ := HSN3
          have HXR := Lib.hid hxr
          have HXRE := Lib.hid hxreach
          have HEB : Hid (all[k].blk = eb ∧ all[k].zs = zs0) := by rw [heb, hzs0, HE.out]; exact ⟨rfl, rfl⟩
          clear HAI HSE HSN2 hb4 hsb hb hsa hxr hxreach ck0 ck1 HE
          simp only [← hsa0, ← hzs0, ← hsc0, ← heb] at HSB
          clear hsa0 hzs0 hsc0 heb
          go_upto_region 15 with fail
          have hb5 : Below w4.heap.size w4 (w4.alloc (.cells #[.slice b.sa b.sn b.sc, .int .i64 b.e.kind, .int .i64 b.e.op, .int .i64 b.e.a, .int .i64 b.e.b, .int .i64 b.e.n, .slice b.e.sa b.e.sn b.e.sc] 63)) := (Below.refl _ _).alloc (Nat.le_refl _) _
          have HAI5 := Lib.hid (HAI4.out.below hb5)
          have HSE5 := Lib.hid (HSE4.out.below hb5)
          have HSB5 := Lib.hid (HSB.out.below hb5 HSB.out.lt)
          have HVB := Lib.hid (Blk.new w4 (vbC b) 63)
          obtain ⟨bb, hbb⟩ : ∃ bb, bb = w4.heap.size := ⟨_, rfl⟩
          rw [← hbb] at HVB
          change Hid (Blk (w4.alloc (.cells #[.slice b.sa b.sn b.sc, .int .i64 b.e.kind, .int .i64 b.e.op, .int .i64 b.e.a, .int .i64 b.e.b, .int .i64 b.e.n, .slice b.e.sa b.e.sn b.e.sc] 63)) bb 63 (vbC b)) at HVB
          generalize w4.alloc (.cells #[.slice b.sa b.sn b.sc, .int .i64 b.e.kind, .int .i64 b.e.op, .int .i64 b.e.a, .int .i64 b.e.b, .int .i64 b.e.n, .slice b.e.sa b.e.sn b.e.sc] 63) = w5 at HAI5 HSE5 HSB5 HVB hb5 ⊢
          rw [← hbb]
          clear s0 s1 d0 d1 d2 d3 d4 d5 d6 c3 HAI4 HSE4 HSB hb5 hbb
          have s1 := HSB5.out.cell 1
          simp only [List.getElem?_cons_zero, List.getElem?_cons_succ] at s1
          go_upto_region 16 with fail
          have hb6 : Below w5.heap.size w5 (w5.alloc (.cells #[.slice sa0 zs0.length sc0] 89)) := (Below.refl _ _).alloc (Nat.le_refl _) _
          have HI0 : Hid (BlkI w (w5.alloc (.cells #[.slice sa0 zs0.length sc0] 89)) pf (pf + 1) f a all (.slice (some ⟨gv, ov, none⟩) N vc) bb w5.heap.size b sa0 sc0 zs0) :=
            ⟨HAI5.out.below hb6, HVB.out.below hb6 HVB.out.lt, Blk.new w5 [.slice sa0 zs0.length sc0] 89, HAI5.out.be.size, HSE5.out.below hb6⟩
          obtain ⟨wb, hwb⟩ : ∃ wb, wb = w5.heap.size := ⟨_, rfl⟩
          rw [← hwb] at HI0
          generalize w5.alloc (.cells #[.slice sa0 zs0.length sc0] 89) = w6 at HI0 hb6 ⊢
          rw [← hwb]
          clear hb6 hwb s1 HAI5 HSE5 HSB5 HVB
          go_upto_region 17 with fail
          have v0 := HI0.out.bbox.cell 0
          simp only [vbC, List.getElem?_cons_zero] at v0
          go_upto_block 4 with fail
          go_cut [18, 19, 21, 22] from 71 (fun _ _ _ _ wx => ∃ (sa : Option Addr) (sc : Nat) (zs : List (Int × Int)), BlkI w wx pf (pf + 1) f a all (.slice (some ⟨gv, ov, none⟩) N vc) bb wb b sa sc zs ∧ inssW a b.ins zs0 = some zs)
          case first =>
            go_wp2_with fail
            clear v0
            obtain ⟨vall, hvall⟩ : ∃ vall : Value, vall = .slice (some ⟨gv, ov, none⟩) N vc := ⟨_, rfl⟩
            have HVA := Lib.hid hvall
            rw [← hvall] at HI0
            clear hvall
            go_loopw [71] (fun u wx => ∃ (q : Nat) (sa : Option Addr) (sc : Nat) (zs : List (Int × Int)), q ≤ b.sn ∧ u = .int .i64 (q : Int) ∧ BlkI w wx pf (pf + 1) f a all vall bb wb b sa sc zs ∧ inssW a (b.ins.take q) zs0 = some zs) (fun u _ => b.sn - (intOf u).toNat)
            case atStart => exact ⟨0, sa0, sc0, zs0, Nat.zero_le _, rfl, HI0.out, by simp [inssW]⟩
            case round =>
              clear HI0
              obtain ⟨q, sa, sc, zs, hq, rfl, hi, hx⟩ := hrel
              have HI := Lib.hid hi
              have HX := Lib.hid hx
              clear hi hx
              by_cases hql : q < b.sn
              · have hkl : q < b.ins.length := by have := HBL.out; omega
                obtain ⟨gi, oi, hbs, hgi, e0, e1, e2, e3, e4, e5⟩ := HBO.out.cells HI.out.ai.be hkl
                have HT := Lib.hid (List.take_succ_eq_append_getElem hkl)
                have HXM : Hid (b.ins[q] ∈ b.ins) := List.getElem_mem hkl
                obtain ⟨x, hxe⟩ : ∃ x, x = b.ins[q] := ⟨_, rfl⟩
                rw [← hxe] at e0 e1 e2 e3 e4 e5 HT HXM
                have HXO : Hid (x.Ok w) := HBO.out.ins x HXM.out
                have HXF := Lib.hid (HFI.out x HXM.out)
                have hlen : zs.length ≤ 360000 := by
                  obtain ⟨X', _, h2⟩ := inssW_relS HGA.out (fun y hy => HFI.out y (List.mem_of_mem_take hy)) HXR.out HX.out
                  exact Nat.le_trans h2.len HMN.out
                clear hxe
                rw [hbs]
                go_upto_region 20 with fail
                change Code.wp _ _ _ _ (wr.alloc (.cells (viC x).toArray 65))
                have hb7 : Below wr.heap.size wr (wr.alloc (.cells (viC x).toArray 65)) := (Below.refl _ _).alloc (Nat.le_refl _) _
                have HI7 := Lib.hid (HI.out.below hb7)
                have HXB := Lib.hid (Blk.new wr (viC x) 65)
                obtain ⟨xb, hxb⟩ : ∃ xb, xb = wr.heap.size := ⟨_, rfl⟩
                rw [← hxb] at HXB ⊢
                generalize wr.alloc (.cells (viC x).toArray 65) = w7 at HI7 HXB hb7 ⊢
                clear hb7 hxb HI e0 e1 e2 e3 e4 e5 hgi
                have HUS := Lib.hid (insUses_any x w7 (HXO.out.below HI7.out.ai.be))
                unfold viV at HUS
                have HSZ : Hid ((Try.prog.info? 65).map (·.size) = some (viC x).toArray.size) := by unfold Hid; kernel_rfl
                go_wp2_with (refine wpList_load_row rfl 65 _ rfl xb rfl _ (viC x).toArray _ _ HXB.out Try.underlying65 rfl HSZ.out ?_)
                refine HUS.out.mono ?_
                rintro e w8 ⟨v, rfl, hown, hb8⟩
                obtain ⟨la, lc, rfl, hlc⟩ := came_ownsV hown
                have HI8 := Lib.hid (HI7.out.below hb8)
                have HXB8 := Lib.hid (HXB.out.below hb8 HXB.out.lt)
                have HGD := Lib.hid (good_any w8 wb (pf + 1) a (HAO.out.below HI8.out.ai.be) sa zs.length sc zs HI8.out.row.came (by omega) HI8.out.wbox HI8.out.ai.ba n m HGA.out la (usesV x).length lc (usesV x) hlc (fun r hr => by have := HXF.out.uses r hr; omega))
                clear hlc hown hb8 HUS HI7 HXB
                obtain ⟨gd, hgd⟩ : ∃ gd, gd = goodW a zs (usesV x) := ⟨_, rfl⟩
                rw [← hgd] at HGD
                have HGDE := Lib.hid hgd
                clear hgd
                go_wp2_with fail
                refine HGD.out.mono ?_
                rintro e w9 ⟨rfl, hb9⟩
                have HI9 := Lib.hid (HI8.out.below hb9)
                have HXB9 := Lib.hid (HXB8.out.below hb9 HXB8.out.lt)
                clear hb9 HGD HI8 HXB8
                cases gd with
                | false =>
                  have HBAD : Hid (¬ GoodS f a X0) := bad_of HGA.out HOK.out.fits hib HXR.out HXRE.out (by rw [← HB.out]; unfold blkW; rw [inssW_fail HX.out HT.out HGDE.out.symm]; rfl)
                  go_wp2_with fail
                  exact bodyPost_ret (results_tmp2 rfl _ _ _) rfl ⟨false, true, rfl, fun _ => ⟨fun h => (by cases h), fun h => absurd (by rw [HX0.out]; exact h) HBAD.out⟩, HI9.out.ai.be⟩
                | true =>
                  have HX2 := Lib.hid (inssW_next HX.out HT.out HGDE.out.symm)
                  go_upto_region 23 with fail
                  have k0 := HXB9.out.cell 0
                  have k2 := HXB9.out.cell 2
                  simp only [viC, List.getElem?_cons_zero, List.getElem?_cons_succ] at k0 k2
                  obtain ⟨mv, hmv⟩ : ∃ mv, mv = ((x.op == 100) && (x.a != 0)) := ⟨_, rfl⟩
                  have HMV := Lib.hid hmv
                  clear hmv
                  go_cut [87] from 80 to 135 (fun v wx => v = .bool mv ∧ wx = w9)
                  case first =>
                    have hc1 : (x.op == 100) = true ∨ (x.op == 100) = false := by cases (x.op == 100) <;> simp
                    have hc2 : (x.a != 0) = true ∨ (x.a != 0) = false := by cases (x.a != 0) <;> simp
                    rcases hc1 with z1 | z1 <;> rcases hc2 with z2 | z2
                    all_goals
                      rw [z1, z2] at HMV
                      go_wp2_with fail
                      go_meet
                      exact ⟨by rw [HMV.out]; rfl, rfl⟩
                  case rest =>
                    obtain ⟨rfl, hw5⟩ := hcut
                    subst hw5
                    clear k0 k2
                    go_upto_if 87 with fail
                    go_cut [19, 21] from 80 to 135 (fun v _ wx => BlkI w wx pf (pf + 1) f a all vall bb wb b sa sc zs ∧ Blk wx xb 65 (viC x) ∧ wx.ownsRow w.heap.size 3 1 v (alsoW a x zs).length ((alsoW a x zs).map (Value.int .i64)))
                    case first =>
                      cases mv with
                      | false =>
                        have HN : Hid (alsoW a x zs = []) := by
                          show _ = _
                          unfold alsoW
                          rw [if_neg]
                          rintro ⟨h1, h2⟩
                          have := HMV.out
                          rw [h1] at this
                          simp [h2] at this
                        go_wp2_with fail
                        go_meet
                        exact ⟨HI9.out, HXB9.out, by rw [HN.out]; exact World.ownsRow_nil _ _ _ _⟩
                      | true =>
                        have hcs : x.op = 100 ∧ x.a ≠ 0 := by
                          have := HMV.out.symm
                          simpa using this
                        obtain ⟨an, han⟩ : ∃ an : Nat, x.a = (an : Int) := ⟨x.a.toNat, by have := HXF.out.a; omega⟩
                        have hann : an < n := by have := HXF.out.a; omega
                        obtain ⟨sp, hsp⟩ : ∃ sp, sp = plc 100 a an := ⟨_, rfl⟩
                        have HAL : Hid (alsoW a x zs = alsoP sp x.d zs) := by
                          show _ = _
                          unfold alsoW alsoP
                          rw [if_pos hcs, han, hsp]
                          rfl
                        have HSPE := Lib.hid hsp
                        have HAN := Lib.hid han
                        have w0c := HI9.out.wbox.cell 0
                        simp only [List.getElem?_cons_zero] at w0c
                        clear hcs hsp han
                        go_wp2_with fail
                        clear w0c
                        go_loopw [19, 90] (fun v u wx => ∃ j : Nat, j ≤ zs.length ∧ u = .int .i64 (j : Int) ∧ BlkI w wx pf (pf + 1) f a all vall bb wb b sa sc zs ∧ Blk wx xb 65 (viC x) ∧ wx.ownsRow w.heap.size 3 1 v (alsoP sp x.d (zs.take j)).length ((alsoP sp x.d (zs.take j)).map (Value.int .i64))) (fun _ u _ => zs.length - (intOf u).toNat)
                        case atStart => exact ⟨0, Nat.zero_le _, rfl, HI9.out, HXB9.out, World.ownsRow_nil _ _ _ _⟩
                        case round =>
                          clear HI9 HXB9
                          obtain ⟨j, hj, rfl, hi, hxb, hown⟩ := hrel
                          have HI9 := Lib.hid hi
                          have HXB9 := Lib.hid hxb
                          have HOWN := Lib.hid hown
                          clear hi hxb hown
                          by_cases hjl : j < zs.length
                          · obtain ⟨b', off, ea, hbl2, hcell⟩ := came_pairs HI9.out.row.came (by omega)
                            obtain ⟨cl, cl1⟩ := hcell j hjl
                            have HTJ := Lib.hid (List.take_succ_eq_append_getElem hjl)
                            obtain ⟨z, hz⟩ : ∃ z, z = zs[j] := ⟨_, rfl⟩
                            rw [← hz] at cl cl1 HTJ
                            obtain ⟨z1, z2⟩ := z
                            simp only [] at cl cl1
                            have HAS := Lib.hid (alsoP_succ (sp := sp) (d := x.d) HTJ.out)
                            have HLJ : Hid ((alsoP sp x.d (zs.take j)).length ≤ 360000) := Nat.le_trans (alsoP_len _ _ _) (by rw [List.length_take]; omega)
                            clear hcell hz
                            subst ea
                            go_upto_region 27 with fail
                            have hba : Below wr.heap.size wr (wr.alloc (.cells #[.int .i64 z1, .int .i64 z2] 41)) := (Below.refl _ _).alloc (Nat.le_refl _) _
                            have HI10 := Lib.hid (HI9.out.below hba)
                            have HXB10 := Lib.hid (HXB9.out.below hba HXB9.out.lt)
                            have HO10 := Lib.hid (ownG_below HOWN.out hba)
                            have HYB := Lib.hid (Blk.new wr [.int .i64 z1, .int .i64 z2] 41)
                            obtain ⟨yb, hyb⟩ : ∃ yb, yb = wr.heap.size := ⟨_, rfl⟩
                            rw [← hyb] at HYB ⊢
                            change Hid (Blk (wr.alloc (.cells #[.int .i64 z1, .int .i64 z2] 41)) yb 41 [.int .i64 z1, .int .i64 z2]) at HYB
                            generalize wr.alloc (.cells #[.int .i64 z1, .int .i64 z2] 41) = w10 at HI10 HXB10 HO10 HYB hba ⊢
                            clear hba hyb HI9 HXB9 HOWN cl cl1 hbl2
                            obtain ⟨wd, hwd⟩ : ∃ wd, wd = w10.drew := ⟨_, rfl⟩
                            have hbd : Below w10.heap.size w10 wd := by rw [hwd]; exact (Below.refl _ _).drew
                            have y0 := HYB.out.cell 0
                            have y1 := HYB.out.cell 1
                            have x1 := HXB10.out.cell 1
                            have x2 := HXB10.out.cell 2
                            simp only [viC, List.getElem?_cons_zero, List.getElem?_cons_succ] at y0 y1 x1 x2
                            rw [HAN.out] at x2
                            have r0 := fun z : After w10.heap.size wd => (z.below.cell (p := ⟨yb, 0, none⟩) (Blk.lt HYB.out)).trans ((hbd.cell (p := ⟨yb, 0, none⟩) (Blk.lt HYB.out)).trans y0)
                            have r1 := fun z : After w10.heap.size wd => (z.below.cell (p := ⟨yb, 1, none⟩) (Blk.lt HYB.out)).trans ((hbd.cell (p := ⟨yb, 1, none⟩) (Blk.lt HYB.out)).trans y1)
                            have r2 := fun z : After w10.heap.size wd => (z.below.cell (p := ⟨xb, 2, none⟩) (Blk.lt HXB10.out)).trans ((hbd.cell (p := ⟨xb, 2, none⟩) (Blk.lt HXB10.out)).trans x2)
                            have HMR : Hid (∀ w', (∃ z : After w10.heap.size wd, w' = z.world) → w'.rangeAt (pf + 1) 0 [.slice a.ra a.rn a.rc, .slice a.sa a.sn a.sc, .int .i64 a.k]) := by
                              rintro _ ⟨z, rfl⟩
                              exact blk_range (Blk.below HI10.out.ai.ba (hbd.trans z.below) (Blk.lt HI10.out.ai.ba))
                            have HSPO := Lib.hid (spot_any wd a (HAO.out.below (HI10.out.ai.be.trans (hbd.mono HI10.out.ai.be.size))) an (by rw [HGA.out.fit.rn]; exact hann) (by rw [HGA.out.fit.sn]; exact hann) HGA.out.fit.sl)
                            rw [← HSPE.out] at HSPO
                            unfold AL.v at HSPO
                            have HBD := Lib.hid hbd
                            have HX1 := Lib.hid x1
                            have HY1 := Lib.hid y1
                            clear y0 y1 x1 x2 hbd
                            refine wp_region_eager w10.heap.size [(0, true), (1, true), (2, true), (3, true), (4, true), (5, false), (6, true), (7, true), (8, true), (9, true), (10, true), (11, true), (12, true), (13, true)] (by kernel_rfl) (by kernel_rfl) ?_
                            rw [← hwd]
                            clear hwd
                            iterate 2 (refine eag_read rfl ?_; go_big_quiet_step (fail); refine wpQuiet_nil ?_)
                            refine eag_read rfl ?_
                            refine loadMid rfl 27 _ rfl (pf + 1) 0 rfl [.slice a.ra a.rn a.rc, .slice a.sa a.sn a.sc, .int .i64 a.k] _ HMR.out Try.underlying27 rfl HS3.out ?_
                            go_simp
                            repeat (refine eag_read rfl ?_; go_big_quiet_step (fail); refine wpQuiet_nil ?_)
                            clear r0 r1 r2
                            refine eag_does rfl rfl ?_
                            intro K hK
                            go_simp
                            refine HSPO.out.mono ?_
                            rintro e w11 ⟨rfl, hb11⟩
                            refine hK _ _ (hb11.mono HBD.out.size) ?_
                            clear hK K
                            have hb12 : Below w10.heap.size w10 w11 := HBD.out.trans (hb11.mono HBD.out.size)
                            have HI11 := Lib.hid (HI10.out.below hb12)
                            have HXB11 := Lib.hid (HXB10.out.below hb12 HXB10.out.lt)
                            have HO11 := Lib.hid (ownG_below HO10.out hb12)
                            have HYB11 := Lib.hid (HYB.out.below hb12 HYB.out.lt)
                            have r1 := fun z : After w10.heap.size w11 => (z.below.cell (p := ⟨yb, 1, none⟩) (Blk.lt HYB.out)).trans ((hb12.cell (p := ⟨yb, 1, none⟩) (Blk.lt HYB.out)).trans HY1.out)
                            have r2 := fun z : After w10.heap.size w11 => (z.below.cell (p := ⟨xb, 1, none⟩) (Blk.lt HXB10.out)).trans ((hb12.cell (p := ⟨xb, 1, none⟩) (Blk.lt HXB10.out)).trans HX1.out)
                            clear hb11 hb12 HSPO HBD HMR HX1 HY1 HI10 HXB10 HO10 HYB
                            go_simp
                            by_cases e1 : z1 = sp
                            · have q1 : (z1 == sp) = true := by simp [e1]
                              by_cases e2 : z2 = x.d
                              · have q2 : (z2 != x.d) = false := by simp [e2]
                                have HAS2 := Lib.hid (HAS.out.trans (by rw [if_neg (by rintro ⟨_, h⟩; exact h e2), List.append_nil]))
                                clear e1 e2 HAS
                                repeat (refine eag_read rfl ?_; go_big_quiet_step (fail); refine wpQuiet_nil ?_)
                                refine eag_end ?_
                                clear r1 r2
                                go_wp2_with fail
                                go_roundw
                                case rel => exact ⟨j + 1, by omega, by go_num, HI11.out, HXB11.out, by rw [HAS2.out]; exact HO11.out⟩
                                case measure => simp [intOf]; omega
                              · have q2 : (z2 != x.d) = true := by simp [e2]
                                have HAS2 := Lib.hid (HAS.out.trans (by rw [if_pos ⟨e1, e2⟩]))
                                clear e1 e2 HAS
                                repeat (refine eag_read rfl ?_; go_big_quiet_step (fail); refine wpQuiet_nil ?_)
                                refine eag_end ?_
                                clear r1 r2
                                have y1 := HYB11.out.cell 1
                                simp only [List.getElem?_cons_zero, List.getElem?_cons_succ] at y1
                                obtain ⟨i1, hi1, hy0, hy1, hy2⟩ : ∃ i, Try.prog.info? 3 = some i ∧ i.zero = some (.int .i64 0) ∧ i.size = 1 ∧ i.bytes = 8 := info_partsV (by kernel_rfl)
                                have hbx : Below w11.heap.size w11 (w11.alloc (.cells #[.int .i64 z2] 3)) := (Below.refl _ _).alloc (Nat.le_refl _) _
                                have HI12 := Lib.hid (HI11.out.below hbx)
                                have HXB12 := Lib.hid (HXB11.out.below hbx HXB11.out.lt)
                                have HO12 := Lib.hid (ownG_below HO11.out hbx)
                                have hsz := HI12.out.ai.be.size
                                clear hbx HI11 HXB11 HO11 HYB11
                                have hlj := HLJ.out
                                go_wp2_with (at_builtin; refine wpList_append_own _ rfl _ _ 22 rfl w.heap.size 3 i1 (.int .i64 0) 1 8 Try.underlying22 hi1 hy0 hy1 hy2 rfl (by decide) _ _ _ rfl HO12.out ⟨w11.heap.size, 0, none⟩ 1 1 [.int .i64 z2] rfl rfl ?a2 ?a3 ?a4 ?a5 ?a6 ?_)
                                case a3 => rfl
                                case a4 => unfold maxLen; omega
                                case a5 => omega
                                case a6 => have h9 := hsz; rw [World.size_alloc] at h9; exact h9
                                intro v' w13 hown' hgrow _
                                have hint := IntB.own HO12.out
                                have HI13 := Lib.hid (HI12.out.rest (RestS.ofGrown hgrow) hint (fun g hg => (HO12.out.lt g hg).1))
                                have HXB13 : Hid (Blk w13 xb 65 (viC x)) := Blk.of_heap HXB12.out ((RestS.ofGrown hgrow).block _ (Blk.lt HXB12.out) (hint.noBlk HXB12.out (by decide)))
                                have HO13 : Hid (w13.ownsRow w.heap.size 3 1 v' (alsoP sp x.d (zs.take (j + 1))).length ((alsoP sp x.d (zs.take (j + 1))).map (Value.int .i64))) := by
                                  show World.ownsRow _ _ _ _ _ _ _
                                  rw [HAS2.out]
                                  simpa using hown'
                                clear hown' hgrow hint hsz hlj HI12 HXB12 HO12 HAS2
                                go_wp2_with fail
                                go_roundw
                                case rel => exact ⟨j + 1, by omega, by go_num, HI13.out, HXB13.out, HO13.out⟩
                                case measure => simp [intOf]; omega
                            · have q1 : (z1 == sp) = false := by simp [e1]
                              have HAS2 := Lib.hid (HAS.out.trans (by rw [if_neg (by rintro ⟨h, _⟩; exact e1 h), List.append_nil]))
                              clear e1 HAS
                              repeat (refine eag_read rfl ?_; go_big_quiet_step (fail); refine wpQuiet_nil ?_)
                              refine eag_end ?_
                              clear r1 r2
                              go_wp2_with fail
                              go_roundw
                              case rel => exact ⟨j + 1, by omega, by go_num, HI11.out, HXB11.out, by rw [HAS2.out]; exact HO11.out⟩
                              case measure => simp [intOf]; omega
                          · have ek : zs.take j = zs := List.take_of_length_le (by omega)
                            rw [ek, ← HAL.out] at HOWN
                            clear ek
                            go_wp2_with fail
                            go_meet
                            exact ⟨HI9.out, HXB9.out, HOWN.out⟩
                    case rest =>
                      clear HI9 HXB9 HMV
                      obtain ⟨hi, hxb, hown⟩ := hcut
                      have HI9 := Lib.hid hi
                      have HXB9 := Lib.hid hxb
                      have HOWN := Lib.hid hown
                      clear hi hxb hown
                      have HALN : Hid ((alsoW a x zs).length ≤ 360000) := by
                        show _ ≤ _
                        unfold alsoW
                        split
                        · rw [List.length_map]; exact Nat.le_trans (List.length_filter_le _ _) hlen
                        · simp
                      have k0 := HXB9.out.cell 0
                      simp only [viC, List.getElem?_cons_zero, List.getElem?_cons_succ] at k0
                      obtain ⟨cbv, hcb⟩ : ∃ cbv, cbv = callB x.op := ⟨_, rfl⟩
                      have HCB := Lib.hid hcb
                      clear hcb
                      go_upto_region 30 with fail
                      go_cut [121] from 114 to 135 (fun v wx => v = .bool cbv ∧ wx = wc)
                      case first =>
                        have hc1 : (x.op == 101) = true ∨ (x.op == 101) = false := by cases (x.op == 101) <;> simp
                        have hc2 : (x.op == 102) = true ∨ (x.op == 102) = false := by cases (x.op == 102) <;> simp
                        unfold callB at HCB
                        rcases hc1 with z1 | z1 <;> rcases hc2 with z2 | z2
                        all_goals
                          rw [z1, z2] at HCB
                          go_wp2_with fail
                          go_meet
                          exact ⟨by rw [HCB.out]; rfl, rfl⟩
                      case rest =>
                        obtain ⟨rfl, hw5⟩ := hcut
                        subst hw5
                        clear k0
                        go_upto_if 121 with fail
                        go_cut [] from 114 to 135 (fun wx => ∃ (sa2 : Option Addr) (sc2 : Nat), BlkI w wx pf (pf + 1) f a all vall bb wb b sa2 sc2 (callW x zs) ∧ Blk wx xb 65 (viC x) ∧ wx.ownsRow w.heap.size 3 1 u19 (alsoW a x zs).length ((alsoW a x zs).map (Value.int .i64)))
                        case first =>
                          cases cbv with
                          | false =>
                            have HN : Hid (callW x zs = zs) := by show _ = _; unfold callW; rw [← HCB.out]; rfl
                            go_wp2_with fail
                            go_meet
                            exact ⟨sa, sc, by rw [HN.out]; exact HI9.out, HXB9.out, HOWN.out⟩
                          | true =>
                            have HN : Hid (callW x zs = outW 1 10 zs) := by show _ = _; unfold callW; rw [← HCB.out]; rfl
                            have w0c := HI9.out.wbox.cell 0
                            simp only [List.getElem?_cons_zero] at w0c
                            have HWO := Lib.hid (wwithout_any wc sa zs.length sc zs HI9.out.row.came (by omega) 1 10)
                            obtain ⟨zo, hzo⟩ : ∃ zo, zo = outW 1 10 zs := ⟨_, rfl⟩
                            rw [← hzo] at HWO HN
                            clear hzo
                            go_wp2_with fail
                            refine HWO.out.mono ?_
                            rintro e w5 ⟨v5, rfl, hown5, hb5⟩
                            obtain ⟨sa5, sc5, rfl⟩ := ownG_shape hown5
                            have hp5 : PRow w5 sa5 sc5 zo := ownG_base hown5 (Nat.zero_le _)
                            have hi5 := HI9.out.below hb5
                            have HI6 := Lib.hid (hi5.store hp5)
                            have hxb5 := HXB9.out.below hb5 HXB9.out.lt
                            have HXB6 : Hid (Blk (w5.setCell ⟨wb, 0, none⟩ (.slice sa5 zo.length sc5)) xb 65 (viC x)) := Blk.setOther hxb5 (a := ⟨wb, 0, none⟩) (blk_neT hxb5 hi5.wbox (by decide)) _
                            have ho5 := ownG_below HOWN.out hb5
                            have HO6 := Lib.hid (ownG_other (a := ⟨wb, 0, none⟩) ho5 (blk_noOwn hi5.wbox ho5 (by decide)) (.slice sa5 zo.length sc5))
                            have w1c := hi5.wbox.cell 0
                            have w1f := Blk.free hi5.wbox 0
                            simp only [List.getElem?_cons_zero] at w1c
                            clear hown5 hb5 hp5 hi5 hxb5 ho5 HWO w0c
                            go_wp2_with fail
                            go_meet
                            exact ⟨sa5, sc5, by rw [HN.out]; exact HI6.out, HXB6.out, HO6.out⟩
                        case rest =>
                          clear HI9 HXB9 HOWN HCB
                          obtain ⟨sa2, sc2, hi, hxb, hown⟩ := hcut
                          have HI := Lib.hid hi
                          have HXB := Lib.hid hxb
                          have HOWN := Lib.hid hown
                          clear hi hxb hown
                          have HCL : Hid ((callW x zs).length ≤ 360000) := by
                            show _ ≤ _
                            unfold callW
                            split
                            · exact Nat.le_trans (outW_len _ _ _) hlen
                            · exact hlen
                          obtain ⟨zc, hzc⟩ : ∃ zc, zc = callW x zs := ⟨_, rfl⟩
                          rw [← hzc] at HI HCL
                          obtain ⟨al, hal⟩ : ∃ al, al = alsoW a x zs := ⟨_, rfl⟩
                          rw [← hal] at HOWN HALN
                          have HIW : Hid (insW a x zs = if defV x = 0 then zc else putW (plc 100 a (defV x).toNat) (defV x) al zc) := by show _ = _; unfold insW; rw [hzc, hal]
                          clear hzc hal
                          have HDF := fun w => Lib.hid (insDef_any x w)
                          unfold viV at HDF
                          obtain ⟨dn, hdn⟩ : ∃ dn : Nat, defV x = (dn : Int) := ⟨(defV x).toNat, by have := HXF.out.d; omega⟩
                          have hdnn : dn < n := by have := HXF.out.d; omega
                          rw [hdn] at HDF HIW
                          simp only [Int.toNat_natCast] at HIW
                          clear hdn
                          go_wp2_with (refine wpList_load_row rfl 65 _ rfl xb rfl _ (viC x).toArray _ _ HXB.out Try.underlying65 rfl HSZ.out ?_)
                          refine (HDF _).out.mono ?_
                          rintro e w4 ⟨rfl, hb4⟩
                          have HI4 := Lib.hid (HI.out.below hb4)
                          have HO4 := Lib.hid (ownG_below HOWN.out hb4)
                          clear hb4 HDF HI HXB HOWN
                          by_cases hd0 : dn = 0
                          · have q1 : ((dn : Int) != 0) = false := by simp [hd0]
                            have HN : Hid (insW a x zs = zc) := by show _ = _; rw [HIW.out, if_pos (by omega)]
                            clear hd0
                            go_wp2_with fail
                            go_roundw
                            case rel => exact ⟨q + 1, sa2, sc2, zc, by omega, by go_num, HI4.out, by rw [← HN.out]; exact HX2.out⟩
                            case measure => simp [intOf]; omega
                          · have q1 : ((dn : Int) != 0) = true := by simp [hd0]
                            have HN : Hid (insW a x zs = putW (plc 100 a dn) (dn : Int) al zc) := by show _ = _; rw [HIW.out, if_neg (by omega)]
                            clear hd0 HIW
                            obtain ⟨wd, hwd⟩ : ∃ wd, wd = w4.drew := ⟨_, rfl⟩
                            have hde : Below w4.heap.size w4 wd := by rw [hwd]; exact (Below.refl _ _).drew
                            have HI5 := Lib.hid (HI4.out.below hde)
                            have HO5 := Lib.hid (ownG_below HO4.out hde)
                            have HSPO := Lib.hid (spot_any wd a (HAO.out.below HI5.out.ai.be) dn (by rw [HGA.out.fit.rn]; exact hdnn) (by rw [HGA.out.fit.sn]; exact hdnn) HGA.out.fit.sl)
                            obtain ⟨sp, hsp⟩ : ∃ sp, sp = plc 100 a dn := ⟨_, rfl⟩
                            rw [← hsp] at HSPO HN
                            unfold AL.v at HSPO
                            have w0c := HI5.out.wbox.cell 0
                            simp only [List.getElem?_cons_zero] at w0c
                            have r0 := fun z : AfterR (Below wd.heap.size) wd => (z.rel.cell (p := ⟨wb, 0, none⟩) (Blk.lt HI5.out.wbox)).trans w0c
                            have HMR : Hid (∀ w', clsRT (Below wd.heap.size) wd w' → w'.rangeAt (pf + 1) 0 [.slice a.ra a.rn a.rc, .slice a.sa a.sn a.sc, .int .i64 a.k]) := by
                              rintro _ ⟨z, rfl⟩
                              exact blk_range (Blk.below HI5.out.ai.ba z.rel (Blk.lt HI5.out.ai.ba))
                            clear hde w0c hsp
                            go_upto_region 34 with fail
                            refine wp_region_eagerRT (Below wd.heap.size) [(0, true), (1, true), (2, true), (4, true), (5, true), (3, false), (6, false), (7, false)] (by kernel_rfl) (by kernel_rfl) ?_
                            rw [← hwd]
                            clear hwd HI4 HO4
                            refine eagR_readT rfl ?_
                            go_big_quiet_step (fail)
                            refine wpQuiet_nil ?_
                            refine eagR_readT rfl ?_
                            refine loadMid rfl 27 _ rfl (pf + 1) 0 rfl [.slice a.ra a.rn a.rc, .slice a.sa a.sn a.sc, .int .i64 a.k] _ HMR.out Try.underlying27 rfl HS3.out ?_
                            go_simp
                            repeat (refine eagR_readT rfl ?_; go_big_quiet_step (fail); refine wpQuiet_nil ?_)
                            clear r0
                            refine eagR_doesT rfl rfl ?_
                            intro K hK
                            go_simp
                            refine HSPO.out.mono ?_
                            rintro e w7 ⟨rfl, hb7⟩
                            refine hK _ _ (fun _ => hb7) ?_
                            clear hK K
                            have HI7 := Lib.hid (HI5.out.below hb7)
                            have HO7 := Lib.hid (ownG_below HO5.out hb7)
                            have HPU := Lib.hid (wput_any w7 sa2 zc.length sc2 zc HI7.out.row.came (by have := HCL.out; omega) sp (dn : Int) w.heap.size HI7.out.ai.be.size u19 al HO7.out (by have := HALN.out; omega))
                            obtain ⟨zp, hzp⟩ : ∃ zp, zp = putW sp (dn : Int) al zc := ⟨_, rfl⟩
                            rw [← hzp] at HPU HN
                            clear hzp hb7 HSPO HMR HI5 HO5
                            go_simp
                            refine eagR_freeT rfl rfl (by kernel_rfl) ?_
                            intro K hK
                            go_simp
                            refine HPU.out.mono ?_
                            intro e w8 hpp
                            obtain ⟨sa8, sc8, rfl, hp8, hr8⟩ := hpp.row
                            refine hK _ _ ?_
                            clear hK K
                            have hi8 := HI7.out.rest hr8 (IntB.own HO7.out) (fun g hg => (HO7.out.lt g hg).1)
                            have HI9 := Lib.hid (hi8.store hp8)
                            have w8c := hi8.wbox.cell 0
                            have w8f := Blk.free hi8.wbox 0
                            simp only [List.getElem?_cons_zero] at w8c
                            clear hpp hp8 hr8 hi8 HPU HI7 HO7
                            go_simp
                            refine eagR_freeT rfl rfl (by kernel_rfl) ?_
                            intro K hK
                            go_simp
                            refine hK _ _ ?_
                            clear hK K w8c w8f
                            go_simp
                            refine eagR_endT ?_
                            go_wp2_with fail
                            go_roundw
                            case rel => exact ⟨q + 1, sa8, sc8, zp, by omega, by go_num, HI9.out, by rw [← HN.out]; exact HX2.out⟩
                            case measure => simp [intOf]; omega
              · have ek : b.ins.take q = b.ins := List.take_of_length_le (by have := HBL.out; omega)
                rw [ek] at HX
                rw [HVA.out] at HI
                clear ek
                go_wp2_with fail
                go_meet
                exact ⟨sa, sc, zs, HI.out, HX.out⟩
          case rest =>
            clear HI0 v0
            obtain ⟨sa1, sc1, zs1, hi, hx⟩ := hcut
            have HI := Lib.hid hi
            have HX := Lib.hid hx
            clear hi hx
            obtain ⟨X1, hx1, hr1⟩ := inssW_relS HGA.out HFI.out HXR.out HX.out
            have HX1 := Lib.hid hx1
            have HR1 := Lib.hid hr1
            have hlen : zs1.length ≤ 360000 := Nat.le_trans hr1.len HMN.out
            have HAB := Lib.hid (HOK.out.ab eb hinb)
            rw [← HB.out] at HAB
            have v2 := HI.out.bbox.cell 3
            have v3 := HI.out.bbox.cell 4
            simp only [vbC, veC, List.getElem?_cons_zero, List.getElem?_cons_succ] at v2 v3
            have HGD := fun wx (hb : Below wc.heap.size wc wx) (la : Option Addr) (lc : Nat) (hlc : Came wx la 2 lc 1 ([b.e.a, b.e.b].map intCells)) => Lib.hid (good_any wx wb (pf + 1) a (HAO.out.below (HI.out.ai.be.trans (hb.mono HI.out.ai.be.size))) sa1 zs1.length sc1 zs1 (HI.out.row.came.below hb) (by omega) (HI.out.wbox.below hb HI.out.wbox.lt) (HI.out.ai.ba.below hb HI.out.ai.ba.lt) n m HGA.out la 2 lc [b.e.a, b.e.b] hlc (fun r hr => by
              have h1 := HAB.out
              simp only [List.mem_cons, List.not_mem_nil, or_false] at hr
              rcases hr with rfl | rfl <;> omega))
            obtain ⟨gd, hgd⟩ : ∃ gd, gd = goodW a zs1 [b.e.a, b.e.b] := ⟨_, rfl⟩
            rw [← hgd] at HGD
            have HGDE := Lib.hid hgd
            clear hgd hx1 hr1
            go_wp2_with fail
            have hba : Below wc.heap.size wc (wc.alloc (.cells #[.int .i64 b.e.a, .int .i64 b.e.b] 3)) := (Below.refl _ _).alloc (Nat.le_refl _) _
            have hlc : Came (wc.alloc (.cells #[.int .i64 b.e.a, .int .i64 b.e.b] 3)) (some ⟨wc.heap.size, 0, none⟩) 2 2 1 ([b.e.a, b.e.b].map intCells) := by
              have h1 := World.ownsRow_lit (base := 0) (e := 3) (size := 1) wc #[.int .i64 b.e.a, .int .i64 b.e.b] 2 (Nat.zero_le _) (by decide) rfl
              obtain ⟨la, lc, he, hc⟩ := came_ownsV (rs := [b.e.a, b.e.b]) h1
              injection he with e1 e2 e3
              subst e1 e3
              exact hc
            have HGD2 := HGD _ hba _ _ hlc
            refine HGD2.out.mono ?_
            rintro e w7 ⟨rfl, hb7⟩
            have HI7 := Lib.hid (HI.out.below (hba.trans (hb7.mono hba.size)))
            clear hba hlc hb7 HGD HGD2 v2 v3 HI
            cases gd with
            | false =>
              have HBAD : Hid (¬ GoodS f a X0) := bad_of HGA.out HOK.out.fits hib HXR.out HXRE.out (by rw [← HB.out]; unfold blkW; rw [HX.out]; simp only [Option.bind_some]; rw [← HGDE.out]; rfl)
              go_wp2_with fail
              exact bodyPost_ret (results_tmp2 rfl _ _ _) rfl ⟨false, true, rfl, fun _ => ⟨fun h => (by cases h), fun h => absurd (by rw [HX0.out]; exact h) HBAD.out⟩, HI7.out.ai.be⟩
            | true =>
              have HBW : Hid (blkW a b zs0 = some zs1) := by show _ = _; unfold blkW; rw [HX.out]; simp only [Option.bind_some]; rw [← HGDE.out]; rfl
              obtain ⟨Z, hZ⟩ : ∃ Z, blkT a b XR = some Z ∧ RelW m n zs1 Z := by
                have h1 := blkW_rel HGA.out HFI.out HFE.out HXR.out
                rw [HBW.out] at h1
                cases h2 : blkT a b XR with
                | none => rw [h2] at h1; exact absurd h1 id
                | some Z => rw [h2] at h1; exact ⟨Z, rfl, h1⟩
              have HZT := Lib.hid hZ.1
              have HZR := Lib.hid hZ.2
              clear hZ HX HX1 HR1 HGDE
              have HEL := Lib.hid HBO.out.e.len
              have hto2 : b.e.sn ≤ 2 := by have := HOK.out.tos eb hinb; rw [← HB.out] at this; have h2 := HEL.out; omega
              have v5 := HI7.out.bbox.cell 6
              simp only [vbC, veC, List.getElem?_cons_zero, List.getElem?_cons_succ] at v5
              go_wp2_with fail
              clear v5
              go_loopw [11, 150] (fun v u wx => ∃ (q : Nat) (al : List SE), q ≤ b.e.sn ∧ u = .int .i64 (q : Int) ∧ BlkI w wx pf (pf + 1) f a al v bb wb b sa1 sc1 zs1 ∧ AccJ f a m n X0 al k ∧ al.length ≤ 300 + q ∧ (∃ more, al = all ++ more) ∧ PartW f al eb zs1 q) (fun _ u _ => b.e.sn - (intOf u).toNat)
              case atStart => exact ⟨0, all, Nat.zero_le _, rfl, HI7.out, HJ.out, by have := HN.out; omega, ⟨[], by simp⟩, fun t ht => by simp at ht⟩
              case round =>
                clear HI7 HJ
                obtain ⟨q, al, hq, rfl, hi, hj, hal, hmore, hpart⟩ := hrel
                have HI := Lib.hid hi
                have HJ := Lib.hid hj
                have HMORE := Lib.hid hmore
                have HPART := Lib.hid hpart
                clear hi hj hmore hpart
                by_cases hql : q < b.e.sn
                · obtain ⟨gt, ot, hbt, hgt, hct⟩ := HBO.out.e.came.ints (by omega)
                  have hkl : q < b.e.to.length := by have := HEL.out; omega
                  have ct := (HI.out.ai.be.cell (p := ⟨gt, ot + q, none⟩) hgt).trans (hct q hkl)
                  have hin := HOK.out.fits.tos eb hib
                  rw [← HB.out] at hin
                  have hts := hin _ (List.getElem_mem hkl)
                  have HTK : Hid ((f.blk eb).e.to[q]? = some b.e.to[q]) := by show _ = _; rw [← HB.out]; exact List.getElem?_eq_getElem hkl
                  obtain ⟨t, ht⟩ : ∃ t : Nat, b.e.to[q] = (t : Int) := ⟨b.e.to[q].toNat, by omega⟩
                  have HRZ : Hid (ReachS f a X0 t Z) := by
                    have := ReachS.step HXRE.out (b := f.blk eb) (by rw [List.getElem?_eq_getElem hib, VF.blk_get f hib]) (by rw [← HB.out]; exact HZT.out) (t := b.e.to[q]) (by rw [← HB.out]; exact List.getElem_mem hkl)
                    rw [ht] at this
                    exact this
                  rw [ht] at ct HTK hts
                  have htl : t < f.blocks.length := by omega
                  obtain ⟨va2, vc2, hv2, hvc2, hvm2, hcells⟩ := came_ses HI.out.ai.own
                  subst hv2
                  have HCE := Lib.hid hcells
                  rw [hbt]
                  clear hct hin hts ht hbt hgt hcells
                  go_upto_block 10 with fail
                  go_cut [25, 27] from 156 (fun v _ wx => BlkI w wx pf (pf + 1) f a al (.slice va2 al.length vc2) bb wb b sa1 sc1 zs1 ∧ ∃ ob : Bool, v = .bool ob ∧ (ob = true ↔ ∃ s ∈ al, s.blk = t ∧ eqW s.zs zs1 = true))
                  case first =>
                    go_wp2_with fail
                    go_loopw [25, 156] (fun v u wx => ∃ (j : Nat) (ob : Bool), j ≤ al.length ∧ u = .int .i64 (j : Int) ∧ v = .bool ob ∧ BlkI w wx pf (pf + 1) f a al (.slice va2 al.length vc2) bb wb b sa1 sc1 zs1 ∧ (ob = true ↔ ∃ s ∈ al.take j, s.blk = t ∧ eqW s.zs zs1 = true)) (fun _ u _ => al.length - (intOf u).toNat)
                    case atStart => exact ⟨0, false, Nat.zero_le _, rfl, rfl, HI.out, by simp⟩
                    case round =>
                      clear HI HCE
                      obtain ⟨j, ob, hj, rfl, rfl, hi, hob⟩ := hrel
                      have HI := Lib.hid hi
                      have HOB := Lib.hid hob
                      clear hi hob
                      by_cases hjl : j < al.length
                      · obtain ⟨va3, vc3, hv3, _, _, hcells⟩ := came_ses HI.out.ai.own
                        injection hv3 with e1 e2 e3
                        subst e1 e3
                        obtain ⟨gv2, ov2, hva, cj0, cj1⟩ := hcells j hjl
                        subst hva
                        have HPR := Lib.hid (HI.out.ai.rows _ (List.getElem_mem hjl))
                        have HTJ := Lib.hid (List.take_succ_eq_append_getElem hjl)
                        have hns : ∃ X, RelW m n al[j].zs X := by
                          obtain ⟨_, X, h1, _⟩ := HJ.out.seen _ (List.mem_map.2 ⟨al[j], List.getElem_mem hjl, rfl⟩)
                          exact ⟨X, h1⟩
                        obtain ⟨s, hs⟩ : ∃ s, s = al[j] := ⟨_, rfl⟩
                        rw [← hs] at cj0 cj1 HPR HTJ hns
                        have hsl : s.zs.length ≤ 360000 := by obtain ⟨X, h1⟩ := hns; exact Nat.le_trans h1.len HMN.out
                        obtain ⟨tz, htz⟩ : ∃ tz, tz = s.zs := ⟨_, rfl⟩
                        obtain ⟨ta, hta⟩ : ∃ ta, ta = s.sa := ⟨_, rfl⟩
                        obtain ⟨tc, htc⟩ : ∃ tc, tc = s.sc := ⟨_, rfl⟩
                        obtain ⟨tb, htb⟩ : ∃ tb, tb = s.blk := ⟨_, rfl⟩
                        have HNX : Hid (∀ ob' : Bool, (ob' = true ↔ (ob = true ∨ (tb = t ∧ eqW tz zs1 = true))) → (ob' = true ↔ ∃ s ∈ al.take (j + 1), s.blk = t ∧ eqW s.zs zs1 = true)) := fun ob' h => by
                          rw [h, HOB.out, HTJ.out]
                          constructor
                          · rintro (⟨x, h1, h2⟩ | ⟨h1, h2⟩)
                            · exact ⟨x, List.mem_append_left _ h1, h2⟩
                            · exact ⟨s, by simp, by rw [← htb]; exact h1, by rw [← htz]; exact h2⟩
                          · rintro ⟨x, h1, h2, h3⟩
                            rcases List.mem_append.1 h1 with h1 | h1
                            · exact .inl ⟨x, h1, h2, h3⟩
                            · simp at h1; subst h1; exact .inr ⟨by rw [htb]; exact h2, by rw [htz]; exact h3⟩
                        rw [← htz, ← hta, ← htc] at HPR
                        rw [← htb] at cj0
                        rw [← htz, ← hta, ← htc] at cj1
                        rw [← htz] at hsl
                        clear hcells hs hns htz hta htc htb
                        go_upto_region 45 with fail
                        have hba : Below wr.heap.size wr (wr.alloc (.cells #[.int .i64 (tb : Int), .slice ta tz.length tc] 92)) := (Below.refl _ _).alloc (Nat.le_refl _) _
                        have HI8 := Lib.hid (HI.out.below hba)
                        have HPR8 := Lib.hid (HPR.out.below hba)
                        have HTB := Lib.hid (Blk.new wr [.int .i64 (tb : Int), .slice ta tz.length tc] 92)
                        obtain ⟨bx, hbx⟩ : ∃ bx, bx = wr.heap.size := ⟨_, rfl⟩
                        rw [← hbx] at HTB ⊢
                        generalize wr.alloc (.cells #[.int .i64 (tb : Int), .slice ta tz.length tc] 92) = w8 at HI8 HPR8 HTB hba ⊢
                        have t0 := HTB.out.cell 0
                        have t1 := HTB.out.cell 1
                        have w0c := HI8.out.wbox.cell 0
                        simp only [List.getElem?_cons_zero, List.getElem?_cons_succ] at t0 t1 w0c
                        clear hba hbx HI HPR cj0 cj1
                        cases ob with
                        | true =>
                          have HN2 := Lib.hid (HNX.out true (by simp))
                          go_wp2_with fail
                          go_roundw
                          case rel => exact ⟨j + 1, true, by omega, by go_num, rfl, HI8.out, HN2.out⟩
                          case measure => simp [intOf]; omega
                        | false =>
                          by_cases e1 : tb = t
                          · have q9 : ((tb : Int) == (t : Int)) = true := by simp [e1]
                            have HWE := Lib.hid (wequal_any w8 ta sa1 tz.length tc zs1.length sc1 tz zs1 HPR8.out.came HI8.out.row.came ⟨by omega, by omega⟩)
                            obtain ⟨ev, hev⟩ : ∃ ev, ev = eqW tz zs1 := ⟨_, rfl⟩
                            rw [← hev] at HWE
                            have HN2 := Lib.hid (HNX.out ev (by rw [hev]; simp [e1]))
                            clear e1 hev
                            go_wp2_with fail
                            refine HWE.out.mono ?_
                            rintro e w9 ⟨rfl, hb9⟩
                            have HI9 := Lib.hid (HI8.out.below hb9)
                            clear hb9 HWE t0 t1 w0c
                            go_wp2_with fail
                            go_roundw
                            case rel => exact ⟨j + 1, ev, by omega, by go_num, rfl, HI9.out, HN2.out⟩
                            case measure => simp [intOf]; omega
                          · have q9 : ((tb : Int) == (t : Int)) = false := by simp; omega
                            have HN2 := Lib.hid (HNX.out false (by simp [e1]))
                            clear e1
                            go_wp2_with fail
                            go_roundw
                            case rel => exact ⟨j + 1, false, by omega, by go_num, rfl, HI8.out, HN2.out⟩
                            case measure => simp [intOf]; omega
                      · have ek : al.take j = al := List.take_of_length_le (by omega)
                        rw [ek] at HOB
                        clear ek
                        go_wp2_with fail
                        go_meet
                        exact ⟨HI.out, ob, rfl, HOB.out⟩
                  case rest =>
                    clear HI HCE
                    obtain ⟨hi, ob, rfl, hob⟩ := hcut
                    have HI := Lib.hid hi
                    have HOB := Lib.hid hob
                    clear hi hob
                    cases ob with
                    | true =>
                      obtain ⟨x, hx1, hx2, hx3⟩ := HOB.out.1 rfl
                      have hxs : ∀ z, z ∈ x.zs ↔ z ∈ zs1 := by
                        obtain ⟨_, X, h1, _⟩ := HJ.out.seen _ (List.mem_map.2 ⟨x, hx1, rfl⟩)
                        exact (eqW_iff h1.nodup HZR.out.nodup).1 hx3
                      have HP2 := Lib.hid (HPART.out.next HTK.out hx1 (by rw [hx2]; simp) hxs)
                      clear hx1 hx2 hx3 hxs HOB
                      go_wp2_with fail
                      go_roundw
                      case rel => exact ⟨q + 1, al, by omega, by go_num, HI.out, HJ.out, by omega, HMORE.out, HP2.out⟩
                      case measure => simp [intOf]; omega
                    | false =>
                      have w0c := HI.out.wbox.cell 0
                      simp only [List.getElem?_cons_zero] at w0c
                      obtain ⟨i2, hi2, hy0, hy1, hy2⟩ : ∃ i, Try.prog.info? 92 = some i ∧ i.zero = some (.agg #[.int .i64 0, .slice none 0 0]) ∧ i.size = 2 ∧ i.bytes = 32 := info_partsV (by kernel_rfl)
                      have hba : Below wc.heap.size wc (wc.alloc (.cells #[.int .i64 (t : Int), .slice sa1 zs1.length sc1] 92)) := (Below.refl _ _).alloc (Nat.le_refl _) _
                      have HI8 := Lib.hid (HI.out.below hba)
                      have hsz8 := HI8.out.ai.be.size
                      have hal2 : al.length ≤ 302 := by omega
                      clear hba HI
                      go_wp2_with (at_builtin; refine wpList_append_own _ rfl _ _ 93 rfl w.heap.size 92 i2 (.agg #[.int .i64 0, .slice none 0 0]) 2 32 Try.underlying93 hi2 hy0 hy1 hy2 rfl (by decide) _ _ _ rfl HI8.out.ai.own ⟨wc.heap.size, 0, none⟩ 1 1 [.int .i64 (t : Int), .slice sa1 zs1.length sc1] rfl rfl ?s2 ?s3 ?s4 ?s5 ?s6 ?_)
                      case s2 => exact cells_new2 _ rfl _ _ _
                      case s3 => intro u hu; simp at hu; rcases hu with rfl | rfl <;> rfl
                      case s4 => unfold maxLen; omega
                      case s5 => omega
                      case s6 => exact hsz8
                      intro v' w9 hown' hgrow _
                      have HI9 := Lib.hid (HI8.out.grow (e := ⟨t, sa1, sc1, zs1⟩) HI8.out.row (by rw [List.length_append, List.flatMap_append]; simpa [seC] using hown') hgrow)
                      have hka3 : k ≤ al.length := by
                        obtain ⟨more, hmo⟩ := HMORE.out
                        rw [hmo, List.length_append]; omega
                      have HJ9 := Lib.hid (HJ.out.more hka3 (e := ⟨t, sa1, sc1, zs1⟩) htl HZR.out HRZ.out)
                      have HP9 := Lib.hid ((HPART.out.more ⟨t, sa1, sc1, zs1⟩).next HTK.out (s := ⟨t, sa1, sc1, zs1⟩) (by simp) (by simp) (fun _ => Iff.rfl))
                      have HM9 : Hid (∃ more, al ++ [(⟨t, sa1, sc1, zs1⟩ : SE)] = all ++ more) := by
                        obtain ⟨more, hmo⟩ := HMORE.out
                        exact ⟨more ++ [⟨t, sa1, sc1, zs1⟩], by rw [hmo, List.append_assoc]⟩
                      have HL9 : Hid ((al ++ [(⟨t, sa1, sc1, zs1⟩ : SE)]).length ≤ 300 + (q + 1)) := by show _ ≤ _; simp; omega
                      clear hown' hgrow hka3 hsz8 hal2 HI8 HJ HPART HMORE w0c
                      go_wp2_with fail
                      go_roundw
                      case rel => exact ⟨q + 1, _, by omega, by go_num, HI9.out, HJ9.out, HL9.out, HM9.out, HP9.out⟩
                      case measure => simp [intOf]; omega
                · obtain ⟨more, hmo⟩ := HMORE.out
                  have hkal : k < al.length := by rw [hmo, List.length_append]; omega
                  have hget : al[k] = all[k] := by simp only [hmo]; exact List.getElem_append_left hka2
                  have HJ2 : Hid (AccJ f a m n X0 al (k + 1)) := HJ.out.step hkal (zs' := zs1) (by rw [hget, HEB.out.1, HEB.out.2, ← HB.out]; exact HBW.out) (q := q) (by rw [hget, HEB.out.1, ← HB.out]; have := HEL.out; omega) (by rw [hget, HEB.out.1]; exact HPART.out)
                  have hkal2 : k + 1 ≤ al.length := hkal
                  clear hget hmo hkal
                  go_wp2_with fail
                  go_roundw
                  case rel => exact ⟨k + 1, al, by go_num, by omega, hkal2, HI.out.ai, HJ2.out⟩
                  case measure => simp [intOf]; omega
      · have HGO : Hid (GoodS f a X0) := HJ.out.good HGA.out HOK.out.fits h0b (by omega)
        clear hcells hN
        go_wp2_with fail
        exact bodyPost_ret (results_tmp2 rfl _ _ _) rfl ⟨true, true, rfl, fun _ => ⟨fun _ => by rw [← HX0.out]; exact HGO.out, fun _ => rfl⟩, HAI.out.be⟩
end Go.Proofs.Ytlaogkbdjkofaaa
