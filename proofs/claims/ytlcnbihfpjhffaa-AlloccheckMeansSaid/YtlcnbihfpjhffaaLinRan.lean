/- linear's Ranges. The law's linearFact. -/
import Derived.Test.YtlcnbihfpjhffaaLinFin
import Derived.Test.YtlcnbihfpjhffaaVLiveDE
import Derived.Deep.CutBlock
import Derived.Test.YtlcnbihfpjhffaaVFact
namespace Go.Proofs.Ytlcnbihfpjhffaa
open Go.RowKit
set_option linter.unusedVariables false
set_option linter.unusedSimpArgs false

section
theorem zrow_next {n k : Nat} (hk : k < n) : ((row0 n).take k ++ List.replicate (n - k) zR).set k ⟨(k : Int), -1, 0, false⟩ = (row0 n).take (k + 1) ++ List.replicate (n - (k + 1)) zR := by
 have hl := row0_len n
 rw [List.set_append_right _ _ (by rw [List.length_take]; omega), List.length_take, hl, show k - min k n = 0 by omega, List.take_succ_eq_append_getElem (by rw [hl]; exact hk), List.append_assoc]
 congr 1
 obtain ⟨m, hm⟩ : ∃ m, n - k = m + 1 := ⟨n - k - 1, by omega⟩
 rw [hm, List.replicate_succ, show n - (k + 1) = m by omega]
 simp [row0]
theorem zrow_len {n k : Nat} (hk : k ≤ n) : ((row0 n).take k ++ List.replicate (n - k) zR).length = n := by
 rw [List.length_append, List.length_take, row0_len, List.length_replicate]; omega
def RangesPost (f : VF) (w : World) (e : Ending) (w' : World) : Prop :=
 Below w.heap.size w w' ∧ ((fnE f ≠ 0 ∧ e = .returned (.tuple #[.slice none 0 0, .int .i64 (fnE f)])) ∨
  (fnE f = 0 ∧ ∃ (n nb g c : Nat) (l : List RG), FnOk f n nb ∧ e = .returned (.tuple #[.slice (some ⟨g, 0, none⟩) l.length c, .int .i64 0]) ∧ RgRow w' w.heap.size (some ⟨g, 0, none⟩) c l ∧ RangesP f n nb l ∧
   ∀ p : Nat → Bool, (∀ r, 1 ≤ r → r < n → (p r = true ↔ OccP f nb r)) → l.length = ((List.range n).filter fun r => decide (1 ≤ r) && p r).length))
set_option maxRecDepth 100000 in
set_option maxHeartbeats 8000000 in
theorem ranges_any (w : World) (f : VF) (hf : f.Ok w) : Calls Try.prog 40 #[f.v] w (RangesPost f w) := by
 have hb0 : Below w.heap.size w (w.alloc (.cells #[.int .i64 f.name, .slice f.pa f.pn f.pc, .int .i64 f.regs, .slice f.sa f.sn f.sc] 25)) := (Below.refl _ _).alloc (Nat.le_refl _) _
 have hbf := Blk.new w (fC f) 25
 have hck := vcheck_any _ f (hf.below hb0)
 unfold VF.v at hck ⊢
 have HF := Lib.hid hf
 have HCK := Lib.hid hck
 have HB0 := Lib.hid hb0
 have HBF := Lib.hid hbf
 obtain ⟨e9, he9⟩ : ∃ e9, e9 = fnE f := ⟨_, rfl⟩
 rw [← he9] at HCK
 have HE9 := Lib.hid he9
 clear hf hb0 hck he9 hbf
 go_enter Try.func40, Try.ntmps40
 go_wp2_with fail
 refine HCK.out.mono ?_
 rintro e w2 ⟨rfl, hb2⟩
 have HB2 := Lib.hid (HB0.out.trans (hb2.mono HB0.out.size))
 have HBF2 : Hid (Blk w2 w.heap.size 25 (fC f)) := HBF.out.below hb2 (Blk.lt HBF.out)
 obtain ⟨pf, hpf⟩ : ∃ pf, pf = w.heap.size := ⟨_, rfl⟩
 rw [← hpf] at HBF2 ⊢
 clear hb2 HB0 HCK HBF hpf
 by_cases he : e9 = 0
 ·have he' : (e9 != 0) = false := by simp [he]
  obtain ⟨n, hok⟩ := fnOk HF.out (by rw [← HE9.out]; exact he)
  obtain ⟨nb, hnb⟩ : ∃ nb, nb = f.blocks.length := ⟨_, rfl⟩
  rw [← hnb] at hok
  have HOK := Lib.hid hok
  have HFE : Hid (fnE f = 0) := by rw [← HE9.out]; exact he
  have HREG := Lib.hid hok.regs
  have HSN := Lib.hid hok.sn
  have HNB := Lib.hid hnb
  have hn1 := hok.n2.1
  have hn2 := hok.n2.2
  have hnb1 := hok.nb2.1
  have hnb2 := hok.nb2.2
  have hpn6 := hok.pn
  have hmk : ∀ w : World, (Instr.makeSlice 90 (.int .i64 (n : Int)) (.int .i64 (n : Int))).run Try.prog w = .ok (.slice (some ⟨w.heap.size, 0, none⟩) n n) (w.alloc (.cells (rgZ n) 97)) := fun w => make_rg n (by omega) w
  have c2 := HBF2.out.cell 2
  simp only [fC, List.getElem?_cons_zero, List.getElem?_cons_succ] at c2
  rw [HREG.out] at c2
  have hpl := Blk.lt HBF2.out
  clear hok hnb he HE9
  go_upto_region 5 with fail
  obtain ⟨g, hg⟩ : ∃ g, g = w2.heap.size := ⟨_, rfl⟩
  have hr3 := made_row w2 w.heap.size n HB2.out.size (by omega)
  rw [← hg] at hr3 ⊢
  have hb3 : Below w2.heap.size w2 (w2.alloc (.cells (rgZ n) 97)) := (Below.refl _ _).alloc (Nat.le_refl _) _
  have hr0 : Rg0 w ((w2.alloc (.cells (rgZ n) 97)).alloc (.cells #[.slice (some ⟨g, 0, none⟩) n n] 90)) f n pf (g + 1) g n (List.replicate n zR) := by
   have hs3 : (w2.alloc (.cells (rgZ n) 97)).heap.size = g + 1 := by rw [hg]; simp
   have hb4 : Below (w2.alloc (.cells (rgZ n) 97)).heap.size (w2.alloc (.cells (rgZ n) 97)) ((w2.alloc (.cells (rgZ n) 97)).alloc (.cells #[.slice (some ⟨g, 0, none⟩) n n] 90)) := (Below.refl _ _).alloc (Nat.le_refl _) _
   have hbx := Blk.new (w2.alloc (.cells (rgZ n) 97)) [.slice (some ⟨g, 0, none⟩) n n] 90
   rw [hs3] at hbx
   have hs2 := HB2.out.size
   have hbw := HB2.out.trans (hb3.mono hs2)
   exact ⟨hbw.trans (hb4.mono (by omega)), (HBF2.out.below hb3 hpl).below hb4 (by omega), hbx, hr3.below hb4, by rw [List.length_replicate], by omega⟩
  have HR0 := Lib.hid hr0
  obtain ⟨ab, hab⟩ : ∃ ab, ab = g + 1 := ⟨_, rfl⟩
  rw [← hab] at HR0 ⊢
  clear hr3 hb3 hr0 hab c2 hpl
  generalize (w2.alloc (.cells (rgZ n) 97)).alloc (.cells #[.slice (some ⟨g, 0, none⟩) n n] 90) = w4 at HR0 ⊢
  clear hg hmk HBF2
  have x0 := HR0.out.box.cell 0
  simp only [List.getElem?_cons_zero] at x0
  go_upto_block 0 with fail
  go_cut [6] from 30 (fun _ wx => Rg0 w wx f n pf ab g n (row0 n))
  case first => as_aux_lemma =>
   go_wp2_with fail
   clear x0
   go_loopw [36] (fun u wr => ∃ k : Nat, k ≤ n ∧ u = .int .i64 (k : Int) ∧ Rg0 w wr f n pf ab g n ((row0 n).take k ++ List.replicate (n - k) zR)) (fun u _ => n - (intOf u).toNat)
   case atStart => exact ⟨0, Nat.zero_le _, rfl, by simpa using HR0.out⟩
   case round =>
    clear HR0
    obtain ⟨k, hk, rfl, hr0⟩ := hrel
    have HR0 := Lib.hid hr0
    by_cases hlt : k < n
    ·have hkl : k < ((row0 n).take k ++ List.replicate (n - k) zR).length := by rw [zrow_len hk]; exact hlt
     have x0 := hr0.box.cell 0
     simp only [List.getElem?_cons_zero] at x0
     obtain ⟨c0, c1, c2, c3⟩ := hr0.row.cells hkl
     have f0 : wr.frozen? ⟨g, k * 4, none⟩ = false := hr0.row.frees hkl 0 (by omega)
     have f1 := hr0.row.frees hkl 1 (by omega)
     have f2 := hr0.row.frees hkl 2 (by omega)
     have f3 := hr0.row.frees hkl 3 (by omega)
     have hgw := (hr0.row.lt g rfl).2
     have hput := hr0.row.put hkl ⟨(k : Int), -1, 0, false⟩
     rw [zrow_next hlt] at hput
     have HP : Hid (Rg0 w ((((wr.setCell ⟨g, k * 4, none⟩ (.int .i64 (k : Int))).setCell ⟨g, k * 4 + 1, none⟩ (.int .i64 (-1))).setCell ⟨g, k * 4 + 2, none⟩ (.int .i64 0)).setCell ⟨g, k * 4 + 3, none⟩ (.bool false)) f n pf ab g n ((row0 n).take (k + 1) ++ List.replicate (n - (k + 1)) zR)) :=
      hr0.upd ((RestS.refl (fun k => k = g) wr).put4 _ _ _ _ _ _ _ _) hput (zrow_len (by omega))
     have hki : (k : Int) < (n : Int) := by omega
     clear hput hr0
     go_wp2_with fail
     go_roundw
     case rel => exact ⟨k + 1, by omega, by go_num, HP.out⟩
     case measure => simp [intOf]; omega
    ·have ek : k = n := by omega
     subst ek
     have HRE : Hid (Rg0 w wr f k pf ab g k (row0 k)) := by
      rw [List.take_of_length_le (by rw [row0_len]; exact Nat.le_refl _), Nat.sub_self, List.replicate_zero, List.append_nil] at hr0
      exact hr0
     clear hr0
     go_wp2_with fail
     go_meet
     exact HRE.out
  case rest => as_aux_lemma =>
   clear x0 HR0
   have HR0 := Lib.hid hcut
   have hsz0 := hcut.be.size
   have hmf : ∀ (fn : Fn) (first cap : Array Value) (w : World), (Instr.makeFunc fn first cap).run Try.prog w = .ok (.func fn first cap) w := fun _ _ _ _ => rfl
   have HLV := Lib.hid (liveD_any wc f (HF.out.below hcut.be) n (fun _ => HREG.out))
   unfold VF.v at HLV
   have c0 := hcut.bf.cell 0
   have c1 := hcut.bf.cell 1
   have c2 := hcut.bf.cell 2
   have c3 := hcut.bf.cell 3
   simp only [fC, List.getElem?_cons_zero, List.getElem?_cons_succ] at c0 c1 c2 c3
   clear hcut
   go_wp2_with fail
   refine HLV.out.mono ?_
   rintro e w3 ⟨hb3, hlv⟩
   obtain ⟨Gl, bl, XL, ev, es, rfl, hbeg, hxl, hend, hein, heb, helo, hblo⟩ : ∃ G bs X v es, e = .returned (.tuple #[.slice (some ⟨G, 0, none⟩) f.sn f.sn, v, .int .i64 0]) ∧ BRows w3 G f.sn n X bs ∧ (∀ i, i < f.sn → ∀ r, r < n → (X i r = true ↔ LiveI f i r)) ∧ EndV wc w3 v n ((List.range f.sn).map fun i => aftF (f.blk i).e.to X) es ∧
    (∀ i j, i < f.sn → j < f.sn → es i = es j → i = j) ∧ (∀ i j, i < f.sn → j < f.sn → es i ≠ bs j) ∧ (∀ i, i < f.sn → wc.heap.size ≤ es i) ∧ (∀ i, i < f.sn → wc.heap.size ≤ bs i) := by
    rcases hlv with ⟨h, _⟩ | ⟨_, h⟩
    ·exact absurd HFE.out h
    ·exact h
   rw [HSN.out] at hbeg hxl hend hein heb helo hblo ⊢
   have HI0 : Hid (RgI w w3 f n nb pf ab g n bl es Gl XL (fun i => aftF (f.blk i).e.to XL) ev (row0 n)) := by
    refine ⟨HR0.out.below hb3, row0_B n, hbeg, ?_, fun i hi => ?_⟩
    ·have h1 := ownG_base hend.own hsz0
     have h2 : ((List.range nb).map fun i => aftF (f.blk i).e.to XL).length = nb := by simp
     rw [h2] at h1
     exact h1
    ·have := hend.row i (by simpa using hi)
     simpa using this
   have HXL := Lib.hid hxl
   have HEL : Hid (∀ i, i < nb → ∀ r, r < n → (aftF (f.blk i).e.to XL r = true ↔ ∃ s : Nat, (s : Int) ∈ (f.blk i).e.to ∧ LiveI f s r)) := fun i hi r hr => by
    have ht := HOK.out.fits.tos i (by rw [← HNB.out]; exact hi)
    unfold aftF
    rw [List.any_eq_true]
    constructor
    ·rintro ⟨t, h1, h2⟩
     have h3 := ht t h1
     refine ⟨t.toNat, by rw [show (t.toNat : Int) = t by omega]; exact h1, (HXL.out t.toNat (by rw [HNB.out]; omega) r hr).1 h2⟩
    ·rintro ⟨s, h1, h2⟩
     have h3 := ht _ h1
     exact ⟨(s : Int), h1, by rw [show (s : Int).toNat = s by omega]; exact (HXL.out s (by rw [HNB.out]; omega) r hr).2 h2⟩
   obtain ⟨ge, ec, rfl, hge1, hge2, hge3, hge4⟩ := ownG_has HI0.out.eown hnb1
   unfold maxLen at hge4
   obtain ⟨EL, hEL⟩ : ∃ EL : Nat → Nat → Bool, EL = fun i => aftF (f.blk i).e.to XL := ⟨_, rfl⟩
   rw [← hEL] at HI0
   have HEL2 : Hid (∀ i, i < nb → ∀ r, r < n → (EL i r = true ↔ ∃ s : Nat, (s : Int) ∈ (f.blk i).e.to ∧ LiveI f s r)) := by rw [hEL]; exact HEL.out
   clear hb3 hlv hbeg hxl hend hein heb helo hblo HLV HR0 c0 c1 c2 c3 HEL hEL hsz0
   have c3 := HI0.out.r0.bf.cell 3
   simp only [fC, List.getElem?_cons_zero, List.getElem?_cons_succ] at c3
   rw [HSN.out] at c3
   go_upto_block 2 with fail
   go_cut [11, 12, 13, 14, 15, 16, 17, 18, 19, 20, 21, 22, 23, 24] from 52 (fun _ _ _ _ _ _ _ _ _ _ _ _ _ _ wx => RgI w wx f n nb pf ab g n bl es Gl XL EL (.slice (some ⟨ge, 0, none⟩) nb ec) (extL (row0 n) (evF f n XL EL nb)))
   case first => as_aux_lemma =>
    go_wp2_with fail
    clear c3
    go_loopw [11, 55] (fun u11 u55 wr => ∃ i : Nat, i ≤ nb ∧ u55 = .int .i64 (i : Int) ∧ u11 = .int .i64 (atI f i) ∧ RgI w wr f n nb pf ab g n bl es Gl XL EL (.slice (some ⟨ge, 0, none⟩) nb ec) (extL (row0 n) (evF f n XL EL i))) (fun _ u _ => nb - (intOf u).toNat)
    case atStart => exact ⟨0, Nat.zero_le _, rfl, rfl, HI0.out⟩
    case round =>
     clear HI0
     obtain ⟨i, hi, rfl, rfl, hii⟩ := hrel
     have HI := Lib.hid hii
     clear hii
     by_cases hlt : i < nb
     ·
      have hib : i < f.blocks.length := by rw [← HNB.out]; exact hlt
      obtain ⟨gb3, ob3, hsa, hgb3, d0, d1, d2, d3, d4, d5, d6⟩ := HF.out.cells HI.out.r0.be hib
      have hbo : f.blocks[i].Ok w := HF.out.blocks _ (List.getElem_mem _)
      rw [VF.blk_get f hib] at d0 d1 d2 d3 d4 d5 d6 hbo
      have hins := HOK.out.ins i hlt
      have ha1 := atI_pos f i
      have ha2 := atI_le HOK.out.ins i (by omega)
      have HAT : Hid (atI f (i + 1) = atI f i + 2 * (f.blk i).ins.length + 2) := rfl
      have HFI : Hid (∀ x ∈ (f.blk i).ins, x.Fits n) := HOK.out.fits.ins i hib
      have HFEE : Hid (∀ z ∈ endV (f.blk i).e, 1 ≤ z ∧ z < n) := HOK.out.fits.ends i hib
      have HEV : Hid (extL (extL (extL (extL (extL (row0 n) (evF f n XL EL i)) (evR (XL i) n (atI f i))) (evI (f.blk i).ins (atI f i))) (evU (endV (f.blk i).e) (atI f i + 2 * (f.blk i).ins.length))) (evR (EL i) n (atI f i + 2 * (f.blk i).ins.length + 1)) = extL (row0 n) (evF f n XL EL (i + 1))) := by
       show _ = _
       rw [evF, evB, extL_append, extL_append, extL_append, extL_append]
      obtain ⟨bk, hbk⟩ : ∃ b, b = f.blk i := ⟨_, rfl⟩
      rw [← hbk] at d0 d1 d2 d3 d4 d5 d6 hbo hins HAT HFI HFEE HEV
      have hbl := hbo.len
      have HBO := Lib.hid hbo
      obtain ⟨sb, hsb⟩ : ∃ s, s = bk.sa := ⟨_, rfl⟩
      rw [← hsb] at d0
      have HSB := Lib.hid hsb
      obtain ⟨a0, ha0⟩ : ∃ a, a = atI f i := ⟨_, rfl⟩
      rw [← ha0] at ha1 ha2 HAT HEV ⊢
      obtain ⟨x0, hx0⟩ : ∃ x, x = extL (row0 n) (evF f n XL EL i) := ⟨_, rfl⟩
      rw [← hx0] at HI HEV
      rw [hsa]
      clear hbk hsb hbo ha0 hx0 hsa hgb3
      have hb4 : Below wr.heap.size wr (wr.alloc (.cells #[.slice sb bk.sn bk.sc, .int .i64 bk.e.kind, .int .i64 bk.e.op, .int .i64 bk.e.a, .int .i64 bk.e.b, .int .i64 bk.e.n, .slice bk.e.sa bk.e.sn bk.e.sc] 45)) := (Below.refl _ _).alloc (Nat.le_refl _) _
      have HI4 := Lib.hid (HI.out.below hb4)
      have HBV : Hid (Blk (wr.alloc (.cells #[.slice sb bk.sn bk.sc, .int .i64 bk.e.kind, .int .i64 bk.e.op, .int .i64 bk.e.a, .int .i64 bk.e.b, .int .i64 bk.e.n, .slice bk.e.sa bk.e.sn bk.e.sc] 45)) wr.heap.size 45 [.slice sb bk.sn bk.sc, .int .i64 bk.e.kind, .int .i64 bk.e.op, .int .i64 bk.e.a, .int .i64 bk.e.b, .int .i64 bk.e.n, .slice bk.e.sa bk.e.sn bk.e.sc]) := Blk.new wr _ _
      go_upto_region 16 with fail
      obtain ⟨vb, hvb⟩ : ∃ x, x = wr.heap.size := ⟨_, rfl⟩
      rw [← hvb] at HBV ⊢
      clear hvb d0 d1 d2 d3 d4 d5 d6 HI hb4
      generalize wr.alloc (.cells #[.slice sb bk.sn bk.sc, .int .i64 bk.e.kind, .int .i64 bk.e.op, .int .i64 bk.e.a, .int .i64 bk.e.b, .int .i64 bk.e.n, .slice bk.e.sa bk.e.sn bk.e.sc] 45) = w4 at HI4 HBV ⊢
      have g0 : w4.cell? ⟨Gl, i, none⟩ = some (.slice (some ⟨bl i, 0, none⟩) n n) := Blk.row HI4.out.beg.blk hlt
      obtain ⟨lb, hlb⟩ : ∃ lb, lb = bl i := ⟨_, rfl⟩
      rw [← hlb] at g0
      have HLB := Lib.hid hlb
      clear hlb
      go_upto_block 4 with fail
      go_cut [14, 15] from 60 to 136 (fun _ _ wx => RgI w wx f n nb pf ab g n bl es Gl XL EL (.slice (some ⟨ge, 0, none⟩) nb ec) (extL x0 (evR (XL i) n a0)) ∧ Blk wx vb 45 [.slice sb bk.sn bk.sc, .int .i64 bk.e.kind, .int .i64 bk.e.op, .int .i64 bk.e.a, .int .i64 bk.e.b, .int .i64 bk.e.n, .slice bk.e.sa bk.e.sn bk.e.sc])
      case first => as_aux_lemma =>
       go_wp2_with fail
       clear g0
       go_loopw [65] (fun u wr => ∃ k : Nat, k ≤ n ∧ u = .int .i64 (k : Int) ∧ RgI w wr f n nb pf ab g n bl es Gl XL EL (.slice (some ⟨ge, 0, none⟩) nb ec) (extL x0 (evR (XL i) k a0)) ∧ Blk wr vb 45 [.slice sb bk.sn bk.sc, .int .i64 bk.e.kind, .int .i64 bk.e.op, .int .i64 bk.e.a, .int .i64 bk.e.b, .int .i64 bk.e.n, .slice bk.e.sa bk.e.sn bk.e.sc]) (fun u _ => n - (intOf u).toNat)
       case atStart => exact ⟨0, Nat.zero_le _, rfl, HI4.out, HBV.out⟩
       case round =>
        clear HI4 HBV
        obtain ⟨k, hk, rfl, hii, hbv⟩ := hrel
        have HI := Lib.hid hii
        have HBV := Lib.hid hbv
        clear hii hbv
        by_cases hkn : k < n
        ·have b0 := (HI.out.beg.row i hlt).cell hkn
         rw [← HLB.out] at b0
         have hlb2 : lb < wr.heap.size := by rw [HLB.out]; exact Blk.lt (HI.out.beg.row i hlt)
         have HEX := Lib.hid (HI.out.extend k a0 hkn (by omega))
         obtain ⟨bb, hbb⟩ : ∃ bb, bb = XL i k := ⟨_, rfl⟩
         rw [← hbb] at b0
         have HEN : Hid (evR (XL i) (k + 1) a0 = if bb = true then evR (XL i) k a0 ++ [(k, a0)] else evR (XL i) k a0) := by rw [hbb]; exact evR_snoc _ _ _
         have hki : (k : Int) < (n : Int) := by omega
         clear hbb
         cases bb with
         | true =>
          have HEN2 : Hid (extL x0 (evR (XL i) (k + 1) a0) = extS (extL x0 (evR (XL i) k a0)) (k, a0)) := by
           show _ = _
           rw [HEN.out, if_pos rfl, extL_snoc]
          clear HEN
          go_wp2_with fail
          refine HEX.out.mono ?_
          rintro e w7 ⟨rfl, h71, h72⟩
          have H71 := Lib.hid h71
          have H72 := Lib.hid (HI.out.keep h72 HBV.out (by decide))
          clear h71 h72 HEX b0
          go_wp2_with fail
          go_roundw
          case rel => exact ⟨k + 1, by omega, by go_num, by rw [HEN2.out]; exact H71.out, H72.out⟩
          case measure => simp [intOf]; omega
         | false =>
          have HEN2 : Hid (extL x0 (evR (XL i) (k + 1) a0) = extL x0 (evR (XL i) k a0)) := by
           show _ = _
           rw [HEN.out, if_neg (by decide)]
          clear HEN HEX
          go_wp2_with fail
          go_roundw
          case rel => exact ⟨k + 1, by omega, by go_num, by rw [HEN2.out]; exact HI.out, HBV.out⟩
          case measure => simp [intOf]; omega
        ·have ek : k = n := by omega
         subst ek
         go_wp2_with fail
         go_meet
         exact ⟨HI.out, HBV.out⟩
      case rest => as_aux_lemma =>
       clear g0 HI4 HBV
       obtain ⟨hi1, hbv⟩ := hcut
       have HI1 := Lib.hid hi1
       have HBV := Lib.hid hbv
       clear hi1 hbv
       obtain ⟨x1, hx1⟩ : ∃ x, x = extL x0 (evR (XL i) n a0) := ⟨_, rfl⟩
       rw [← hx1] at HI1 HEV
       have v0 := HBV.out.cell 0
       simp only [List.getElem?_cons_zero] at v0
       clear hx1
       go_upto_block 6 with fail
       go_cut [11, 17, 19] from 75 to 136 (fun v11 _ _ wx => v11 = .int .i64 (a0 + 2 * (bk.sn : Int)) ∧ RgI w wx f n nb pf ab g n bl es Gl XL EL (.slice (some ⟨ge, 0, none⟩) nb ec) (extL x1 (evI bk.ins a0)) ∧ Blk wx vb 45 [.slice sb bk.sn bk.sc, .int .i64 bk.e.kind, .int .i64 bk.e.op, .int .i64 bk.e.a, .int .i64 bk.e.b, .int .i64 bk.e.n, .slice bk.e.sa bk.e.sn bk.e.sc])
       case first => as_aux_lemma =>
        go_wp2_with fail
        clear v0
        go_loopw [11, 79] (fun u11 u79 wr => ∃ q : Nat, q ≤ bk.sn ∧ u79 = .int .i64 (q : Int) ∧ u11 = .int .i64 (a0 + 2 * (q : Int)) ∧ RgI w wr f n nb pf ab g n bl es Gl XL EL (.slice (some ⟨ge, 0, none⟩) nb ec) (extL x1 (evI (bk.ins.take q) a0)) ∧ Blk wr vb 45 [.slice sb bk.sn bk.sc, .int .i64 bk.e.kind, .int .i64 bk.e.op, .int .i64 bk.e.a, .int .i64 bk.e.b, .int .i64 bk.e.n, .slice bk.e.sa bk.e.sn bk.e.sc]) (fun _ u _ => bk.sn - (intOf u).toNat)
        case atStart => exact ⟨0, Nat.zero_le _, rfl, by simp, by simpa [evI, extL] using HI1.out, HBV.out⟩
        case round =>
         clear HI1 HBV
         obtain ⟨q, hq, rfl, rfl, hii, hbv⟩ := hrel
         have HI := Lib.hid hii
         have HBV := Lib.hid hbv
         clear hii hbv
         by_cases hql : q < bk.sn
         ·
          have hqb : q < bk.ins.length := by omega
          obtain ⟨z, hz⟩ : ∃ z, z = bk.ins[q] := ⟨_, rfl⟩
          obtain ⟨gi, oi, hsb2, hgi, d0, d1, d2, d3, d4, d5⟩ := HBO.out.cells HI.out.r0.be hqb
          have hfz := HFI.out bk.ins[q] (List.getElem_mem _)
          have hzo := HBO.out.ins bk.ins[q] (List.getElem_mem _)
          rw [← hz] at d0 d1 d2 d3 d4 d5 hfz hzo
          rw [← HSB.out] at hsb2
          subst hsb2
          have HFZ := Lib.hid hfz
          have HZO := Lib.hid hzo
          obtain ⟨t, ht⟩ : ∃ t, t = a0 + 2 * (q : Int) := ⟨_, rfl⟩
          have HNX : Hid (extL x1 (evI (bk.ins.take (q + 1)) a0) = extS (extL (extL x1 (evI (bk.ins.take q) a0)) (evU (usesV z) t)) ((defV z).toNat, t + 1)) := by
           show _ = _
           rw [List.take_succ_eq_append_getElem hqb, evI_snoc, ← hz, List.length_take, show min q bk.ins.length = q by omega, ← ht, evX, extL_append, extL_append]
           rfl
          rw [← ht]
          have HT := Lib.hid ht
          have ht1 : 0 ≤ t ∧ t ≤ 900000000 := by omega
          obtain ⟨x3, hx3⟩ : ∃ x, x = extL x1 (evI (bk.ins.take q) a0) := ⟨_, rfl⟩
          rw [← hx3] at HI HNX
          have hb5 : Below wr.heap.size wr (wr.alloc (.cells #[.int .i64 z.op, .int .i64 z.d, .int .i64 z.a, .int .i64 z.b, .int .i64 z.n, .slice z.sa z.sn z.sc] 47)) := (Below.refl _ _).alloc (Nat.le_refl _) _
          have HXV : Hid (Blk (wr.alloc (.cells #[.int .i64 z.op, .int .i64 z.d, .int .i64 z.a, .int .i64 z.b, .int .i64 z.n, .slice z.sa z.sn z.sc] 47)) wr.heap.size 47 (viC z)) := Blk.new wr _ _
          have HI5 := Lib.hid (HI.out.below hb5)
          have HBV5 := Lib.hid (HBV.out.below hb5 (Blk.lt HBV.out))
          clear hz ht hfz hzo hx3 HI HBV
          go_upto_region 25 with fail
          obtain ⟨xb, hxb⟩ : ∃ x, x = wr.heap.size := ⟨_, rfl⟩
          rw [← hxb] at HXV ⊢
          clear hxb d0 d1 d2 d3 d4 d5 hb5
          generalize wr.alloc (.cells #[.int .i64 z.op, .int .i64 z.d, .int .i64 z.a, .int .i64 z.b, .int .i64 z.n, .slice z.sa z.sn z.sc] 47) = w5 at HI5 HBV5 HXV ⊢
          have d0 := HXV.out.cell 0
          have d1 := HXV.out.cell 1
          have d2 := HXV.out.cell 2
          have d3 := HXV.out.cell 3
          have d4 := HXV.out.cell 4
          have d5 := HXV.out.cell 5
          simp only [viC, List.getElem?_cons_zero, List.getElem?_cons_succ] at d0 d1 d2 d3 d4 d5
          have HUS := Lib.hid (uses_any z w5 (HZO.out.below HI5.out.r0.be))
          unfold viV at HUS
          go_wp2_with fail
          refine HUS.out.mono ?_
          rintro e w6 ⟨v6, rfl, ho6, hb6⟩
          have HI6 := Lib.hid (HI5.out.below hb6)
          have HBV6 := Lib.hid (HBV5.out.below hb6 (Blk.lt HBV5.out))
          have HXV6 := Lib.hid (HXV.out.below hb6 (Blk.lt HXV.out))
          obtain ⟨ua, uc, rfl⟩ := ownG_shape ho6
          have HO6 := Lib.hid ho6
          obtain ⟨us, hus⟩ : ∃ us, us = usesV z := ⟨_, rfl⟩
          rw [← hus] at HO6 HNX ⊢
          have HUF : Hid (∀ r ∈ us, 1 ≤ r ∧ r < n) := by rw [hus]; exact HFZ.out.uses
          have hul : us.length ≤ 100000000000000 := by
           rw [hus]
           have h1 := HZO.out.len
           have h2 := HZO.out.reach
           unfold usesV nz
           refine Nat.le_trans (List.length_filter_le ..) ?_
           simp only [List.length_cons]
           omega
          clear hus ho6 hb6 HUS d0 d1 d2 d3 d4 d5 HI5 HBV5 HXV
          go_upto_block 8 with fail
          go_cut [19] from 85 to 103 (fun _ wx => RgI w wx f n nb pf ab g n bl es Gl XL EL (.slice (some ⟨ge, 0, none⟩) nb ec) (extL x3 (evU us t)) ∧ Blk wx vb 45 [.slice (some ⟨gi, oi, none⟩) bk.sn bk.sc, .int .i64 bk.e.kind, .int .i64 bk.e.op, .int .i64 bk.e.a, .int .i64 bk.e.b, .int .i64 bk.e.n, .slice bk.e.sa bk.e.sn bk.e.sc] ∧ Blk wx xb 47 (viC z))
          case first => as_aux_lemma =>
           go_wp2_with fail
           go_loopw [86] (fun u wr => ∃ m : Nat, m ≤ us.length ∧ u = .int .i64 (m : Int) ∧ RgI w wr f n nb pf ab g n bl es Gl XL EL (.slice (some ⟨ge, 0, none⟩) nb ec) (extL x3 (evU (us.take m) t)) ∧ Blk wr vb 45 [.slice (some ⟨gi, oi, none⟩) bk.sn bk.sc, .int .i64 bk.e.kind, .int .i64 bk.e.op, .int .i64 bk.e.a, .int .i64 bk.e.b, .int .i64 bk.e.n, .slice bk.e.sa bk.e.sn bk.e.sc] ∧ Blk wr xb 47 (viC z) ∧ wr.ownsRow w5.heap.size 3 1 (.slice ua us.length uc) us.length (us.map (Value.int .i64))) (fun u _ => us.length - (intOf u).toNat)
           case atStart => exact ⟨0, Nat.zero_le _, rfl, HI6.out, HBV6.out, HXV6.out, HO6.out⟩
           case round =>
            clear HI6 HBV6 HXV6 HO6
            obtain ⟨m, hm, rfl, hii, hbv, hxv, hoo⟩ := hrel
            have HI := Lib.hid hii
            have HBV := Lib.hid hbv
            have HXV := Lib.hid hxv
            have HO := Lib.hid hoo
            clear hii hbv hxv
            by_cases hml : m < us.length
            ·obtain ⟨gu, cu, huv, _, hgu, hcu1, hcu2⟩ := ownG_has hoo (by omega)
             injection huv with e1 _ e3
             subst e1 e3
             unfold maxLen at hcu2
             obtain ⟨u, hu⟩ : ∃ u, u = us[m] := ⟨_, rfl⟩
             have cu := World.ownsRow.cellAt hoo m (by omega)
             rw [List.getElem?_map, List.getElem?_eq_getElem hml, ← hu] at cu
             simp only [Option.map_some] at cu
             have hur := HUF.out us[m] (List.getElem_mem _)
             rw [← hu] at hur
             obtain ⟨r, hre⟩ : ∃ r : Nat, u = (r : Int) := ⟨u.toNat, by omega⟩
             have HTK : Hid (extL x3 (evU (us.take (m + 1)) t) = extS (extL x3 (evU (us.take m) t)) (r, t)) := by
              show _ = _
              rw [List.take_succ_eq_append_getElem hml, evU_snoc, extL_snoc, ← hu, hre]
              rfl
             have hrn : r < n := by omega
             rw [hre] at cu
             have HEX := Lib.hid (HI.out.extend r t hrn (by omega))
             have hmi : (m : Int) < (us.length : Int) := by omega
             clear hoo hu hre hur
             go_wp2_with fail
             refine HEX.out.mono ?_
             rintro e w7 ⟨rfl, h71, h72⟩
             have H71 := Lib.hid h71
             have H72 := Lib.hid (HI.out.keep h72 HBV.out (by decide))
             have H73 := Lib.hid (HI.out.keep h72 HXV.out (by decide))
             have H74 := Lib.hid (HI.out.keepO h72 HO.out (by decide))
             clear h71 h72 HEX cu
             go_wp2_with fail
             go_roundw
             case rel => exact ⟨m + 1, by omega, by go_num, by rw [HTK.out]; exact H71.out, H72.out, H73.out, H74.out⟩
             case measure => simp [intOf]; omega
            ·have HFIN : Hid (RgI w wr f n nb pf ab g n bl es Gl XL EL (.slice (some ⟨ge, 0, none⟩) nb ec) (extL x3 (evU us t))) := by
              have h9 := HI.out
              rw [List.take_of_length_le (by omega)] at h9
              exact h9
             clear hoo
             go_wp2_with fail
             go_meet
             exact ⟨HFIN.out, HBV.out, HXV.out⟩
          case rest => as_aux_lemma =>
           clear HI6 HBV6 HXV6 HO6
           obtain ⟨hii, hbv, hxv⟩ := hcut
           have HI := Lib.hid hii
           have HBV := Lib.hid hbv
           have HXV := Lib.hid hxv
           have d0 := hxv.cell 0
           have d1 := hxv.cell 1
           have d2 := hxv.cell 2
           have d3 := hxv.cell 3
           have d4 := hxv.cell 4
           have d5 := hxv.cell 5
           simp only [viC, List.getElem?_cons_zero, List.getElem?_cons_succ] at d0 d1 d2 d3 d4 d5
           have HDF := Lib.hid (def_any z wc)
           unfold viV at HDF
           clear hii hbv hxv
           go_wp2_with fail
           refine HDF.out.mono ?_
           rintro e w7 ⟨rfl, hb7⟩
           have HI7 := Lib.hid (HI.out.below hb7)
           have HBV7 := Lib.hid (HBV.out.below hb7 (Blk.lt HBV.out))
           have hdz := HFZ.out.d
           obtain ⟨dz, hdz2⟩ : ∃ dz : Nat, defV z = (dz : Int) := ⟨(defV z).toNat, by omega⟩
           have hdn : dz < n := by omega
           have HDZ : Hid ((defV z).toNat = dz) := by show _ = _; rw [hdz2]; simp
           have HEX := Lib.hid (HI7.out.extend dz (t + 1) hdn (by omega))
           rw [hdz2]
           clear hb7 HDF HI HBV HXV d0 d1 d2 d3 d4 d5 hdz hdz2
           go_wp2_with fail
           refine HEX.out.mono ?_
           rintro e w8 ⟨rfl, h71, h72⟩
           have H71 := Lib.hid h71
           have H72 := Lib.hid (HI7.out.keep h72 HBV7.out (by decide))
           clear h71 h72 HEX
           go_wp2_with fail
           go_roundw
           case rel => exact ⟨q + 1, by omega, by go_num, by rw [HT.out]; go_num, by rw [HNX.out, HDZ.out]; exact H71.out, H72.out⟩
           case measure => simp [intOf]; omega
         ·
          have HFIN : Hid (RgI w wr f n nb pf ab g n bl es Gl XL EL (.slice (some ⟨ge, 0, none⟩) nb ec) (extL x1 (evI bk.ins a0))) := by
           have h9 := HI.out
           rw [List.take_of_length_le (by omega)] at h9
           exact h9
          have HQ : Hid (bk.sn = q) := by show _ = _; omega
          clear HI
          go_wp2_with fail
          go_meet
          exact ⟨by rw [HQ.out], HFIN.out, HBV.out⟩
       case rest => as_aux_lemma =>
        clear v0 HI1 HBV
        obtain ⟨rfl, hii, hbv⟩ := hcut
        have HI := Lib.hid hii
        have HBV := Lib.hid hbv
        have v1 := hbv.cell 1
        have v2 := hbv.cell 2
        have v3 := hbv.cell 3
        have v4 := hbv.cell 4
        have v5 := hbv.cell 5
        have v6 := hbv.cell 6
        simp only [List.getElem?_cons_zero, List.getElem?_cons_succ] at v1 v2 v3 v4 v5 v6
        have HEU := Lib.hid (endUses_any bk.e wc (HBO.out.e.below hii.r0.be))
        unfold veV at HEU
        obtain ⟨x2, hx2⟩ : ∃ x, x = extL x1 (evI bk.ins a0) := ⟨_, rfl⟩
        obtain ⟨t, ht⟩ : ∃ t, t = a0 + 2 * (bk.sn : Int) := ⟨_, rfl⟩
        rw [hbl, ← hx2, ← ht] at HEV
        rw [hbl, ← ht] at HAT
        rw [← hx2] at HI
        rw [← ht]
        have ht1 : 0 ≤ t ∧ t ≤ 900000000 := by omega
        clear hii hbv hx2 ht
        go_wp2_with fail
        refine HEU.out.mono ?_
        rintro e w6 ⟨v6', rfl, ho6, hb6⟩
        have HI6 := Lib.hid (HI.out.below hb6)
        obtain ⟨ua, uc, rfl⟩ := ownG_shape ho6
        have HO6 := Lib.hid ho6
        obtain ⟨us, hus⟩ : ∃ us, us = endV bk.e := ⟨_, rfl⟩
        rw [← hus] at HO6 HEV HFEE ⊢
        have hul : us.length ≤ 2 := by
         rw [hus]
         unfold endV nz
         exact List.length_filter_le ..
        clear hus ho6 hb6 HEU v1 v2 v3 v4 v5 v6 HI HBV
        go_upto_block 10 with fail
        go_cut [21] from 107 to 136 (fun _ wx => RgI w wx f n nb pf ab g n bl es Gl XL EL (.slice (some ⟨ge, 0, none⟩) nb ec) (extL x2 (evU us t)))
        case first => as_aux_lemma =>
         go_wp2_with fail
         go_loopw [108] (fun u wr => ∃ m : Nat, m ≤ us.length ∧ u = .int .i64 (m : Int) ∧ RgI w wr f n nb pf ab g n bl es Gl XL EL (.slice (some ⟨ge, 0, none⟩) nb ec) (extL x2 (evU (us.take m) t)) ∧ wr.ownsRow wc.heap.size 3 1 (.slice ua us.length uc) us.length (us.map (Value.int .i64))) (fun u _ => us.length - (intOf u).toNat)
         case atStart => exact ⟨0, Nat.zero_le _, rfl, HI6.out, HO6.out⟩
         case round =>
          clear HI6 HO6
          obtain ⟨m, hm, rfl, hii, hoo⟩ := hrel
          have HI := Lib.hid hii
          have HO := Lib.hid hoo
          clear hii
          by_cases hml : m < us.length
          ·obtain ⟨gu, cu, huv, _, hgu, hcu1, hcu2⟩ := ownG_has hoo (by omega)
           injection huv with e1 _ e3
           subst e1 e3
           unfold maxLen at hcu2
           obtain ⟨u, hu⟩ : ∃ u, u = us[m] := ⟨_, rfl⟩
           have cu := World.ownsRow.cellAt hoo m (by omega)
           rw [List.getElem?_map, List.getElem?_eq_getElem hml, ← hu] at cu
           simp only [Option.map_some] at cu
           have hur := HFEE.out us[m] (List.getElem_mem _)
           rw [← hu] at hur
           obtain ⟨r, hre⟩ : ∃ r : Nat, u = (r : Int) := ⟨u.toNat, by omega⟩
           have HTK : Hid (extL x2 (evU (us.take (m + 1)) t) = extS (extL x2 (evU (us.take m) t)) (r, t)) := by
            show _ = _
            rw [List.take_succ_eq_append_getElem hml, evU_snoc, extL_snoc, ← hu, hre]
            rfl
           have hrn : r < n := by omega
           rw [hre] at cu
           have HEX := Lib.hid (HI.out.extend r t hrn (by omega))
           have hmi : (m : Int) < (us.length : Int) := by omega
           clear hoo hu hre hur
           go_wp2_with fail
           refine HEX.out.mono ?_
           rintro e w7 ⟨rfl, h71, h72⟩
           have H71 := Lib.hid h71
           have H74 := Lib.hid (HI.out.keepO h72 HO.out (by decide))
           clear h71 h72 HEX cu
           go_wp2_with fail
           go_roundw
           case rel => exact ⟨m + 1, by omega, by go_num, by rw [HTK.out]; exact H71.out, H74.out⟩
           case measure => simp [intOf]; omega
          ·have HFIN : Hid (RgI w wr f n nb pf ab g n bl es Gl XL EL (.slice (some ⟨ge, 0, none⟩) nb ec) (extL x2 (evU us t))) := by
            have h9 := HI.out
            rw [List.take_of_length_le (by omega)] at h9
            exact h9
           clear hoo
           go_wp2_with fail
           go_meet
           exact HFIN.out
        case rest => as_aux_lemma =>
         clear HI6 HO6
         have HI := Lib.hid hcut
         obtain ⟨x4, hx4⟩ : ∃ x, x = extL x2 (evU us t) := ⟨_, rfl⟩
         rw [← hx4] at HI HEV
         have ce0 : wc.cell? ⟨ge, i, none⟩ = some (.slice (some ⟨es i, 0, none⟩) n n) := by
          rw [World.ownsRow.cellAt hcut.eown i (by omega), rowL_get hlt]
         have hgw := (hcut.eown.lt ge rfl).2
         obtain ⟨lb2, hlb⟩ : ∃ lb, lb = es i := ⟨_, rfl⟩
         rw [← hlb] at ce0
         have HLB2 := Lib.hid hlb
         clear hlb hcut hx4
         go_wp2_with fail
         clear ce0 hgw
         go_loopw [122] (fun u wr => ∃ k : Nat, k ≤ n ∧ u = .int .i64 (k : Int) ∧ RgI w wr f n nb pf ab g n bl es Gl XL EL (.slice (some ⟨ge, 0, none⟩) nb ec) (extL x4 (evR (EL i) k (t + 1)))) (fun u _ => n - (intOf u).toNat)
         case atStart => exact ⟨0, Nat.zero_le _, rfl, HI.out⟩
         case round =>
          clear HI
          obtain ⟨k, hk, rfl, hii⟩ := hrel
          have HI := Lib.hid hii
          clear hii
          by_cases hkn : k < n
          ·
           have b0 := (HI.out.erow i hlt).cell hkn
           rw [← HLB2.out] at b0
           have hlb2 : lb2 < wr.heap.size := by rw [HLB2.out]; exact Blk.lt (HI.out.erow i hlt)
           have HEX := Lib.hid (HI.out.extend k (t + 1) hkn (by omega))
           obtain ⟨bb, hbb⟩ : ∃ bb, bb = EL i k := ⟨_, rfl⟩
           rw [← hbb] at b0
           have HEN : Hid (evR (EL i) (k + 1) (t + 1) = if bb = true then evR (EL i) k (t + 1) ++ [(k, t + 1)] else evR (EL i) k (t + 1)) := by rw [hbb]; exact evR_snoc _ _ _
           have hki : (k : Int) < (n : Int) := by omega
           clear hbb
           cases bb with
           | true =>
            have HEN2 : Hid (extL x4 (evR (EL i) (k + 1) (t + 1)) = extS (extL x4 (evR (EL i) k (t + 1))) (k, t + 1)) := by
             show _ = _
             rw [HEN.out, if_pos rfl, extL_snoc]
            clear HEN
            go_wp2_with fail
            refine HEX.out.mono ?_
            rintro e w7 ⟨rfl, h71, h72⟩
            have H71 := Lib.hid h71
            clear h71 h72 HEX b0
            go_wp2_with fail
            go_roundw
            case rel => exact ⟨k + 1, by omega, by go_num, by rw [HEN2.out]; exact H71.out⟩
            case measure => simp [intOf]; omega
           | false =>
            have HEN2 : Hid (extL x4 (evR (EL i) (k + 1) (t + 1)) = extL x4 (evR (EL i) k (t + 1))) := by
             show _ = _
             rw [HEN.out, if_neg (by decide)]
            clear HEN HEX
            go_wp2_with fail
            go_roundw
            case rel => exact ⟨k + 1, by omega, by go_num, by rw [HEN2.out]; exact HI.out⟩
            case measure => simp [intOf]; omega
          ·
           have ek : k = n := by omega
           have HFIN : Hid (RgI w wr f n nb pf ab g n bl es Gl XL EL (.slice (some ⟨ge, 0, none⟩) nb ec) (extL (row0 n) (evF f n XL EL (i + 1)))) := by
            have h9 := HI.out
            rw [ek, HEV.out] at h9
            exact h9
           clear ek HI
           go_wp2_with fail
           go_roundw
           case rel => exact ⟨i + 1, by omega, by go_num, by rw [HAT.out], HFIN.out⟩
           case measure => simp [intOf]; omega
     ·
      have ei : i = nb := by omega
      subst ei
      go_wp2_with fail
      go_meet
      exact HI.out
   case rest => as_aux_lemma =>
    clear c3 HI0
    have HI := Lib.hid hcut
    have c1 := hcut.r0.bf.cell 1
    simp only [fC, List.getElem?_cons_zero, List.getElem?_cons_succ] at c1
    have HPL := Lib.hid HF.out.plen
    obtain ⟨x5, hx5⟩ : ∃ x, x = extL (row0 n) (evF f n XL EL nb) := ⟨_, rfl⟩
    rw [← hx5] at HI
    have HX5 := Lib.hid hx5
    clear hcut hx5
    go_upto_block 14 with fail
    go_cut [25] from 138 (fun _ wx => RgI w wx f n nb pf ab g n bl es Gl XL EL (.slice (some ⟨ge, 0, none⟩) nb ec) (extL x5 (evP f.params)))
    case first => as_aux_lemma =>
     go_wp2_with fail
     clear c1
     go_loopw [140] (fun u wr => ∃ (k : Nat), k ≤ f.pn ∧ u = .int .i64 (k : Int) ∧ RgI w wr f n nb pf ab g n bl es Gl XL EL (.slice (some ⟨ge, 0, none⟩) nb ec) (extL x5 (evU (f.params.take k) 0))) (fun u _ => f.pn - (intOf u).toNat)
     case atStart => exact ⟨0, Nat.zero_le _, rfl, HI.out⟩
     case round =>
      clear HI
      obtain ⟨k, hk, rfl, hi⟩ := hrel
      have HI := Lib.hid hi
      clear hi
      by_cases hlt : k < f.pn
      ·obtain ⟨b', off, epa, hbl, hcell⟩ := HF.out.pcame.ints (by omega)
       have hkl : k < f.params.length := by have := HPL.out; omega
       have cl := (HI.out.r0.be.cell (p := ⟨b', off + k, none⟩) hbl).trans (hcell k hkl)
       have hr := HOK.out.par _ (List.getElem_mem hkl)
       obtain ⟨r, hre⟩ : ∃ r : Nat, f.params[k] = (r : Int) := ⟨f.params[k].toNat, by omega⟩
       rw [hre] at cl hr
       have hrn : r < n := by omega
       have HTK : Hid (extL x5 (evU (f.params.take (k + 1)) 0) = extS (extL x5 (evU (f.params.take k) 0)) (r, 0)) := by
        show _ = _
        rw [List.take_succ_eq_append_getElem hkl, evU_snoc, extL_snoc, hre]
        rfl
       have HEX := Lib.hid (HI.out.extend r 0 hrn (by omega))
       rw [epa]
       have hki : (k : Int) < (f.pn : Int) := by omega
       have hbw : b' < wr.heap.size := Nat.lt_of_lt_of_le hbl HI.out.r0.be.size
       have hcp := HF.out.pcame.le
       clear hcell hre hr epa hkl
       go_wp2_with fail
       refine HEX.out.mono ?_
       rintro e w7 ⟨rfl, h71, h72⟩
       have H71 := Lib.hid h71
       clear h71 h72 HEX cl
       go_wp2_with fail
       go_roundw
       case rel => exact ⟨k + 1, by omega, by go_num, by rw [HTK.out]; exact H71.out⟩
       case measure => simp [intOf]; omega
      ·have HFIN : Hid (RgI w wr f n nb pf ab g n bl es Gl XL EL (.slice (some ⟨ge, 0, none⟩) nb ec) (extL x5 (evP f.params))) := by
        have h9 := HI.out
        rw [List.take_of_length_le (by have := HPL.out; omega)] at h9
        exact h9
       clear HI
       go_wp2_with fail
       go_meet
       exact HFIN.out
    case rest => as_aux_lemma =>
     clear c1 HI
     have HI := Lib.hid hcut
     have c0 := hcut.r0.bf.cell 0
     have c1 := hcut.r0.bf.cell 1
     have c2 := hcut.r0.bf.cell 2
     have c3 := hcut.r0.bf.cell 3
     have x0 := hcut.r0.box.cell 0
     simp only [fC, List.getElem?_cons_zero, List.getElem?_cons_succ] at c0 c1 c2 c3 x0
     have hxl : ∀ i, i < nb → ∀ r, r < n → (XL i r = true ↔ LiveI f i r) := fun i hi => HXL.out i (by rw [HNB.out] at hi; rw [HNB.out]; exact hi)
     have HAR : Hid (allR f n nb XL EL = callL (extL x5 (evP f.params)) (clF f nb)) := by rw [HX5.out]; rfl
     have hfn := finish_any w wc f HF.out n nb HOK.out hcut.r0.be g n _ hcut.r0.row hcut.r0.len.symm (by rw [← HAR.out]; exact allR_asc HOK.out hxl HEL2.out)
     rw [← HAR.out] at hfn
     have HFN := Lib.hid hfn
     unfold VF.v at HFN
     have HXL2 := Lib.hid hxl
     clear hcut hfn hxl HAR
     go_wp2_with fail
     refine HFN.out.mono ?_
     rintro e w9 ⟨l, rfl, h1, h2, h3, h4⟩
     have HRP := Lib.hid (ranges_law HOK.out HXL2.out HEL2.out h1 h2)
     have HCN : Hid (∀ p : Nat → Bool, (∀ r, 1 ≤ r → r < n → (p r = true ↔ OccP f nb r)) → l.length = ((List.range n).filter fun r => decide (1 ≤ r) && p r).length) := fun p hp =>
      ranges_count HOK.out HXL2.out HEL2.out h1 fun r hr1 hr2 => (hp r hr1 hr2).trans (pt_occ HOK.out hr1 hr2).symm
     have H3 := Lib.hid h3
     have HB9 := Lib.hid (HI.out.r0.be.trans (h4.toBelow (fun k e => e ▸ (HI.out.r0.row.lt g rfl).1) HI.out.r0.be.size))
     obtain ⟨m, hm⟩ : ∃ m, m = l.length := ⟨_, rfl⟩
     rw [← hm]
     have HM := Lib.hid hm
     clear h1 h2 h3 h4 hm HFN c0 c1 c2 c3 x0
     go_wp2_with fail
     exact bodyPost_ret (v := .tuple #[.slice (some ⟨g, 0, none⟩) m n, .int .i64 0]) (by simp [results, Try.results40, go_sem]) rfl ⟨HB9.out, .inr ⟨HFE.out, n, nb, g, n, l, HOK.out, by rw [HM.out], H3.out, HRP.out, HCN.out⟩⟩
 ·have he' : (e9 != 0) = true := by simp [he]
  go_wp2_with fail
  exact bodyPost_ret (v := .tuple #[.slice none 0 0, .int .i64 e9]) (by simp [results, Try.results40, go_sem]) rfl ⟨HB2.out, .inl ⟨by rw [← HE9.out]; exact he, by rw [HE9.out]⟩⟩
end

section
theorem f1V_ranges {p q n nb : Nat} {l : List RG} (hok : FnOk (f1V p q) n nb) (h : RangesP (f1V p q) n nb l) : n = 2 ∧ l = [⟨1, 0, 0, false⟩] := by
 obtain rfl : nb = 1 := hok.nbl
 have hn : n = 2 := by have := hok.regs; simp [f1V] at this; omega
 subst hn
 have hblk : (f1V p q).blk 0 = b1V := rfl
 have hpt : ∀ t, PtP (f1V p q) 1 1 t → t = 0 := by
  rintro t (⟨_, rfl⟩ | ⟨i, hi, h⟩)
  ·rfl
  ·obtain rfl : i = 0 := by omega
   unfold PtB at h
   rw [hblk] at h
   rcases h with ⟨_, rfl⟩ | ⟨k, x, hk, _⟩ | ⟨_, rfl⟩ | ⟨⟨s, hs, _⟩, _⟩
   ·rfl
   ·simp [b1V] at hk
   ·rfl
   ·simp [b1V] at hs
 have hel : ∀ x ∈ l, x = ⟨1, 0, 0, false⟩ := fun x hx => by
  obtain ⟨r, h1, h2, h3, h4, h5, _, h7⟩ := h.el x hx
  obtain rfl : r = 1 := by omega
  have e1 := hpt _ h4
  have e2 := hpt _ h5
  have e3 : x.s = false := by
   cases hs : x.s with
   | false => rfl
   | true =>
    obtain ⟨t, ⟨i, hi, k, y, hk, _⟩, _⟩ := h7.1 hs
    obtain rfl : i = 0 := by omega
    rw [hblk] at hk
    simp [b1V] at hk
  obtain ⟨xr, xb, xe, xs⟩ := x
  simp only at h1 e1 e2 e3
  subst h1 e1 e2 e3
  rfl
 refine ⟨rfl, ?_⟩
 obtain ⟨x, hx, _⟩ := h.all 1 0 (Nat.le_refl _) (by omega) (.inl ⟨by simp [f1V], rfl⟩)
 match l, h.once, hel, hx with
 | [y], _, hel, _ => rw [hel y (List.mem_cons_self ..)]
 | y :: z :: l, ho, hel, _ =>
  have h1 := hel y (List.mem_cons_self ..)
  have h2 := hel z (List.mem_cons_of_mem _ (List.mem_cons_self ..))
  have := (List.pairwise_cons.1 ho).1 z (List.mem_cons_self ..)
  rw [h1, h2] at this
  exact absurd rfl this
end
end Go.Proofs.Ytlcnbihfpjhffaa
