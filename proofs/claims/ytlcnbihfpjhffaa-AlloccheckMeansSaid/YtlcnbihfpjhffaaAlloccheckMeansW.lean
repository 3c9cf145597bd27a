/- The walk of AlloccheckMeans. -/
import Derived.Test.YtlcnbihfpjhffaaMns
import Derived.Test.YtlcnbihfpjhffaaForks
import Derived.Test.YtlcnbihfpjhffaaAcceptW
import Derived.Test.YtlcnbihfpjhffaaAllocFact
import Derived.Test.YtlcnbihfpjhffaaSlicesEq
import Derived.BigRegion
import Derived.Great.BuildSlice
namespace Go.Proofs.Ytlcnbihfpjhffaa
open Go.RowKit
set_option linter.unusedVariables false
set_option linter.unusedSimpArgs false

theorem came_cutV {w : World} {a : Option Addr} {n c : Nat} {zs : List Int} (h : Came w a n c 1 (zs.map intCells)) {i : Nat} (hi : i ≤ n) : Came w a i c 1 ((zs.take i).map intCells) := by
 have hl : zs.length = n := by simpa using h.count
 refine ⟨by simp [hl]; omega, by have := h.le; omega, h.max, fun e => by have := h.nil e; omega, fun v hv => ?_, fun h0 _ => ?_⟩
 ·obtain ⟨z, _, rfl⟩ := List.mem_map.1 hv; rfl
 ·obtain ⟨b, off, h1, h2, h3⟩ := h.cells (by omega) (by omega)
  refine ⟨b, off, h1, h2, fun j v hv k hk => h3 j v ?_ k hk⟩
  rw [List.getElem?_map] at hv ⊢
  rw [List.getElem?_take] at hv
  split at hv
  ·exact hv
  ·simp at hv
theorem fillVI (c0 c1 c2 c3 c4 : Int) (sa : Option Addr) (sn sc : Nat) (n : Nat) (hn : n = 6) : Instr.fill (fun i => some (i * n, n)) ((Array.range (1 * n)).map ((Value.agg #[.int .i64 0, .int .i64 0, .int .i64 0, .int .i64 0, .int .i64 0, .slice none 0 0]).cells[· % (Value.agg #[.int .i64 0, .int .i64 0, .int .i64 0, .int .i64 0, .int .i64 0, .slice none 0 0]).cells.size]!)) [(0, .agg #[.int .i64 c0, .int .i64 c1, .int .i64 c2, .int .i64 c3, .int .i64 c4, .slice sa sn sc])] = some #[.int .i64 c0, .int .i64 c1, .int .i64 c2, .int .i64 c3, .int .i64 c4, .slice sa sn sc] := by
 subst hn
 kernel_rfl
theorem fillVB (c0 c1 c2 c3 c4 : Int) (sa sb : Option Addr) (sn sc tn tc : Nat) (n : Nat) (hn : n = 7) : Instr.fill (fun i => some (i * n, n)) ((Array.range (1 * n)).map ((Value.agg #[.slice none 0 0, .int .i64 0, .int .i64 0, .int .i64 0, .int .i64 0, .int .i64 0, .slice none 0 0]).cells[· % (Value.agg #[.slice none 0 0, .int .i64 0, .int .i64 0, .int .i64 0, .int .i64 0, .int .i64 0, .slice none 0 0]).cells.size]!)) [(0, .agg #[.slice sb tn tc, .int .i64 c0, .int .i64 c1, .int .i64 c2, .int .i64 c3, .int .i64 c4, .slice sa sn sc])] = some #[.slice sb tn tc, .int .i64 c0, .int .i64 c1, .int .i64 c2, .int .i64 c3, .int .i64 c4, .slice sa sn sc] := by
 subst hn
 kernel_rfl
theorem fillVF (c0 c1 : Int) (sa sb : Option Addr) (sn sc tn tc : Nat) (n : Nat) (hn : n = 4) : Instr.fill (fun i => some (i * n, n)) ((Array.range (1 * n)).map ((Value.agg #[.int .i64 0, .slice none 0 0, .int .i64 0, .slice none 0 0]).cells[· % (Value.agg #[.int .i64 0, .slice none 0 0, .int .i64 0, .slice none 0 0]).cells.size]!)) [(0, .agg #[.int .i64 c0, .slice sa sn sc, .int .i64 c1, .slice sb tn tc])] = some #[.int .i64 c0, .slice sa sn sc, .int .i64 c1, .slice sb tn tc] := by
 subst hn
 kernel_rfl
set_option maxRecDepth 100000 in
set_option maxHeartbeats 8000000 in
theorem alloccheckMeans_walk (f : VF) (a : AL) (ra : Option Addr) (rn rc : Nat) (args : List Int) (w : World) (hf : f.Ok w) (ha : a.Ok w) (hr : Came w ra rn rc 1 (args.map intCells) ∧ ∀ z ∈ args, I64 z) :
  Calls Try.prog 4 #[f.v, a.v, .slice ra rn rc] w fun e w' => e = .returned (.bool true) ∧ Below w.heap.size w w' := by
 have hb0 : Below w.heap.size w ((w.alloc (.cells #[.int .i64 f.name, .slice f.pa f.pn f.pc, .int .i64 f.regs, .slice f.sa f.sn f.sc] 25)).alloc (.cells #[.slice a.ra a.rn a.rc, .slice a.sa a.sn a.sc, .int .i64 a.k] 34)) := ((Below.refl _ _).alloc (Nat.le_refl _) _).alloc (by simp) _
 have hbf : Blk ((w.alloc (.cells #[.int .i64 f.name, .slice f.pa f.pn f.pc, .int .i64 f.regs, .slice f.sa f.sn f.sc] 25)).alloc (.cells #[.slice a.ra a.rn a.rc, .slice a.sa a.sn a.sc, .int .i64 a.k] 34)) w.heap.size 25 (fCV f) := (Blk.new w (fCV f) 25).alloc (.cells #[.slice a.ra a.rn a.rc, .slice a.sa a.sn a.sc, .int .i64 a.k] 34)
 have hba : Blk ((w.alloc (.cells #[.int .i64 f.name, .slice f.pa f.pn f.pc, .int .i64 f.regs, .slice f.sa f.sn f.sc] 25)).alloc (.cells #[.slice a.ra a.rn a.rc, .slice a.sa a.sn a.sc, .int .i64 a.k] 34)) (w.heap.size + 1) 34 (aCV a) := by
  have := Blk.new (w.alloc (.cells #[.int .i64 f.name, .slice f.pa f.pn f.pc, .int .i64 f.regs, .slice f.sa f.sn f.sc] 25)) (aCV a) 34
  rw [World.size_alloc] at this
  exact this
 have HSM := Lib.hid fun wx (h : Below w.heap.size w wx) => smallK_ok wx f (hf.below h)
 have HAC := Lib.hid fun wx (h : Below w.heap.size w wx) => accept_any wx f (hf.below h) a (ha.below h)
 have HCF := Lib.hid fun wx => allocFact_ok wx
 unfold VF.v at HSM HAC ⊢
 unfold AL.v at HAC ⊢
 have HF := Lib.hid hf
 have HAO := Lib.hid ha
 have HARG := Lib.hid hr
 have HB0 := Lib.hid hb0
 have HBF := Lib.hid hbf
 have HBA := Lib.hid hba
 clear hf ha hr hb0 hbf hba
 go_enter Try.func4, Try.ntmps4
 go_upto_region 1 with fail
 obtain ⟨pf, hpf⟩ : ∃ x, x = w.heap.size := ⟨_, rfl⟩
 have HB1 : Hid (Below w.heap.size w ((w.alloc (.cells #[.int .i64 f.name, .slice f.pa f.pn f.pc, .int .i64 f.regs, .slice f.sa f.sn f.sc] 25)).alloc (.cells #[.slice a.ra a.rn a.rc, .slice a.sa a.sn a.sc, .int .i64 a.k] 34))) := HB0.out
 rw [← hpf] at HBF HBA ⊢
 generalize (w.alloc (.cells #[.int .i64 f.name, .slice f.pa f.pn f.pc, .int .i64 f.regs, .slice f.sa f.sn f.sc] 25)).alloc (.cells #[.slice a.ra a.rn a.rc, .slice a.sa a.sn a.sc, .int .i64 a.k] 34) = w1 at HB1 HBF HBA ⊢
 have HPF : Hid (w.heap.size ≤ pf) := by show w.heap.size ≤ pf; omega
 clear HB0 hpf
 obtain ⟨pb, hpb⟩ : ∃ x, x = pf + 1 := ⟨_, rfl⟩
 rw [← hpb] at HBA ⊢
 have HPB : Hid (w.heap.size ≤ pb) := by have := HPF.out; show w.heap.size ≤ pb; omega
 clear hpb
 go_wp2_with fail
 refine (HCF.out w1).mono ?_
 rintro e w2 ⟨rfl, hb2⟩
 have HB2 := Lib.hid (HB1.out.trans (hb2.mono HB1.out.size))
 have HBF2 := Lib.hid (HBF.out.below hb2 HBF.out.lt)
 have HBA2 := Lib.hid (HBA.out.below hb2 HBA.out.lt)
 clear hb2 HB1 HBF HBA HCF
 have c0 := HBF2.out.cell 0
 have c1 := HBF2.out.cell 1
 have c2 := HBF2.out.cell 2
 have c3 := HBF2.out.cell 3
 simp only [fCV, List.getElem?_cons_zero, List.getElem?_cons_succ] at c0 c1 c2 c3
 go_wp2_with fail
 refine (HSM.out w2 HB2.out).mono ?_
 rintro e w3 ⟨sm, rfl, hsm, hb3⟩
 have HB3 := Lib.hid (HB2.out.trans (hb3.mono HB2.out.size))
 have HBF3 := Lib.hid (HBF2.out.below hb3 HBF2.out.lt)
 have HBA3 := Lib.hid (HBA2.out.below hb3 HBA2.out.lt)
 clear hb3 HB2 HBF2 HBA2 HSM c0 c1 c2 c3
 cases sm with
 | false =>
  clear hsm
  go_wp2_with fail
  go_ret
  exact ⟨rfl, HB3.out⟩
 | true =>
 have HSMT := Lib.hid (hsm rfl)
 clear hsm
 have c0 := HBF3.out.cell 0
 have c1 := HBF3.out.cell 1
 have c2 := HBF3.out.cell 2
 have c3 := HBF3.out.cell 3
 have b0 := HBA3.out.cell 0
 have b1 := HBA3.out.cell 1
 have b2 := HBA3.out.cell 2
 simp only [fCV, aCV, List.getElem?_cons_zero, List.getElem?_cons_succ] at c0 c1 c2 c3 b0 b1 b2
 have hpl := HBF3.out.lt
 have hbl := HBA3.out.lt
 go_wp2_with fail
 refine (HAC.out w3 HB3.out).mono ?_
 unfold AcceptPost
 rintro e w4 ⟨z, rfl, hb4, hz1, hz2⟩
 have HB4 := Lib.hid (HB3.out.trans (hb4.mono HB3.out.size))
 have HBF4 := Lib.hid (HBF3.out.below hb4 HBF3.out.lt)
 have HBA4 := Lib.hid (HBA3.out.below hb4 HBA3.out.lt)
 clear hb4 HB3 HBF3 HBA3 HAC c0 c1 c2 c3 b0 b1 b2 hpl hbl
 by_cases hz : z = 0
 ·have hE : allocE f a = 0 := by
   by_cases h9 : allocE f a = 0
   ·exact h9
   ·exact absurd ((hz1 h9).symm.trans hz) h9
  have hG : GoodS f a (startX a (f.params.map Int.toNat)) := by
   rcases hz2 hE with ⟨_, h9⟩ | ⟨h9, _⟩
   ·exact h9
   ·omega
  have HG := Lib.hid hG
  subst hz
  obtain ⟨n, hok⟩ := fnOk HF.out (allocE_fn hE)
  have hga := AL.good HAO.out hok.regs hE
  obtain ⟨m, hm⟩ : ∃ m, m = 11 + a.k.toNat := ⟨_, rfl⟩
  rw [← hm] at hga
  obtain ⟨nb, hnb⟩ : ∃ nb, nb = f.blocks.length := ⟨_, rfl⟩
  rw [← hnb] at hok
  have HOK := Lib.hid hok
  have HGA := Lib.hid hga
  have HE := Lib.hid hE
  have hn60 : n ≤ 60 ∧ nb ≤ 20 := by
   have h1 := HSMT.out.1
   have h2 := HSMT.out.2.1
   have h3 := hok.regs
   have h4 := hok.sn
   omega
  have hk := hga.k
  have hmm := hga.hm
  obtain ⟨k, hkk⟩ : ∃ k : Nat, a.k = (k : Int) := ⟨a.k.toNat, by omega⟩
  have hkb : k ≤ 9000 := by omega
  have HKK := Lib.hid hkk
  clear hz1 hz2 hE hG hok hga hm hnb hk hmm hkk
  have b2 := HBA4.out.cell 2
  simp only [aCV, List.getElem?_cons_zero, List.getElem?_cons_succ] at b2
  rw [HKK.out] at b2
  go_upto_region 7 with fail
  have HI0 : Hid (GenI f a w (w4.alloc (.cells #[.int .i64 0, .slice none 0 0, .int .i64 (12 + (k : Int)), .slice none 0 0] 25)) pf pb w4.heap.size [] none 0 [] none 0) := by
   have hb : Below w4.heap.size w4 (w4.alloc (.cells #[.int .i64 0, .slice none 0 0, .int .i64 (12 + (k : Int)), .slice none 0 0] 25)) := (Below.refl _ _).alloc (Nat.le_refl _) _
   have h1 := HBF4.out.lt
   refine ⟨HB4.out.trans (hb.mono HB4.out.size), HBF4.out.below hb h1, HBA4.out.below hb HBA4.out.lt, ?_, ⟨HB4.out.size, by omega⟩, World.ownsRow_nil _ _ _ _, World.ownsRow_nil _ _ _ _, fun b hb => by cases hb⟩
   rw [HKK.out]
   exact Blk.new w4 (gCV (12 + (k : Int)) none 0 0 none 0 0) _
  obtain ⟨gb, hgb⟩ : ∃ x, x = w4.heap.size := ⟨_, rfl⟩
  rw [← hgb] at HI0 ⊢
  generalize w4.alloc (.cells #[.int .i64 0, .slice none 0 0, .int .i64 (12 + (k : Int)), .slice none 0 0] 25) = w5 at HI0 ⊢
  clear hgb b2 HB4 HBF4 HBA4
  obtain ⟨pa, hpa⟩ : ∃ s, s = f.pa := ⟨_, rfl⟩
  obtain ⟨sa, hsa⟩ : ∃ s, s = f.sa := ⟨_, rfl⟩
  obtain ⟨pn, hpn⟩ : ∃ s, s = f.pn := ⟨_, rfl⟩
  rw [← hpa, ← hsa, ← hpn]
  have c1 : w5.cell? ⟨pf, 1, none⟩ = some (.slice pa pn f.pc) := by rw [HI0.out.fb.cell, hpa, hpn]; rfl
  have HPA := Lib.hid hpa
  have HSA := Lib.hid hsa
  have HPN := Lib.hid hpn
  have hpn6 : pn ≤ 6 := by rw [hpn]; exact HOK.out.pn
  clear hpa hsa hpn
  obtain ⟨i0, hi0, hz0, hz1, hz2⟩ : ∃ i, Try.prog.info? 3 = some i ∧ i.zero = some (.int .i64 0) ∧ i.size = 1 ∧ i.bytes = 8 := info_partsV (by kernel_rfl)
  have hpl5 := HI0.out.fb.lt
  go_upto_block 0 with fail
  clear c1 hpl5
  go_cut [6, 9, 10] from 42 (fun v6 v9 v10 wx => ∃ (p' : Option Addr) (pc' : Nat), GenI f a w wx pf pb gb (f.params.map (plL a)) p' pc' [] none 0)
  case first => as_aux_lemma =>
   go_wp2_with fail
   go_loopw [42] (fun u wx => ∃ (i : Nat) (p' : Option Addr) (pc' : Nat), i ≤ pn ∧ u = .int .i64 (i : Int) ∧ GenI f a w wx pf pb gb ((f.params.take i).map (plL a)) p' pc' [] none 0) (fun u _ => pn - (intOf u).toNat)
   case atStart => exact ⟨0, none, 0, Nat.zero_le _, rfl, HI0.out⟩
   case round =>
    clear HI0
    obtain ⟨i, p', pc', hi, rfl, hgi⟩ := hrel
    have HGI := Lib.hid hgi
    clear hgi
    by_cases hlt : i < pn
    ·have hpl : f.params.length = f.pn := HF.out.plen
     rw [← HPN.out] at hpl
     obtain ⟨ga, oa, hpa2, hga, hpc⟩ := HF.out.pcame.ints (by rw [← HPN.out]; omega)
     have hmx := HF.out.pcame.max
     have hle := HF.out.pcame.le
     rw [← HPN.out] at hle
     have k1 := (HGI.out.be.cell (p := ⟨ga, oa + i, none⟩) hga).trans (hpc i (by omega))
     have hgw := Nat.lt_of_lt_of_le hga HGI.out.be.size
     obtain ⟨z, hz⟩ : ∃ z, z = f.params[i]'(by omega) := ⟨_, rfl⟩
     have hzr := HOK.out.par (f.params[i]'(by omega)) (List.getElem_mem _)
     rw [← hz] at k1 hzr
     have HTK : Hid ((f.params.take (i + 1)).map (plL a) = (f.params.take i).map (plL a) ++ [plL a z]) := by
      show _ = _
      rw [List.take_add_one, List.getElem?_eq_getElem (by omega), ← hz]
      simp
     have HLEN : Hid (((f.params.take i).map (plL a)).length = i) := by show _ = _; rw [List.length_map, List.length_take]; omega
     obtain ⟨PS, hPS⟩ : ∃ PS, PS = (f.params.take i).map (plL a) := ⟨_, rfl⟩
     rw [← hPS] at HGI HTK HLEN
     clear hPS
     rw [← HPA.out] at hpa2
     subst hpa2
     have HZR := Lib.hid hzr
     clear hz hpc hzr
     go_upto_region 10 with fail
     have g1 : wr.cell? ⟨gb, 1, none⟩ = some (.slice p' i pc') := by rw [HGI.out.gx.cell, HLEN.out]; rfl
     have s1 := fun u : AfterR (KeepV gb) wr.drew => (World.cell?_of_block (a := ⟨gb, 1, none⟩) u.rel).trans g1
     have HGD : Hid (GenI f a w wr.drew pf pb gb PS p' pc' [] none 0) := HGI.out.below (Below.refl wr.heap.size wr).drew
     have HPL := Lib.hid fun wz (h1 : Below w.heap.size w wz) (h2 : Blk wz pb 34 (aCV a)) => mplace_any HAO.out h1 h2 HGA.out (by omega) z (by have := HZR.out; omega)
     clear g1 k1 hgw
     refine wp_region_eagerRT (KeepV gb) [(0, true), (1, true), (2, true), (3, true), (4, false), (5, false), (6, false), (7, true), (8, false)] (by kernel_rfl) (by kernel_rfl) ?_
     repeat (refine eagR_readT rfl ?_; go_big_quiet_step (fail); refine wpQuiet_nil ?_)
     clear s1
     refine eagR_doesT rfl rfl ?_
     intro K hK
     go_simp
     refine (HPL.out _ HGD.out.be HGD.out.ab).mono ?_
     rintro e wz ⟨rfl, hwz⟩
     rw [hwz]
     refine hK _ _ (fun _ => rfl) ?_
     clear hK K hwz wz
     go_simp
     generalize wr.drew = wd at HGD ⊢
     obtain ⟨v, hv⟩ : ∃ v, v = plL a z := ⟨_, rfl⟩
     rw [← hv]
     rw [← hv] at HPL HTK
     clear hv
     have hgd := HGD.out.gx.lt
     refine eagR_doesT rfl rfl ?_
     intro K hK
     go_simp
     refine hK _ _ (fun _ => Below.heap_alloc _ _ _ hgd) ?_
     clear hK K
     have hbz : Below wd.heap.size wd (wd.alloc (.cells #[.int .i64 v] 3)) := (Below.refl _ _).alloc (Nat.le_refl _) _
     have HGE := Lib.hid (HGD.out.below hbz)
     have HNEW : Hid (Blk (wd.alloc (.cells #[.int .i64 v] 3)) wd.heap.size 3 [.int .i64 v]) := Blk.new wd _ _
     go_simp
     generalize wd.alloc (.cells #[.int .i64 v] 3) = we at HGE HNEW ⊢
     clear hbz HGD
     refine eagR_doesT rfl rfl ?_
     intro K hK
     have hrow := HGE.out.po
     rw [HLEN.out] at hrow
     refine wp_append_lies _ _ _ 22 rfl w.heap.size 3 i0 (.int .i64 0) 1 8 Try.underlying22 hi0 hz0 hz1 hz2 rfl (by decide) (Value.slice p' i pc') i _ rfl hrow ⟨wd.heap.size, 0, none⟩ 1 1 [.int .i64 v] rfl rfl ?_ ?_ (by decide) ?_ ?_ HGE.out.be.size _ rfl ?_
     ·intro j u hj
      rw [Addr.add_lit, Nat.zero_add, HNEW.out.cell]
      exact hj
     ·intro u hu; simp at hu; subst hu; rfl
     ·unfold maxLen; omega
     ·omega
     intro g' cap' w9 hown' hgrow hat hlt9
     have hqk : w9.heap[gb]? = we.heap[gb]? := hgrow.block gb HGE.out.gx.lt (fun e => own_tyV hrow HGE.out.gx (by decide) e.symm)
     refine hK _ _ (fun _ => hqk) ?_
     clear hK K
     have hbox := HGE.out.gx.of_heap hqk
     have f1 := hbox.free 1
     have f1c : w9.cell? ⟨gb, 1, none⟩ = some (.slice p' i pc') := by rw [hbox.cell, HLEN.out]; rfl
     rw [← HLEN.out] at hown' hgrow
     have hp := HGE.out.pushP hown' hgrow
     rw [HLEN.out, ← HTK.out] at hp
     have HP9 := Lib.hid hp
     have hgl9 := hbox.lt
     clear hown' hgrow hat hbox hqk hrow hp HGE HNEW HGI
     go_simp
     repeat (refine eagR_readT rfl ?_; go_big_quiet_step (fail); refine wpQuiet_nil ?_)
     refine eagR_freeT rfl rfl (by kernel_rfl) ?_
     intro K hK
     go_simp
     refine hK _ _ ?_
     clear hK K f1 f1c
     go_simp
     refine eagR_endT ?_
     generalize w9.setCell ⟨gb, 1, none⟩ (.slice (some ⟨g', 0, none⟩) (i + 1) cap') = wA at HP9 ⊢
     have HTL : Hid (Came wA (some ⟨g', 0, none⟩) (i + 1) cap' 1 (((f.params.take (i + 1)).map (plL a)).map intCells)) := by
      have h1 := HP9.out.po
      have h2 : ((f.params.take (i + 1)).map (plL a)).length = i + 1 := by rw [HTK.out, List.length_append, HLEN.out]; rfl
      have h3 := came_ownI h1
      rw [h2] at h3
      exact h3
     have q1 : wA.cell? ⟨gb, 1, none⟩ = some (.slice (some ⟨g', 0, none⟩) (i + 1) cap') := by
      rw [HP9.out.gx.cell]
      have h2 : ((f.params.take (i + 1)).map (plL a)).length = i + 1 := by rw [HTK.out, List.length_append, HLEN.out]; rfl
      rw [h2]; rfl
     have hcA := HTL.out.le
     have hcB := HTL.out.max
     have hgA := HP9.out.gx.lt
     go_upto_region 11 with fail
     have s1 := fun u : AfterR (KeepV gb) wA.drew => (World.cell?_of_block (a := ⟨gb, 1, none⟩) u.rel).trans q1
     have HGF : Hid (GenI f a w wA.drew pf pb gb ((f.params.take (i + 1)).map (plL a)) (some ⟨g', 0, none⟩) cap' [] none 0) := HP9.out.below (Below.refl wA.heap.size wA).drew
     have HCN := Lib.hid (hcontains_ints wA.drew (some ⟨g', 0, none⟩) i cap' (((f.params.take (i + 1)).map (plL a)).take i) (plL a z) ((came_cutV HTL.out (by omega)).below (Below.refl wA.heap.size wA).drew))
     obtain ⟨cn, hcn⟩ : ∃ b, b = (((f.params.take (i + 1)).map (plL a)).take i).contains (plL a z) := ⟨_, rfl⟩
     rw [← hcn] at HCN
     clear hcn q1
     obtain ⟨v2, hv2⟩ : ∃ v, v = plL a z := ⟨_, rfl⟩
     have HPL2 := Lib.hid fun wz (h1 : Below w.heap.size w wz) (h2 : Blk wz pb 34 (aCV a)) => mplace_any HAO.out h1 h2 HGA.out (by omega) z (by have := HZR.out; omega)
     rw [← hv2] at HCN HPL2
     clear hv2 HPL
     refine wp_region_eagerRT (KeepV gb) [(0, true), (1, true), (2, true), (3, true), (4, true), (5, true), (6, false), (7, false)] (by kernel_rfl) (by kernel_rfl) ?_
     repeat (refine eagR_readT rfl ?_; go_big_quiet_step (fail); refine wpQuiet_nil ?_)
     clear s1
     refine eagR_doesT rfl rfl ?_
     intro K hK
     go_simp
     refine (HPL2.out _ HGF.out.be HGF.out.ab).mono ?_
     rintro e wz ⟨rfl, hwz⟩
     rw [hwz]
     refine hK _ _ (fun _ => rfl) ?_
     clear hK K hwz wz
     go_simp
     refine eagR_doesT rfl rfl ?_
     intro K hK
     go_simp
     refine HCN.out.mono ?_
     rintro e wz ⟨rfl, hwz⟩
     rw [← hwz]
     refine hK _ _ (fun _ => rfl) ?_
     clear hK K hwz wz
     go_simp
     refine eagR_endT ?_
     generalize wA.drew = wB at HGF ⊢
     cases cn with
     | true =>
      go_wp2_with fail
      go_ret
      exact ⟨rfl, HGF.out.be⟩
     | false =>
      go_wp2_with fail
      go_roundw
      case rel => exact ⟨i + 1, _, _, by omega, by go_num, HGF.out⟩
      case measure => simp [intOf]; omega
    ·have ei : i = pn := by omega
     have hplen : f.params.length = pn := by rw [HPN.out]; exact HF.out.plen
     rw [List.take_of_length_le (by omega)] at HGI
     go_wp2_with fail
     go_meet
     exact ⟨_, _, HGI.out⟩
  case rest => as_aux_lemma =>
   obtain ⟨p', pc', hgi⟩ := hcut
   have HGJ := Lib.hid hgi
   clear hgi HI0
   obtain ⟨PS, hPS⟩ : ∃ PS, PS = f.params.map (plL a) := ⟨_, rfl⟩
   have hplen : f.params.length = pn := by rw [HPN.out]; exact HF.out.plen
   rw [← hPS] at HGJ
   have HPS := Lib.hid hPS
   have HPLEN := Lib.hid hplen
   clear hPS hplen
   have HSN : Hid (f.sn = nb) := HOK.out.sn
   have c3 : wc.cell? ⟨pf, 3, none⟩ = some (.slice sa nb f.sc) := by rw [HGJ.out.fb.cell, HSA.out, ← HSN.out]; rfl
   have hplr := HGJ.out.fb.lt
   go_upto_block 2 with fail
   clear c3 hplr
   go_cut [6, 12, 13, 15] from 67 (fun v6 v12 v13 v15 wx => ∃ (gl : List VB) (ba : Option Addr) (bc : Nat), GenI f a w wx pf pb gb PS p' pc' gl ba bc ∧ GenR f a nb gl ∧ ∀ j, j < nb → ∀ x ∈ (f.blk j).ins, callB x.op = false)
   case first => as_aux_lemma =>
    go_wp2_with fail
    go_loopw [67] (fun u wx => ∃ (i : Nat) (gl : List VB) (ba : Option Addr) (bc : Nat), i ≤ nb ∧ u = .int .i64 (i : Int) ∧ GenI f a w wx pf pb gb PS p' pc' gl ba bc ∧ GenR f a i gl ∧ ∀ j, j < i → ∀ x ∈ (f.blk j).ins, callB x.op = false) (fun u _ => nb - (intOf u).toNat)
    case atStart => exact ⟨0, [], none, 0, Nat.zero_le _, rfl, HGJ.out, ⟨rfl, fun j hj => absurd hj (Nat.not_lt_zero _)⟩, fun j hj => absurd hj (Nat.not_lt_zero _)⟩
    case round =>
     clear HGJ
     obtain ⟨i, gl, ba, bc, hi, rfl, hgi, hgr, hnc⟩ := hrel
     have HGI := Lib.hid hgi
     have HGR := Lib.hid hgr
     have HNC := Lib.hid hnc
     clear hgi hgr hnc
     by_cases hlt : i < nb
     ·have hib : i < f.blocks.length := by have := HOK.out.nbl; omega
      obtain ⟨gq, oq, hsa2, hgq, d0, d1, d2, d3, d4, d5, d6⟩ := HF.out.cells HGI.out.be hib
      have hbo : f.blocks[i].Ok w := HF.out.blocks _ (List.getElem_mem _)
      have hbads := fn_badI HOK.out HSMT.out.2.2 hlt
      rw [VF.blk_get f hib] at d0 d1 d2 d3 d4 d5 d6 hbo
      obtain ⟨bk, hbk⟩ : ∃ b, b = f.blk i := ⟨_, rfl⟩
      have hlen := HOK.out.ins i hlt
      have hab := HOK.out.ab i hlt
      rw [← hbk] at d0 d1 d2 d3 d4 d5 d6 hbo hlen hbads hab
      have hbl := hbo.len
      have hcm := hbo.came.max
      have hcl := hbo.came.le
      have hfcm := HF.out.came.max
      have hfcl := HF.out.came.le
      rw [HSN.out] at hfcl
      rw [← HSA.out] at hsa2
      subst hsa2
      have HBO := Lib.hid hbo
      have HBK := Lib.hid hbk
      have HBAD := Lib.hid hbads
      have HAB := Lib.hid hab
      have hgqw : gq < wr.heap.size := Nat.lt_of_lt_of_le hgq HGI.out.be.size
      obtain ⟨sb, hsb⟩ : ∃ s, s = bk.sa := ⟨_, rfl⟩
      rw [← hsb] at d0
      have HSB := Lib.hid hsb
      clear hbo hbk hsb hbads hab
      go_upto_region 18 with fail
      have HBG0 : Hid (BlkG wr ((wr.alloc (.cells #[.slice sb bk.sn bk.sc, .int .i64 bk.e.kind, .int .i64 bk.e.op, .int .i64 bk.e.a, .int .i64 bk.e.b, .int .i64 bk.e.n, .slice bk.e.sa bk.e.sn bk.e.sc] 45)).alloc (.cells #[.slice none 0 0, .int .i64 0, .int .i64 0, .int .i64 0, .int .i64 0, .int .i64 0, .slice none 0 0] 45)) wr.heap.size (wr.heap.size + 1) bk [.int .i64 0, .int .i64 0, .int .i64 0, .int .i64 0, .int .i64 0, .slice none 0 0] [] none 0) := by
       refine ⟨((Below.refl _ wr).alloc (Nat.le_refl _) _).alloc (by simp) _, ?_, ?_, World.ownsRow_nil _ _ _ _, by omega⟩
       ·have := (Blk.new wr (vbC bk) 45).alloc (.cells #[.slice none 0 0, .int .i64 0, .int .i64 0, .int .i64 0, .int .i64 0, .int .i64 0, .slice none 0 0] 45)
        rw [HSB.out]
        exact this
       ·have := Blk.new (wr.alloc (.cells #[.slice sb bk.sn bk.sc, .int .i64 bk.e.kind, .int .i64 bk.e.op, .int .i64 bk.e.a, .int .i64 bk.e.b, .int .i64 bk.e.n, .slice bk.e.sa bk.e.sn bk.e.sc] 45)) [.slice none 0 0, .int .i64 0, .int .i64 0, .int .i64 0, .int .i64 0, .int .i64 0, .slice none 0 0] 45
        rw [World.size_alloc] at this
        exact this
      obtain ⟨bb, hbb⟩ : ∃ x, x = wr.heap.size := ⟨_, rfl⟩
      obtain ⟨cb, hcb⟩ : ∃ x, x = wr.heap.size + 1 := ⟨_, rfl⟩
      rw [← hcb, ← hbb] at HBG0
      rw [← hcb, ← hbb]
      generalize ((wr.alloc (.cells #[.slice sb bk.sn bk.sc, .int .i64 bk.e.kind, .int .i64 bk.e.op, .int .i64 bk.e.a, .int .i64 bk.e.b, .int .i64 bk.e.n, .slice bk.e.sa bk.e.sn bk.e.sc] 45)).alloc (.cells #[.slice none 0 0, .int .i64 0, .int .i64 0, .int .i64 0, .int .i64 0, .int .i64 0, .slice none 0 0] 45)) = w6 at HBG0 ⊢
      clear hbb hcb d0 d1 d2 d3 d4 d5 d6 hgqw
      have b0 : w6.cell? ⟨bb, 0, none⟩ = some (.slice sb bk.sn bk.sc) := by rw [HBG0.out.bx.cell, HSB.out]; rfl
      have hbbl := HBG0.out.bx.lt
      obtain ⟨ws, hws⟩ : ∃ x, x = wr := ⟨_, rfl⟩
      rw [← hws] at HBG0 HGI
      clear hws
      go_upto_block 4 with fail
      clear b0 hbbl
      go_cut [15] from 74 to 102 (fun v wx => ∃ (ca : Option Addr) (cc : Nat), BlkG ws wx bb cb bk [.int .i64 0, .int .i64 0, .int .i64 0, .int .i64 0, .int .i64 0, .slice none 0 0] (bk.ins.map (renI a)) ca cc ∧ ∀ x ∈ bk.ins, callB x.op = false)
      case first => as_aux_lemma =>
       obtain ⟨iv, hiv, hzv, hzs, hzy⟩ : ∃ i, Try.prog.info? 47 = some i ∧ i.zero = some (.agg #[.int .i64 0, .int .i64 0, .int .i64 0, .int .i64 0, .int .i64 0, .slice none 0 0]) ∧ i.size = 6 ∧ i.bytes = 64 := info_partsV (by kernel_rfl)
       go_wp2_with fail
       go_loopw [15, 74] (fun v u wx => ∃ (j : Nat) (ca : Option Addr) (cc : Nat), j ≤ bk.sn ∧ u = .int .i64 (j : Int) ∧ BlkG ws wx bb cb bk [.int .i64 0, .int .i64 0, .int .i64 0, .int .i64 0, .int .i64 0, .slice none 0 0] ((bk.ins.take j).map (renI a)) ca cc ∧ ∀ x ∈ bk.ins.take j, callB x.op = false) (fun _ u _ => bk.sn - (intOf u).toNat)
       case atStart => exact ⟨0, none, 0, Nat.zero_le _, rfl, HBG0.out, fun x hx => by cases hx⟩
       case round =>
        clear HBG0
        obtain ⟨j, ca, cc, hj, rfl, hbg, hnj⟩ := hrel
        have HB := Lib.hid hbg
        have HNJ := Lib.hid hnj
        clear hbg hnj
        by_cases hjl : j < bk.sn
        ·have hkb : j < bk.ins.length := by omega
         have hbe : Below w.heap.size w wr := HGI.out.be.trans (HB.out.be.mono HGI.out.be.size)
         obtain ⟨gi, oi, hsb2, hgi, e0, e1, e2, e3, e4, e5⟩ := HBO.out.cells hbe hkb
         obtain ⟨x, hx⟩ : ∃ z, z = bk.ins[j] := ⟨_, rfl⟩
         have hdab := badI_dab HOK.out.regs (HBAD.out.1 x (by rw [hx]; exact List.getElem_mem _))
         have HDAB := Lib.hid hdab
         have HTK : Hid (bk.ins.take (j + 1) = bk.ins.take j ++ [x]) := by
          show _ = _
          rw [List.take_add_one, List.getElem?_eq_getElem hkb, ← hx]
          rfl
         have HLEN : Hid (((bk.ins.take j).map (renI a)).length = j) := by show _ = _; rw [List.length_map, List.length_take]; omega
         obtain ⟨CL, hCL⟩ : ∃ CL, CL = (bk.ins.take j).map (renI a) := ⟨_, rfl⟩
         rw [← hCL] at HB HLEN
         have HCL := Lib.hid hCL
         rw [← hx] at e0 e1 e2 e3 e4 e5
         rw [← HSB.out] at hsb2
         subst hsb2
         have hgiw : gi < wr.heap.size := Nat.lt_of_lt_of_le hgi hbe.size
         clear hx hdab hCL
         go_upto_region 21 with fail
         have hba : Below wr.heap.size wr (wr.alloc (.cells #[.int .i64 x.op, .int .i64 x.d, .int .i64 x.a, .int .i64 x.b, .int .i64 x.n, .slice x.sa x.sn x.sc] 47)) := (Below.refl _ _).alloc (Nat.le_refl _) _
         have HB2 := Lib.hid (HB.out.below hba)
         have HXA : Hid (Blk (wr.alloc (.cells #[.int .i64 x.op, .int .i64 x.d, .int .i64 x.a, .int .i64 x.b, .int .i64 x.n, .slice x.sa x.sn x.sc] 47)) wr.heap.size 47 (viC x)) := Blk.new wr (viC x) _
         have HXL : Hid (ws.heap.size ≤ wr.heap.size) := HB.out.be.size
         have HCBX : Hid (cb ≠ wr.heap.size) := by have := HB.out.cx.lt; show cb ≠ _; omega
         have HBBX : Hid (bb ≠ wr.heap.size) := by have := HB.out.bx.lt; show bb ≠ _; omega
         have HOX : Hid ((Value.slice ca CL.length cc).ownBlock ≠ some wr.heap.size) := fun e => Nat.lt_irrefl _ (HB.out.co.lt _ e).2
         obtain ⟨xb, hxb⟩ : ∃ z, z = wr.heap.size := ⟨_, rfl⟩
         rw [← hxb] at HXA HXL HCBX HBBX HOX ⊢
         clear e0 e1 e2 e3 e4 e5 hba HB hbe hxb hgiw
         generalize wr.alloc (.cells #[.int .i64 x.op, .int .i64 x.d, .int .i64 x.a, .int .i64 x.b, .int .i64 x.n, .slice x.sa x.sn x.sc] 47) = w8 at HB2 HXA ⊢
         have y0 := HXA.out.cell 0
         simp only [viC, List.getElem?_cons_zero] at y0
         have hxl := HXA.out.lt
         have HCC := Lib.hid fun wz => calls_any x.op wz
         obtain ⟨cbl, hcbl⟩ : ∃ b, b = callB x.op := ⟨_, rfl⟩
         rw [← hcbl] at HCC
         have HCBL := Lib.hid hcbl
         clear hcbl
         go_wp2_with fail
         refine (HCC.out w8).mono ?_
         rintro e wz ⟨rfl, hwz⟩
         rw [← hwz]
         clear hwz wz y0
         cases cbl with
         | true =>
          go_wp2_with fail
          go_ret
          exact ⟨rfl, HGI.out.be.trans (HB2.out.be.mono HGI.out.be.size)⟩
         | false =>
          have y1 : w8.cell? ⟨xb, 1, none⟩ = some (.int .i64 x.d) := HXA.out.cell 1
          have y2 : w8.cell? ⟨xb, 2, none⟩ = some (.int .i64 x.a) := HXA.out.cell 2
          have y3 : w8.cell? ⟨xb, 3, none⟩ = some (.int .i64 x.b) := HXA.out.cell 3
          have s1 := fun u : AfterR (KeepV xb) w8.drew => (World.cell?_of_block (a := ⟨xb, 1, none⟩) u.rel).trans y1
          have s2 := fun u : AfterR (KeepV xb) w8.drew => (World.cell?_of_block (a := ⟨xb, 2, none⟩) u.rel).trans y2
          have s3 := fun u : AfterR (KeepV xb) w8.drew => (World.cell?_of_block (a := ⟨xb, 3, none⟩) u.rel).trans y3
          have HB3 : Hid (BlkG ws w8.drew bb cb bk [.int .i64 0, .int .i64 0, .int .i64 0, .int .i64 0, .int .i64 0, .slice none 0 0] CL ca cc) := HB2.out.below (Below.refl w8.heap.size w8).drew
          have HXD : Hid (Blk w8.drew xb 47 (viC x)) := HXA.out
          have hbe8 : Below w.heap.size w w8.drew := HGI.out.be.trans (HB3.out.be.mono HGI.out.be.size)
          have hab8 : Blk w8.drew pb 34 (aCV a) := HGI.out.ab.below HB3.out.be HGI.out.ab.lt
          have HPD := Lib.hid (mplace_any HAO.out hbe8 hab8 HGA.out (by omega) x.d HDAB.out.1)
          have HPAx := Lib.hid (mplace_any HAO.out hbe8 hab8 HGA.out (by omega) x.a HDAB.out.2.1)
          have HPBx := Lib.hid (mplace_any HAO.out hbe8 hab8 HGA.out (by omega) x.b HDAB.out.2.2)
          obtain ⟨vd, hvd⟩ : ∃ v, v = plL a x.d := ⟨_, rfl⟩
          obtain ⟨va, hva⟩ : ∃ v, v = plL a x.a := ⟨_, rfl⟩
          obtain ⟨vb, hvb⟩ : ∃ v, v = plL a x.b := ⟨_, rfl⟩
          rw [← hvd] at HPD
          rw [← hva] at HPAx
          rw [← hvb] at HPBx
          have HRX : Hid (viC (renI a x) = [.int .i64 x.op, .int .i64 vd, .int .i64 va, .int .i64 vb, .int .i64 x.n, .slice x.sa x.sn x.sc]) := by show _ = _; rw [hvd, hva, hvb]; rfl
          clear y1 y2 y3 hbe8 hab8 hvd hva hvb HXA HB2
          go_upto_region 23 with fail
          go_cut [] from 81 to 95 (fun wx => Blk wx xb 47 (viC (renI a x)) ∧ BlkG ws wx bb cb bk [.int .i64 0, .int .i64 0, .int .i64 0, .int .i64 0, .int .i64 0, .slice none 0 0] CL ca cc)
          case first => as_aux_lemma =>
           refine wp_region_eagerRT (KeepV xb) [(0, true), (1, true), (2, true), (4, true), (5, true), (6, true), (8, true), (9, true), (10, true), (3, false), (12, true), (7, false), (11, false), (13, false), (14, true), (15, false), (16, true), (17, false)] (by kernel_rfl) (by kernel_rfl) ?_
           repeat (refine eagR_readT rfl ?_; go_big_quiet_step (fail); refine wpQuiet_nil ?_)
           clear s1 s2 s3
           refine eagR_doesT rfl rfl ?_
           intro K hK
           go_simp
           refine HPD.out.mono ?_
           rintro e wz ⟨rfl, hwz⟩
           rw [hwz]
           refine hK _ _ (fun _ => rfl) ?_
           clear hK K hwz wz
           go_simp
           repeat (refine eagR_readT rfl ?_; go_big_quiet_step (fail); refine wpQuiet_nil ?_)
           refine eagR_doesT rfl rfl ?_
           intro K hK
           go_simp
           refine HPAx.out.mono ?_
           rintro e wz ⟨rfl, hwz⟩
           rw [hwz]
           refine hK _ _ (fun _ => rfl) ?_
           clear hK K hwz wz
           go_simp
           refine eagR_doesT rfl rfl ?_
           intro K hK
           go_simp
           refine HPBx.out.mono ?_
           rintro e wz ⟨rfl, hwz⟩
           rw [hwz]
           refine hK _ _ (fun _ => rfl) ?_
           clear hK K hwz wz HPD HPAx HPBx
           go_simp
           have hxl2 := HXD.out.lt
           have f1 := HXD.out.free 1
           have f2 := HXD.out.free 2
           have f3 := HXD.out.free 3
           have y1 : w8.drew.cell? ⟨xb, 1, none⟩ = some (.int .i64 x.d) := HXD.out.cell 1
           have y2 : w8.drew.cell? ⟨xb, 2, none⟩ = some (.int .i64 x.a) := HXD.out.cell 2
           have y3 : w8.drew.cell? ⟨xb, 3, none⟩ = some (.int .i64 x.b) := HXD.out.cell 3
           generalize w8.drew = w9 at HB3 HXD hxl2 f1 f2 f3 y1 y2 y3 ⊢
           refine eagR_freeT rfl rfl (by kernel_rfl) ?_
           intro K hK
           go_simp
           refine hK _ _ ?_
           clear hK K
           go_simp
           repeat (refine eagR_readT rfl ?_; go_big_quiet_step (fail); refine wpQuiet_nil ?_)
           refine eagR_freeT rfl rfl (by kernel_rfl) ?_
           intro K hK
           go_simp
           refine hK _ _ ?_
           clear hK K
           go_simp
           repeat (refine eagR_readT rfl ?_; go_big_quiet_step (fail); refine wpQuiet_nil ?_)
           refine eagR_freeT rfl rfl (by kernel_rfl) ?_
           intro K hK
           go_simp
           refine hK _ _ ?_
           clear hK K
           go_simp
           refine eagR_endT ?_
           have hx1 : Blk (((w9.setCell ⟨xb, 1, none⟩ (.int .i64 vd)).setCell ⟨xb, 2, none⟩ (.int .i64 va)).setCell ⟨xb, 3, none⟩ (.int .i64 vb)) xb 47 (viC (renI a x)) := by
            have := ((HXD.out.set 1 (.int .i64 vd)).set 2 (.int .i64 va)).set 3 (.int .i64 vb)
            rw [HRX.out]
            exact this
           have hrx : RestV (fun q => q = xb) w9 (((w9.setCell ⟨xb, 1, none⟩ (.int .i64 vd)).setCell ⟨xb, 2, none⟩ (.int .i64 va)).setCell ⟨xb, 3, none⟩ (.int .i64 vb)) := (((RestV.refl (fun q => q = xb) w9).set (p := ⟨xb, 1, none⟩) rfl _).set (p := ⟨xb, 2, none⟩) rfl _).set (p := ⟨xb, 3, none⟩) rfl _
           have hb4 : BlkG ws (((w9.setCell ⟨xb, 1, none⟩ (.int .i64 vd)).setCell ⟨xb, 2, none⟩ (.int .i64 va)).setCell ⟨xb, 3, none⟩ (.int .i64 vb)) bb cb bk [.int .i64 0, .int .i64 0, .int .i64 0, .int .i64 0, .int .i64 0, .slice none 0 0] CL ca cc :=
            ⟨HB3.out.be.trans (hrx.toBelow (fun q e => by rw [e]; exact HXL.out) HB3.out.be.size), HB3.out.bx.of_heap (hrx.block _ HB3.out.bx.lt HBBX.out), HB3.out.cx.of_heap (hrx.block _ HB3.out.cx.lt HCBX.out), ownG_kept HB3.out.co fun q hq => hrx.block q (HB3.out.co.lt q hq).2 (fun e => HOX.out (by rw [← e]; exact hq)), HB3.out.lo⟩
           clear f1 f2 f3 y1 y2 y3 hxl2 HXD HB3 hrx
           go_wp2_with fail
           go_meet
           exact ⟨hx1, hb4⟩
          case rest => as_aux_lemma =>
           obtain ⟨hx1, hb4⟩ := hcut
           obtain ⟨wx, hwx⟩ : ∃ z, z = wc := ⟨_, rfl⟩
           rw [← hwx] at hx1 hb4 ⊢
           clear hwx
           have HX4 := Lib.hid hx1
           have HB4 := Lib.hid hb4
           clear hx1 hb4 HXD HB3 HPD HPAx HPBx
           have z0 : wx.cell? ⟨xb, 0, none⟩ = some (.int .i64 x.op) := by rw [HX4.out.cell, HRX.out]; rfl
           have z1 : wx.cell? ⟨xb, 1, none⟩ = some (.int .i64 vd) := by rw [HX4.out.cell, HRX.out]; rfl
           have z2 : wx.cell? ⟨xb, 2, none⟩ = some (.int .i64 va) := by rw [HX4.out.cell, HRX.out]; rfl
           have z3 : wx.cell? ⟨xb, 3, none⟩ = some (.int .i64 vb) := by rw [HX4.out.cell, HRX.out]; rfl
           have z4 : wx.cell? ⟨xb, 4, none⟩ = some (.int .i64 x.n) := by rw [HX4.out.cell, HRX.out]; rfl
           have z5 : wx.cell? ⟨xb, 5, none⟩ = some (.slice x.sa x.sn x.sc) := by rw [HX4.out.cell, HRX.out]; rfl
           have hx4l := HX4.out.lt
           have q0 : wx.cell? ⟨cb, 0, none⟩ = some (.slice ca j cc) := by rw [HB4.out.cx.cell, HLEN.out]; rfl
           have hcbl := HB4.out.cx.lt
           have hown := HB4.out.co
           rw [HLEN.out] at hown
           have hsz0 := HB4.out.be.size
           have hnew := (Blk.new wx [.int .i64 x.op, .int .i64 vd, .int .i64 va, .int .i64 vb, .int .i64 x.n, .slice x.sa x.sn x.sc] 47).cell
           have hj4096 : j < 4096 := by omega
           go_wp2_with (first | (refine wpList_buildSlice rfl 41 47 1 _ rfl #[.int .i64 x.op, .int .i64 vd, .int .i64 va, .int .i64 vb, .int .i64 x.n, .slice x.sa x.sn x.sc] iv _ Try.underlying41 hiv hzv (by rw [hzs]; decide) (by rw [hzs]; decide) (by rw [Array.toList_map]; exact fillVI x.op vd va vb x.n x.sa x.sn x.sc _ hzs) ?_) | (at_builtin; refine wpList_append_lies _ rfl _ _ 41 rfl ws.heap.size 47 iv (.agg #[.int .i64 0, .int .i64 0, .int .i64 0, .int .i64 0, .int .i64 0, .slice none 0 0]) 6 64 Try.underlying41 hiv hzv hzs hzy rfl (by decide) _ j _ rfl (hown.alloc _) ⟨wx.heap.size, 0, none⟩ 1 1 [.int .i64 x.op, .int .i64 vd, .int .i64 va, .int .i64 vb, .int .i64 x.n, .slice x.sa x.sn x.sc] rfl rfl ?i2 ?i3 (by decide) ?i4 ?i5 ?i6 _ rfl ?_))
           case i2 => intro jj u hju; rw [Addr.add_lit, Nat.zero_add]; exact (hnew jj).trans hju
           case i3 => intro u hu; simp at hu; rcases hu with rfl | rfl | rfl | rfl | rfl | rfl <;> rfl
           case i4 => unfold maxLen; omega
           case i5 => omega
           case i6 => rw [World.size_alloc]; omega
           intro g9 cap9 w11 ho hg hat hlt9
           have hbw : Below wx.heap.size wx (wx.alloc (.cells #[.int .i64 x.op, .int .i64 vd, .int .i64 va, .int .i64 vb, .int .i64 x.n, .slice x.sa x.sn x.sc] 47)) := (Below.refl _ _).alloc (Nat.le_refl _) _
           have hb5 := HB4.out.below hbw
           rw [← HLEN.out, ← HRX.out] at ho
           rw [← HLEN.out] at hg
           have hcx := hb5.cx.of_heap (hg.block cb hb5.cx.lt fun e => own_tyV hb5.co hb5.cx (by decide) e.symm)
           have hp := hb5.push ho hg
           rw [HLEN.out] at hp
           have v0 := hcx.free 0
           have v0c : w11.cell? ⟨cb, 0, none⟩ = some (.slice ca j cc) := by rw [hcx.cell, HLEN.out]; rfl
           have hcl11 := hcx.lt
           have HP := Lib.hid hp
           have HAPP : Hid (CL ++ [renI a x] = (bk.ins.take (j + 1)).map (renI a)) := by show _ = _; rw [HTK.out, List.map_append, HCL.out]; rfl
           have HNJ2 : Hid (∀ y ∈ bk.ins.take (j + 1), callB y.op = false) := fun y hy => by
            rw [HTK.out] at hy
            rcases List.mem_append.1 hy with h1 | h1
            ·exact HNJ.out y h1
            ·rw [List.mem_singleton.1 h1]; exact HCBL.out.symm
           clear hbw hb5 ho hg hat hlt9 hcx hp hnew hown hsz0 hcbl hx4l z0 z1 z2 z3 z4 z5 q0 HX4 HB4 HRX HOX HCBX HBBX HXL
           go_wp2_with fail
           go_roundw
           case rel => exact ⟨j + 1, _, _, by omega, by go_num, by rw [← HAPP.out]; exact HP.out, HNJ2.out⟩
           case measure => simp [intOf]; omega
        ·have ej : bk.sn = j := by omega
         have HALL : Hid (bk.ins.take j = bk.ins) := List.take_of_length_le (by omega)
         go_wp2_with fail
         go_meet
         rw [HALL.out] at HB HNJ
         exact ⟨_, _, HB.out, HNJ.out⟩
      case rest => as_aux_lemma =>
       obtain ⟨ca, cc, hb, hnc⟩ := hcut
       have HB := Lib.hid hb
       have HNI := Lib.hid hnc
       clear hb hnc HBG0
       obtain ⟨CL, hCL⟩ : ∃ CL, CL = bk.ins.map (renI a) := ⟨_, rfl⟩
       rw [← hCL] at HB
       have HCL := Lib.hid hCL
       have HCLN : Hid (CL.length = bk.sn) := by show _ = _; rw [hCL, List.length_map]; exact hbl
       clear hCL
       have b1 : wc.cell? ⟨bb, 1, none⟩ = some (.int .i64 bk.e.kind) := by rw [HB.out.bx.cell]; rfl
       have b2 : wc.cell? ⟨bb, 2, none⟩ = some (.int .i64 bk.e.op) := by rw [HB.out.bx.cell]; rfl
       have b3 : wc.cell? ⟨bb, 3, none⟩ = some (.int .i64 bk.e.a) := by rw [HB.out.bx.cell]; rfl
       have b4 : wc.cell? ⟨bb, 4, none⟩ = some (.int .i64 bk.e.b) := by rw [HB.out.bx.cell]; rfl
       have b5 : wc.cell? ⟨bb, 5, none⟩ = some (.int .i64 bk.e.n) := by rw [HB.out.bx.cell]; rfl
       have b6 : wc.cell? ⟨bb, 6, none⟩ = some (.slice bk.e.sa bk.e.sn bk.e.sc) := by rw [HB.out.bx.cell]; rfl
       have q1 : wc.cell? ⟨cb, 1, none⟩ = some (.int .i64 0) := by rw [HB.out.cx.cell]; rfl
       have q2 : wc.cell? ⟨cb, 2, none⟩ = some (.int .i64 0) := by rw [HB.out.cx.cell]; rfl
       have q3 : wc.cell? ⟨cb, 3, none⟩ = some (.int .i64 0) := by rw [HB.out.cx.cell]; rfl
       have q4 : wc.cell? ⟨cb, 4, none⟩ = some (.int .i64 0) := by rw [HB.out.cx.cell]; rfl
       have q5 : wc.cell? ⟨cb, 5, none⟩ = some (.int .i64 0) := by rw [HB.out.cx.cell]; rfl
       have q6 : wc.cell? ⟨cb, 6, none⟩ = some (.slice none 0 0) := by rw [HB.out.cx.cell]; rfl
       have f1 := HB.out.cx.free 1
       have f2 := HB.out.cx.free 2
       have f3 := HB.out.cx.free 3
       have f4 := HB.out.cx.free 4
       have f5 := HB.out.cx.free 5
       have f6 := HB.out.cx.free 6
       have hbbl := HB.out.bx.lt
       have hcbl := HB.out.cx.lt
       go_upto_region 27 with fail
       obtain ⟨w6, hw6⟩ : ∃ z, z = ((((((wc.setCell ⟨cb, 1, none⟩ (.int .i64 bk.e.kind)).setCell ⟨cb, 2, none⟩ (.int .i64 bk.e.op)).setCell ⟨cb, 3, none⟩ (.int .i64 bk.e.a)).setCell ⟨cb, 4, none⟩ (.int .i64 bk.e.b)).setCell ⟨cb, 5, none⟩ (.int .i64 bk.e.n)).setCell ⟨cb, 6, none⟩ (.slice bk.e.sa bk.e.sn bk.e.sc)) := ⟨_, rfl⟩
       have hrx : RestV (fun q => q = cb) wc w6 := by
        rw [hw6]
        exact ((((((RestV.refl (fun q => q = cb) wc).set (p := ⟨cb, 1, none⟩) rfl _).set (p := ⟨cb, 2, none⟩) rfl _).set (p := ⟨cb, 3, none⟩) rfl _).set (p := ⟨cb, 4, none⟩) rfl _).set (p := ⟨cb, 5, none⟩) rfl _).set (p := ⟨cb, 6, none⟩) rfl _
       have hcx : Blk w6 cb 45 (.slice ca CL.length cc :: veC bk.e) := by
        rw [hw6]
        exact (((((HB.out.cx.set 1 (.int .i64 bk.e.kind)).set 2 (.int .i64 bk.e.op)).set 3 (.int .i64 bk.e.a)).set 4 (.int .i64 bk.e.b)).set 5 (.int .i64 bk.e.n)).set 6 (.slice bk.e.sa bk.e.sn bk.e.sc)
       have HB2 : Hid (BlkG ws w6 bb cb bk (veC bk.e) CL ca cc) := ⟨HB.out.be.trans (hrx.toBelow (fun q e => by rw [e]; exact HB.out.lo.1) HB.out.be.size), HB.out.bx.of_heap (hrx.block _ HB.out.bx.lt HB.out.lo.2), hcx, ownG_kept HB.out.co fun q hq => hrx.block q (HB.out.co.lt q hq).2 (fun e => own_tyV HB.out.co HB.out.cx (by decide) (by rw [← e]; exact hq)), HB.out.lo⟩
       rw [← hw6]
       clear hw6 hrx hcx b1 b2 b5 b6 q1 q2 q3 q4 q5 q6 f1 f2 f3 f4 f5 f6 hbbl hcbl b3 b4 HB
       have b3 : w6.cell? ⟨bb, 3, none⟩ = some (.int .i64 bk.e.a) := by rw [HB2.out.bx.cell]; rfl
       have b4 : w6.cell? ⟨bb, 4, none⟩ = some (.int .i64 bk.e.b) := by rw [HB2.out.bx.cell]; rfl
       have s1 := fun u : AfterR (KeepV bb) w6.drew => (World.cell?_of_block (a := ⟨bb, 3, none⟩) u.rel).trans b3
       have s2 := fun u : AfterR (KeepV bb) w6.drew => (World.cell?_of_block (a := ⟨bb, 4, none⟩) u.rel).trans b4
       have HB3 : Hid (BlkG ws w6.drew bb cb bk (veC bk.e) CL ca cc) := HB2.out.below (Below.refl w6.heap.size w6).drew
       have hbe8 : Below w.heap.size w w6.drew := HGI.out.be.trans (HB3.out.be.mono HGI.out.be.size)
       have hab8 : Blk w6.drew pb 34 (aCV a) := HGI.out.ab.below HB3.out.be HGI.out.ab.lt
       have HPAx := Lib.hid (mplace_any HAO.out hbe8 hab8 HGA.out (by omega) bk.e.a HAB.out.1)
       have HPBx := Lib.hid (mplace_any HAO.out hbe8 hab8 HGA.out (by omega) bk.e.b HAB.out.2)
       obtain ⟨va, hva⟩ : ∃ v, v = plL a bk.e.a := ⟨_, rfl⟩
       obtain ⟨vb, hvb⟩ : ∃ v, v = plL a bk.e.b := ⟨_, rfl⟩
       rw [← hva] at HPAx
       rw [← hvb] at HPBx
       have HRE : Hid (veC (renE a bk.e) = [.int .i64 bk.e.kind, .int .i64 bk.e.op, .int .i64 va, .int .i64 vb, .int .i64 bk.e.n, .slice bk.e.sa bk.e.sn bk.e.sc]) := by show _ = _; rw [hva, hvb]; rfl
       clear b3 b4 hbe8 hab8 hva hvb HB2
       refine wp_region_eagerRT (KeepV bb) [(0, true), (1, true), (2, true), (3, true), (5, true), (6, true), (7, true), (8, true), (4, false), (10, true), (11, true), (9, false), (12, false), (13, true), (14, true), (15, false)] (by kernel_rfl) (by kernel_rfl) ?_
       repeat (refine eagR_readT rfl ?_; go_big_quiet_step (fail); refine wpQuiet_nil ?_)
       clear s1 s2
       refine eagR_doesT rfl rfl ?_
       intro K hK
       go_simp
       refine HPAx.out.mono ?_
       rintro e wz ⟨rfl, hwz⟩
       rw [hwz]
       refine hK _ _ (fun _ => rfl) ?_
       clear hK K hwz wz
       go_simp
       repeat (refine eagR_readT rfl ?_; go_big_quiet_step (fail); refine wpQuiet_nil ?_)
       refine eagR_doesT rfl rfl ?_
       intro K hK
       go_simp
       refine HPBx.out.mono ?_
       rintro e wz ⟨rfl, hwz⟩
       rw [hwz]
       refine hK _ _ (fun _ => rfl) ?_
       clear hK K hwz wz HPAx HPBx
       go_simp
       have hcl2 := HB3.out.cx.lt
       have f3 := HB3.out.cx.free 3
       have f4 := HB3.out.cx.free 4
       have q3 : w6.drew.cell? ⟨cb, 3, none⟩ = some (.int .i64 bk.e.a) := by rw [HB3.out.cx.cell]; rfl
       have q4 : w6.drew.cell? ⟨cb, 4, none⟩ = some (.int .i64 bk.e.b) := by rw [HB3.out.cx.cell]; rfl
       have hne := HB3.out.lo.2
       generalize w6.drew = w9 at HB3 hcl2 f3 f4 q3 q4 ⊢
       refine eagR_doesT rfl rfl ?_
       intro K hK
       go_simp
       refine hK _ _ (fun _ => Below.heap_setCell _ _ _ _ hne) ?_
       clear hK K
       go_simp
       repeat (refine eagR_readT rfl ?_; go_big_quiet_step (fail); refine wpQuiet_nil ?_)
       refine eagR_doesT rfl rfl ?_
       intro K hK
       go_simp
       refine hK _ _ (fun _ => Below.heap_setCell _ _ _ _ hne) ?_
       clear hK K
       go_simp
       refine eagR_endT ?_
       have hrx : RestV (fun q => q = cb) w9 ((w9.setCell ⟨cb, 3, none⟩ (.int .i64 va)).setCell ⟨cb, 4, none⟩ (.int .i64 vb)) := ((RestV.refl (fun q => q = cb) w9).set (p := ⟨cb, 3, none⟩) rfl _).set (p := ⟨cb, 4, none⟩) rfl _
       have hcx : Blk ((w9.setCell ⟨cb, 3, none⟩ (.int .i64 va)).setCell ⟨cb, 4, none⟩ (.int .i64 vb)) cb 45 (.slice ca CL.length cc :: veC (renE a bk.e)) := by
        rw [HRE.out]
        exact (HB3.out.cx.set 3 (.int .i64 va)).set 4 (.int .i64 vb)
       have hb4 : BlkG ws ((w9.setCell ⟨cb, 3, none⟩ (.int .i64 va)).setCell ⟨cb, 4, none⟩ (.int .i64 vb)) bb cb bk (veC (renE a bk.e)) CL ca cc := ⟨HB3.out.be.trans (hrx.toBelow (fun q e => by rw [e]; exact HB3.out.lo.1) HB3.out.be.size), HB3.out.bx.of_heap (hrx.block _ HB3.out.bx.lt HB3.out.lo.2), hcx, ownG_kept HB3.out.co fun q hq => hrx.block q (HB3.out.co.lt q hq).2 (fun e => own_tyV HB3.out.co HB3.out.cx (by decide) (by rw [← e]; exact hq)), HB3.out.lo⟩
       generalize (w9.setCell ⟨cb, 3, none⟩ (.int .i64 va)).setCell ⟨cb, 4, none⟩ (.int .i64 vb) = wx at hb4 ⊢
       have HB4 := Lib.hid hb4
       have HG4 := Lib.hid (HGI.out.below hb4.be)
       clear hb4 hrx hcx HB3 hcl2 f3 f4 q3 q4 hne
       obtain ⟨ib, hib2, hbz, hbs, hby⟩ : ∃ i, Try.prog.info? 45 = some i ∧ i.zero = some (.agg #[.slice none 0 0, .int .i64 0, .int .i64 0, .int .i64 0, .int .i64 0, .int .i64 0, .slice none 0 0]) ∧ i.size = 7 ∧ i.bytes = 88 := info_partsV (by kernel_rfl)
       have z0 : wx.cell? ⟨cb, 0, none⟩ = some (.slice ca bk.sn cc) := by rw [HB4.out.cx.cell, HCLN.out]; rfl
       have z1 : wx.cell? ⟨cb, 1, none⟩ = some (.int .i64 bk.e.kind) := by rw [HB4.out.cx.cell, HRE.out]; rfl
       have z2 : wx.cell? ⟨cb, 2, none⟩ = some (.int .i64 bk.e.op) := by rw [HB4.out.cx.cell, HRE.out]; rfl
       have z3 : wx.cell? ⟨cb, 3, none⟩ = some (.int .i64 va) := by rw [HB4.out.cx.cell, HRE.out]; rfl
       have z4 : wx.cell? ⟨cb, 4, none⟩ = some (.int .i64 vb) := by rw [HB4.out.cx.cell, HRE.out]; rfl
       have z5 : wx.cell? ⟨cb, 5, none⟩ = some (.int .i64 bk.e.n) := by rw [HB4.out.cx.cell, HRE.out]; rfl
       have z6 : wx.cell? ⟨cb, 6, none⟩ = some (.slice bk.e.sa bk.e.sn bk.e.sc) := by rw [HB4.out.cx.cell, HRE.out]; rfl
       have hcl4 := HB4.out.cx.lt
       have HGL : Hid (gl.length = i) := HGR.out.1
       have q3 : wx.cell? ⟨gb, 3, none⟩ = some (.slice ba i bc) := by rw [HG4.out.gx.cell, HGL.out]; rfl
       have hgbl := HG4.out.gx.lt
       have hown := HG4.out.bo
       rw [HGL.out] at hown
       have hsz0 := HG4.out.be.size
       have hnew := (Blk.new wx [.slice ca bk.sn cc, .int .i64 bk.e.kind, .int .i64 bk.e.op, .int .i64 va, .int .i64 vb, .int .i64 bk.e.n, .slice bk.e.sa bk.e.sn bk.e.sc] 45).cell
       have hi20 : i < 20 := by omega
       go_wp2_with (first | (refine wpList_buildSlice rfl 23 45 1 _ rfl #[.slice ca bk.sn cc, .int .i64 bk.e.kind, .int .i64 bk.e.op, .int .i64 va, .int .i64 vb, .int .i64 bk.e.n, .slice bk.e.sa bk.e.sn bk.e.sc] ib _ Try.underlying23 hib2 hbz (by rw [hbs]; decide) (by rw [hbs]; decide) (by rw [Array.toList_map]; exact fillVB bk.e.kind bk.e.op va vb bk.e.n bk.e.sa ca bk.e.sn bk.e.sc bk.sn cc _ hbs) ?_) | (at_builtin; refine wpList_append_lies _ rfl _ _ 23 rfl w.heap.size 45 ib (.agg #[.slice none 0 0, .int .i64 0, .int .i64 0, .int .i64 0, .int .i64 0, .int .i64 0, .slice none 0 0]) 7 88 Try.underlying23 hib2 hbz hbs hby rfl (by decide) _ i _ rfl (hown.alloc _) ⟨wx.heap.size, 0, none⟩ 1 1 [.slice ca bk.sn cc, .int .i64 bk.e.kind, .int .i64 bk.e.op, .int .i64 va, .int .i64 vb, .int .i64 bk.e.n, .slice bk.e.sa bk.e.sn bk.e.sc] rfl rfl ?j2 ?j3 (by decide) ?j4 ?j5 ?j6 _ rfl ?_))
       case j2 => intro jj u hju; rw [Addr.add_lit, Nat.zero_add]; exact (hnew jj).trans hju
       case j3 => intro u hu; simp at hu; rcases hu with rfl | rfl | rfl | rfl | rfl | rfl | rfl <;> rfl
       case j4 => unfold maxLen; omega
       case j5 => omega
       case j6 => rw [World.size_alloc]; omega
       intro g9 cap9 w11 ho hg hat hlt9
       have hbw : Below wx.heap.size wx (wx.alloc (.cells #[.slice ca bk.sn cc, .int .i64 bk.e.kind, .int .i64 bk.e.op, .int .i64 va, .int .i64 vb, .int .i64 bk.e.n, .slice bk.e.sa bk.e.sn bk.e.sc] 45)) := (Below.refl _ _).alloc (Nat.le_refl _) _
       have hg5 := HG4.out.below hbw
       have hVB : vbC (⟨ca, bk.sn, cc, CL, renE a bk.e⟩ : VB) = [.slice ca bk.sn cc, .int .i64 bk.e.kind, .int .i64 bk.e.op, .int .i64 va, .int .i64 vb, .int .i64 bk.e.n, .slice bk.e.sa bk.e.sn bk.e.sc] := by
        show _ :: veC (renE a bk.e) = _
        rw [HRE.out]
       have hin : (wx.alloc (.cells #[.slice ca bk.sn cc, .int .i64 bk.e.kind, .int .i64 bk.e.op, .int .i64 va, .int .i64 vb, .int .i64 bk.e.n, .slice bk.e.sa bk.e.sn bk.e.sc] 45)).ownsRow w.heap.size 47 6 (.slice (⟨ca, bk.sn, cc, CL, renE a bk.e⟩ : VB).sa (⟨ca, bk.sn, cc, CL, renE a bk.e⟩ : VB).ins.length (⟨ca, bk.sn, cc, CL, renE a bk.e⟩ : VB).sc) (⟨ca, bk.sn, cc, CL, renE a bk.e⟩ : VB).ins.length ((⟨ca, bk.sn, cc, CL, renE a bk.e⟩ : VB).ins.flatMap viC) ∧ (⟨ca, bk.sn, cc, CL, renE a bk.e⟩ : VB).sn = (⟨ca, bk.sn, cc, CL, renE a bk.e⟩ : VB).ins.length := ⟨ownG_base (ownG_below HB4.out.co hbw) HGI.out.be.size, HCLN.out.symm⟩
       rw [← HGL.out, ← hVB] at ho
       rw [← HGL.out] at hg
       have hgx := hg5.gx.of_heap (hg.block gb hg5.gx.lt fun e => own_tyV hg5.bo hg5.gx (by decide) e.symm)
       have hp := hg5.pushB hin ho hg
       rw [HGL.out] at hp
       have v3 := hgx.free 3
       have v3c : w11.cell? ⟨gb, 3, none⟩ = some (.slice ba i bc) := by rw [hgx.cell, HGL.out]; rfl
       have hgl11 := hgx.lt
       have HP := Lib.hid hp
       have HGR2 : Hid (GenR f a (i + 1) (gl ++ [(⟨ca, bk.sn, cc, CL, renE a bk.e⟩ : VB)])) := HGR.out.snoc (by show CL = _; rw [HCL.out, HBK.out]) (by show renE a bk.e = _; rw [HBK.out])
       have HNC2 : Hid (∀ j, j < i + 1 → ∀ x ∈ (f.blk j).ins, callB x.op = false) := fun j hj x hx => by
        by_cases e : j = i
        ·rw [e, ← HBK.out] at hx; exact HNI.out x hx
        ·exact HNC.out j (by omega) x hx
       clear hbw hg5 hVB hin ho hg hat hlt9 hgx hp hnew hown hsz0 hcl4 hgbl z0 z1 z2 z3 z4 z5 z6 q3 HG4 HB4 HGR HNC HRE hi20
       go_wp2_with fail
       go_roundw
       case rel => exact ⟨i + 1, _, _, _, by omega, by go_num, HP.out, HGR2.out, HNC2.out⟩
       case measure => simp [intOf]; omega
     ·have ei : i = nb := by omega
      rw [ei] at HGR HNC
      go_wp2_with fail
      go_meet
      exact ⟨_, _, _, HGI.out, HGR.out, HNC.out⟩
   case rest => as_aux_lemma =>
    obtain ⟨gl, ba, bc, hgi, hgr, hnc⟩ := hcut
    have HGI := Lib.hid hgi
    have HGR := Lib.hid hgr
    have HNC := Lib.hid hnc
    clear hgi hgr hnc HGJ
    obtain ⟨ws, hws⟩ : ∃ x, x = wc := ⟨_, rfl⟩
    rw [← hws] at HGI ⊢
    clear hws
    have c1 : ws.cell? ⟨pf, 1, none⟩ = some (.slice pa pn f.pc) := by rw [HGI.out.fb.cell, HPA.out, HPN.out]; rfl
    have hpl5 := HGI.out.fb.lt
    go_upto_block 6 with fail
    clear c1 hpl5
    go_cut [16, 17, 18] from 130 (fun v16 v17 v18 wx => ∃ (la : Option Addr) (lc : Nat) (L : List Int), v16 = .slice la pn lc ∧ L.length = pn ∧ (∀ z ∈ L, S32 z) ∧ Below ws.heap.size ws wx ∧ wx.ownsRow ws.heap.size 3 1 (.slice la pn lc) pn (L.map (Value.int .i64)))
    case first => as_aux_lemma =>
     go_wp2_with fail
     go_loopw [16, 130] (fun u16 u wx => ∃ (i : Nat) (la : Option Addr) (lc : Nat) (L : List Int), i ≤ pn ∧ u = .int .i64 (i : Int) ∧ u16 = .slice la i lc ∧ L.length = i ∧ (∀ z ∈ L, S32 z) ∧ Below ws.heap.size ws wx ∧ wx.ownsRow ws.heap.size 3 1 (.slice la i lc) i (L.map (Value.int .i64))) (fun _ u _ => pn - (intOf u).toNat)
     case atStart => exact ⟨0, none, 0, [], Nat.zero_le _, rfl, rfl, rfl, (fun z hz => (by cases hz)), Below.refl _ _, World.ownsRow_nil _ _ _ _⟩
     case round =>
      obtain ⟨i, la, lc, L, hi, rfl, rfl, hLl, hLs, hbe, hown⟩ := hrel
      by_cases hlt : i < pn
      ·have HBE := Lib.hid hbe
       have HLL := Lib.hid hLl
       have HLS := Lib.hid hLs
       have hsz0 := hbe.size
       have HOWN := Lib.hid hown
       have hrl : args.length = rn := by simpa using HARG.out.1.count
       have hfin : ∀ v : Int, S32 v → ∀ (g9 cap9 : Nat) (w11 : World), w11.ownsRow ws.heap.size 3 1 (.slice (some ⟨g9, 0, none⟩) (i + 1) cap9) (i + 1) (L.map (Value.int .i64) ++ [.int .i64 v]) → (wr.alloc (.cells #[.int .i64 v] 3)).grownBy w11 (Value.slice la i lc).ownBlock → ((L ++ [v]).length = i + 1 ∧ (∀ z ∈ L ++ [v], S32 z) ∧ Below ws.heap.size ws w11 ∧ w11.ownsRow ws.heap.size 3 1 (.slice (some ⟨g9, 0, none⟩) (i + 1) cap9) (i + 1) ((L ++ [v]).map (Value.int .i64))) := fun v hv g9 cap9 w11 ho hg => by
        refine ⟨by rw [List.length_append, HLL.out]; rfl, fun z hz => ?_, ?_, ?_⟩
        ·rcases List.mem_append.1 hz with h1 | h1
         ·exact HLS.out z h1
         ·rw [List.mem_singleton.1 h1]; exact hv
        ·exact (HBE.out.alloc HBE.out.size _).grown hg (by rw [World.size_alloc]; have := HBE.out.size; omega) fun q hq => (HOWN.out.lt q hq).1
        ·rw [List.map_append]; exact ho
       have HFIN := Lib.hid hfin
       clear hfin hbe hLl hLs hown
       by_cases hir : i < rn
       ·obtain ⟨gr, or_, hra, hgr, hrc⟩ := HARG.out.1.ints (by omega)
        have hmx := HARG.out.1.max
        have hle := HARG.out.1.le
        have hbew : Below w.heap.size w wr := HGI.out.be.trans (HBE.out.mono HGI.out.be.size)
        have k1 := (hbew.cell (p := ⟨gr, or_ + i, none⟩) hgr).trans (hrc i (by omega))
        have hgw := Nat.lt_of_lt_of_le hgr hbew.size
        obtain ⟨z, hz⟩ : ∃ z, z = args[i]'(by omega) := ⟨_, rfl⟩
        rw [← hz] at k1
        have HSMALL := Lib.hid fun wz => small_any z wz
        obtain ⟨v, hv⟩ : ∃ v, v = wrap32 z := ⟨_, rfl⟩
        rw [← hv] at HSMALL
        have HV : Hid (S32 v) := by show S32 v; rw [hv]; exact wrap32_bd z
        have hirI : (i : Int) < (rn : Int) := by omega
        subst hra
        clear hz hv hrc hbew hrl
        go_wp2_with fail
        refine (HSMALL.out wr).mono ?_
        rintro e wz ⟨rfl, hwz⟩
        rw [← hwz]
        clear hwz wz k1
        have hown := HOWN.out
        have hnew := (Blk.new wr [.int .i64 v] 3).cell
        go_wp2_with (at_builtin; refine wpList_append_lies _ rfl _ _ 22 rfl ws.heap.size 3 i0 (.int .i64 0) 1 8 Try.underlying22 hi0 hz0 hz1 hz2 rfl (by decide) _ i _ rfl (hown.alloc _) ⟨wr.heap.size, 0, none⟩ 1 1 [.int .i64 v] rfl rfl ?k2 ?k3 (by decide) ?k4 ?k5 ?k6 _ rfl ?_)
        case k2 => intro jj u hju; rw [Addr.add_lit, Nat.zero_add]; exact (hnew jj).trans hju
        case k3 => intro u hu; simp at hu; rw [hu]; rfl
        case k4 => unfold maxLen; omega
        case k5 => omega
        case k6 => rw [World.size_alloc]; omega
        intro g9 cap9 w11 ho hg hat hlt9
        have hq := HFIN.out v HV.out g9 cap9 w11 ho hg
        have HQ := Lib.hid hq
        clear hq ho hg hat hlt9 hown hnew
        go_wp2_with fail
        go_roundw
        case rel => exact ⟨i + 1, _, _, _, by omega, by go_num, rfl, HQ.out⟩
        case measure => simp [intOf]; omega
       ·have hirI : ¬ (i : Int) < (rn : Int) := by omega
        have hown := HOWN.out
        have hnew := (Blk.new wr [.int .i64 3] 3).cell
        clear hrl
        go_wp2_with (at_builtin; refine wpList_append_lies _ rfl _ _ 22 rfl ws.heap.size 3 i0 (.int .i64 0) 1 8 Try.underlying22 hi0 hz0 hz1 hz2 rfl (by decide) _ i _ rfl (hown.alloc _) ⟨wr.heap.size, 0, none⟩ 1 1 [.int .i64 3] rfl rfl ?l2 ?l3 (by decide) ?l4 ?l5 ?l6 _ rfl ?_)
        case l3 => rfl
        case l4 => unfold maxLen; omega
        case l5 => omega
        case l6 => omega
        intro g9 cap9 w11 ho hg hat hlt9
        have hq := HFIN.out 3 (by unfold S32; omega) g9 cap9 w11 ho hg
        have HQ := Lib.hid hq
        clear hq ho hg hat hlt9 hown hnew
        go_wp2_with fail
        go_roundw
        case rel => exact ⟨i + 1, _, _, _, by omega, by go_num, rfl, HQ.out⟩
        case measure => simp [intOf]; omega
      ·have ei : i = pn := by omega
       rw [ei] at hLl hown ⊢
       have HQ : Hid (L.length = pn ∧ (∀ z ∈ L, S32 z) ∧ Below ws.heap.size ws wr ∧ wr.ownsRow ws.heap.size 3 1 (.slice la pn lc) pn (L.map (Value.int .i64))) := ⟨hLl, hLs, hbe, hown⟩
       clear hLl hLs hbe hown ei hlt
       go_wp2_with fail
       go_meet
       exact ⟨_, _, _, rfl, HQ.out⟩
    case rest => as_aux_lemma =>
     obtain ⟨la, lc, L, rfl, hLl, hLs, hbe, hown⟩ := hcut
     have HGK := Lib.hid (HGI.out.below hbe)
     have HCL : Hid (Came wc la pn lc 1 (L.map intCells)) := by
      have h1 := came_ownI (p := la) (c := lc) (zs := L) (by rw [hLl]; exact hown)
      rw [hLl] at h1
      exact h1
     have HLS := Lib.hid hLs
     clear hLl hLs hbe hown
     obtain ⟨wd, hwd⟩ : ∃ x, x = wc := ⟨_, rfl⟩
     rw [← hwd] at HGK HCL ⊢
     clear hwd HGI
     have HFE : Hid (fnE f = 0) := HSMT.out.2.2
     have HVF : Hid (VmF f n nb) := fn_vmF HOK.out HFE.out HF.out (by omega) HNC.out
     have HVG : Hid (VmF (genF (12 + a.k) p' pc' PS ba bc gl) (12 + k) nb) := by
      show VmF _ _ _
      rw [HPS.out]
      exact gen_vmF HOK.out HFE.out HF.out HGA.out HVF.out HGR.out HKK.out hkb
     have HGOK : Hid ((genF (12 + a.k) p' pc' PS ba bc gl).Ok wd) := by
      have h1 := HGK.out
      rw [HPS.out] at h1 ⊢
      exact h1.ok HOK.out HFE.out HF.out HGA.out HGR.out
     have HFOK := Lib.hid (HF.out.below HGK.out.be)
     have HPSL : Hid (PS.length = pn) := by show _ = _; rw [HPS.out, List.length_map]; exact HPLEN.out
     have HGLL : Hid (gl.length = nb) := HGR.out.1
     obtain ⟨ig, hig, hgz, hgs, hgy⟩ : ∃ i, Try.prog.info? 25 = some i ∧ i.zero = some (.agg #[.int .i64 0, .slice none 0 0, .int .i64 0, .slice none 0 0]) ∧ i.size = 4 ∧ i.bytes = 64 := info_partsV (by kernel_rfl)
     have hmk : ∀ w : World, (Instr.makeSlice 22 (.int .i64 64) (.int .i64 64)).run Try.prog w = .ok (.slice (some ⟨w.heap.size, 0, none⟩) 64 64) (w.alloc (.cells (rowL 64 fun _ => .int .i64 0).toArray 3)) := fun w => run_make_rep (P := Try.prog) 22 3 (.int .i64 0) 8 Try.underlying22 Try.infoT3 rfl 64 (by omega) (by omega) w
     have c0 : wd.cell? ⟨pf, 0, none⟩ = some (.int .i64 f.name) := by rw [HGK.out.fb.cell]; rfl
     have c1 : wd.cell? ⟨pf, 1, none⟩ = some (.slice pa pn f.pc) := by rw [HGK.out.fb.cell, HPA.out, HPN.out]; rfl
     have c2 : wd.cell? ⟨pf, 2, none⟩ = some (.int .i64 (n : Int)) := by rw [HGK.out.fb.cell, ← HOK.out.regs]; rfl
     have c3 : wd.cell? ⟨pf, 3, none⟩ = some (.slice sa nb f.sc) := by rw [HGK.out.fb.cell, HSA.out, ← HSN.out]; rfl
     have hpl5 := HGK.out.fb.lt
     go_upto_region 39 with fail
     go_cut [19] from 147 (fun v wx => ∃ (q fb gm : Nat), v = .pointer (some ⟨q, 0, none⟩) ∧ VmAt wd wx q fb f gm 64 none 0 0 s500)
     case first => as_aux_lemma =>
      have r0 := fun u : AfterR (Below wd.heap.size) wd.drew => (u.rel.cell (p := ⟨pf, 0, none⟩) hpl5).trans c0
      have r1 := fun u : AfterR (Below wd.heap.size) wd.drew => (u.rel.cell (p := ⟨pf, 1, none⟩) hpl5).trans c1
      have r2 := fun u : AfterR (Below wd.heap.size) wd.drew => (u.rel.cell (p := ⟨pf, 2, none⟩) hpl5).trans c2
      have r3 := fun u : AfterR (Below wd.heap.size) wd.drew => (u.rel.cell (p := ⟨pf, 3, none⟩) hpl5).trans c3
      refine wp_region_forks (Below wd.heap.size) 7 rfl (by kernel_rfl) ?_
      refine forks_read 0 rfl (by kernel_rfl) ?_
      go_big_quiet_step (fail)
      refine wpQuiet_nil ?_
      clear r0 r1 r2 r3 c0 c1 c2 c3
      have HFC : Hid (fCV f = [.int .i64 f.name, .slice pa pn f.pc, .int .i64 (n : Int), .slice sa nb f.sc]) := by show _ = _; rw [HPA.out, HPN.out, HSA.out, ← HOK.out.regs, ← HSN.out]; rfl
      refine forks_two 1 2 (by kernel_rfl) ?_ ?_
      ·refine does_intro rfl rfl ?_
       intro K hK
       refine wp_buildSlice 50 25 1 _ rfl #[.int .i64 f.name, .slice pa pn f.pc, .int .i64 (n : Int), .slice sa nb f.sc] ig _ Try.underlying50 hig hgz (by rw [hgs]; decide) (by rw [hgs]; decide) (by rw [Array.toList_map]; exact fillVF f.name n pa sa pn f.pc nb f.sc _ hgs) ?_
       refine hK _ _ ((Below.refl wd.drew.heap.size wd.drew).alloc (Nat.le_refl _) _) ?_
       clear hK K
       go_simp
       refine forks_one 2 (by kernel_rfl) ?_
       refine does_intro rfl rfl ?_
       intro K hK
       go_simp
       refine hK _ _ ((Below.refl _ _).alloc (by simp) _) ?_
       clear hK K
       go_simp
       refine forks_read 3 rfl (by kernel_rfl) ?_
       go_big_quiet_step (fail)
       refine wpQuiet_nil ?_
       refine forks_read 4 rfl (by kernel_rfl) ?_
       go_big_quiet_step (fail)
       refine wpQuiet_nil ?_
       refine forks_one 5 (by kernel_rfl) ?_
       refine does_intro rfl rfl ?_
       intro K hK
       go_simp
       refine hK _ _ ((Below.refl _ _).alloc (by simp; omega) _) ?_
       clear hK K
       go_simp
       refine forks_read 6 rfl (by kernel_rfl) ?_
       go_big_quiet_step (fail)
       refine wpQuiet_nil ?_
       refine forks_end (by kernel_rfl) ?_
       go_wp2_with fail
       go_meet
       have hb3 : ∀ o0 o1 o2, Below wd.heap.size wd (((wd.alloc o0).alloc o1).alloc o2).drew := fun o0 o1 o2 => ((((Below.refl _ wd).alloc (Nat.le_refl _) o0).alloc (by simp) o1).alloc (by simp; omega) o2).drew
       refine ⟨_, wd.heap.size + 0, wd.heap.size + 1, rfl, vm_start (hb3 _ _ _) (by omega) (by omega) ?_ ?_ ?_⟩
       ·exact (three_heapC wd _ _ _ 2 (by decide)).trans rfl
       ·exact (three_heapC wd _ _ _ 1 (by decide)).trans rfl
       ·rw [HFC.out]
        exact (three_heapC wd _ _ _ 0 (by decide)).trans rfl
      ·refine does_intro rfl rfl ?_
       intro K hK
       go_simp
       refine hK _ _ ((Below.refl wd.drew.heap.size wd.drew).alloc (Nat.le_refl _) _) ?_
       clear hK K
       go_simp
       refine forks_read 3 rfl (by kernel_rfl) ?_
       go_big_quiet_step (fail)
       refine wpQuiet_nil ?_
       refine forks_one 1 (by kernel_rfl) ?_
       refine does_intro rfl rfl ?_
       intro K hK
       refine wp_buildSlice 50 25 1 _ rfl #[.int .i64 f.name, .slice pa pn f.pc, .int .i64 (n : Int), .slice sa nb f.sc] ig _ Try.underlying50 hig hgz (by rw [hgs]; decide) (by rw [hgs]; decide) (by rw [Array.toList_map]; exact fillVF f.name n pa sa pn f.pc nb f.sc _ hgs) ?_
       refine hK _ _ ((Below.refl _ _).alloc (by simp) _) ?_
       clear hK K
       go_simp
       refine forks_read 4 rfl (by kernel_rfl) ?_
       go_big_quiet_step (fail)
       refine wpQuiet_nil ?_
       refine forks_one 5 (by kernel_rfl) ?_
       refine does_intro rfl rfl ?_
       intro K hK
       go_simp
       refine hK _ _ ((Below.refl _ _).alloc (by simp; omega) _) ?_
       clear hK K
       go_simp
       refine forks_read 6 rfl (by kernel_rfl) ?_
       go_big_quiet_step (fail)
       refine wpQuiet_nil ?_
       refine forks_end (by kernel_rfl) ?_
       go_wp2_with fail
       go_meet
       have hb3 : ∀ o0 o1 o2, Below wd.heap.size wd (((wd.alloc o0).alloc o1).alloc o2).drew := fun o0 o1 o2 => ((((Below.refl _ wd).alloc (Nat.le_refl _) o0).alloc (by simp) o1).alloc (by simp; omega) o2).drew
       refine ⟨_, wd.heap.size + 1, wd.heap.size + 0, rfl, vm_start (hb3 _ _ _) (by omega) (by omega) ?_ ?_ ?_⟩
       ·exact (three_heapC wd _ _ _ 2 (by decide)).trans rfl
       ·exact (three_heapC wd _ _ _ 0 (by decide)).trans rfl
       ·rw [HFC.out]
        exact (three_heapC wd _ _ _ 1 (by decide)).trans rfl
     case rest => as_aux_lemma =>
      obtain ⟨qx, fx, gx, rfl, hvx⟩ := hcut
      have HVX := Lib.hid hvx
      clear hvx
      obtain ⟨we, hwe⟩ : ∃ x, x = wc := ⟨_, rfl⟩
      rw [← hwe] at HVX ⊢
      clear hwe c0 c1 c2 c3
      have HGL := Lib.hid (HGK.out.below HVX.out.be)
      have c0 : we.cell? ⟨gb, 0, none⟩ = some (.int .i64 0) := by rw [HGL.out.gx.cell]; rfl
      have c1 : we.cell? ⟨gb, 1, none⟩ = some (.slice p' pn pc') := by rw [HGL.out.gx.cell, ← HPSL.out]; rfl
      have c2 : we.cell? ⟨gb, 2, none⟩ = some (.int .i64 (12 + (k : Int))) := by rw [HGL.out.gx.cell, ← HKK.out]; rfl
      have c3 : we.cell? ⟨gb, 3, none⟩ = some (.slice ba nb bc) := by rw [HGL.out.gx.cell, ← HGLL.out]; rfl
      have hgl5 := HGL.out.gx.lt
      go_upto_region 40 with fail
      go_cut [20] from 153 (fun v wx => ∃ (q fb gm : Nat), v = .pointer (some ⟨q, 0, none⟩) ∧ VmAt wd wx q fb (genF (12 + a.k) p' pc' PS ba bc gl) gm 64 none 0 0 s500 ∧ Below we.heap.size we wx ∧ we.heap.size ≤ q ∧ we.heap.size ≤ gm ∧ we.heap.size ≤ fb)
      case first => as_aux_lemma =>
       have r0 := fun u : AfterR (Below we.heap.size) we.drew => (u.rel.cell (p := ⟨gb, 0, none⟩) hgl5).trans c0
       have r1 := fun u : AfterR (Below we.heap.size) we.drew => (u.rel.cell (p := ⟨gb, 1, none⟩) hgl5).trans c1
       have r2 := fun u : AfterR (Below we.heap.size) we.drew => (u.rel.cell (p := ⟨gb, 2, none⟩) hgl5).trans c2
       have r3 := fun u : AfterR (Below we.heap.size) we.drew => (u.rel.cell (p := ⟨gb, 3, none⟩) hgl5).trans c3
       refine wp_region_forks (Below we.heap.size) 7 rfl (by kernel_rfl) ?_
       refine forks_read 0 rfl (by kernel_rfl) ?_
       go_big_quiet_step (fail)
       refine wpQuiet_nil ?_
       clear r0 r1 r2 r3 c0 c1 c2 c3
       have HFC : Hid (fCV (genF (12 + a.k) p' pc' PS ba bc gl) = [.int .i64 0, .slice p' pn pc', .int .i64 (12 + (k : Int)), .slice ba nb bc]) := by show ([.int .i64 0, .slice p' PS.length pc', .int .i64 (12 + a.k), .slice ba gl.length bc] : List Value) = _; rw [HPSL.out, HGLL.out, HKK.out]
       refine forks_two 1 2 (by kernel_rfl) ?_ ?_
       ·refine does_intro rfl rfl ?_
        intro K hK
        refine wp_buildSlice 50 25 1 _ rfl #[.int .i64 0, .slice p' pn pc', .int .i64 (12 + (k : Int)), .slice ba nb bc] ig _ Try.underlying50 hig hgz (by rw [hgs]; decide) (by rw [hgs]; decide) (by rw [Array.toList_map]; exact fillVF 0 (12 + (k : Int)) p' ba pn pc' nb bc _ hgs) ?_
        refine hK _ _ ((Below.refl we.drew.heap.size we.drew).alloc (Nat.le_refl _) _) ?_
        clear hK K
        go_simp
        refine forks_one 2 (by kernel_rfl) ?_
        refine does_intro rfl rfl ?_
        intro K hK
        go_simp
        refine hK _ _ ((Below.refl _ _).alloc (by simp) _) ?_
        clear hK K
        go_simp
        refine forks_read 3 rfl (by kernel_rfl) ?_
        go_big_quiet_step (fail)
        refine wpQuiet_nil ?_
        refine forks_read 4 rfl (by kernel_rfl) ?_
        go_big_quiet_step (fail)
        refine wpQuiet_nil ?_
        refine forks_one 5 (by kernel_rfl) ?_
        refine does_intro rfl rfl ?_
        intro K hK
        go_simp
        refine hK _ _ ((Below.refl _ _).alloc (by simp; omega) _) ?_
        clear hK K
        go_simp
        refine forks_read 6 rfl (by kernel_rfl) ?_
        go_big_quiet_step (fail)
        refine wpQuiet_nil ?_
        refine forks_end (by kernel_rfl) ?_
        go_wp2_with fail
        go_meet
        have hb3 : ∀ o0 o1 o2, Below we.heap.size we (((we.alloc o0).alloc o1).alloc o2).drew := fun o0 o1 o2 => ((((Below.refl _ we).alloc (Nat.le_refl _) o0).alloc (by simp) o1).alloc (by simp; omega) o2).drew
        refine ⟨_, we.heap.size + 0, we.heap.size + 1, rfl, vm_start (HVX.out.be.trans ((hb3 _ _ _).mono HVX.out.be.size)) (by have := HVX.out.be.size; omega) (by have := HVX.out.be.size; omega) ?_ ?_ ?_, hb3 _ _ _, by omega, by omega, by omega⟩
        ·exact (three_heapC we _ _ _ 2 (by decide)).trans rfl
        ·exact (three_heapC we _ _ _ 1 (by decide)).trans rfl
        ·rw [HFC.out]
         exact (three_heapC we _ _ _ 0 (by decide)).trans rfl
       ·refine does_intro rfl rfl ?_
        intro K hK
        go_simp
        refine hK _ _ ((Below.refl we.drew.heap.size we.drew).alloc (Nat.le_refl _) _) ?_
        clear hK K
        go_simp
        refine forks_read 3 rfl (by kernel_rfl) ?_
        go_big_quiet_step (fail)
        refine wpQuiet_nil ?_
        refine forks_one 1 (by kernel_rfl) ?_
        refine does_intro rfl rfl ?_
        intro K hK
        refine wp_buildSlice 50 25 1 _ rfl #[.int .i64 0, .slice p' pn pc', .int .i64 (12 + (k : Int)), .slice ba nb bc] ig _ Try.underlying50 hig hgz (by rw [hgs]; decide) (by rw [hgs]; decide) (by rw [Array.toList_map]; exact fillVF 0 (12 + (k : Int)) p' ba pn pc' nb bc _ hgs) ?_
        refine hK _ _ ((Below.refl _ _).alloc (by simp) _) ?_
        clear hK K
        go_simp
        refine forks_read 4 rfl (by kernel_rfl) ?_
        go_big_quiet_step (fail)
        refine wpQuiet_nil ?_
        refine forks_one 5 (by kernel_rfl) ?_
        refine does_intro rfl rfl ?_
        intro K hK
        go_simp
        refine hK _ _ ((Below.refl _ _).alloc (by simp; omega) _) ?_
        clear hK K
        go_simp
        refine forks_read 6 rfl (by kernel_rfl) ?_
        go_big_quiet_step (fail)
        refine wpQuiet_nil ?_
        refine forks_end (by kernel_rfl) ?_
        go_wp2_with fail
        go_meet
        have hb3 : ∀ o0 o1 o2, Below we.heap.size we (((we.alloc o0).alloc o1).alloc o2).drew := fun o0 o1 o2 => ((((Below.refl _ we).alloc (Nat.le_refl _) o0).alloc (by simp) o1).alloc (by simp; omega) o2).drew
        refine ⟨_, we.heap.size + 1, we.heap.size + 0, rfl, vm_start (HVX.out.be.trans ((hb3 _ _ _).mono HVX.out.be.size)) (by have := HVX.out.be.size; omega) (by have := HVX.out.be.size; omega) ?_ ?_ ?_, hb3 _ _ _, by omega, by omega, by omega⟩
        ·exact (three_heapC we _ _ _ 2 (by decide)).trans rfl
        ·exact (three_heapC we _ _ _ 0 (by decide)).trans rfl
        ·rw [HFC.out]
         exact (three_heapC we _ _ _ 1 (by decide)).trans rfl
      case rest => as_aux_lemma =>
       obtain ⟨qy, fy, gy, rfl, hvy, hbey, hy1, hy2, hy3⟩ := hcut
       obtain ⟨wq, hwq⟩ : ∃ x, x = wc := ⟨_, rfl⟩
       rw [← hwq] at hvy hbey ⊢
       clear hwq c0 c1 c2 c3
       have hx1 := HVX.out.box.lt
       have hx2 := HVX.out.glo.2
       have hx3 := HVX.out.fn.lt
       have hcx := call_any (HVX.out.below hbey) rfl (by show (0 : Int) ≤ 500; omega) HFOK.out HVF.out la lc L (by rw [← HPN.out]; exact HCL.out) HLS.out
       have hcy := fun (wz : World) (h : VmAt wd wz qy fy (genF (12 + a.k) p' pc' PS ba bc gl) gy 64 none 0 0 s500) => call_any h rfl (by show (0 : Int) ≤ 500; omega) HGOK.out HVG.out la lc L (by show Came wd la PS.length lc 1 _; rw [HPSL.out]; exact HCL.out) HLS.out
       rw [← HPN.out] at hcx
       have hcy2 : ∀ (wz : World), VmAt wd wz qy fy (genF (12 + a.k) p' pc' PS ba bc gl) gy 64 none 0 0 s500 → Calls Try.prog 15 #[.pointer (some ⟨qy, 0, none⟩), .int .i64 0, .slice la pn lc] wz (CallQ wd wz qy fy (genF (12 + a.k) p' pc' PS ba bc gl) gy (.slice none 0 0) ⟨startR PS L pn, s500.m, s500.p, s500.fu, s500.en, false, s500.bad⟩) := fun wz h => by
        have h9 := hcy wz h
        rw [show (genF (12 + a.k) p' pc' PS ba bc gl).pn = pn from HPSL.out] at h9
        exact h9
       have HCX := Lib.hid hcx
       have HCY := Lib.hid hcy2
       have HXB : Hid (qx < we.heap.size ∧ gx < we.heap.size ∧ fx < we.heap.size ∧ we.heap.size ≤ wq.heap.size) := ⟨hx1, hx2, hx3, hbey.size⟩
       have HYB : Hid (we.heap.size ≤ qy ∧ we.heap.size ≤ gy ∧ we.heap.size ≤ fy ∧ qy < wq.heap.size ∧ gy < wq.heap.size ∧ fy < wq.heap.size) := ⟨hy1, hy2, hy3, hvy.box.lt, hvy.glo.2, hvy.fn.lt⟩
       have HVY := Lib.hid hvy
       have HXL : Hid (wd.heap.size ≤ qx ∧ wd.heap.size ≤ gx) := ⟨HVX.out.lo, HVX.out.glo.1⟩
       clear hvy hbey hy1 hy2 hy3 hx1 hx2 hx3 hcx hcy hcy2 hgl5 hpl5 HVX HGL
       go_wp2_with fail
       refine HCX.out.mono ?_
       rintro e w1 ⟨vx, sx, gx', mx', ox', ocx', rfl, hrx, hvx1, hr1, hl1, hl2⟩
       have hsz1 := hr1.size
       have hvy1 := HVY.out.rest hr1 (fun q hq => by rcases hq with e | e | e; (rw [e]; exact HXL.out.1); (rw [e]; exact HXL.out.2); simp [Value.ownBlock] at e) (fun hq => by have := HXB.out; have := HYB.out; rcases hq with e | e | e; omega; omega; simp [Value.ownBlock] at e) (fun hq => by have := HXB.out; have := HYB.out; rcases hq with e | e | e; omega; omega; simp [Value.ownBlock] at e) (fun q e => by simp [s500, Value.ownBlock] at e) (fun hq => by have := HXB.out; have := HYB.out; rcases hq with e | e | e; omega; omega; simp [Value.ownBlock] at e)
       have HCY1 := Lib.hid (HCY.out w1 hvy1)
       have HV1 := Lib.hid hvx1
       have HRX := Lib.hid hrx
       have HL1 : Hid ((gx' = gx ∨ wq.heap.size ≤ gx') ∧ (∀ q, (Value.slice ox' sx.p.length ocx').ownBlock = some q → wq.heap.size ≤ q) ∧ wq.heap.size ≤ w1.heap.size) := ⟨hl1, fun q e => by rcases hl2 q e with h9 | h9; (simp [Value.ownBlock] at h9); exact h9, hsz1⟩
       have HYL : Hid (wd.heap.size ≤ qy ∧ wd.heap.size ≤ gy) := ⟨hvy1.lo, hvy1.glo.1⟩
       clear hrx hvx1 hr1 hl1 hl2 hvy1 HCX HCY HVY hsz1
       go_wp2_with fail
       refine HCY1.out.mono ?_
       rintro e w2 ⟨vy, sy, gy', my', oy', ocy', rfl, hry, hvy2, hr2, hk1, hk2⟩
       have hvx2 := HV1.out.rest hr2 (fun q hq => by rcases hq with e | e | e; (rw [e]; exact HYL.out.1); (rw [e]; exact HYL.out.2); simp [Value.ownBlock] at e) (fun hq => by have := HXB.out; have := HYB.out; rcases hq with e | e | e; omega; omega; simp [Value.ownBlock] at e) (fun hq => by have := HXB.out; have := HYB.out; have := HL1.out.1; rcases hq with e | e | e; omega; omega; simp [Value.ownBlock] at e) (fun q e hq => by have := HYB.out; have := HL1.out.2.1 q e; rcases hq with e | e | e; omega; omega; simp [Value.ownBlock] at e) (fun hq => by have := HXB.out; have := HYB.out; rcases hq with e | e | e; omega; omega; simp [Value.ownBlock] at e)
       have hlaw := means_law (pa := p') (pc := pc') (ba := ba) (bc := bc) HOK.out HFE.out HF.out HGA.out HVF.out HNC.out HGR.out HG.out (l := L) (m0 := List.replicate 64 0) (s' := sx) (t' := sy) (v := vx) (v' := vy) (by rw [← HPN.out]; exact HRX.out) (by rw [← HPN.out, ← HPS.out]; exact hry)
       obtain ⟨hvv, heq⟩ := hlaw
       subst hvv
       have HVX3 := Lib.hid hvx2
       have HVY3 := Lib.hid hvy2
       have hbx : Below w.heap.size w w2 := HGK.out.be.trans (hvy2.be.mono HGK.out.be.size)
       have HBX := Lib.hid hbx
       obtain ⟨e1, e2, e3, e4, e5, e6⟩ := heq
       have x6 : w2.cell? ⟨qx, 6, none⟩ = some (.bool sx.st) := by rw [hvx2.box.cell]; rfl
       have x7 : w2.cell? ⟨qx, 7, none⟩ = some (.bool sx.bad) := by rw [hvx2.box.cell]; rfl
       have x5 : w2.cell? ⟨qx, 5, none⟩ = some (.int .i64 sx.en) := by rw [hvx2.box.cell]; rfl
       have x4 : w2.cell? ⟨qx, 4, none⟩ = some (.slice ox' sx.p.length ocx') := by rw [hvx2.box.cell]; rfl
       have x1 : w2.cell? ⟨qx, 1, none⟩ = some (.slice (some ⟨gx', 0, none⟩) sx.m.length mx') := by rw [hvx2.box.cell]; rfl
       have y6 : w2.cell? ⟨qy, 6, none⟩ = some (.bool sx.st) := by rw [hvy2.box.cell, ← e5]; rfl
       have y7 : w2.cell? ⟨qy, 7, none⟩ = some (.bool sx.bad) := by rw [hvy2.box.cell, ← e6]; rfl
       have y5 : w2.cell? ⟨qy, 5, none⟩ = some (.int .i64 sx.en) := by rw [hvy2.box.cell, ← e4]; rfl
       have y4 : w2.cell? ⟨qy, 4, none⟩ = some (.slice oy' sx.p.length ocy') := by rw [hvy2.box.cell, ← e2]; rfl
       have y1 : w2.cell? ⟨qy, 1, none⟩ = some (.slice (some ⟨gy', 0, none⟩) sx.m.length my') := by rw [hvy2.box.cell, ← e1]; rfl
       have hq1 := hvx2.box.lt
       have hq2 := hvy2.box.lt
       have hEP := fun wz (h : Below w2.heap.size w2 wz) => equal_ints wz ox' sx.p.length ocx' sx.p oy' sx.p.length ocy' sx.p ((came_ownI hvx2.oo).below h) ((by have h9 := came_ownI hvy2.oo; rw [e2] at h9; exact h9 : Came w2 oy' sx.p.length ocy' 1 (sx.p.map intCells)).below h)
       have hEM := fun wz (h : Below w2.heap.size w2 wz) => equal_ints wz (some ⟨gx', 0, none⟩) sx.m.length mx' sx.m (some ⟨gy', 0, none⟩) sx.m.length my' sx.m ((came_ownI hvx2.wo).below h) ((by have h9 := came_ownI hvy2.wo; rw [e1] at h9; exact h9 : Came w2 (some ⟨gy', 0, none⟩) sx.m.length my' 1 (sx.m.map intCells)).below h)
       simp only [decide_true] at hEP hEM
       have HEP := Lib.hid hEP
       have HEM := Lib.hid hEM
       obtain ⟨NP, hNP⟩ : ∃ z, z = sx.p.length := ⟨_, rfl⟩
       obtain ⟨NM, hNM⟩ : ∃ z, z = sx.m.length := ⟨_, rfl⟩
       rw [← hNP] at x4 y4 HEP
       rw [← hNM] at x1 y1 HEM
       clear hNP hNM
       have hv1 : (vx == vx) = true := by simp
       have hv2 : (sx.st == sx.st) = true := by simp
       have hv3 : (sx.bad == sx.bad) = true := by simp
       have hv4 : (sx.en == sx.en) = true := by simp
       clear e1 e2 e3 e4 e5 e6 hry hvy2 hr2 hk1 hk2 hvx2 hbx hEP hEM HCY1
       have r1 := fun z : After w2.heap.size w2.drew => (z.below.cell (p := ⟨qx, 1, none⟩) hq1).trans x1
       have r4 := fun z : After w2.heap.size w2.drew => (z.below.cell (p := ⟨qx, 4, none⟩) hq1).trans x4
       have r5 := fun z : After w2.heap.size w2.drew => (z.below.cell (p := ⟨qx, 5, none⟩) hq1).trans x5
       have r6 := fun z : After w2.heap.size w2.drew => (z.below.cell (p := ⟨qx, 6, none⟩) hq1).trans x6
       have r7 := fun z : After w2.heap.size w2.drew => (z.below.cell (p := ⟨qx, 7, none⟩) hq1).trans x7
       have t1 := fun z : After w2.heap.size w2.drew => (z.below.cell (p := ⟨qy, 1, none⟩) hq2).trans y1
       have t4 := fun z : After w2.heap.size w2.drew => (z.below.cell (p := ⟨qy, 4, none⟩) hq2).trans y4
       have t5 := fun z : After w2.heap.size w2.drew => (z.below.cell (p := ⟨qy, 5, none⟩) hq2).trans y5
       have t6 := fun z : After w2.heap.size w2.drew => (z.below.cell (p := ⟨qy, 6, none⟩) hq2).trans y6
       have t7 := fun z : After w2.heap.size w2.drew => (z.below.cell (p := ⟨qy, 7, none⟩) hq2).trans y7
       clear x1 x4 x5 x6 x7 y1 y4 y5 y6 y7
       go_upto_region 42 with fail
       refine wp_region_eager w2.heap.size [(0, true), (1, true), (2, true), (3, true), (4, true), (5, true), (6, true), (7, true), (8, true), (9, true), (10, true), (11, true), (12, true), (13, true), (14, true), (15, true), (16, true), (17, true), (18, true), (19, true), (20, true), (21, true), (22, true), (23, true), (24, true), (25, true), (26, true), (27, true), (28, true), (29, true), (30, true), (31, true), (32, true), (33, true), (34, true), (35, true), (36, true), (37, true), (38, true), (39, true), (40, true), (41, true), (42, true), (43, true), (44, true), (45, false), (46, true), (47, true), (48, true), (49, true), (50, true), (51, true), (52, true), (53, true), (54, true), (55, true), (56, true), (57, true), (58, false), (59, true), (60, true)] (by kernel_rfl) (by kernel_rfl) ?_
       repeat (refine eag_read rfl ?_; go_big_quiet_step (fail); refine wpQuiet_nil ?_)
       have x1 := r1 ⟨w2.drew, Below.refl _ _⟩
       have y1 := t1 ⟨w2.drew, Below.refl _ _⟩
       clear r1 r4 r5 r6 r7 t1 t4 t5 t6 t7
       refine eag_does rfl rfl ?_
       intro K hK
       go_simp
       refine (HEP.out w2.drew (Below.refl w2.heap.size w2).drew).mono ?_
       rintro e wz ⟨n1, rfl, hwz⟩
       rw [hwz]
       refine hK _ _ (below_drewN_self _ _ _) ?_
       clear hK K hwz wz
       go_simp
       have HBN : Hid (Below w2.heap.size w2 (w2.drewN (1 + n1))) := below_drewN_self _ _ _
       have x1 : (w2.drewN (1 + n1)).cell? ⟨qx, 1, none⟩ = some (.slice (some ⟨gx', 0, none⟩) NM mx') := x1
       have y1 : (w2.drewN (1 + n1)).cell? ⟨qy, 1, none⟩ = some (.slice (some ⟨gy', 0, none⟩) NM my') := y1
       generalize w2.drewN (1 + n1) = wn at HBN x1 y1 ⊢
       have hq1n := Nat.lt_of_lt_of_le hq1 HBN.out.size
       have hq2n := Nat.lt_of_lt_of_le hq2 HBN.out.size
       have r1 := fun z : After w2.heap.size wn => (z.below.cell (p := ⟨qx, 1, none⟩) hq1).trans x1
       have t1 := fun z : After w2.heap.size wn => (z.below.cell (p := ⟨qy, 1, none⟩) hq2).trans y1
       clear x1 y1
       repeat (refine eag_read rfl ?_; go_big_quiet_step (fail); refine wpQuiet_nil ?_)
       clear r1 t1
       refine eag_does rfl rfl ?_
       intro K hK
       go_simp
       refine (HEM.out wn HBN.out).mono ?_
       rintro e wz ⟨n2, rfl, hwz⟩
       rw [hwz]
       refine hK _ _ (below_drewN_self _ _ _) ?_
       clear hK K hwz wz
       go_simp
       have HBM : Hid (Below w2.heap.size w2 (wn.drewN n2)) := HBN.out.trans (below_drewN_self _ _ _)
       generalize wn.drewN n2 = wm at HBM ⊢
       repeat (refine eag_read rfl ?_; go_big_quiet_step (fail); refine wpQuiet_nil ?_)
       refine eag_end ?_
       go_wp2_with fail
       go_ret
       exact ⟨rfl, HBX.out.trans (HBM.out.mono HBX.out.size)⟩
 ·have hz' : (z != 0) = true := by simp [hz]
  clear hz1 hz2 hz
  go_wp2_with fail
  go_ret
  exact ⟨rfl, HB4.out⟩
end Go.Proofs.Ytlcnbihfpjhffaa
