/- The walk of FrameMaps. -/
import Derived.Test.YtdnpoomagjcpfaaGreatFrmFact
import Derived.Test.YtdnpoomagjcpfaaGreatMapM
import Derived.Test.YtdnpoomagjcpfaaGreatVSmall
import Derived.Test.YtdnpoomagjcpfaaGreatVRef
import Derived.Test.YtdnpoomagjcpfaaGreatTimRef
namespace Go.Proofs.YtdnpoomagjcpfaaGreat
open Go.RowKit
set_option linter.unusedVariables false
set_option linter.unusedSimpArgs false

theorem Came.lt {w : World} {a : Option Addr} {len cap : Nat} {l : List Int} (h : Came w a len cap 1 (l.map intCells)) (h0 : 0 < len) {q : Addr} (hq : a = some q) : q.block < w.heap.size := by
 obtain ⟨b, off, h1, h2, _⟩ := h.cells h0 (by omega)
 rw [hq] at h1
 injection h1 with h1
 rw [h1]; exact h2
theorem Came.setRow {w : World} {a : Option Addr} {len cap g : Nat} {vs : List (List Value)} (h : Came w a len cap 1 vs) (hg : ∀ q, a = some q → q.block ≠ g) (xs : Array Value) : Came (w.setRow g xs) a len cap 1 vs := by
 refine ⟨h.count, h.le, h.max, h.nil, h.size, fun h0 h1 => ?_⟩
 obtain ⟨b, off, e, hb, hc⟩ := h.cells h0 h1
 refine ⟨b, off, e, by simpa [World.setRow] using hb, fun i v hv j hj => ?_⟩
 rw [← hc i v hv j hj]
 refine World.cell?_of_block (a := ⟨b, off + (i * 1 + j), none⟩) ?_
 have hne := hg _ e
 simp only [World.setRow, Array.getElem?_modify]
 rw [if_neg (fun e => hne e.symm)]
theorem AL.Ok.setRow {w : World} {a : AL} (h : a.Ok w) {g : Nat} (hg : ∀ q, (a.ra = some q ∨ a.sa = some q) → q.block ≠ g) (xs : Array Value) : a.Ok (w.setRow g xs) :=
 ⟨h.rcame.setRow (fun q hq => hg q (.inl hq)) xs, h.rreach, h.reg, h.scame.setRow (fun q hq => hg q (.inr hq)) xs, h.sreach, h.slot, h.k⟩
theorem wp_store_rowE {P : Program} {o : Oper} {a : Act} {w : World} {K : Act → World → Prop} {W : Exit → Act → World → Prop} (ty : TypeId) (x y : Operand) (ho : o.op = .store ty x y) (hd : o.dst = none) (g : Nat) (cells : Array Value) (hx : a.eval x = .pointer (some ⟨g, 0, none⟩)) (hy : a.eval y = .agg cells)
  (t : TypeId) (old : Array Value) (hg : w.heap[g]? = some (.cells old t (0, 0))) (hi : (P.info? ty).map (·.size) = some cells.size) (hold : old.size = cells.size) (h1 : cells.all (·.oneCell') = true) (h : K a (w.setRow g cells)) : o.wp P a w K W := by
 exact wp_store_row ty x y ho g cells hx hy t old hg hi hold h1 (by rw [hd]; exact h)
set_option maxRecDepth 100000 in
set_option maxHeartbeats 8000000 in
theorem frameMaps_walk (f : VF) (k : Int) (w : World) (hf : f.Ok w) (hk : -9223372036854775808 ≤ k ∧ k ≤ 9223372036854775807) : Calls Tryz.prog 3 #[f.v, .int .i64 k] w fun e w' => e = .returned (.bool true) ∧ Below w.heap.size w w' := by
 have hb0 : BoxV f w (w.alloc (.cells #[.int .i64 f.name, .slice f.pa f.pn f.pc, .int .i64 f.regs, .slice f.sa f.sn f.sc] 25)) f.pa f.sa := ⟨(Below.refl _ _).alloc (Nat.le_refl _) _, Blk.new w [.int .i64 f.name, .slice f.pa f.pn f.pc, .int .i64 f.regs, .slice f.sa f.sn f.sc] 25⟩
 have HF := Lib.hid hf
 have HSM := Lib.hid fun wx (h : Below w.heap.size w wx) => small_ok wx f (hf.below h)
 have HCO := Lib.hid fun wx (h : Below w.heap.size w wx) K (hK : I64 K) => allocate_new wx f (hf.below h) K hK
 have HEM := Lib.hid fun wx (h : Below w.heap.size w wx) a (ha : a.Ok wx) n nb k' (h1 : FnOk f n nb) (h2 : fnE f = 0) (h3 : PlacedA f n nb k' a) (h4 : a.rn = n) (h5 : a.sn = n) (h6 : a.k ≤ 2048) (h7 : emW f.blocks ≤ 8000000) => emitA_any wx f (hf.below h) a ha h1 h2 h3 h4 h5 h6 h7
 have HFE := Lib.hid fun wx (h : Below w.heap.size w wx) => fnError_any wx f (hf.below h)
 have HAV := Lib.hid fun wx (h : Below w.heap.size w wx) n nb (h1 : FnOk f n nb) (h2 : TosV f nb) i q r (h3 : i < nb) (h4 : q ≤ 10000) (h5 : r ≠ 0) (h6 : r ≤ 10000) => alive_any wx f (hf.below h) nb h1.nbl h1.nb2.2 h2 h1.ins i q r h3 h4 h5 h6
 obtain ⟨fe, hfe⟩ : ∃ x, x = fnE f := ⟨_, rfl⟩
 have HFQ := Lib.hid hfe
 rw [← hfe] at HFE
 have HCF := Lib.hid fun wx => frameFact_ok wx
 unfold VF.v at HSM HCO HEM HFE HAV ⊢
 obtain ⟨pa, hpa⟩ : ∃ s, s = f.pa := ⟨_, rfl⟩
 obtain ⟨sa, hsa⟩ : ∃ s, s = f.sa := ⟨_, rfl⟩
 rw [← hpa, ← hsa] at hb0 HSM HCO HEM HFE HAV ⊢
 have HSA := Lib.hid hsa
 have HB0 := Lib.hid hb0
 have hk1 := hk.1
 have hk2 := hk.2
 clear hf hb0 hpa hsa hk hfe
 go_enter Tryz.func3, Tryz.ntmps3
 go_upto_region 1 with fail
 generalize w.alloc (.cells #[.int .i64 f.name, .slice pa f.pn f.pc, .int .i64 f.regs, .slice sa f.sn f.sc] 25) = w1 at HB0 ⊢
 go_wp2_with fail
 refine (HCF.out w1).mono ?_
 rintro e w2 ⟨rfl, hb2⟩
 have HB2 := Lib.hid (HB0.out.below hb2)
 clear hb2 HB0 HCF
 have c0 := HB2.out.box.cell 0
 have c1 := HB2.out.box.cell 1
 have c2 := HB2.out.box.cell 2
 have c3 := HB2.out.box.cell 3
 simp only [List.getElem?_cons_zero, List.getElem?_cons_succ] at c0 c1 c2 c3
 go_wp2_with fail
 refine (HSM.out w2 HB2.out.be).mono ?_
 rintro e w3 ⟨sm, rfl, hsm, hb3⟩
 have HB3 := Lib.hid (HB2.out.below hb3)
 clear hb3 HB2 c0 c1 c2 c3 HSM
 cases sm with
 | false =>
  go_wp2_with fail
  go_ret
  exact ⟨rfl, HB3.out.be⟩
 | true =>
  obtain ⟨h40, h12⟩ := hsm rfl
  have H60 := Lib.hid h40
  have H20 := Lib.hid h12
  clear hsm h40 h12
  have c0 := HB3.out.box.cell 0
  have c1 := HB3.out.box.cell 1
  have c2 := HB3.out.box.cell 2
  have c3 := HB3.out.box.cell 3
  simp only [List.getElem?_cons_zero, List.getElem?_cons_succ] at c0 c1 c2 c3
  go_wp2_with fail
  refine (HFE.out w3 HB3.out.be).mono ?_
  rintro e w4 ⟨rfl, hb4⟩
  have HB4 := Lib.hid (HB3.out.below hb4)
  clear hb4 HB3 c0 c1 c2 c3 HFE
  by_cases hfe : fe = 0
  case neg =>
   have q0 : (fe != 0) = true := by simp [hfe]
   clear hfe HFQ
   go_wp2_with fail
   go_ret
   exact ⟨rfl, HB4.out.be⟩
  obtain ⟨w3, hw3⟩ : ∃ x, x = w4 := ⟨_, rfl⟩
  have HB3 : Hid (BoxV f w w3 pa sa) := by rw [hw3]; exact HB4.out
  rw [← hw3]
  clear hw3 HB4
  subst hfe
  have HFN : Hid (fnE f = 0) := HFQ.out.symm
  clear HFQ
  have c0 := HB3.out.box.cell 0
  have c1 := HB3.out.box.cell 1
  have c2 := HB3.out.box.cell 2
  have c3 := HB3.out.box.cell 3
  simp only [List.getElem?_cons_zero, List.getElem?_cons_succ] at c0 c1 c2 c3
  have hbl : w.heap.size < w3.heap.size := HB3.out.box.lt
  have HSZ : Hid ((Tryz.prog.info? 31).map (·.size) = some 3) := by unfold Hid; kernel_rfl
  have HR9 : ∀ wx, Calls Tryz.prog 9 #[.int .i64 k, .int .i64 10] wx fun e w' => e = .returned (.int .i64 (k % 10)) ∧ wx = w' := fun wx => rest_any k 10 wx (by omega) (by omega)
  obtain ⟨r, hr⟩ : ∃ r, r = k % 10 := ⟨_, rfl⟩
  have hr1 : 0 ≤ r := by rw [hr]; exact Int.emod_nonneg _ (by omega)
  have hr2 : r < 10 := by rw [hr]; exact Int.emod_lt_of_pos _ (by omega)
  rw [← hr] at HR9
  clear hr
  go_upto_region 5 with fail
  go_cut [5, 6] from 38 (fun v5 v6 wx => ∃ (b5 n nb : Nat) (a : AL), v5 = .pointer (some ⟨b5, 0, none⟩) ∧ v6 = .int .i64 0 ∧ BoxV f w wx pa sa ∧ FnOk f n nb ∧ a.Ok wx ∧ a.rn = n ∧ a.sn = n ∧ AllocLaw f n nb (1 + r).toNat a ∧ Blk wx b5 31 [.slice a.ra a.rn a.rc, .slice a.sa a.sn a.sc, .int .i64 a.k])
  case first => as_aux_lemma =>
   have r0 := fun x : AfterR (KeepE w.heap.size w.heap.size) w3.drew => (World.cell?_of_block (a := ⟨w.heap.size, 0, none⟩) x.rel.1).trans c0
   have r1 := fun x : AfterR (KeepE w.heap.size w.heap.size) w3.drew => (World.cell?_of_block (a := ⟨w.heap.size, 1, none⟩) x.rel.1).trans c1
   have r2 := fun x : AfterR (KeepE w.heap.size w.heap.size) w3.drew => (World.cell?_of_block (a := ⟨w.heap.size, 2, none⟩) x.rel.1).trans c2
   have r3 := fun x : AfterR (KeepE w.heap.size w.heap.size) w3.drew => (World.cell?_of_block (a := ⟨w.heap.size, 3, none⟩) x.rel.1).trans c3
   go_wp2_with fail
   refine wp_region_forks (KeepE w.heap.size w.heap.size) 11 rfl (by kernel_rfl) ?_
   refine forks_read 0 rfl (by decide +kernel) ?_
   go_big_quiet_step (fail)
   refine wpQuiet_nil ?_
   refine forks_read 1 rfl (by decide +kernel) ?_
   go_big_quiet_step (fail)
   refine wpQuiet_nil ?_
   clear r0 r1 r2 r3
   have HBX : Hid (BoxV f w w3.drew pa sa) := HB3.out.below (Below.refl _ _).drew
   generalize w3.drew = wx at HBX ⊢
   iterate 3
    all_goals first | refine forks_two 2 8 (by decide +kernel) ?_ ?_ | refine forks_two 4 8 (by decide +kernel) ?_ ?_ | refine forks_one 2 (by decide +kernel) ?_ | refine forks_one 4 (by decide +kernel) ?_ | refine forks_one 8 (by decide +kernel) ?_
    all_goals
     first
     | refine does_intro (i := 2) rfl rfl ?_
       intro K hK
       go_simp
       refine (HR9 _).mono ?_
       rintro e wz ⟨rfl, rfl⟩
       refine hK _ _ ⟨rfl, rfl⟩ ?_
       clear hK K
       go_simp
       refine forks_read 3 rfl (by decide +kernel) ?_
       go_big_quiet_step (fail)
       refine wpQuiet_nil ?_
     | refine does_intro (i := 4) rfl rfl ?_
       intro K hK
       go_simp
       refine (HCO.out _ HBX.out.be (1 + r) (by unfold I64; omega)).mono ?_
       rintro e wx ⟨hb4, h⟩
       have hrl : 1 ≤ 1 + r ∧ 1 + r ≤ 10 := by omega
       rcases h with ⟨h, _⟩ | ⟨_, h, _⟩ | ⟨_, _, n, nb, a, hok, rfl, hao, hrn, hsn, hlaw, hnew⟩
       ·exact absurd HFN.out h
       ·exact absurd hrl h
       unfold AL.v
       refine hK _ _ (and_self_iff.mpr (hb4.block w.heap.size HBX.out.box.lt)) ?_
       have HBX := Lib.hid (HBX.out.below hb4)
       have hn0 : 0 < a.rn ∧ 0 < a.sn := by rw [hrn, hsn]; exact ⟨hok.n2.1, hok.n2.1⟩
       try
        have HNA : Hid (∀ q, (a.ra = some q ∨ a.sa = some q) → q.block ≠ b5) := fun q hq e => by
         have h1 := H5.out.lt
         rcases hq with hq | hq
         ·have := hnew.1 q hq; omega
         ·have := hnew.2 q hq; omega
       try have H5 := Lib.hid (H5.out.below hb4 H5.out.lt)
       have HAO := Lib.hid hao
       have HOK := Lib.hid hok
       have HRN := Lib.hid hrn
       have HSN := Lib.hid hsn
       have HLAW := Lib.hid hlaw
       have HN0 := Lib.hid hn0
       clear hK K hb4 hao hok hrn hsn hlaw hrl hnew hn0
       go_simp
       refine forks_read 5 rfl (by decide +kernel) ?_
       go_big_quiet_step (fail)
       refine wpQuiet_nil ?_
       refine forks_read 6 rfl (by decide +kernel) ?_
       go_big_quiet_step (fail)
       refine wpQuiet_nil ?_
       refine forks_read 7 rfl (by decide +kernel) ?_
       go_big_quiet_step (fail)
       refine wpQuiet_nil ?_
     | refine does_intro (i := 8) rfl rfl ?_
       intro K hK
       go_simp
       refine hK _ _ (and_self_iff.mpr (Below.heap_alloc _ _ _ HBX.out.box.lt)) ?_
       clear hK K
       go_simp
       obtain ⟨b5, hb5⟩ : ∃ b, b = wx.heap.size := ⟨_, rfl⟩
       have hba := (Below.refl wx.heap.size wx).alloc (Nat.le_refl _) (.cells #[.slice none 0 0, .slice none 0 0, .int .i64 0] 31)
       have H5 : Hid (Blk (wx.alloc (.cells #[.slice none 0 0, .slice none 0 0, .int .i64 0] 31)) b5 31 [.slice none 0 0, .slice none 0 0, .int .i64 0]) := by rw [hb5]; exact Blk.new wx _ _
       have G5 : Hid (w.heap.size < b5) := by rw [hb5]; exact HBX.out.box.lt
       try
        have HNA : Hid (∀ q, (a.ra = some q ∨ a.sa = some q) → q.block ≠ b5) := fun q hq e => by
         rcases hq with hq | hq
         ·have := HAO.out.rcame.lt HN0.out.1 hq; omega
         ·have := HAO.out.scame.lt HN0.out.2 hq; omega
       try have HAO := Lib.hid (HAO.out.below hba)
       have HBX := Lib.hid (HBX.out.below hba)
       rw [← hb5]
       clear hb5 hba
       generalize wx.alloc (.cells #[.slice none 0 0, .slice none 0 0, .int .i64 0] 31) = wx at *
   all_goals
    refine forks_one 9 (by decide +kernel) ?_
    refine does_intro rfl rfl ?_
    intro K hK
    refine wp_store_rowE 31 _ _ rfl rfl b5 #[.slice a.ra a.rn a.rc, .slice a.sa a.sn a.sc, .int .i64 a.k] rfl rfl _ _ H5.out HSZ.out rfl (by simp [Value.oneCell']) ?_
    have hbs : Below b5 wx (wx.setRow b5 #[.slice a.ra a.rn a.rc, .slice a.sa a.sn a.sc, .int .i64 a.k]) := setRowBelowE (Below.refl _ _) (Nat.le_refl _) _
    have HBK := Lib.hid (setRowBlkE H5.out [.slice a.ra a.rn a.rc, .slice a.sa a.sn a.sc, .int .i64 a.k])
    refine hK _ _ (and_self_iff.mpr (hbs.block _ G5.out)) ?_
    clear hK K
    have HBX2 : Hid (BoxV f w (wx.setRow b5 #[.slice a.ra a.rn a.rc, .slice a.sa a.sn a.sc, .int .i64 a.k]) pa sa) := ⟨HBX.out.be.trans (hbs.mono (Nat.le_of_lt G5.out)), HBX.out.box.of_heap (hbs.block _ G5.out)⟩
    have HAO2 := Lib.hid (HAO.out.setRow HNA.out #[.slice a.ra a.rn a.rc, .slice a.sa a.sn a.sc, .int .i64 a.k])
    go_simp
    refine forks_read 10 rfl (by decide +kernel) ?_
    go_big_quiet_step (fail)
    refine wpQuiet_nil ?_
    refine forks_end (by decide +kernel) ?_
    go_wp2_with fail
    go_meet
    exact ⟨b5, n, nb, a, rfl, rfl, HBX2.out, HOK.out, HAO2.out, HRN.out, HSN.out, HLAW.out, HBK.out⟩
  case rest => as_aux_lemma =>
   obtain ⟨b5, n, nb, a, rfl, rfl, hbx, hok, hao, hrn, hsn, hlaw, hbk⟩ := hcut
   have HBX := Lib.hid hbx
   have HBK := Lib.hid hbk
   have HOK := Lib.hid hok
   have hreg := hok.regs
   have h40 := H60.out
   have hnn : n ≤ 40 := by omega
   have HPL := Lib.hid (placed_of (HF.out.below hbx.be) hok HFN.out (by omega) (by omega) hrn hsn hlaw)
   have hka := color_k hlaw
   have hew : emW f.blocks ≤ 8000000 := Nat.le_trans (emW_le (m := 20) (c := 4096) (by have := HF.out.len; have := H20.out; omega) fun b hb => by
    obtain ⟨i, hi, rfl⟩ := List.getElem_of_mem hb
    have := hok.ins i (by have := hok.nbl; omega)
    rw [VF.blk_get f hi]; exact this) (by decide)
   have htos : TosV f nb := fun i hi t ht => by
    have h1 := hok.fits.tos i (by rw [← hok.nbl]; exact hi) t ht
    have h2 := hok.nbl
    omega
   have HTOS := Lib.hid htos
   have HE := Lib.hid (HEM.out wc hbx.be a hao n nb _ hok HFN.out HPL.out hrn hsn (by omega) hew)
   have hks := allocE_pl hao HPL.out.err hrn hsn (by omega)
   have HKS : Hid (0 ≤ a.k ∧ a.k ≤ 2048) := hks.1
   have HAO := Lib.hid hao
   have HRN := Lib.hid hrn
   have HSN := Lib.hid hsn
   unfold AL.v at HE
   have c0 := hbx.box.cell 0
   have c1 := hbx.box.cell 1
   have c2 := hbx.box.cell 2
   have c3 := hbx.box.cell 3
   have a0 := hbk.cell 0
   have a1 := hbk.cell 1
   have a2 := hbk.cell 2
   simp only [List.getElem?_cons_zero, List.getElem?_cons_succ] at c0 c1 c2 c3 a0 a1 a2
   clear hbx hok hao hlaw hbk hreg h40 hka hew hks HEM HCO HR9 hrn hsn htos
   go_wp2_with fail
   refine HE.out.mono ?_
   rintro e w5 ⟨XL, v, p, hXL, rfl, hb5, hm⟩
   obtain ⟨ai, ci, ac, cc, am, cm, az, cz, aj, cj, e1, e2, e3, e4, e5⟩ := hm.shapes
   have HM := map_f (w := wc) (a := a) HOK.out HTOS.out hXL
   have HBX5 := Lib.hid (HBX.out.below hb5)
   have HBK5 := Lib.hid (HBK.out.below hb5 HBK.out.lt)
   have HAO5 := Lib.hid (HAO.out.below hb5)
   have hom := hm.om
   have hsl := hm.sl
   have hmm := hm.mm
   dsimp only at hom hmm e1 e2 e3
   obtain ⟨N, hN⟩ : ∃ q, q = (emitS f a n XL nb).maps.length := ⟨_, rfl⟩
   rw [← hN] at hom e3
   rw [e3] at hom
   have hml : N = v.mc.length := by rw [hN, ← hmm, List.length_map]
   have hnN : N = mapN f.blocks nb := hN.trans HM.len
   have HMA : Hid (∀ (i j : Nat) (b : VB) (x : VI), f.blocks[i]? = some b → b.ins[j]? = some x → mapB x = true → ∃ y, v.mc[mapN f.blocks i + mapJ b j]? = some y ∧ ∀ A : Nat → Bool, (∀ r, r < n → r ≠ 0 → (A r = true ↔ (r : Int) ≠ defV x ∧ AliveP f i (j + 1) r)) → PlaceOk a n A → MapAt a n a.k.toNat x A y.mp) := fun i j b x h1 h2 h3 => by
    obtain ⟨m, h4, h5⟩ := HM.at_ i j b x h1 h2 h3
    rw [← hmm, List.getElem?_map] at h4
    obtain ⟨y, h6, h7⟩ := Option.map_eq_some_iff.1 h4
    exact ⟨y, h6, by rw [h7]; exact h5⟩
   obtain ⟨ms, hms⟩ : ∃ q, q = v.mc := ⟨_, rfl⟩
   rw [← hms] at hom hml HMA hsl
   obtain ⟨Kn, hKn⟩ : ∃ q : Nat, a.k + 1 = (q : Int) := ⟨(a.k + 1).toNat, by have := HKS.out; omega⟩
   have HKN := Lib.hid hKn
   unfold lkV
   rw [e1, e2, e3, hKn]
   obtain ⟨mi, hmi⟩ : ∃ q, q = (emitS f a n XL nb).done.length := ⟨_, rfl⟩
   obtain ⟨mc, hmc⟩ : ∃ q, q = (emitS f a n XL nb).calls.length := ⟨_, rfl⟩
   rw [← hmi, ← hmc]
   have HOM := Lib.hid hom
   have HSLL := Lib.hid hsl
   have HML := Lib.hid hml
   have HNN := Lib.hid hnN
   have hkn1 : 1 ≤ Kn ∧ Kn ≤ 2049 := by have := HKS.out; omega
   clear hb5 hm e1 e2 e3 e4 e5 hom hsl hmm hmi hmc hN hml hnN HM hms hKn HE HBX HBK HAO c0 c1 c2 c3 a0 a1 a2 hXL
   go_upto_region 9 with fail
   have hbb : Below w5.heap.size w5 (w5.alloc (.cells #[.int .i64 f.name, .slice ai mi ci, .slice ac mc cc, .slice am N cm, .int .i64 (Kn : Int)] 39)) := (Below.refl _ _).alloc (Nat.le_refl _) _
   have HBX6 := Lib.hid (HBX5.out.below hbb)
   have HBK6 := Lib.hid (HBK5.out.below hbb HBK5.out.lt)
   have HAO6 := Lib.hid (HAO5.out.below hbb)
   have HOM6 := Lib.hid (ownG_below HOM.out hbb)
   have HSL6 : Hid (∀ x ∈ ms, (w5.alloc (.cells #[.int .i64 f.name, .slice ai mi ci, .slice ac mc cc, .slice am N cm, .int .i64 (Kn : Int)] 39)).ownsRow _ 3 1 x.sv x.mp.slots.length (slC x.mp)) := fun x hx => ownG_below (HSLL.out x hx).1 hbb
   have HBO := Lib.hid (Blk.new w5 [.int .i64 f.name, .slice ai mi ci, .slice ac mc cc, .slice am N cm, .int .i64 (Kn : Int)] 39)
   obtain ⟨bo, hbo⟩ : ∃ q, q = w5.heap.size := ⟨_, rfl⟩
   rw [← hbo] at HBO ⊢
   clear hbb HBX5 HBK5 HOM HSLL HAO5 hbo
   change Code.wp _ _ _ _ (w5.alloc (.cells #[.int .i64 f.name, .slice ai mi ci, .slice ac mc cc, .slice am N cm, .int .i64 (Kn : Int)] 39))
   change Hid (Blk (w5.alloc (.cells #[.int .i64 f.name, .slice ai mi ci, .slice ac mc cc, .slice am N cm, .int .i64 (Kn : Int)] 39)) bo _ _) at HBO
   generalize w5.alloc (.cells #[.int .i64 f.name, .slice ai mi ci, .slice ac mc cc, .slice am N cm, .int .i64 (Kn : Int)] 39) = w6 at HBX6 HBK6 HAO6 HOM6 HSL6 HBO ⊢
   have q7 : ((Kn : Int) != a.k + 1) = false := by simp [HKN.out]
   have hka1 := HKS.out.1
   have hka2 := HKS.out.2
   have o4 : w6.cell? ⟨bo, 4, none⟩ = some (.int .i64 (Kn : Int)) := HBO.out.cell 4
   have a2 : w6.cell? ⟨b5, 2, none⟩ = some (.int .i64 a.k) := HBK6.out.cell 2
   have c3 := HBX6.out.box.cell 3
   simp only [List.getElem?_cons_zero, List.getElem?_cons_succ] at c3
   have hlen := HF.out.len
   have hnb : f.blocks.length ≤ 20 := by have := H20.out; omega
   obtain ⟨sn, hsn⟩ : ∃ q, q = f.sn := ⟨_, rfl⟩
   rw [← hsn] at c3 hlen
   clear hsn
   go_wp2_with fail
   clear c3 o4 a2 q7
   go_loopw [8, 59] (fun u8 u59 wr => ∃ i : Nat, i ≤ sn ∧ u59 = .int .i64 (i : Int) ∧ u8 = .int .i64 (mapN f.blocks i : Nat) ∧ Below w6.heap.size w6 wr) (fun _ u _ => sn - (intOf u).toNat)
   case atStart => exact ⟨0, Nat.zero_le _, rfl, rfl, Below.refl _ _⟩
   case round =>
    obtain ⟨i, hi, rfl, rfl, hbe⟩ := hrel
    by_cases hlt : i < sn
    ·have hib : i < f.blocks.length := by omega
     have hbw : Below w.heap.size w wr := HBX6.out.be.trans (hbe.mono HBX6.out.be.size)
     obtain ⟨gb, ob, hsa, hgb, d0, d1, d2, d3, d4, d5, d6⟩ := HF.out.cells hbw hib
     have hbo' : f.blocks[i].Ok w := HF.out.blocks _ (List.getElem_mem _)
     have hbg : f.blocks[i]? = some f.blocks[i] := List.getElem?_eq_getElem hib
     have hbs := HOK.out.ins i (by have := HOK.out.nbl; omega)
     rw [← VF.blk_get f hib] at hbs
     obtain ⟨bk, hbk⟩ : ∃ b, b = f.blocks[i] := ⟨_, rfl⟩
     rw [← hbk] at d0 d1 d2 d3 d4 d5 d6 hbo' hbg hbs
     have hsa2 := HSA.out.trans hsa
     have hbl := hbo'.len
     have HBB := Lib.hid hbo'
     have HBG := Lib.hid hbg
     have HBE := Lib.hid hbe
     obtain ⟨sb, hsb⟩ : ∃ s, s = bk.sa := ⟨_, rfl⟩
     rw [← hsb] at d0
     have HSB := Lib.hid hsb
     have hb4 : Below wr.heap.size wr (wr.alloc (.cells #[.slice sb bk.sn bk.sc, .int .i64 bk.e.kind, .int .i64 bk.e.op, .int .i64 bk.e.a, .int .i64 bk.e.b, .int .i64 bk.e.n, .slice bk.e.sa bk.e.sn bk.e.sc] 46)) := (Below.refl _ _).alloc (Nat.le_refl _) _
     have HBV := Lib.hid (Blk.new wr [.slice sb bk.sn bk.sc, .int .i64 bk.e.kind, .int .i64 bk.e.op, .int .i64 bk.e.a, .int .i64 bk.e.b, .int .i64 bk.e.n, .slice bk.e.sa bk.e.sn bk.e.sc] 46)
     have HBE4 := Lib.hid (hbe.trans (hb4.mono hbe.size))
     clear hb4 hbk hsb hbo' hbg hsa hbe hbw
     subst hsa2
     go_upto_region 15 with fail
     obtain ⟨vb, hvb⟩ : ∃ x, x = wr.heap.size := ⟨_, rfl⟩
     rw [← hvb] at HBV ⊢
     change Code.wp _ _ _ _ (wr.alloc (.cells #[.slice sb bk.sn bk.sc, .int .i64 bk.e.kind, .int .i64 bk.e.op, .int .i64 bk.e.a, .int .i64 bk.e.b, .int .i64 bk.e.n, .slice bk.e.sa bk.e.sn bk.e.sc] 46))
     change Hid (Blk (wr.alloc (.cells #[.slice sb bk.sn bk.sc, .int .i64 bk.e.kind, .int .i64 bk.e.op, .int .i64 bk.e.a, .int .i64 bk.e.b, .int .i64 bk.e.n, .slice bk.e.sa bk.e.sn bk.e.sc] 46)) vb _ _) at HBV
     clear hvb d0 d1 d2 d3 d4 d5 d6 HBE
     generalize wr.alloc (.cells #[.slice sb bk.sn bk.sc, .int .i64 bk.e.kind, .int .i64 bk.e.op, .int .i64 bk.e.a, .int .i64 bk.e.b, .int .i64 bk.e.n, .slice bk.e.sa bk.e.sn bk.e.sc] 46) = w4 at HBE4 HBV ⊢
     have v0 := HBV.out.cell 0
     simp only [List.getElem?_cons_zero] at v0
     go_wp2_with fail
     clear v0 HBV
     go_loopw [8, 67] (fun u8 u67 wr => ∃ q : Nat, q ≤ bk.sn ∧ u67 = .int .i64 (q : Int) ∧ u8 = .int .i64 ((mapN f.blocks i + mapJ bk q : Nat) : Int) ∧ Below w6.heap.size w6 wr) (fun _ u _ => bk.sn - (intOf u).toNat)
     case atStart => exact ⟨0, Nat.zero_le _, rfl, rfl, HBE4.out⟩
     case round =>
      clear HBE4
      obtain ⟨q, hq, rfl, rfl, hbe⟩ := hrel
      by_cases hql : q < bk.sn
      ·have hqb : q < bk.ins.length := by omega
       have hbw : Below w.heap.size w wr := HBX6.out.be.trans (hbe.mono HBX6.out.be.size)
       have hxg : bk.ins[q]? = some bk.ins[q] := List.getElem?_eq_getElem hqb
       obtain ⟨z, hz⟩ : ∃ z, z = bk.ins[q] := ⟨_, rfl⟩
       obtain ⟨gi2, oi2, hsb2, hgi2, d0, d1, d2, d3, d4, d5⟩ := HBB.out.cells hbw hqb
       rw [← hz] at d0 d1 d2 d3 d4 d5 hxg
       have hsb3 := HSB.out.trans hsb2
       subst hsb3
       have hks := mapJ_succ hxg
       have hbe5 := (Below.refl wr.heap.size wr).alloc (Nat.le_refl _) (.cells #[.int .i64 z.op, .int .i64 z.d, .int .i64 z.a, .int .i64 z.b, .int .i64 z.n, .slice z.sa z.sn z.sc] 48)
       have HBV := Lib.hid (Blk.new wr [.int .i64 z.op, .int .i64 z.d, .int .i64 z.a, .int .i64 z.b, .int .i64 z.n, .slice z.sa z.sn z.sc] 48)
       have HBE5 := Lib.hid (hbe.trans (hbe5.mono hbe.size))
       have HXG := Lib.hid hxg
       clear hz hsb2 hbe5 hbe hbw hxg
       go_upto_region 18 with fail
       obtain ⟨vx, hvx⟩ : ∃ x, x = wr.heap.size := ⟨_, rfl⟩
       rw [← hvx] at HBV ⊢
       change Code.wp _ _ _ _ (wr.alloc (.cells #[.int .i64 z.op, .int .i64 z.d, .int .i64 z.a, .int .i64 z.b, .int .i64 z.n, .slice z.sa z.sn z.sc] 48))
       change Hid (Blk (wr.alloc (.cells #[.int .i64 z.op, .int .i64 z.d, .int .i64 z.a, .int .i64 z.b, .int .i64 z.n, .slice z.sa z.sn z.sc] 48)) vx _ _) at HBV
       clear hvx d0 d1 d2 d3 d4 d5
       generalize wr.alloc (.cells #[.int .i64 z.op, .int .i64 z.d, .int .i64 z.a, .int .i64 z.b, .int .i64 z.n, .slice z.sa z.sn z.sc] 48) = w5 at HBE5 HBV ⊢
       have v0 := HBV.out.cell 0
       simp only [List.getElem?_cons_zero] at v0
       have HKS2 := Lib.hid hks
       clear hks
       go_cut [13] from 68 to 221 (fun v13 wx => v13 = .bool (z.op == 101 || z.op == 102) ∧ wx = w5)
       case first => as_aux_lemma =>
        by_cases h : z.op = 101
        ·have e1 : (z.op == 101) = true := by simp [h]
         clear h
         go_wp2_with fail
         go_meet
         exact ⟨by rw [e1]; rfl, rfl⟩
        ·have e1 : (z.op == 101) = false := by simp [h]
         clear h
         go_wp2_with fail
         go_meet
         exact ⟨by rw [e1]; rfl, rfl⟩
       case rest => as_aux_lemma =>
        obtain ⟨rfl, hwc⟩ := hcut
        rw [hwc]
        clear hwc
        obtain ⟨cb, hcb⟩ : ∃ c, c = (z.op == 101 || z.op == 102) := ⟨_, rfl⟩
        rw [← hcb]
        have HCB := Lib.hid hcb
        clear hcb
        go_upto_region 19 with fail
        go_cut [91] from 68 to 221 (fun v91 wx => ∃ s : Bool, v91 = .bool s ∧ (s = !mapB z) ∧ wx = w5)
        case first => as_aux_lemma =>
         rcases Bool.eq_false_or_eq_true cb with hc | hc
         ·have hmb : mapB z = true := by
           have h1 := HCB.out
           rw [hc] at h1
           unfold mapB
           rw [← h1]; rfl
          have HMB := Lib.hid hmb
          clear hmb
          go_wp2_with fail
          go_meet
          exact ⟨_, rfl, by rw [HMB.out]; rfl, rfl⟩
         ·have hmb : mapB z = (z.op == 14 || z.op == 15) := by
           have h1 := HCB.out
           rw [hc] at h1
           unfold mapB
           rw [← h1]; rfl
          have HMB := Lib.hid hmb
          clear hmb
          by_cases h : z.op = 14
          ·have e1 : (z.op != 14) = false := by simp [h]
           have HE : Hid ((z.op == 14) = true) := by show _ = _; simp [h]
           clear h
           go_wp2_with fail
           go_meet
           exact ⟨_, rfl, by rw [HMB.out, HE.out]; rfl, rfl⟩
          ·have e1 : (z.op != 14) = true := by simp [h]
           have HE : Hid ((z.op == 14) = false) := by show _ = _; simp [h]
           clear h
           go_wp2_with fail
           go_meet
           exact ⟨_, rfl, by rw [HMB.out, HE.out]; rfl, rfl⟩
        case rest => as_aux_lemma =>
         obtain ⟨sk, rfl, hsk, hwc⟩ := hcut
         rw [hwc]
         clear hwc
         cases sk with
         | true =>
          have hr : ¬ mapB z = true := fun e => by rw [e] at hsk; cases hsk
          have hks := HKS2.out
          rw [if_neg hr] at hks
          have HKS3 := Lib.hid hks
          clear hr hks hsk v0
          go_wp2_with fail
          go_roundw
          case rel => exact ⟨q + 1, by omega, by go_num, by rw [HKS3.out]; rfl, HBE5.out⟩
          case measure => simp [intOf]; omega
         | false =>
          have hr : mapB z = true := by
           cases h : mapB z
           ·rw [h] at hsk; cases hsk
           ·rfl
          have hks := HKS2.out
          rw [if_pos hr] at hks
          have HKS3 := Lib.hid hks
          have HMP := Lib.hid hr
          obtain ⟨y, hy, hyA⟩ := HMA.out i q bk z HBG.out HXG.out hr
          have hinb : i < nb := by have := HOK.out.nbl; omega
          have HMT := Lib.hid (hyA (alF f i q (defV z)) (fun r _ _ => alF_iff _ _ _ _ _) (alF_ok HPL.out HAO6.out HRN.out HSN.out HTOS.out hinb q (defV z)))
          have HSLT : Hid (∀ t, sloF a (alF f i q (defV z)) n t = true → (t : Int) < a.k) := fun t h => sloF_lt HPL.out HAO6.out HRN.out HSN.out HTOS.out hinb q (defV z) h
          have HPLC : Hid (∀ r, r < n → r ≠ 0 → AliveP f i (q + 1) r → (a.slot.getD r (-1) < 0 ∧ 0 < a.reg.getD r 0 ∧ a.reg.getD r 0 ≤ 10 ∧ ofP a r = (a.reg.getD r 0, -1)) ∨ (0 ≤ a.slot.getD r (-1) ∧ a.slot.getD r (-1) < a.k ∧ ofP a r = (-1, a.slot.getD r (-1)))) := fun r h1 h2 h3 => place_live HPL.out HAO6.out HRN.out HSN.out h1 h2 (alive_occ HTOS.out hinb h3)
          have HSET : Hid (∀ r, r ≤ n → setF a (alF f i q (defV z)) r < 2048) := setF_lt (alF_ok HPL.out HAO6.out HRN.out HSN.out HTOS.out hinb q (defV z))
          have HALF : Hid (∀ r, alF f i q (defV z) r = true ↔ (r : Int) ≠ defV z ∧ AliveP f i (q + 1) r) := alF_iff f i q (defV z)
          obtain ⟨A, hA⟩ : ∃ A, A = alF f i q (defV z) := ⟨_, rfl⟩
          rw [← hA] at HMT HSLT HSET HALF
          obtain ⟨kk, hkk⟩ : ∃ k, k = mapN f.blocks i + mapJ bk q := ⟨_, rfl⟩
          rw [← hkk] at hy ⊢
          have hkl : kk < N := by rw [HML.out]; exact (List.getElem?_eq_some_iff.mp hy).1
          have hom6 := HOM6.out
          obtain ⟨gm, cm', hgm, _, hgml, hgmc, hgmm⟩ := ownG_has hom6 (by omega)
          injection hgm with x1 _ x3
          subst x1 x3
          unfold maxLen at hgmm
          obtain ⟨_, m0, m1, m2, m3⟩ := mc_cells (ownG_below hom6 HBE5.out) HML.out hy
          have hsl := HSL6.out y (List.mem_of_getElem? hy)
          obtain ⟨ya, yc, hyv, hyc⟩ := came_ownsV (rs := y.mp.slots.map fun (t : Nat) => (t : Int)) (by rw [List.length_map, List.map_map]; exact hsl)
          rw [List.length_map] at hyv hyc
          rw [hyv] at m2
          have HYC := Lib.hid hyc
          have hya : y.mp.after = cb := by rw [HMT.out.after, HCB.out]
          rw [hya] at m1
          have qk : ((kk : Int) == (N : Int)) = false := by simp; omega
          have o3 := (HBE5.out.cell (p := ⟨bo, 3, none⟩) HBO.out.lt).trans (HBO.out.cell 3)
          simp only [List.getElem?_cons_zero, List.getElem?_cons_succ] at o3
          have HK := Lib.hid hkk
          have HYA := Lib.hid hya
          obtain ⟨yn, hyn⟩ : ∃ q, q = y.mp.slots.length := ⟨_, rfl⟩
          rw [← hyn] at m2 HYC
          have HYN := Lib.hid hyn
          have hbm := (Below.refl w5.heap.size w5).alloc (Nat.le_refl _) (.cells #[.int .i64 (y.mp.item : Int), .bool cb, .slice ya yn yc, .int .i64 (y.mp.regs : Int)] 50)
          have HMB := Lib.hid (Blk.new w5 [.int .i64 (y.mp.item : Int), .bool cb, .slice ya yn yc, .int .i64 (y.mp.regs : Int)] 50)
          have HBE6 := Lib.hid (HBE5.out.trans (hbm.mono HBE5.out.size))
          have HVX6 := Lib.hid (HBV.out.below hbm HBV.out.lt)
          clear hr hks hsk v0 hy hyA hsl hyv hyc hkk hA hbm hyn HKS2 HMA hom6
          go_upto_region 23 with fail
          obtain ⟨mb, hmb⟩ : ∃ x, x = w5.heap.size := ⟨_, rfl⟩
          have HMO : Hid (w6.heap.size ≤ mb) := by rw [hmb]; exact HBE5.out.size
          rw [← hmb] at HMB ⊢
          change Code.wp _ _ _ _ (w5.alloc (.cells #[.int .i64 (y.mp.item : Int), .bool cb, .slice ya yn yc, .int .i64 (y.mp.regs : Int)] 50))
          change Hid (Blk (w5.alloc (.cells #[.int .i64 (y.mp.item : Int), .bool cb, .slice ya yn yc, .int .i64 (y.mp.regs : Int)] 50)) mb _ _) at HMB
          clear hmb m0 m1 m2 m3 qk o3 HBE5 HBV
          generalize w5.alloc (.cells #[.int .i64 (y.mp.item : Int), .bool cb, .slice ya yn yc, .int .i64 (y.mp.regs : Int)] 50) = w7 at HBE6 HVX6 HMB ⊢
          have o4 := (HBE6.out.cell (p := ⟨bo, 4, none⟩) HBO.out.lt).trans (HBO.out.cell 4)
          simp only [List.getElem?_cons_zero, List.getElem?_cons_succ] at o4
          have hmk : ∀ w : World, (Instr.makeSlice 51 (.int .i64 (Kn : Int)) (.int .i64 (Kn : Int))).run Tryz.prog w = .ok (.slice (some ⟨w.heap.size, 0, none⟩) Kn Kn) (w.alloc (.cells (rowL Kn fun _ => .bool false).toArray 4)) := fun w => run_make_rep (P := Tryz.prog) 51 4 (.bool false) 1 Tryz.underlying51 Tryz.infoB4 rfl Kn (by omega) (by omega) w
          go_upto_block 4 with fail
          have hbr := (Below.refl w7.heap.size w7).alloc (Nat.le_refl _) (.cells (rowL Kn fun _ => .bool false).toArray 4)
          have HGR := Lib.hid (Blk.new w7 (rowL Kn fun _ => .bool false) 4)
          have HBE7 := Lib.hid (HBE6.out.trans (hbr.mono HBE6.out.size))
          have HVX7 := Lib.hid (HVX6.out.below hbr HVX6.out.lt)
          have HMB7 := Lib.hid (HMB.out.below hbr HMB.out.lt)
          have HGL : Hid (w6.heap.size ≤ w7.heap.size) := HBE6.out.size
          obtain ⟨gs, hgs⟩ : ∃ x, x = w7.heap.size := ⟨_, rfl⟩
          rw [← hgs] at HGR HGL ⊢
          change Hid (Blk (w7.alloc (.cells (rowL Kn fun _ => .bool false).toArray 4)) gs _ _) at HGR
          clear hgs hbr hmk o4 HBE6 HVX6 HMB
          generalize w7.alloc (.cells (rowL Kn fun _ => .bool false).toArray 4) = w8 at HGR HBE7 HVX7 HMB7 ⊢
          have hpos := HOK.out.n2.1
          go_cut [15, 17] from 68 to 221 (fun v15 _ wx => v15 = .int .i64 (setF a A n : Nat) ∧ Below w6.heap.size w6 wx ∧ BRow wx gs Kn (sloF a A n) ∧ Blk wx mb 50 [.int .i64 (y.mp.item : Int), .bool cb, .slice ya yn yc, .int .i64 (y.mp.regs : Int)] ∧ Blk wx vx 48 [.int .i64 z.op, .int .i64 z.d, .int .i64 z.a, .int .i64 z.b, .int .i64 z.n, .slice z.sa z.sn z.sc])
          case first => as_aux_lemma =>
           have HG0 : Hid (BRow w8 gs Kn (fun t => sloF a A 1 t)) := Blk.rowCongr HGR.out fun t _ => by show Value.bool false = .bool (sloF a A (0 + 1) t); rw [sloF_succ]; simp [sloF]
           have HS0 : Hid (setF a A 1 = 0) := by show setF a A (0 + 1) = 0; rw [setF_succ]; simp [setF]
           go_wp2_with fail
           go_loopw [15, 17] (fun u15 u17 wr => ∃ m : Nat, 1 ≤ m ∧ m ≤ n ∧ u17 = .int .i64 (m : Int) ∧ u15 = .int .i64 (setF a A m : Nat) ∧ Below w6.heap.size w6 wr ∧ BRow wr gs Kn (fun t => sloF a A m t) ∧ Blk wr mb 50 [.int .i64 (y.mp.item : Int), .bool cb, .slice ya yn yc, .int .i64 (y.mp.regs : Int)] ∧ Blk wr vx 48 [.int .i64 z.op, .int .i64 z.d, .int .i64 z.a, .int .i64 z.b, .int .i64 z.n, .slice z.sa z.sn z.sc]) (fun _ u _ => n - (intOf u).toNat)
           case atStart => exact ⟨1, Nat.le_refl _, hpos, rfl, by rw [HS0.out]; rfl, HBE7.out, HG0.out, HMB7.out, HVX7.out⟩
           case round =>
            clear HG0 HMB7 HVX7 HBE7 HGR HS0
            obtain ⟨m, hm1, hmn, rfl, rfl, hbe, hrow, hmb, hvx⟩ := hrel
            have HBE8 := Lib.hid hbe
            have HROW8 := Lib.hid hrow
            have HMB8 := Lib.hid hmb
            have HVX8 := Lib.hid hvx
            have HBX8 := Lib.hid (HBX6.out.below hbe)
            have c2 := HBX8.out.box.cell 2
            simp only [List.getElem?_cons_zero, List.getElem?_cons_succ] at c2
            rw [HOK.out.regs] at c2
            clear hbe hrow hmb hvx
            by_cases hmm : m < n
            ·obtain ⟨dz, hdz⟩ : ∃ d, d = defV z := ⟨_, rfl⟩
             have d0 := HVX8.out.cell 0
             have d1 := HVX8.out.cell 1
             have d2 := HVX8.out.cell 2
             have d3 := HVX8.out.cell 3
             have d4 := HVX8.out.cell 4
             have d5 := HVX8.out.cell 5
             simp only [List.getElem?_cons_zero, List.getElem?_cons_succ] at d0 d1 d2 d3 d4 d5
             have HDF := fun wx => Lib.hid (insDef_any z wx)
             unfold viV at HDF
             rw [← hdz] at HDF
             have HAF := HALF.out m
             rw [← hdz] at HAF
             have hmi : (m : Int) < (n : Int) := by omega
             clear hdz
             go_wp2_with fail
             refine (HDF _).out.mono ?_
             rintro e w9 ⟨rfl, hb9⟩
             have HBE9 := Lib.hid (HBE8.out.trans (hb9.mono HBE8.out.size))
             have HROW9 : Hid (BRow w9 gs Kn (fun t => sloF a A m t)) := Blk.below HROW8.out hb9 (Blk.lt HROW8.out)
             have HMB9 := Lib.hid (HMB8.out.below hb9 HMB8.out.lt)
             have HVX9 := Lib.hid (HVX8.out.below hb9 HVX8.out.lt)
             have HBX9 := Lib.hid (HBX8.out.below hb9)
             clear hb9 HDF d0 d1 d2 d3 d4 d5 c2 HBE8 HROW8 HMB8 HVX8 HBX8
             by_cases hd : (m : Int) = dz
             ·have q1 : ((m : Int) == dz) = true := by simp [hd]
              have hA0 : A m = false := Bool.eq_false_iff.2 fun e => (HAF.1 e).1 hd
              have HSK := Lib.hid (setF_skip (a := a) hA0)
              clear hd hA0 HAF
              go_wp2_with fail
              go_roundw
              case rel => exact ⟨m + 1, by omega, by omega, by go_num, by rw [HSK.out.1], HBE9.out, Blk.rowCongr HROW9.out (fun t _ => congrArg Value.bool (HSK.out.2 t).symm), HMB9.out, HVX9.out⟩
              case measure => simp [intOf]; omega
             ·have q1 : ((m : Int) == dz) = false := by simp [hd]
              have HA1 := HAV.out w9 HBX9.out.be n nb HOK.out HTOS.out i (q + 1) m hinb (by omega) (by omega) (by omega)
              rw [HOK.out.regs, show ((q + 1 : Nat) : Int) = (q : Int) + 1 by omega] at HA1
              have HA2 := Lib.hid HA1
              have c0 := HBX9.out.box.cell 0
              have c1 := HBX9.out.box.cell 1
              have c2 := HBX9.out.box.cell 2
              have c3 := HBX9.out.box.cell 3
              simp only [List.getElem?_cons_zero, List.getElem?_cons_succ] at c0 c1 c2 c3
              rw [HOK.out.regs] at c2
              clear HA1
              go_wp2_with fail
              refine HA2.out.mono ?_
              rintro e w10 ⟨b, rfl, hbA, hb10⟩
              have HBE10 := Lib.hid (HBE9.out.trans (hb10.mono HBE9.out.size))
              have HROW10 : Hid (BRow w10 gs Kn (fun t => sloF a A m t)) := Blk.below HROW9.out hb10 (Blk.lt HROW9.out)
              have HMB10 := Lib.hid (HMB9.out.below hb10 HMB9.out.lt)
              have HVX10 := Lib.hid (HVX9.out.below hb10 HVX9.out.lt)
              clear hb10 HA2 c0 c1 c2 c3 HBE9 HROW9 HMB9 HVX9 HBX9
              cases b with
              | false =>
               have hA0 : A m = false := Bool.eq_false_iff.2 fun e => by have := hbA.2 (HAF.1 e).2; cases this
               have HSK := Lib.hid (setF_skip (a := a) hA0)
               clear hd hA0 HAF hbA
               go_wp2_with fail
               go_roundw
               case rel => exact ⟨m + 1, by omega, by omega, by go_num, by rw [HSK.out.1], HBE10.out, Blk.rowCongr HROW10.out (fun t _ => congrArg Value.bool (HSK.out.2 t).symm), HMB10.out, HVX10.out⟩
               case measure => simp [intOf]; omega
              | true =>
               have hAm : A m = true := HAF.2 ⟨hd, hbA.1 rfl⟩
               have hpl := HPLC.out m hmm (by omega) (hbA.1 rfl)
               have hao10 := HAO6.out.below HBE10.out
               have hrl : a.reg.length = n := by rw [← HRN.out]; simpa using HAO6.out.rcame.count
               have hsl2 : a.slot.length = n := by rw [← HSN.out]; simpa using HAO6.out.scame.count
               obtain ⟨gsl, osl, hsa3, hgl, hcs⟩ := hao10.scame.ints (by rw [HSN.out]; omega)
               obtain ⟨grl, orl, hra3, hgr, hcr⟩ := hao10.rcame.ints (by rw [HRN.out]; omega)
               have s1 := hcs m (by omega)
               have r1 := hcr m (by omega)
               have hsv : a.slot.getD m (-1) = a.slot[m]'(by omega) := by simp [List.getD_eq_getElem?_getD, show m < a.slot.length by omega]
               have hrv : a.reg.getD m 0 = a.reg[m]'(by omega) := by simp [List.getD_eq_getElem?_getD, show m < a.reg.length by omega]
               have bk6 := HBK6.out.below HBE10.out HBK6.out.lt
               have a0 := bk6.cell 0
               have a1 := bk6.cell 1
               simp only [List.getElem?_cons_zero, List.getElem?_cons_succ] at a0 a1
               rw [hsa3, HSN.out] at a1
               rw [hra3, HRN.out] at a0
               obtain ⟨svv, hsvv⟩ : ∃ x, x = a.slot[m]'(by omega) := ⟨_, rfl⟩
               obtain ⟨rvv, hrvv⟩ : ∃ x, x = a.reg[m]'(by omega) := ⟨_, rfl⟩
               rw [← hsvv] at s1 hsv
               rw [← hrvv] at r1 hrv
               rw [hsv, hrv] at hpl
               have hrc := HAO6.out.rcame.le
               have hrm := HAO6.out.rcame.max
               have hsc := HAO6.out.scame.le
               have hsm := HAO6.out.scame.max
               rw [HRN.out] at hrc
               rw [HSN.out] at hsc
               clear hsvv hrvv hsv hrv hao10 hcs hcr bk6 hd HAF hbA hsa3 hra3 hrl hsl2
               rcases hpl with ⟨p1, p2, p3, p4⟩ | ⟨p1, p2, p4⟩
               ·obtain ⟨qn, hqn⟩ : ∃ qn : Nat, rvv = (qn : Int) := ⟨rvv.toNat, by omega⟩
                subst hqn
                have hst := HSET.out m (by omega)
                have HOR := Lib.hid (or_bit2 (b := setF a A m) (k := qn) (by omega) (by omega)).1
                have HSK := Lib.hid (setF_reg hAm (by omega) p4)
                have q2 : decide (0 ≤ svv) = false := by simp; omega
                clear p4 hAm hst
                go_wp2_with fail
                go_roundw
                case rel => exact ⟨m + 1, by omega, by omega, by go_num, by rw [HSK.out.1, ← HOR.out], HBE10.out, Blk.rowCongr HROW10.out (fun t _ => congrArg Value.bool (HSK.out.2 t).symm), HMB10.out, HVX10.out⟩
                case measure => simp [intOf]; omega
               ·obtain ⟨tn, htn⟩ : ∃ tn : Nat, svv = (tn : Int) := ⟨svv.toNat, by omega⟩
                subst htn
                have HSK := Lib.hid (setF_slot hAm (by omega) p4)
                have hkn9 := HKN.out
                have htk : tn < Kn := by omega
                have q2 : decide (0 ≤ (tn : Int)) = true := by simp
                have z1 := HROW10.out.cell htk
                have z2 := Blk.free HROW10.out tn
                have hg1 : mb ≠ gs := blk_tyM HMB10.out HROW10.out (by decide)
                have hg2 : vx ≠ gs := blk_tyM HVX10.out HROW10.out (by decide)
                have HROW11 := Lib.hid (HROW10.out.set tn true)
                have HMB11 := Lib.hid (HMB10.out.setOther (a := ⟨gs, tn, none⟩) hg1 (.bool true))
                have HVX11 := Lib.hid (HVX10.out.setOther (a := ⟨gs, tn, none⟩) hg2 (.bool true))
                have HBE11 := Lib.hid (HBE10.out.setCell (p := ⟨gs, tn, none⟩) HGL.out (.bool true))
                clear p4 hAm hg1 hg2 hkn9
                go_wp2_with fail
                go_roundw
                case rel => exact ⟨m + 1, by omega, by omega, by go_num, by rw [HSK.out.1], HBE11.out, Blk.rowCongr HROW11.out (fun t _ => congrArg Value.bool (HSK.out.2 t).symm), HMB11.out, HVX11.out⟩
                case measure => simp [intOf]; omega
            ·have em : m = n := by omega
             subst em
             clear hmm
             go_wp2_with fail
             go_meet
             exact ⟨rfl, HBE8.out, HROW8.out, HMB8.out, HVX8.out⟩
          case rest => as_aux_lemma =>
           obtain ⟨rfl, hbe, hrow, hmb, hvx⟩ := hcut
           have HBE8 := Lib.hid hbe
           have HROW8 := Lib.hid hrow
           have HMB8 := Lib.hid hmb
           have HVX8 := Lib.hid hvx
           have hkn9 := HKN.out
           have hyl : y.mp.slots = (List.range Kn).filter (sloF a A n) := by
            rw [HMT.out.slots, slots_full (fun t h => by have := HSLT.out t h; omega), show a.k.toNat + 1 = Kn by omega]
           have hyc0 : Came w6 ya yn yc 1 ((((List.range Kn).filter (sloF a A n)).drop (cntS (sloF a A n) 0)).map fun t => intCells ((t : Nat) : Int)) := by
            have h1 := HYC.out
            rw [hyl, List.map_map] at h1
            exact h1
           have HYC0 := Lib.hid hyc0
           have HCALL := Lib.hid HMT.out.call
           have HAL := Lib.hid HMT.out.al
           have HNW := Lib.hid HMT.out.nw
           have hset := HSET.out n (Nat.le_refl _)
           obtain ⟨S, hS⟩ : ∃ S, S = sloF a A n := ⟨_, rfl⟩
           obtain ⟨ss, hss⟩ : ∃ S, S = setF a A n := ⟨_, rfl⟩
           rw [← hS] at HROW8 HYC0
           rw [← hss] at HAL HNW hset ⊢
           clear hbe hrow hmb hvx hkn9 hyl hyc0 hS hss HYC HMT HSLT HPLC HALF HSET HBE7 HMB7 HVX7 HGR HYN
           go_wp2_with fail
           go_loopw [159] (fun u wr => ∃ (s : Nat) (xa : Option Addr) (xn xc : Nat), s ≤ Kn ∧ u = .int .i64 (s : Int) ∧ Below w6.heap.size w6 wr ∧ BRow wr gs Kn S ∧ Blk wr mb 50 [.int .i64 (y.mp.item : Int), .bool cb, .slice xa xn xc, .int .i64 (y.mp.regs : Int)] ∧ Blk wr vx 48 [.int .i64 z.op, .int .i64 z.d, .int .i64 z.a, .int .i64 z.b, .int .i64 z.n, .slice z.sa z.sn z.sc] ∧ Came w6 xa xn xc 1 ((((List.range Kn).filter S).drop (cntS S s)).map fun t => intCells ((t : Nat) : Int))) (fun u _ => Kn - (intOf u).toNat)
           case atStart => exact ⟨0, ya, yn, yc, Nat.zero_le _, rfl, HBE8.out, HROW8.out, HMB8.out, HVX8.out, HYC0.out⟩
           case round =>
            clear HBE8 HROW8 HMB8 HVX8 HYC0
            obtain ⟨s, xa, xn, xc, hs, rfl, hbe, hrow, hmb, hvx, hyc⟩ := hrel
            have HBE8 := Lib.hid hbe
            have HROW8 := Lib.hid hrow
            have HMB8 := Lib.hid hmb
            have HVX8 := Lib.hid hvx
            have HYC := Lib.hid hyc
            have m2 := hmb.cell 2
            simp only [List.getElem?_cons_zero, List.getElem?_cons_succ] at m2
            by_cases hsk : s < Kn
            ·have b0 := hrow.cell hsk
             obtain ⟨bs, hbs⟩ : ∃ b, b = S s := ⟨_, rfl⟩
             rw [← hbs] at b0
             have hski : (s : Int) < (Kn : Int) := by omega
             cases bs with
             | false =>
              have HC : Hid (cntS S (s + 1) = cntS S s) := by show _ = _; rw [cntS_succ, ← hbs]; rfl
              clear hbs hbe hrow hmb hvx hyc
              go_wp2_with fail
              go_roundw
              case rel => exact ⟨s + 1, xa, xn, xc, by omega, by go_num, HBE8.out, HROW8.out, HMB8.out, HVX8.out, by rw [HC.out]; exact HYC.out⟩
              case measure => simp [intOf]; omega
             | true =>
              rw [slots_drop hsk hbs.symm] at hyc
              obtain ⟨xr, hxr⟩ : ∃ r, xn = r + 1 := ⟨xn - 1, by have := hyc.count; simp at this; omega⟩
              subst hxr
              obtain ⟨gy, oy, hy0, hgy, hcy⟩ := (show Came w6 xa (xr + 1) xc 1 (((s : Int) :: ((((List.range Kn).filter S).drop (cntS S (s + 1))).map fun t => ((t : Nat) : Int))).map intCells) by rw [List.map_cons, List.map_map]; exact hyc).ints (by omega)
              subst hy0
              have e0 : wr.cell? ⟨gy, oy, none⟩ = some (.int .i64 (s : Int)) := (hbe.cell (p := ⟨gy, oy, none⟩) hgy).trans (hcy 0 (by simp))
              have hle := hyc.le
              have hmx := hyc.max
              have HT : Hid (Came w6 (if xc = 1 then some ⟨gy, oy, none⟩ else some ⟨gy, oy + 1, none⟩) xr (xc - 1) 1 ((((List.range Kn).filter S).drop (cntS S (s + 1))).map fun t => intCells ((t : Nat) : Int))) := by
               have h1 := came_tail (z := (s : Int)) (zs := (((List.range Kn).filter S).drop (cntS S (s + 1))).map fun t => ((t : Nat) : Int)) (by rw [List.map_cons, List.map_map]; exact hyc)
               rw [List.map_map] at h1
               exact h1
              have hx0 : (((xr : Nat) : Int) + 1 == 0) = false := by simp; omega
              have z2 := hmb.free 2
              have hg1 : gs ≠ mb := fun e => blk_tyM hmb hrow (by decide) e.symm
              have hg2 : vx ≠ mb := blk_tyM hvx hmb (by decide)
              have hlo : w6.heap.size ≤ mb := HMO.out
              have hx1 : (((xr + 1 : Nat) : Int) == 0) = false := by simp; omega
              have HBE9 := fun v => Lib.hid (hbe.setCell (p := ⟨mb, 2, none⟩) hlo v)
              have HROW9 : ∀ v, Hid (BRow (wr.setCell ⟨mb, 2, none⟩ v) gs Kn S) := fun v => Blk.setOther (a := ⟨mb, 2, none⟩) hrow hg1 v
              have HMB9 := fun v => Lib.hid (hmb.set 2 v)
              have HVX9 := fun v => Lib.hid (hvx.setOther (a := ⟨mb, 2, none⟩) hg2 v)
              clear hbs hbe hrow hmb hvx hyc hcy hg1 hg2 hlo HBE8 HROW8 HMB8 HVX8 HYC
              go_wp2_with fail
              go_roundw
              case rel => exact ⟨s + 1, _, xr, xc - 1, by omega, by go_num, (HBE9 _).out, (HROW9 _).out, (HMB9 _).out, (HVX9 _).out, HT.out⟩
              case measure => simp [intOf]; omega
            ·have es : s = Kn := by omega
             have hx0 : xn = 0 := by
              have h1 := hyc.count
              rw [es, slots_end] at h1
              simpa using h1.symm
             subst hx0
             have m3 := hmb.cell 3
             have v0 := hvx.cell 0
             simp only [List.getElem?_cons_zero, List.getElem?_cons_succ] at m3 v0
             clear es hbe hrow hmb hvx hyc HROW8 HMB8 HVX8 HYC
             have hcb0 := HCB.out
             rcases Bool.eq_false_or_eq_true cb with hc | hc
             ·have hr0 : y.mp.regs = 0 := HCALL.out (by rw [HYA.out]; exact hc)
              rw [hr0] at m3
              have e14 : (z.op == 14) = false := op_not (by rw [← hcb0]; exact hc) (by decide)
              have e15 : (z.op == 15) = false := op_not (by rw [← hcb0]; exact hc) (by decide)
              clear hr0 hcb0
              go_wp2_with fail
              go_roundw
              case rel => exact ⟨q + 1, by omega, by go_num, by rw [HKS3.out, ← Nat.add_assoc, ← HK.out]; go_num, HBE8.out⟩
              case measure => simp [intOf]; omega
             ·have hop : z.op = 14 ∨ z.op = 15 := by
               have h1 := HMP.out
               unfold mapB at h1
               rw [← hcb0, hc] at h1
               simpa using h1
              rcases hop with h | h
              ·have e14 : (z.op == 14) = true := by simp [h]
               have e15 : (z.op == 15) = false := by simp [h]
               have hrs : y.mp.regs = ss := HAL.out h
               rw [hrs] at m3
               clear h hrs hcb0
               go_wp2_with fail
               go_roundw
               case rel => exact ⟨q + 1, by omega, by go_num, by rw [HKS3.out, ← Nat.add_assoc, ← HK.out]; go_num, HBE8.out⟩
               case measure => simp [intOf]; omega
              ·have e14 : (z.op == 14) = false := by simp [h]
               have e15 : (z.op == 15) = true := by simp [h]
               have hrs := HNW.out h
               have hbb := and_bits (b := y.mp.regs) (c := ss) (by omega)
               rw [hrs] at hbb
               have hbn : (bits .and .i64 (y.mp.regs : Int) (ss : Int) != (ss : Int)) = false := by rw [hbb]; simp
               clear h hrs hcb0 hbb
               go_wp2_with fail
               go_roundw
               case rel => exact ⟨q + 1, by omega, by go_num, by rw [HKS3.out, ← Nat.add_assoc, ← HK.out]; go_num, HBE8.out⟩
               case measure => simp [intOf]; omega
      ·have eq : q = bk.ins.length := by omega
       have hks := mapN_succ HBG.out
       rw [← eq] at hks
       have HBE := Lib.hid hbe
       clear hbe
       go_wp2_with fail
       go_roundw
       case rel => exact ⟨i + 1, by omega, by go_num, by rw [hks], HBE.out⟩
       case measure => simp [intOf]; omega
    ·have ei : i = nb := by have := HOK.out.nbl; omega
     have hke : mapN f.blocks i = N := by rw [ei, HNN.out]
     rw [hke]
     have HBE := Lib.hid hbe
     have o3 := (hbe.cell (p := ⟨bo, 3, none⟩) HBO.out.lt).trans (HBO.out.cell 3)
     simp only [List.getElem?_cons_zero, List.getElem?_cons_succ] at o3
     clear hbe
     go_wp2_with fail
     go_ret
     refine ⟨by simp, ?_⟩
     exact HBX6.out.be.trans (HBE.out.mono HBX6.out.be.size)
end Go.Proofs.YtdnpoomagjcpfaaGreat
