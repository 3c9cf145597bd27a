/- The walk of FrameReturns. -/
import Derived.Test.YtdnpoomagjcpfaaGreatRetAl
import Derived.Test.YtdnpoomagjcpfaaGreatAllocFct
import Derived.Test.YtdnpoomagjcpfaaGreatSmallK
import Derived.Test.YtdnpoomagjcpfaaGreatTimRef
namespace Go.Proofs.YtdnpoomagjcpfaaGreat
open Go.RowKit
set_option linter.unusedVariables false
set_option linter.unusedSimpArgs false

theorem mi_at : ∀ (l : List MI) (k : Nat) (hk : k < l.length), (l.flatMap miC)[k * 6]? = some (.int .i64 l[k].op) ∧ (l.flatMap miC)[k * 6 + 1]? = some (.int .i64 l[k].d) ∧ (l.flatMap miC)[k * 6 + 2]? = some (.int .i64 l[k].a) ∧ (l.flatMap miC)[k * 6 + 3]? = some (.int .i64 l[k].b) ∧ (l.flatMap miC)[k * 6 + 4]? = some (.int .i64 l[k].n) ∧ (l.flatMap miC)[k * 6 + 5]? = some (.int .i64 l[k].lab)
 | x :: l, 0, _ => ⟨rfl, rfl, rfl, rfl, rfl, rfl⟩
 | x :: l, k + 1, hk => by
  have h := mi_at l k (by simpa using hk)
  rw [show (k + 1) * 6 = k * 6 + 6 by omega]
  simp only [List.flatMap_cons, List.getElem_cons_succ]
  rw [List.getElem?_append_right (by rw [miC_len]; omega), List.getElem?_append_right (by rw [miC_len]; omega), List.getElem?_append_right (by rw [miC_len]; omega), List.getElem?_append_right (by rw [miC_len]; omega), List.getElem?_append_right (by rw [miC_len]; omega), List.getElem?_append_right (by rw [miC_len]; omega), miC_len]
  simpa only [show k * 6 + 6 - 6 = k * 6 by omega, show k * 6 + 6 + 1 - 6 = k * 6 + 1 by omega, show k * 6 + 6 + 2 - 6 = k * 6 + 2 by omega, show k * 6 + 6 + 3 - 6 = k * 6 + 3 by omega, show k * 6 + 6 + 4 - 6 = k * 6 + 4 by omega, show k * 6 + 6 + 5 - 6 = k * 6 + 5 by omega] using h
theorem wr_eq (x : MI) : wrOf x.op x.d = wrI x := by
 unfold wrOf wrI
 rfl
theorem results_row_single {P : Program} {fn : Func} {p : Tmp} {ty : TypeId} (h : fn.results = #[.cell p ty]) (tmps : Array Value) (w : World) (g : Nat) (t : TypeId) (cs : Array Value) (fr : Nat × Nat) (d : TypeDesc)
  (hp : tmps.getD p undef = .pointer (some ⟨g, 0, none⟩)) (hg : w.heap[g]? = some (.cells cs t fr))
  (hu : P.underlying ty = some d) (hd : (match d with | .struct _ | .array _ _ => true | _ => false) = true) (hi : (P.info? ty).map (·.size) = some cs.size) :
  (results fn tmps).run P w = .ok (.agg cs) w := by
 have hp' : tmps[p]?.getD undef = .pointer (some ⟨g, 0, none⟩) := by simpa using hp
 simp [results, h, hp', asAddr, run_loadVar_row w g t ty cs fr d hg hu hd hi]
theorem oneOp (a b c d e : Int) : (#[.int .i64 a, .int .i64 b, .int .i64 c, .int .i64 d, .int .i64 e] : Array Value).all (·.oneCell') = true := by simp [Value.oneCell']
set_option maxHeartbeats 2000000 in
theorem stack_any (z : Int) (w : World) : Calls Tryz.prog 15 #[.int .i64 z] w fun e w' => e = .returned (.agg #[.int .i64 8, .int .i64 14, .int .i64 14, .int .i64 0, .int .i64 z]) ∧ Below w.heap.size w w' := by
 have hb := (Below.refl w.heap.size w).alloc (Nat.le_refl _) (.cells #[.int .i64 0, .int .i64 0, .int .i64 0, .int .i64 0, .int .i64 0] 56)
 have HBL := Lib.hid (Blk.new w [.int .i64 0, .int .i64 0, .int .i64 0, .int .i64 0, .int .i64 0] 56)
 have HBE := Lib.hid hb
 have HSZ : Hid ((Tryz.prog.info? 56).map (·.size) = some 5) := by unfold Hid; kernel_rfl
 clear hb
 go_enter Tryz.func15, Tryz.ntmps15
 go_upto_region 1 with fail
 change Code.wp _ _ _ _ (w.alloc (.cells #[.int .i64 0, .int .i64 0, .int .i64 0, .int .i64 0, .int .i64 0] 56))
 obtain ⟨g, hg⟩ : ∃ g, g = w.heap.size := ⟨_, rfl⟩
 have HLE : Hid (w.heap.size ≤ g) := by show _ ≤ _; omega
 have HBL2 : Hid (Blk (w.alloc (.cells #[.int .i64 0, .int .i64 0, .int .i64 0, .int .i64 0, .int .i64 0] 56)) g 56 [.int .i64 0, .int .i64 0, .int .i64 0, .int .i64 0, .int .i64 0]) := by rw [hg]; exact HBL.out
 rw [← hg]
 clear HBL hg
 generalize w.alloc (.cells #[.int .i64 0, .int .i64 0, .int .i64 0, .int .i64 0, .int .i64 0] 56) = w1 at HBL2 HBE ⊢
 go_wp2_with (refine wpList_store_rowTo rfl 56 _ _ rfl rfl g #[.int .i64 8, .int .i64 14, .int .i64 14, .int .i64 0, .int .i64 z] rfl rfl _ _ HBL2.out HSZ.out rfl (oneOp _ _ _ _ _) ?_)
 have hr4 := setRowBlkE HBL2.out [.int .i64 8, .int .i64 14, .int .i64 14, .int .i64 0, .int .i64 z]
 exact bodyPost_ret (results_row_single rfl _ _ g _ _ _ _ rfl hr4 Tryz.underlying56 rfl HSZ.out) rfl ⟨rfl, setRowBelowE HBE.out HLE.out _⟩
theorem Came.lt {w : World} {a : Option Addr} {len cap : Nat} {l : List Int} (h : Came w a len cap 1 (l.map intCells)) (h0 : 0 < len) {q : Addr} (hq : a = some q) : q.block < w.heap.size := by
 obtain ⟨b, off, h1, h2, _⟩ := h.cells h0 (by omega)
 rw [hq] at h1
 injection h1 with h1
 rw [h1]; exact h2
theorem Came.setRow {w : World} {a : Option Addr} {len cap g : Nat} {vs : List (List Value)} (h : Came w a len cap 1 vs) (hg : ∀ q, a = some q → q.block ≠ g) (xs : Array Value) : Came (w.setRow g xs) a len cap 1 vs := by
 refine ⟨h.count, h.le, h.max, h.nil, h.size, fun h0 h1 => ?_⟩
 obtain ⟨b, off, e, hb, hc⟩ := h.cells h0 h1
 refine ⟨b, off, e, by simpa [World.setRow] using hb, fun i v hv j hj => ?_⟩
 rw [← hc i v hv j hj]
 refine World.cell?_of_block (a := ⟨b, off + (i * 1 + j), none⟩) ?_
 have hne := hg _ e
 simp only [World.setRow, Array.getElem?_modify]
 rw [if_neg (fun e => hne e.symm)]
theorem AL.Ok.setRow {w : World} {a : AL} (h : a.Ok w) {g : Nat} (hg : ∀ q, (a.ra = some q ∨ a.sa = some q) → q.block ≠ g) (xs : Array Value) : a.Ok (w.setRow g xs) :=
 ⟨h.rcame.setRow (fun q hq => hg q (.inl hq)) xs, h.rreach, h.reg, h.scame.setRow (fun q hq => hg q (.inr hq)) xs, h.sreach, h.slot, h.k⟩
theorem wp_store_rowE {P : Program} {o : Oper} {a : Act} {w : World} {K : Act → World → Prop} {W : Exit → Act → World → Prop} (ty : TypeId) (x y : Operand) (ho : o.op = .store ty x y) (hd : o.dst = none) (g : Nat) (cells : Array Value) (hx : a.eval x = .pointer (some ⟨g, 0, none⟩)) (hy : a.eval y = .agg cells)
  (t : TypeId) (old : Array Value) (hg : w.heap[g]? = some (.cells old t (0, 0))) (hi : (P.info? ty).map (·.size) = some cells.size) (hold : old.size = cells.size) (h1 : cells.all (·.oneCell') = true) (h : K a (w.setRow g cells)) : o.wp P a w K W := by
 exact wp_store_row ty x y ho g cells hx hy t old hg hi hold h1 (by rw [hd]; exact h)
theorem it_cells {w : World} {B gi mi ci : Nat} {its : List MI} (ho : w.ownsRow B 59 6 (.slice (some ⟨gi, 0, none⟩) mi ci) mi (its.flatMap miC)) (hmi : mi = its.length) {i : Nat} {x : MI} (hx : its[i]? = some x) :
  i < mi ∧ w.cell? ⟨gi, i * 6, none⟩ = some (.int .i64 x.op) ∧ w.cell? ⟨gi, i * 6 + 1, none⟩ = some (.int .i64 x.d) ∧ w.cell? ⟨gi, i * 6 + 2, none⟩ = some (.int .i64 x.a) ∧ w.cell? ⟨gi, i * 6 + 3, none⟩ = some (.int .i64 x.b) ∧ w.cell? ⟨gi, i * 6 + 4, none⟩ = some (.int .i64 x.n) ∧ w.cell? ⟨gi, i * 6 + 5, none⟩ = some (.int .i64 x.lab) := by
 obtain ⟨hi, he⟩ := List.getElem?_eq_some_iff.mp hx
 obtain ⟨h0, h1, h2, h3, h4, h5⟩ := mi_at its i hi
 rw [he] at h0 h1 h2 h3 h4 h5
 exact ⟨by omega, (ownE_cellAt ho (by omega)).1.trans h0, (ownE_cellAt ho (by omega)).1.trans h1, (ownE_cellAt ho (by omega)).1.trans h2, (ownE_cellAt ho (by omega)).1.trans h3, (ownE_cellAt ho (by omega)).1.trans h4, (ownE_cellAt ho (by omega)).1.trans h5⟩
theorem fc_cells {w : World} {B gc mc cc : Nat} {cs : List (Nat × Int)} (ho : w.ownsRow B 62 2 (.slice (some ⟨gc, 0, none⟩) mc cc) mc (cs.flatMap fcC)) (hmc : mc = cs.length) {k : Nat} {c : Nat × Int} (hc : cs[k]? = some c) :
  w.cell? ⟨gc, k * 2, none⟩ = some (.int .i64 (c.1 : Int)) ∧ w.cell? ⟨gc, k * 2 + 1, none⟩ = some (.int .i64 c.2) := by
 obtain ⟨hi, he⟩ := List.getElem?_eq_some_iff.mp hc
 have h0 := flatN_get fcC_len cs k 0 hi (by omega)
 have h1 := flatN_get fcC_len cs k 1 hi (by omega)
 rw [he] at h0 h1
 exact ⟨(ownE_cellAt ho (by omega)).1.trans h0, (ownE_cellAt ho (by omega)).1.trans h1⟩
/-- nothing changes -/
def SameW (w w' : World) : Prop := w'.heap = w.heap
instance : PreR SameW := ⟨fun w => rfl, fun h k => Eq.trans k h⟩
theorem SameW.at_ {w : World} {a : Addr} {v : Value} (h : w.cell? a = some v) (x : AfterR SameW w.drew) : x.world.cell? a = some v := (World.cell?_of_block (congrArg (fun h => h[a.block]?) x.rel)).trans h
set_option maxRecDepth 100000 in
set_option maxHeartbeats 8000000 in
theorem frameReturns_walk (f : VF) (k : Int) (w : World) (hf : f.Ok w) (hk : -9223372036854775808 ≤ k ∧ k ≤ 9223372036854775807) : Calls Tryz.prog 4 #[f.v, .int .i64 k] w fun e w' => e = .returned (.bool true) ∧ Below w.heap.size w w' := by
 have hb0 : BoxV f w (w.alloc (.cells #[.int .i64 f.name, .slice f.pa f.pn f.pc, .int .i64 f.regs, .slice f.sa f.sn f.sc] 25)) f.pa f.sa := ⟨(Below.refl _ _).alloc (Nat.le_refl _) _, Blk.new w [.int .i64 f.name, .slice f.pa f.pn f.pc, .int .i64 f.regs, .slice f.sa f.sn f.sc] 25⟩
 have HF := Lib.hid hf
 have HSM := Lib.hid fun wx (h : Below w.heap.size w wx) => smallK_ok wx f (hf.below h)
 have HCO := Lib.hid fun wx (h : Below w.heap.size w wx) K (hK : I64 K) => allocate_new wx f (hf.below h) K hK
 have HEM := Lib.hid fun wx (h : Below w.heap.size w wx) a (ha : a.Ok wx) n nb k' (h1 : FnOk f n nb) (h2 : fnE f = 0) (h3 : PlacedA f n nb k' a) (h4 : a.rn = n) (h5 : a.sn = n) (h6 : a.k ≤ 2048) (h7 : emW f.blocks ≤ 8000000) => emitA_any wx f (hf.below h) a ha h1 h2 h3 h4 h5 h6 h7
 have HCF := Lib.hid fun wx => allocFact_ok wx
 unfold VF.v at HSM HCO HEM ⊢
 obtain ⟨pa, hpa⟩ : ∃ s, s = f.pa := ⟨_, rfl⟩
 obtain ⟨sa, hsa⟩ : ∃ s, s = f.sa := ⟨_, rfl⟩
 rw [← hpa, ← hsa] at hb0 HSM HCO HEM ⊢
 have HSA := Lib.hid hsa
 have HB0 := Lib.hid hb0
 have hk1 := hk.1
 have hk2 := hk.2
 clear hf hb0 hpa hsa hk
 go_enter Tryz.func4, Tryz.ntmps4
 go_upto_region 1 with fail
 generalize w.alloc (.cells #[.int .i64 f.name, .slice pa f.pn f.pc, .int .i64 f.regs, .slice sa f.sn f.sc] 25) = w1 at HB0 ⊢
 go_wp2_with fail
 refine (HCF.out w1).mono ?_
 rintro e w2 ⟨rfl, hb2⟩
 have HB2 := Lib.hid (HB0.out.below hb2)
 clear hb2 HB0 HCF
 have c0 := HB2.out.box.cell 0
 have c1 := HB2.out.box.cell 1
 have c2 := HB2.out.box.cell 2
 have c3 := HB2.out.box.cell 3
 simp only [List.getElem?_cons_zero, List.getElem?_cons_succ] at c0 c1 c2 c3
 go_wp2_with fail
 refine (HSM.out w2 HB2.out.be).mono ?_
 rintro e w3 ⟨sm, rfl, hsm, hb3⟩
 have HB3 := Lib.hid (HB2.out.below hb3)
 clear hb3 HB2 c0 c1 c2 c3 HSM
 cases sm with
 | false =>
  go_wp2_with fail
  go_ret
  exact ⟨rfl, HB3.out.be⟩
 | true =>
  obtain ⟨h60, h20, hz⟩ := hsm rfl
  have HFN := Lib.hid hz
  have H60 := Lib.hid h60
  have H20 := Lib.hid h20
  clear hsm hz h60 h20
  have c0 := HB3.out.box.cell 0
  have c1 := HB3.out.box.cell 1
  have c2 := HB3.out.box.cell 2
  have c3 := HB3.out.box.cell 3
  simp only [List.getElem?_cons_zero, List.getElem?_cons_succ] at c0 c1 c2 c3
  have hbl : w.heap.size < w3.heap.size := HB3.out.box.lt
  have HSZ : Hid ((Tryz.prog.info? 31).map (·.size) = some 3) := by unfold Hid; kernel_rfl
  have HR9 : ∀ wx, Calls Tryz.prog 9 #[.int .i64 k, .int .i64 10] wx fun e w' => e = .returned (.int .i64 (k % 10)) ∧ wx = w' := fun wx => rest_any k 10 wx (by omega) (by omega)
  obtain ⟨r, hr⟩ : ∃ r, r = k % 10 := ⟨_, rfl⟩
  have hr1 : 0 ≤ r := by rw [hr]; exact Int.emod_nonneg _ (by omega)
  have hr2 : r < 10 := by rw [hr]; exact Int.emod_lt_of_pos _ (by omega)
  rw [← hr] at HR9
  clear hr
  go_upto_region 5 with fail
  go_cut [5, 6] from 30 (fun v5 v6 wx => ∃ (b5 n nb : Nat) (a : AL), v5 = .pointer (some ⟨b5, 0, none⟩) ∧ v6 = .int .i64 0 ∧ BoxV f w wx pa sa ∧ FnOk f n nb ∧ a.Ok wx ∧ a.rn = n ∧ a.sn = n ∧ AllocLaw f n nb (1 + r).toNat a ∧ Blk wx b5 31 [.slice a.ra a.rn a.rc, .slice a.sa a.sn a.sc, .int .i64 a.k])
  case first => as_aux_lemma =>
   have r0 := fun x : AfterR (KeepE w.heap.size w.heap.size) w3.drew => (World.cell?_of_block (a := ⟨w.heap.size, 0, none⟩) x.rel.1).trans c0
   have r1 := fun x : AfterR (KeepE w.heap.size w.heap.size) w3.drew => (World.cell?_of_block (a := ⟨w.heap.size, 1, none⟩) x.rel.1).trans c1
   have r2 := fun x : AfterR (KeepE w.heap.size w.heap.size) w3.drew => (World.cell?_of_block (a := ⟨w.heap.size, 2, none⟩) x.rel.1).trans c2
   have r3 := fun x : AfterR (KeepE w.heap.size w.heap.size) w3.drew => (World.cell?_of_block (a := ⟨w.heap.size, 3, none⟩) x.rel.1).trans c3
   go_wp2_with fail
   refine wp_region_forks (KeepE w.heap.size w.heap.size) 11 rfl (by kernel_rfl) ?_
   refine forks_read 0 rfl (by decide +kernel) ?_
   go_big_quiet_step (fail)
   refine wpQuiet_nil ?_
   refine forks_read 1 rfl (by decide +kernel) ?_
   go_big_quiet_step (fail)
   refine wpQuiet_nil ?_
   clear r0 r1 r2 r3
   have HBX : Hid (BoxV f w w3.drew pa sa) := HB3.out.below (Below.refl _ _).drew
   generalize w3.drew = wx at HBX ⊢
   iterate 3
    all_goals first | refine forks_two 2 8 (by decide +kernel) ?_ ?_ | refine forks_two 4 8 (by decide +kernel) ?_ ?_ | refine forks_one 2 (by decide +kernel) ?_ | refine forks_one 4 (by decide +kernel) ?_ | refine forks_one 8 (by decide +kernel) ?_
    all_goals
     first
     | refine does_intro (i := 2) rfl rfl ?_
       intro K hK
       go_simp
       refine (HR9 _).mono ?_
       rintro e wz ⟨rfl, rfl⟩
       refine hK _ _ ⟨rfl, rfl⟩ ?_
       clear hK K
       go_simp
       refine forks_read 3 rfl (by decide +kernel) ?_
       go_big_quiet_step (fail)
       refine wpQuiet_nil ?_
     | refine does_intro (i := 4) rfl rfl ?_
       intro K hK
       go_simp
       refine (HCO.out _ HBX.out.be (1 + r) (by unfold I64; omega)).mono ?_
       rintro e wx ⟨hb4, h⟩
       have hrl : 1 ≤ 1 + r ∧ 1 + r ≤ 10 := by omega
       rcases h with ⟨h, _⟩ | ⟨_, h, _⟩ | ⟨_, _, n, nb, a, hok, rfl, hao, hrn, hsn, hlaw, hnew⟩
       ·exact absurd HFN.out h
       ·exact absurd hrl h
       unfold AL.v
       refine hK _ _ (and_self_iff.mpr (hb4.block w.heap.size HBX.out.box.lt)) ?_
       have HBX := Lib.hid (HBX.out.below hb4)
       have hn0 : 0 < a.rn ∧ 0 < a.sn := by rw [hrn, hsn]; exact ⟨hok.n2.1, hok.n2.1⟩
       try
        have HNA : Hid (∀ q, (a.ra = some q ∨ a.sa = some q) → q.block ≠ b5) := fun q hq e => by
         have h1 := H5.out.lt
         rcases hq with hq | hq
         ·have := hnew.1 q hq; omega
         ·have := hnew.2 q hq; omega
       try have H5 := Lib.hid (H5.out.below hb4 H5.out.lt)
       have HAO := Lib.hid hao
       have HOK := Lib.hid hok
       have HRN := Lib.hid hrn
       have HSN := Lib.hid hsn
       have HLAW := Lib.hid hlaw
       have HN0 := Lib.hid hn0
       clear hK K hb4 hao hok hrn hsn hlaw hrl hnew hn0
       go_simp
       refine forks_read 5 rfl (by decide +kernel) ?_
       go_big_quiet_step (fail)
       refine wpQuiet_nil ?_
       refine forks_read 6 rfl (by decide +kernel) ?_
       go_big_quiet_step (fail)
       refine wpQuiet_nil ?_
       refine forks_read 7 rfl (by decide +kernel) ?_
       go_big_quiet_step (fail)
       refine wpQuiet_nil ?_
     | refine does_intro (i := 8) rfl rfl ?_
       intro K hK
       go_simp
       refine hK _ _ (and_self_iff.mpr (Below.heap_alloc _ _ _ HBX.out.box.lt)) ?_
       clear hK K
       go_simp
       obtain ⟨b5, hb5⟩ : ∃ b, b = wx.heap.size := ⟨_, rfl⟩
       have hba := (Below.refl wx.heap.size wx).alloc (Nat.le_refl _) (.cells #[.slice none 0 0, .slice none 0 0, .int .i64 0] 31)
       have H5 : Hid (Blk (wx.alloc (.cells #[.slice none 0 0, .slice none 0 0, .int .i64 0] 31)) b5 31 [.slice none 0 0, .slice none 0 0, .int .i64 0]) := by rw [hb5]; exact Blk.new wx _ _
       have G5 : Hid (w.heap.size < b5) := by rw [hb5]; exact HBX.out.box.lt
       try
        have HNA : Hid (∀ q, (a.ra = some q ∨ a.sa = some q) → q.block ≠ b5) := fun q hq e => by
         rcases hq with hq | hq
         ·have := HAO.out.rcame.lt HN0.out.1 hq; omega
         ·have := HAO.out.scame.lt HN0.out.2 hq; omega
       try have HAO := Lib.hid (HAO.out.below hba)
       have HBX := Lib.hid (HBX.out.below hba)
       rw [← hb5]
       clear hb5 hba
       generalize wx.alloc (.cells #[.slice none 0 0, .slice none 0 0, .int .i64 0] 31) = wx at *
   all_goals
    refine forks_one 9 (by decide +kernel) ?_
    refine does_intro rfl rfl ?_
    intro K hK
    refine wp_store_rowE 31 _ _ rfl rfl b5 #[.slice a.ra a.rn a.rc, .slice a.sa a.sn a.sc, .int .i64 a.k] rfl rfl _ _ H5.out HSZ.out rfl (by simp [Value.oneCell']) ?_
    have hbs : Below b5 wx (wx.setRow b5 #[.slice a.ra a.rn a.rc, .slice a.sa a.sn a.sc, .int .i64 a.k]) := setRowBelowE (Below.refl _ _) (Nat.le_refl _) _
    have HBK := Lib.hid (setRowBlkE H5.out [.slice a.ra a.rn a.rc, .slice a.sa a.sn a.sc, .int .i64 a.k])
    refine hK _ _ (and_self_iff.mpr (hbs.block _ G5.out)) ?_
    clear hK K
    have HBX2 : Hid (BoxV f w (wx.setRow b5 #[.slice a.ra a.rn a.rc, .slice a.sa a.sn a.sc, .int .i64 a.k]) pa sa) := ⟨HBX.out.be.trans (hbs.mono (Nat.le_of_lt G5.out)), HBX.out.box.of_heap (hbs.block _ G5.out)⟩
    have HAO2 := Lib.hid (HAO.out.setRow HNA.out #[.slice a.ra a.rn a.rc, .slice a.sa a.sn a.sc, .int .i64 a.k])
    go_simp
    refine forks_read 10 rfl (by decide +kernel) ?_
    go_big_quiet_step (fail)
    refine wpQuiet_nil ?_
    refine forks_end (by decide +kernel) ?_
    go_wp2_with fail
    go_meet
    exact ⟨b5, n, nb, a, rfl, rfl, HBX2.out, HOK.out, HAO2.out, HRN.out, HSN.out, HLAW.out, HBK.out⟩
  case rest => as_aux_lemma =>
   obtain ⟨b5, n, nb, a, rfl, rfl, hbx, hok, hao, hrn, hsn, hlaw, hbk⟩ := hcut
   have HBX := Lib.hid hbx
   have HBK := Lib.hid hbk
   have HOK := Lib.hid hok
   have hreg := hok.regs
   have h60 := H60.out
   have HPL := Lib.hid (placed_of (HF.out.below hbx.be) hok HFN.out (by omega) (by omega) hrn hsn hlaw)
   have hka := color_k hlaw
   have hew : emW f.blocks ≤ 8000000 := Nat.le_trans (emW_le (m := 20) (c := 4096) (by have := HF.out.len; have := H20.out; omega) fun b hb => by
    obtain ⟨i, hi, rfl⟩ := List.getElem_of_mem hb
    have := hok.ins i (by have := hok.nbl; omega)
    rw [VF.blk_get f hi]; exact this) (by decide)
   have HE := Lib.hid (HEM.out wc hbx.be a hao n nb _ hok HFN.out HPL.out hrn hsn (by omega) hew)
   have HRF := fun XL => Lib.hid (ret_f (HF.out.below hbx.be) hao hok HPL.out.err hrn hsn XL)
   have HTT : ∀ XL, Hid ((emitS f a n XL nb).items.length ≤ 8000000) := fun XL => by
    have h1 := emitS_tot HF.out hok HFN.out a XL nb
    rw [hok.nbl, List.take_length, ← hok.nbl] at h1
    show _ ≤ _
    unfold EmS.tot at h1
    omega
   have hks := allocE_pl hao HPL.out.err hrn hsn (by omega)
   have HKS : Hid (0 ≤ a.k ∧ a.k ≤ 2048) := hks.1
   unfold AL.v at HE
   have c0 := hbx.box.cell 0
   have c1 := hbx.box.cell 1
   have c2 := hbx.box.cell 2
   have c3 := hbx.box.cell 3
   have a0 := hbk.cell 0
   have a1 := hbk.cell 1
   have a2 := hbk.cell 2
   simp only [List.getElem?_cons_zero, List.getElem?_cons_succ] at c0 c1 c2 c3 a0 a1 a2
   clear hbx hok hao hlaw hbk hreg h60 hka hew hks HEM HCO HR9 hrn hsn
   go_wp2_with fail
   refine HE.out.mono ?_
   rintro e w5 ⟨XL, v, p, hXL, rfl, hb5, hm⟩
   obtain ⟨ai, ci, ac, cc, am, cm, az, cz, aj, cj, e1, e2, e3, e4, e5⟩ := hm.shapes
   have HRT := Lib.hid (HRF XL).out
   have HBX5 := Lib.hid (HBX.out.below hb5)
   have HBK5 := Lib.hid (HBK.out.below hb5 HBK.out.lt)
   obtain ⟨its, hits⟩ : ∃ l, l = (emitS f a n XL nb).done := ⟨_, rfl⟩
   obtain ⟨cs, hcs⟩ : ∃ l, l = (emitS f a n XL nb).calls := ⟨_, rfl⟩
   have hoi := hm.oi
   have hoc := hm.oc
   dsimp only at hoi hoc e1 e2 e3
   rw [← hits] at hoi e1 HRT
   rw [← hcs] at hoc e2 HRT
   obtain ⟨sm, hsm⟩ : ∃ q, q = (emitS f a n XL nb).maps.length := ⟨_, rfl⟩
   rw [← hsm] at e3
   unfold lkV
   rw [e1] at hoi ⊢
   rw [e2] at hoc ⊢
   rw [e3]
   obtain ⟨mi, hmi⟩ : ∃ q, q = its.length := ⟨_, rfl⟩
   obtain ⟨mc, hmc⟩ : ∃ q, q = cs.length := ⟨_, rfl⟩
   have HML : Hid (mi ≤ 8000000) := by
    have h1 := (HTT XL).out
    show mi ≤ _
    rw [hmi, hits, done_len]
    exact h1
   rw [← hmi] at hoi ⊢
   rw [← hmc] at hoc ⊢
   have HOI := Lib.hid hoi
   have HOC := Lib.hid hoc
   have HMI := Lib.hid hmi
   have HMC := Lib.hid hmc
   obtain ⟨K, hK⟩ : ∃ q, q = a.k + 1 := ⟨_, rfl⟩
   rw [← hK] at HRT ⊢
   have HKK := Lib.hid hK
   have hkb : 1 ≤ K ∧ K ≤ 2049 := by have := HKS.out; omega
   have hkb1 := hkb.1
   have hkb2 := hkb.2
   clear hb5 hm e1 e2 e3 e4 e5 hits hcs hoi hoc hsm hmi hmc HE HRF HTT HBX HBK c0 c1 c2 c3 a0 a1 a2 hK hkb hXL
   go_upto_region 7 with fail
   have hbb : Below w5.heap.size w5 (w5.alloc (.cells #[.int .i64 f.name, .slice ai mi ci, .slice ac mc cc, .slice am sm cm, .int .i64 K] 39)) := (Below.refl _ _).alloc (Nat.le_refl _) _
   have HBX6 := Lib.hid (HBX5.out.below hbb)
   have HBK6 := Lib.hid (HBK5.out.below hbb HBK5.out.lt)
   have HOI6 := Lib.hid (ownG_below HOI.out hbb)
   have HOC6 := Lib.hid (ownG_below HOC.out hbb)
   have HBO := Lib.hid (Blk.new w5 [.int .i64 f.name, .slice ai mi ci, .slice ac mc cc, .slice am sm cm, .int .i64 K] 39)
   obtain ⟨bo, hbo⟩ : ∃ q, q = w5.heap.size := ⟨_, rfl⟩
   rw [← hbo] at HBO ⊢
   clear hbb HBX5 HBK5 HOI HOC hbo
   change Code.wp _ _ _ _ (w5.alloc (.cells #[.int .i64 f.name, .slice ai mi ci, .slice ac mc cc, .slice am sm cm, .int .i64 K] 39))
   change Hid (Blk (w5.alloc (.cells #[.int .i64 f.name, .slice ai mi ci, .slice ac mc cc, .slice am sm cm, .int .i64 K] 39)) bo _ _) at HBO
   generalize w5.alloc (.cells #[.int .i64 f.name, .slice ai mi ci, .slice ac mc cc, .slice am sm cm, .int .i64 K] 39) = w6 at HBX6 HBK6 HOI6 HOC6 HBO ⊢
   have hm3 : 3 ≤ mi := by have := HRT.out.len; have := HMI.out; omega
   have q3 : decide ((mi : Int) < 3) = false := by simp; omega
   have q7 : (K != a.k + 1) = false := by simp [HKK.out]
   have hka1 := HKS.out.1
   have hka2 := HKS.out.2
   obtain ⟨gi, ci', hgi, _, hgil, hgic, hgim⟩ := ownG_has HOI6.out (by omega)
   injection hgi with x1 _ x3
   subst x1 x3
   have o1 : w6.cell? ⟨bo, 1, none⟩ = some (.slice (some ⟨gi, 0, none⟩) mi ci) := HBO.out.cell 1
   have o4 : w6.cell? ⟨bo, 4, none⟩ = some (.int .i64 K) := HBO.out.cell 4
   have a2 : w6.cell? ⟨b5, 2, none⟩ = some (.int .i64 a.k) := HBK6.out.cell 2
   obtain ⟨l0, h0⟩ := HRT.out.i0
   obtain ⟨l1, h1⟩ := HRT.out.i1
   obtain ⟨_, d0, d1, d2, d3, d4, _⟩ := it_cells HOI6.out HMI.out h0
   obtain ⟨_, d6, d7, d8, d9, d10, _⟩ := it_cells HOI6.out HMI.out h1
   dsimp only at d0 d1 d2 d3 d4 d6 d7 d8 d9 d10
   clear h0 h1
   simp only [Nat.zero_mul, Nat.zero_add, Nat.one_mul, Nat.reduceAdd] at d0 d1 d2 d3 d4 d6 d7 d8 d9 d10
   go_upto_region 10 with fail
   have hbl := HBO.out.lt
   have r0 := fun x : AfterR (KeepE bo gi) w6.drew => (World.cell?_of_block (a := ⟨bo, 1, none⟩) x.rel.1).trans o1
   have r1 := fun x : AfterR (KeepE bo gi) w6.drew => (World.cell?_of_block (a := ⟨bo, 4, none⟩) x.rel.1).trans o4
   have r2 := fun x : AfterR (KeepE bo gi) w6.drew => (World.cell?_of_block (a := ⟨gi, 0, none⟩) x.rel.2).trans d0
   have r3 := fun x : AfterR (KeepE bo gi) w6.drew => (World.cell?_of_block (a := ⟨gi, 1, none⟩) x.rel.2).trans d1
   have r4 := fun x : AfterR (KeepE bo gi) w6.drew => (World.cell?_of_block (a := ⟨gi, 2, none⟩) x.rel.2).trans d2
   have r5 := fun x : AfterR (KeepE bo gi) w6.drew => (World.cell?_of_block (a := ⟨gi, 3, none⟩) x.rel.2).trans d3
   have r6 := fun x : AfterR (KeepE bo gi) w6.drew => (World.cell?_of_block (a := ⟨gi, 4, none⟩) x.rel.2).trans d4
   have r7 := fun x : AfterR (KeepE bo gi) w6.drew => (World.cell?_of_block (a := ⟨gi, 6, none⟩) x.rel.2).trans d6
   have r8 := fun x : AfterR (KeepE bo gi) w6.drew => (World.cell?_of_block (a := ⟨gi, 7, none⟩) x.rel.2).trans d7
   have r9 := fun x : AfterR (KeepE bo gi) w6.drew => (World.cell?_of_block (a := ⟨gi, 8, none⟩) x.rel.2).trans d8
   have r10 := fun x : AfterR (KeepE bo gi) w6.drew => (World.cell?_of_block (a := ⟨gi, 9, none⟩) x.rel.2).trans d9
   have r11 := fun x : AfterR (KeepE bo gi) w6.drew => (World.cell?_of_block (a := ⟨gi, 10, none⟩) x.rel.2).trans d10
   refine wp_region_eagerRT (KeepE bo gi) [(0, true), (1, true), (2, true), (3, true), (4, true), (5, true), (6, true), (7, true), (8, true), (9, false), (10, true), (11, true), (12, true), (13, true), (14, true), (15, true), (16, true), (17, true), (18, true), (19, true), (20, true), (21, true), (22, true), (23, true)] (by kernel_rfl) (by kernel_rfl) ?_
   repeat (refine eagR_readT rfl ?_; go_big_quiet_step (fail); refine wpQuiet_nil ?_)
   refine eagR_doesT rfl rfl ?_
   intro J hJ
   go_simp
   refine (stack_any _ _).mono ?_
   rintro e w7 ⟨rfl, hb7⟩
   have HB7 := Lib.hid ((Below.refl w6.heap.size w6).drew.trans hb7)
   refine hJ _ _ (fun _ => ⟨hb7.block bo hbl, hb7.block gi hgil⟩) ?_
   clear hJ J hb7
   have z0 := (HB7.out.cell (p := ⟨bo, 1, none⟩) hbl).trans o1
   have z1 := (HB7.out.cell (p := ⟨bo, 4, none⟩) hbl).trans o4
   have z2 := (HB7.out.cell (p := ⟨gi, 0, none⟩) hgil).trans d0
   have z3 := (HB7.out.cell (p := ⟨gi, 1, none⟩) hgil).trans d1
   have z4 := (HB7.out.cell (p := ⟨gi, 2, none⟩) hgil).trans d2
   have z5 := (HB7.out.cell (p := ⟨gi, 3, none⟩) hgil).trans d3
   have z6 := (HB7.out.cell (p := ⟨gi, 4, none⟩) hgil).trans d4
   have z7 := (HB7.out.cell (p := ⟨gi, 6, none⟩) hgil).trans d6
   have z8 := (HB7.out.cell (p := ⟨gi, 7, none⟩) hgil).trans d7
   have z9 := (HB7.out.cell (p := ⟨gi, 8, none⟩) hgil).trans d8
   have z10 := (HB7.out.cell (p := ⟨gi, 9, none⟩) hgil).trans d9
   have z11 := (HB7.out.cell (p := ⟨gi, 10, none⟩) hgil).trans d10
   have s0 := fun x : AfterR (KeepE bo gi) w7 => (World.cell?_of_block (a := ⟨bo, 1, none⟩) x.rel.1).trans z0
   have s1 := fun x : AfterR (KeepE bo gi) w7 => (World.cell?_of_block (a := ⟨bo, 4, none⟩) x.rel.1).trans z1
   have s2 := fun x : AfterR (KeepE bo gi) w7 => (World.cell?_of_block (a := ⟨gi, 0, none⟩) x.rel.2).trans z2
   have s3 := fun x : AfterR (KeepE bo gi) w7 => (World.cell?_of_block (a := ⟨gi, 1, none⟩) x.rel.2).trans z3
   have s4 := fun x : AfterR (KeepE bo gi) w7 => (World.cell?_of_block (a := ⟨gi, 2, none⟩) x.rel.2).trans z4
   have s5 := fun x : AfterR (KeepE bo gi) w7 => (World.cell?_of_block (a := ⟨gi, 3, none⟩) x.rel.2).trans z5
   have s6 := fun x : AfterR (KeepE bo gi) w7 => (World.cell?_of_block (a := ⟨gi, 4, none⟩) x.rel.2).trans z6
   have s7 := fun x : AfterR (KeepE bo gi) w7 => (World.cell?_of_block (a := ⟨gi, 6, none⟩) x.rel.2).trans z7
   have s8 := fun x : AfterR (KeepE bo gi) w7 => (World.cell?_of_block (a := ⟨gi, 7, none⟩) x.rel.2).trans z8
   have s9 := fun x : AfterR (KeepE bo gi) w7 => (World.cell?_of_block (a := ⟨gi, 8, none⟩) x.rel.2).trans z9
   have s10 := fun x : AfterR (KeepE bo gi) w7 => (World.cell?_of_block (a := ⟨gi, 9, none⟩) x.rel.2).trans z10
   have s11 := fun x : AfterR (KeepE bo gi) w7 => (World.cell?_of_block (a := ⟨gi, 10, none⟩) x.rel.2).trans z11
   repeat (refine eagR_readT rfl ?_; go_big_quiet_step (fail); refine wpQuiet_nil ?_)
   refine eagR_endT ?_
   clear s0 s1 s2 s3 s4 s5 s6 s7 s8 s9 s10 s11
   clear r0 r1 r2 r3 r4 r5 r6 r7 r8 r9 r10 r11 d0 d1 d2 d3 d4 d6 d7 d8 d9 d10 a2 z1 z2 z3 z4 z5 z6 z7 z8 z9 z10 z11
   go_upto_block 0 with fail
   clear o1 o4 z0
   go_cut [] from 154 (fun wx => Below w6.heap.size w6 wx)
   case first => as_aux_lemma =>
    go_wp2_with fail
    go_loopw [83] (fun u wr => ∃ (i : Nat), i ≤ mi ∧ u = .int .i64 (i : Int) ∧ Below w6.heap.size w6 wr) (fun u _ => mi - (intOf u).toNat)
    case atStart => exact ⟨0, Nat.zero_le _, rfl, HB7.out⟩
    case round =>
     clear HB7
     obtain ⟨i, hi, rfl, hbe⟩ := hrel
     have HBE := Lib.hid hbe
     by_cases hlt : i < mi
     ·obtain ⟨x, hx⟩ : ∃ x, its[i]? = some x := ⟨_, List.getElem?_eq_getElem (by rw [← HMI.out]; exact hlt)⟩
      obtain ⟨_, d0, d1, d2, d3, d4, d5⟩ := it_cells (ownG_below HOI6.out hbe) HMI.out hx
      have HXX := Lib.hid hx
      clear hbe hx
      go_upto_region 15 with fail
      have hb8 : Below wr.heap.size wr (wr.alloc (.cells #[.int .i64 x.op, .int .i64 x.d, .int .i64 x.a, .int .i64 x.b, .int .i64 x.n, .int .i64 x.lab] 59)) := (Below.refl _ _).alloc (Nat.le_refl _) _
      have HBX8 := Lib.hid (Blk.new wr (miC x) 59)
      have HBE8 := Lib.hid (HBE.out.trans (hb8.mono HBE.out.size))
      obtain ⟨bx, hbx⟩ : ∃ q, q = wr.heap.size := ⟨_, rfl⟩
      rw [← hbx] at HBX8 ⊢
      change Code.wp _ _ _ _ (wr.alloc (.cells #[.int .i64 x.op, .int .i64 x.d, .int .i64 x.a, .int .i64 x.b, .int .i64 x.n, .int .i64 x.lab] 59))
      change Hid (Blk (wr.alloc (.cells #[.int .i64 x.op, .int .i64 x.d, .int .i64 x.a, .int .i64 x.b, .int .i64 x.n, .int .i64 x.lab] 59)) bx _ _) at HBX8
      clear hb8 hbx d0 d1 d2 d3 d4 d5 HBE
      generalize wr.alloc (.cells #[.int .i64 x.op, .int .i64 x.d, .int .i64 x.a, .int .i64 x.b, .int .i64 x.n, .int .i64 x.lab] 59) = w8 at HBX8 HBE8 ⊢
      have y1 := (HBE8.out.cell (p := ⟨bo, 1, none⟩) HBO.out.lt).trans (HBO.out.cell 1)
      have y4 := (HBE8.out.cell (p := ⟨bo, 4, none⟩) HBO.out.lt).trans (HBO.out.cell 4)
      simp only [List.getElem?_cons_zero, List.getElem?_cons_succ] at y1 y4
      have x0 : w8.cell? ⟨bx, 0, none⟩ = some (.int .i64 x.op) := HBX8.out.cell 0
      have x1 : w8.cell? ⟨bx, 1, none⟩ = some (.int .i64 x.d) := HBX8.out.cell 1
      have x2 : w8.cell? ⟨bx, 2, none⟩ = some (.int .i64 x.a) := HBX8.out.cell 2
      have x3 : w8.cell? ⟨bx, 3, none⟩ = some (.int .i64 x.b) := HBX8.out.cell 3
      have x4 : w8.cell? ⟨bx, 4, none⟩ = some (.int .i64 x.n) := HBX8.out.cell 4
      have hbxl := HBX8.out.lt
      go_cut [125] from 88 to 153 (fun v125 wx => v125 = .bool false ∧ Below w8.heap.size w8 wx)
      case first => as_aux_lemma =>
       by_cases h22 : x.op = 22
       ·have q22 : (x.op == 22) = true := by simp [h22]
        obtain ⟨h4, ⟨la, g1⟩, ⟨lb, g2⟩⟩ := HRT.out.ret i x HXX.out h22
        have q4 : decide ((i : Int) < 4) = false := by simp; omega
        obtain ⟨i1, e1⟩ : ∃ i1 : Nat, i1 = i - 1 := ⟨_, rfl⟩
        obtain ⟨i2, e2⟩ : ∃ i2 : Nat, i2 = i - 2 := ⟨_, rfl⟩
        rw [← e1] at g1
        rw [← e2] at g2
        obtain ⟨hi1, f0, f1, f2, f3, f4, _⟩ := it_cells (ownG_below HOI6.out HBE8.out) HMI.out g1
        obtain ⟨hi2, g0, g1', g2', g3, g4, _⟩ := it_cells (ownG_below HOI6.out HBE8.out) HMI.out g2
        dsimp only at f0 f1 f2 f3 f4 g0 g1' g2' g3 g4
        have j1 : (i : Int) - 1 = (i1 : Int) := by omega
        have j2 : (i : Int) - 2 = (i2 : Int) := by omega
        have hmm : mi ≤ 8000000 := HML.out
        have hbol : bo < w8.heap.size := Nat.lt_of_lt_of_le HBO.out.lt HBE8.out.size
        have hgl8 : gi < w8.heap.size := Nat.lt_of_lt_of_le hgil HBE8.out.size
        clear e1 e2 h4 g1 g2 h22
        have r0 := fun x : AfterR (KeepF bo gi bx) w8.drew => (World.cell?_of_block (a := ⟨bo, 1, none⟩) x.rel.1).trans y1
        have r1 := fun x : AfterR (KeepF bo gi bx) w8.drew => (World.cell?_of_block (a := ⟨bo, 4, none⟩) x.rel.1).trans y4
        have r2 := fun x : AfterR (KeepF bo gi bx) w8.drew => (World.cell?_of_block (a := ⟨bx, 0, none⟩) x.rel.2.2).trans x0
        have r3 := fun x : AfterR (KeepF bo gi bx) w8.drew => (World.cell?_of_block (a := ⟨gi, i1 * 6, none⟩) x.rel.2.1).trans f0
        have r4 := fun x : AfterR (KeepF bo gi bx) w8.drew => (World.cell?_of_block (a := ⟨gi, i1 * 6 + 1, none⟩) x.rel.2.1).trans f1
        have r5 := fun x : AfterR (KeepF bo gi bx) w8.drew => (World.cell?_of_block (a := ⟨gi, i1 * 6 + 2, none⟩) x.rel.2.1).trans f2
        have r6 := fun x : AfterR (KeepF bo gi bx) w8.drew => (World.cell?_of_block (a := ⟨gi, i1 * 6 + 3, none⟩) x.rel.2.1).trans f3
        have r7 := fun x : AfterR (KeepF bo gi bx) w8.drew => (World.cell?_of_block (a := ⟨gi, i1 * 6 + 4, none⟩) x.rel.2.1).trans f4
        have r8 := fun x : AfterR (KeepF bo gi bx) w8.drew => (World.cell?_of_block (a := ⟨gi, i2 * 6, none⟩) x.rel.2.1).trans g0
        have r9 := fun x : AfterR (KeepF bo gi bx) w8.drew => (World.cell?_of_block (a := ⟨gi, i2 * 6 + 1, none⟩) x.rel.2.1).trans g1'
        have r10 := fun x : AfterR (KeepF bo gi bx) w8.drew => (World.cell?_of_block (a := ⟨gi, i2 * 6 + 2, none⟩) x.rel.2.1).trans g2'
        have r11 := fun x : AfterR (KeepF bo gi bx) w8.drew => (World.cell?_of_block (a := ⟨gi, i2 * 6 + 3, none⟩) x.rel.2.1).trans g3
        have r12 := fun x : AfterR (KeepF bo gi bx) w8.drew => (World.cell?_of_block (a := ⟨gi, i2 * 6 + 4, none⟩) x.rel.2.1).trans g4
        go_wp2_with fail
        refine wp_region_eagerRT (KeepF bo gi bx) [(0, true), (1, true), (2, true), (3, true), (4, true), (5, true), (6, true), (7, true), (8, true), (9, true), (10, true), (11, true), (12, true), (13, true), (14, true), (15, true), (16, true), (17, true), (18, true), (19, false), (20, true), (21, true), (22, true), (23, true), (24, true), (25, true), (26, true), (27, true), (28, true), (29, true), (30, true), (31, true), (32, true), (33, true), (34, true), (35, true), (36, true), (37, true)] (by kernel_rfl) (by kernel_rfl) ?_
        repeat (refine eagR_readT rfl ?_; go_big_quiet_step (fail); refine wpQuiet_nil ?_)
        refine eagR_doesT rfl rfl ?_
        intro J hJ
        go_simp
        refine (stack_any _ _).mono ?_
        rintro e w9 ⟨rfl, hb9⟩
        have HB9 := Lib.hid ((Below.refl w8.heap.size w8).drew.trans hb9)
        refine hJ _ _ (fun _ => ⟨hb9.block bo hbol, hb9.block gi hgl8, hb9.block bx hbxl⟩) ?_
        clear hJ J hb9
        have z0 := (HB9.out.cell (p := ⟨bo, 1, none⟩) hbol).trans y1
        have z1 := (HB9.out.cell (p := ⟨bo, 4, none⟩) hbol).trans y4
        have z2 := (HB9.out.cell (p := ⟨bx, 0, none⟩) hbxl).trans x0
        have z3 := (HB9.out.cell (p := ⟨gi, i1 * 6, none⟩) hgl8).trans f0
        have z4 := (HB9.out.cell (p := ⟨gi, i1 * 6 + 1, none⟩) hgl8).trans f1
        have z5 := (HB9.out.cell (p := ⟨gi, i1 * 6 + 2, none⟩) hgl8).trans f2
        have z6 := (HB9.out.cell (p := ⟨gi, i1 * 6 + 3, none⟩) hgl8).trans f3
        have z7 := (HB9.out.cell (p := ⟨gi, i1 * 6 + 4, none⟩) hgl8).trans f4
        have z8 := (HB9.out.cell (p := ⟨gi, i2 * 6, none⟩) hgl8).trans g0
        have z9 := (HB9.out.cell (p := ⟨gi, i2 * 6 + 1, none⟩) hgl8).trans g1'
        have z10 := (HB9.out.cell (p := ⟨gi, i2 * 6 + 2, none⟩) hgl8).trans g2'
        have z11 := (HB9.out.cell (p := ⟨gi, i2 * 6 + 3, none⟩) hgl8).trans g3
        have z12 := (HB9.out.cell (p := ⟨gi, i2 * 6 + 4, none⟩) hgl8).trans g4
        have s0 := fun x : AfterR (KeepF bo gi bx) w9 => (World.cell?_of_block (a := ⟨bo, 1, none⟩) x.rel.1).trans z0
        have s1 := fun x : AfterR (KeepF bo gi bx) w9 => (World.cell?_of_block (a := ⟨bo, 4, none⟩) x.rel.1).trans z1
        have s2 := fun x : AfterR (KeepF bo gi bx) w9 => (World.cell?_of_block (a := ⟨bx, 0, none⟩) x.rel.2.2).trans z2
        have s3 := fun x : AfterR (KeepF bo gi bx) w9 => (World.cell?_of_block (a := ⟨gi, i1 * 6, none⟩) x.rel.2.1).trans z3
        have s4 := fun x : AfterR (KeepF bo gi bx) w9 => (World.cell?_of_block (a := ⟨gi, i1 * 6 + 1, none⟩) x.rel.2.1).trans z4
        have s5 := fun x : AfterR (KeepF bo gi bx) w9 => (World.cell?_of_block (a := ⟨gi, i1 * 6 + 2, none⟩) x.rel.2.1).trans z5
        have s6 := fun x : AfterR (KeepF bo gi bx) w9 => (World.cell?_of_block (a := ⟨gi, i1 * 6 + 3, none⟩) x.rel.2.1).trans z6
        have s7 := fun x : AfterR (KeepF bo gi bx) w9 => (World.cell?_of_block (a := ⟨gi, i1 * 6 + 4, none⟩) x.rel.2.1).trans z7
        have s8 := fun x : AfterR (KeepF bo gi bx) w9 => (World.cell?_of_block (a := ⟨gi, i2 * 6, none⟩) x.rel.2.1).trans z8
        have s9 := fun x : AfterR (KeepF bo gi bx) w9 => (World.cell?_of_block (a := ⟨gi, i2 * 6 + 1, none⟩) x.rel.2.1).trans z9
        have s10 := fun x : AfterR (KeepF bo gi bx) w9 => (World.cell?_of_block (a := ⟨gi, i2 * 6 + 2, none⟩) x.rel.2.1).trans z10
        have s11 := fun x : AfterR (KeepF bo gi bx) w9 => (World.cell?_of_block (a := ⟨gi, i2 * 6 + 3, none⟩) x.rel.2.1).trans z11
        have s12 := fun x : AfterR (KeepF bo gi bx) w9 => (World.cell?_of_block (a := ⟨gi, i2 * 6 + 4, none⟩) x.rel.2.1).trans z12
        repeat (refine eagR_readT rfl ?_; go_big_quiet_step (fail); refine wpQuiet_nil ?_)
        refine eagR_endT ?_
        clear r0 s0 z0 r1 s1 z1 r2 s2 z2 r3 s3 z3 r4 s4 z4 r5 s5 z5 r6 s6 z6 r7 s7 z7 r8 s8 z8 r9 s9 z9 r10 s10 z10 r11 s11 z11 r12 s12 z12
        go_wp2_with fail
        go_meet
        exact ⟨rfl, HB9.out⟩
       ·have q22 : (x.op == 22) = false := by simp [h22]
        have r2 := fun z : AfterR (KeepF bo gi bx) w8.drew => (World.cell?_of_block (a := ⟨bx, 0, none⟩) z.rel.2.2).trans x0
        go_wp2_with fail
        refine wp_region_eagerRT (KeepF bo gi bx) [(0, true), (1, true), (2, true), (3, true), (4, true), (5, true), (6, true), (7, true), (8, true), (9, true), (10, true), (11, true), (12, true), (13, true), (14, true), (15, true), (16, true), (17, true), (18, true), (19, false), (20, true), (21, true), (22, true), (23, true), (24, true), (25, true), (26, true), (27, true), (28, true), (29, true), (30, true), (31, true), (32, true), (33, true), (34, true), (35, true), (36, true), (37, true)] (by kernel_rfl) (by kernel_rfl) ?_
        repeat
         first
         | refine eagR_skipT rfl rfl ?_
           go_simp
         | refine eagR_readT rfl ?_
           go_big_quiet_step (fail)
           refine wpQuiet_nil ?_
        refine eagR_endT ?_
        clear r2
        go_wp2_with fail
        go_meet
        exact ⟨rfl, (Below.refl _ _).drew⟩
      case rest => as_aux_lemma =>
       obtain ⟨rfl, hcut⟩ := hcut
       have hwb := HBE8.out.trans (hcut.mono HBE8.out.size)
       have HWB := Lib.hid hwb
       have y1 := (hwb.cell (p := ⟨bo, 1, none⟩) HBO.out.lt).trans (HBO.out.cell 1)
       simp only [List.getElem?_cons_zero, List.getElem?_cons_succ] at y1
       have hbk8 := HBX8.out.below hcut HBX8.out.lt
       have x0 : wc.cell? ⟨bx, 0, none⟩ = some (.int .i64 x.op) := hbk8.cell 0
       have x1 : wc.cell? ⟨bx, 1, none⟩ = some (.int .i64 x.d) := hbk8.cell 1
       have x2 : wc.cell? ⟨bx, 2, none⟩ = some (.int .i64 x.a) := hbk8.cell 2
       have x3 : wc.cell? ⟨bx, 3, none⟩ = some (.int .i64 x.b) := hbk8.cell 3
       have x4 : wc.cell? ⟨bx, 4, none⟩ = some (.int .i64 x.n) := hbk8.cell 4
       have hbol : bo < wc.heap.size := Nat.lt_of_lt_of_le HBO.out.lt hwb.size
       have hgl8 : gi < wc.heap.size := Nat.lt_of_lt_of_le hgil hwb.size
       have HWR := fun w => Lib.hid (writes_any x.op x.d x.a x.b x.n w)
       rw [wr_eq] at HWR
       clear hwb hbk8 hcut
       obtain ⟨wv, hwv⟩ : ∃ q, q = wrI x := ⟨_, rfl⟩
       rw [← hwv] at HWR
       have HBW := Lib.hid ((Below.refl wc.heap.size wc).alloc (Nat.le_refl _) (.cells #[.int .i64 x.op, .int .i64 x.d, .int .i64 x.a, .int .i64 x.b, .int .i64 x.n] 56))
       clear y4
       have hmm : mi ≤ 8000000 := HML.out
       by_cases h14 : wv = 14
       ·have q14 : (wv == 14) = true := by simp [h14]
        have HW14 : Hid (wrI x = 14) := by rw [← hwv]; exact h14
        clear h14 hwv
        by_cases hi0 : 0 < i
        ·obtain ⟨y, g1, g2⟩ := HRT.out.wr i x HXX.out HW14.out hi0
         obtain ⟨hi1, f0, _⟩ := it_cells (ownG_below HOI6.out HWB.out) HMI.out g1
         rw [g2] at f0
         have qi : decide (0 < (i : Int)) = true := by simp; omega
         have qn : ((i : Int) + 1 == (mi : Int)) = false := by simp; omega
         clear g1 g2
         go_wp2_with fail
         refine (HWR _).out.mono ?_
         rintro e wz ⟨rfl, rfl⟩
         go_wp2_with fail
         go_roundw
         case rel => exact ⟨i + 1, by omega, by go_num, HWB.out.trans (HBW.out.mono HWB.out.size)⟩
         case measure => simp [intOf]; omega
        ·have qi : decide (0 < (i : Int)) = false := by simp; omega
         go_wp2_with fail
         refine (HWR _).out.mono ?_
         rintro e wz ⟨rfl, rfl⟩
         go_wp2_with fail
         go_roundw
         case rel => exact ⟨i + 1, by omega, by go_num, HWB.out.trans (HBW.out.mono HWB.out.size)⟩
         case measure => simp [intOf]; omega
       ·have q14 : (wv == 14) = false := by simp [h14]
        clear h14 hwv
        go_wp2_with fail
        refine (HWR _).out.mono ?_
        rintro e wz ⟨rfl, rfl⟩
        go_wp2_with fail
        go_roundw
        case rel => exact ⟨i + 1, by omega, by go_num, HWB.out.trans (HBW.out.mono HWB.out.size)⟩
        case measure => simp [intOf]; omega
     ·have ei : i = mi := by omega
      subst ei
      go_wp2_with fail
      go_meet
      exact HBE.out
   case rest => as_aux_lemma =>
    have HBX9 := Lib.hid (HBX6.out.below hcut)
    have HBC := Lib.hid hcut
    have c3 := HBX9.out.box.cell 3
    simp only [List.getElem?_cons_zero, List.getElem?_cons_succ] at c3
    have hlen := HF.out.len
    have hnb : f.blocks.length ≤ 20 := by have := H20.out; omega
    obtain ⟨sn, hsn⟩ : ∃ q, q = f.sn := ⟨_, rfl⟩
    rw [← hsn] at c3 hlen
    clear hsn hcut
    go_wp2_with fail
    clear c3
    go_loopw [12, 157] (fun u12 u157 wr => ∃ i : Nat, i ≤ sn ∧ u157 = .int .i64 (i : Int) ∧ u12 = .int .i64 (refN f.blocks i : Nat) ∧ Below w6.heap.size w6 wr) (fun _ u _ => sn - (intOf u).toNat)
    case atStart => exact ⟨0, Nat.zero_le _, rfl, rfl, HBC.out⟩
    case round =>
     clear HBC HBX9
     obtain ⟨i, hi, rfl, rfl, hbe⟩ := hrel
     by_cases hlt : i < sn
     ·have hib : i < f.blocks.length := by omega
      have hbw : Below w.heap.size w wr := HBX6.out.be.trans (hbe.mono HBX6.out.be.size)
      obtain ⟨gb, ob, hsa, hgb, d0, d1, d2, d3, d4, d5, d6⟩ := HF.out.cells hbw hib
      have hbo' : f.blocks[i].Ok w := HF.out.blocks _ (List.getElem_mem _)
      have hbg : f.blocks[i]? = some f.blocks[i] := List.getElem?_eq_getElem hib
      have hbs := HOK.out.ins i (by have := HOK.out.nbl; omega)
      rw [← VF.blk_get f hib] at hbs
      obtain ⟨bk, hbk⟩ : ∃ b, b = f.blocks[i] := ⟨_, rfl⟩
      rw [← hbk] at d0 d1 d2 d3 d4 d5 d6 hbo' hbg hbs
      have hsa2 := HSA.out.trans hsa
      subst hsa2
      have hbl := hbo'.len
      have HBB := Lib.hid hbo'
      have HBG := Lib.hid hbg
      have HBE := Lib.hid hbe
      obtain ⟨sb, hsb⟩ : ∃ s, s = bk.sa := ⟨_, rfl⟩
      rw [← hsb] at d0
      have HSB := Lib.hid hsb
      have hb4 : Below wr.heap.size wr (wr.alloc (.cells #[.slice sb bk.sn bk.sc, .int .i64 bk.e.kind, .int .i64 bk.e.op, .int .i64 bk.e.a, .int .i64 bk.e.b, .int .i64 bk.e.n, .slice bk.e.sa bk.e.sn bk.e.sc] 46)) := (Below.refl _ _).alloc (Nat.le_refl _) _
      have HBV := Lib.hid (Blk.new wr [.slice sb bk.sn bk.sc, .int .i64 bk.e.kind, .int .i64 bk.e.op, .int .i64 bk.e.a, .int .i64 bk.e.b, .int .i64 bk.e.n, .slice bk.e.sa bk.e.sn bk.e.sc] 46)
      have HBE4 := Lib.hid (hbe.trans (hb4.mono hbe.size))
      clear hb4 hbk hsb hbo' hbg hsa hbe hbw
      go_upto_region 24 with fail
      obtain ⟨vb, hvb⟩ : ∃ x, x = wr.heap.size := ⟨_, rfl⟩
      rw [← hvb] at HBV ⊢
      change Code.wp _ _ _ _ (wr.alloc (.cells #[.slice sb bk.sn bk.sc, .int .i64 bk.e.kind, .int .i64 bk.e.op, .int .i64 bk.e.a, .int .i64 bk.e.b, .int .i64 bk.e.n, .slice bk.e.sa bk.e.sn bk.e.sc] 46))
      change Hid (Blk (wr.alloc (.cells #[.slice sb bk.sn bk.sc, .int .i64 bk.e.kind, .int .i64 bk.e.op, .int .i64 bk.e.a, .int .i64 bk.e.b, .int .i64 bk.e.n, .slice bk.e.sa bk.e.sn bk.e.sc] 46)) vb _ _) at HBV
      clear hvb d0 d1 d2 d3 d4 d5 d6 HBE
      generalize wr.alloc (.cells #[.slice sb bk.sn bk.sc, .int .i64 bk.e.kind, .int .i64 bk.e.op, .int .i64 bk.e.a, .int .i64 bk.e.b, .int .i64 bk.e.n, .slice bk.e.sa bk.e.sn bk.e.sc] 46) = w4 at HBE4 HBV ⊢
      have v0 := HBV.out.cell 0
      simp only [List.getElem?_cons_zero] at v0
      go_wp2_with fail
      clear v0 HBV
      go_loopw [12, 164] (fun u12 u164 wr => ∃ q : Nat, q ≤ bk.sn ∧ u164 = .int .i64 (q : Int) ∧ u12 = .int .i64 ((refN f.blocks i + refJ bk q : Nat) : Int) ∧ Below w6.heap.size w6 wr) (fun _ u _ => bk.sn - (intOf u).toNat)
      case atStart => exact ⟨0, Nat.zero_le _, rfl, by rw [refJ_zero, Nat.add_zero], HBE4.out⟩
      case round =>
       clear HBE4
       obtain ⟨q, hq, rfl, rfl, hbe⟩ := hrel
       by_cases hql : q < bk.sn
       ·have hqb : q < bk.ins.length := by omega
        have hbw : Below w.heap.size w wr := HBX6.out.be.trans (hbe.mono HBX6.out.be.size)
        have hxg : bk.ins[q]? = some bk.ins[q] := List.getElem?_eq_getElem hqb
        obtain ⟨z, hz⟩ : ∃ z, z = bk.ins[q] := ⟨_, rfl⟩
        obtain ⟨gi2, oi2, hsb2, hgi2, d0, d1, d2, d3, d4, d5⟩ := HBB.out.cells hbw hqb
        rw [← hz] at d0 d1 d2 d3 d4 d5 hxg
        have hsb3 := HSB.out.trans hsb2
        subst hsb3
        have hks := refJ_succ hxg
        have hbe5 := (Below.refl wr.heap.size wr).alloc (Nat.le_refl _) (.cells #[.int .i64 z.op, .int .i64 z.d, .int .i64 z.a, .int .i64 z.b, .int .i64 z.n, .slice z.sa z.sn z.sc] 48)
        have HBV := Lib.hid (Blk.new wr [.int .i64 z.op, .int .i64 z.d, .int .i64 z.a, .int .i64 z.b, .int .i64 z.n, .slice z.sa z.sn z.sc] 48)
        have HBE5 := Lib.hid (hbe.trans (hbe5.mono hbe.size))
        have HXG := Lib.hid hxg
        clear hz hsb2 hbe5 hbe hbw hxg
        go_upto_region 27 with fail
        obtain ⟨vx, hvx⟩ : ∃ x, x = wr.heap.size := ⟨_, rfl⟩
        rw [← hvx] at HBV ⊢
        change Code.wp _ _ _ _ (wr.alloc (.cells #[.int .i64 z.op, .int .i64 z.d, .int .i64 z.a, .int .i64 z.b, .int .i64 z.n, .slice z.sa z.sn z.sc] 48))
        change Hid (Blk (wr.alloc (.cells #[.int .i64 z.op, .int .i64 z.d, .int .i64 z.a, .int .i64 z.b, .int .i64 z.n, .slice z.sa z.sn z.sc] 48)) vx _ _) at HBV
        clear hvx d0 d1 d2 d3 d4 d5
        generalize wr.alloc (.cells #[.int .i64 z.op, .int .i64 z.d, .int .i64 z.a, .int .i64 z.b, .int .i64 z.n, .slice z.sa z.sn z.sc] 48) = w5 at HBE5 HBV ⊢
        have v0 := HBV.out.cell 0
        have v4 := HBV.out.cell 4
        simp only [List.getElem?_cons_zero, List.getElem?_cons_succ] at v0 v4
        by_cases hr : refB z = true
        ·rw [if_pos hr] at hks
         have hat := refs_at HBG.out HXG.out hr
         obtain ⟨kk, hkk⟩ : ∃ k, k = refN f.blocks i + refJ bk q := ⟨_, rfl⟩
         rw [← hkk] at hat ⊢
         have hkl : kk < mc := by
          have h1 := (List.getElem?_eq_some_iff.mp hat).1
          rw [← HRT.out.clen, ← HMC.out] at h1
          exact h1
         obtain ⟨cc0, hcc⟩ : ∃ c, cs[kk]? = some c := ⟨_, List.getElem?_eq_getElem (by rw [← HMC.out]; exact hkl)⟩
         obtain ⟨hn, y, hy1, hy2⟩ := HRT.out.call kk cc0 z hcc hat
         obtain ⟨gc, cc', hgc, _, hgcl, hgcc, hgcm⟩ := ownG_has HOC6.out (by omega)
         injection hgc with x1 _ x3
         subst x1 x3
         have HK := Lib.hid hkk
         have HKS := Lib.hid hks
         unfold maxLen at hgcm
         obtain ⟨f0, f1⟩ := fc_cells (ownG_below HOC6.out HBE5.out) HMC.out hcc
         obtain ⟨hym, y0, _⟩ := it_cells (ownG_below HOI6.out HBE5.out) HMI.out hy1
         have o1 := (HBE5.out.cell (p := ⟨bo, 1, none⟩) HBO.out.lt).trans (HBO.out.cell 1)
         have o2 := (HBE5.out.cell (p := ⟨bo, 2, none⟩) HBO.out.lt).trans (HBO.out.cell 2)
         simp only [List.getElem?_cons_zero, List.getElem?_cons_succ] at o1 o2
         obtain ⟨ci0, cv0⟩ := cc0
         dsimp only at hn f0 f1 y0 hym
         have qn : (cv0 != z.n) = false := by simp [hn]
         have qk : ((kk : Int) == (mc : Int)) = false := by simp; omega
         have hmm : mi ≤ 8000000 := HML.out
         have hz : (z.op = 101 ∧ y.op = 20) ∨ (z.op = 103 ∧ y.op ≠ 20) := by
          unfold refB at hr
          by_cases h : z.op = 101
          ·exact .inl ⟨h, hy2.2 h⟩
          ·refine .inr ⟨?_, fun e => h (hy2.1 e)⟩
           simpa [h] using hr
         have r0 := SameW.at_ f0
         have r1 := SameW.at_ f1
         have r2 := SameW.at_ y0
         have r3 := SameW.at_ o1
         have r4 := SameW.at_ o2
         have r5 := SameW.at_ v0
         have r6 := SameW.at_ v4
         rcases hz with ⟨z1, z2⟩ | ⟨z1, z2⟩
         ·have e1 : (z.op != 101) = false := by simp [z1]
          have e2 : (z.op == 101) = true := by simp [z1]
          have e3 : (y.op == 20) = true := by simp [z2]
          clear z1 z2 hn hy1 hy2 hcc hat hr hks hkk
          go_upto_region 28 with fail
          refine wp_region_eagerRT SameW [(0, true), (1, true), (2, true), (3, true), (4, true), (5, true), (6, true), (7, true), (8, true), (9, true), (10, true), (11, true), (12, true), (13, true), (14, true), (15, true), (16, true), (17, true), (18, true), (19, true), (20, true), (21, true), (22, true), (23, true), (24, true), (25, true), (26, true), (27, true), (28, true), (29, true), (30, true), (31, true), (32, true), (33, true), (34, true)] (by kernel_rfl) (by kernel_rfl) ?_
          repeat (refine eagR_readT rfl ?_; go_big_quiet_step (fail); refine wpQuiet_nil ?_)
          refine eagR_endT ?_
          clear r0 r1 r2 r3 r4 r5 r6 f0 f1 y0 o1 o2 v0 v4
          go_wp2_with fail
          go_roundw
          case rel => exact ⟨q + 1, by omega, by go_num, by rw [HKS.out, ← Nat.add_assoc, ← HK.out]; go_num, HBE5.out.drew⟩
          case measure => simp [intOf]; omega
         ·have e1 : (z.op != 101) = true := by simp [z1]
          have e2 : (z.op == 101) = false := by simp [z1]
          have e3 : (y.op == 20) = false := by simp [z2]
          have e4 : (z.op != 103) = false := by simp [z1]
          clear z1 z2 hn hy1 hy2 hcc hat hr hks hkk
          go_upto_region 28 with fail
          refine wp_region_eagerRT SameW [(0, true), (1, true), (2, true), (3, true), (4, true), (5, true), (6, true), (7, true), (8, true), (9, true), (10, true), (11, true), (12, true), (13, true), (14, true), (15, true), (16, true), (17, true), (18, true), (19, true), (20, true), (21, true), (22, true), (23, true), (24, true), (25, true), (26, true), (27, true), (28, true), (29, true), (30, true), (31, true), (32, true), (33, true), (34, true)] (by kernel_rfl) (by kernel_rfl) ?_
          repeat (refine eagR_readT rfl ?_; go_big_quiet_step (fail); refine wpQuiet_nil ?_)
          refine eagR_endT ?_
          clear r0 r1 r2 r3 r4 r5 r6 f0 f1 y0 o1 o2 v0 v4
          go_wp2_with fail
          go_roundw
          case rel => exact ⟨q + 1, by omega, by go_num, by rw [HKS.out, ← Nat.add_assoc, ← HK.out]; go_num, HBE5.out.drew⟩
          case measure => simp [intOf]; omega
        ·rw [if_neg hr, Nat.add_zero] at hks
         unfold refB at hr
         have e1 : (z.op != 101) = true := by simp at hr ⊢; omega
         have e2 : (z.op != 103) = true := by simp at hr ⊢; omega
         go_wp2_with fail
         go_roundw
         case rel => exact ⟨q + 1, by omega, by go_num, by rw [hks]; rfl, HBE5.out⟩
         case measure => simp [intOf]; omega
       ·have eq : q = bk.ins.length := by omega
        have hks := refN_succ HBG.out
        rw [← eq] at hks
        have HBE := Lib.hid hbe
        clear hbe
        go_wp2_with fail
        go_roundw
        case rel => exact ⟨i + 1, by omega, by go_num, by rw [hks], HBE.out⟩
        case measure => simp [intOf]; omega
     ·have ei : i = f.blocks.length := by omega
      have hke : refN f.blocks i = mc := by rw [ei, refN_end, ← HRT.out.clen, ← HMC.out]
      rw [hke]
      have HBE := Lib.hid hbe
      have o2 := (hbe.cell (p := ⟨bo, 2, none⟩) HBO.out.lt).trans (HBO.out.cell 2)
      simp only [List.getElem?_cons_zero, List.getElem?_cons_succ] at o2
      clear hbe
      go_wp2_with fail
      go_ret
      refine ⟨by simp, ?_⟩
      exact HBX6.out.be.trans (HBE.out.mono HBX6.out.be.size)
end Go.Proofs.YtdnpoomagjcpfaaGreat
