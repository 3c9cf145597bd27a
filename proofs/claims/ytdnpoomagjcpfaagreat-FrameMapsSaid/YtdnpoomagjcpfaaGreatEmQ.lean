/- The emitter's block: the walk. -/
import Derived.Test.YtdnpoomagjcpfaaGreatEmThr
namespace Go.Proofs.YtdnpoomagjcpfaaGreat
open Go.RowKit
set_option linter.unusedVariables false
set_option linter.unusedSimpArgs false

/-- a block whose registers there are -/
structure VB.Rng (b : VB) (n : Nat) : Prop where
 fit : b.Fit n
 ins : ∀ x ∈ b.ins, x.Rng n
 e : b.e.Rng n
 len : b.ins.length ≤ 4096
/-- what a block's emission leaves -/
def EmT (X : EmE) (lg : Nat) (v : EmV) (w : World) (s' : EmS) (w' : World) : Prop :=
 ∃ v', EmM X w' s' v' ∧ RestS (fun q => v.S X.p q ∨ q = lg) w w' ∧ ∀ q, v'.S X.p q → v.S X.p q ∨ w.heap.size ≤ q
theorem needL_map {op : Int} : needL op ↔ mapO op = true := by
 unfold needL mapO callB
 simp [or_assoc]
theorem emIns_any (X : EmE) (hX : X.Ok) (w : World) (s : EmS) (v : EmV) (h : EmM X w s v) (x : VI) (hx : x.Ok X.w0) (hr : x.Rng X.n) (lv : Value) (lg lc n : Nat) (L : Nat → Bool) (hn : n = X.n) (hlv : needL x.op → lv = .slice (some ⟨lg, 0, none⟩) n lc ∧ LvM X w v lg lc L) (ht : s.tot + 300 ≤ 10000000) :
 Calls Tryz.prog 61 #[.pointer (some ⟨X.p, 0, none⟩), viV x, lv] w (EmP X v w (s.ins X.a X.n X.a.k.toNat x L)) := by
 by_cases h1 : x.op = 100
 ·have := ins_move X hX w s v h x h1 hr lv (by omega)
  have e : s.ins X.a X.n X.a.k.toNat x L = s.move X.a x := by unfold EmS.ins; rw [if_pos h1]
  rw [e]
  exact this
 ·exact ins_rest X hX w s v h x h1 hx hr lv lg lc n L hn hlv ht
theorem insL_snoc (a : AL) (n k : Nat) (live : Nat → Nat → Bool) (x : VI) : ∀ (l : List VI) (j : Nat) (s : EmS), insL a n k live j (l ++ [x]) s = (insL a n k live j l s).ins a n k x (live (j + l.length))
 | [], j, s => rfl
 | y :: l, j, s => by
  rw [List.cons_append]
  unfold insL
  rw [insL_snoc a n k live x l (j + 1), List.length_cons, show j + 1 + l.length = j + (l.length + 1) by omega]
theorem insL_tot (a : AL) (n k : Nat) (live : Nat → Nat → Bool) : ∀ (l : List VI) (j : Nat) (s : EmS), (∀ x ∈ l, x.args.length ≤ 6) → (insL a n k live j l s).tot ≤ s.tot + 40 * l.length
 | [], j, s, _ => by unfold insL; simp
 | y :: l, j, s, h => by
  unfold insL
  have h1 := insL_tot a n k live l (j + 1) (s.ins a n k y (live j)) fun x hx => h x (List.mem_cons_of_mem _ hx)
  have h2 := ins_tot s a n k y (live j)
  have h3 := h y (by simp)
  simp only [List.length_cons]
  omega
theorem AftM.next {X : EmE} {n m : Nat} {b : VB} {l : Nat → Bool} {B : Nat} {w wr : World} {ab k : Nat} {cl cc : Nat → Nat} {s s' : EmS} {v v' : EmV} (h : AftM n m b l B w ab k cl cc) (hm : EmM X w s v) (hg : EmG X w v wr s' v') : AftM n m b l B wr ab k cl cc :=
 h.kept (hg.rest.block ab h.blk.lt fun hq => by rcases hm.ty h.blk hq with e | e | e | e | e | e <;> exact absurd e (by decide)) fun q _ hq ⟨n', c', l', hr⟩ => hg.rest.block q hq fun hS => by
  obtain ⟨cur, hc, _⟩ := hr
  rcases hm.ty hc hS with e | e | e | e | e | e <;> exact absurd e (by decide)
theorem grow_noS {X : EmE} {w : World} {s : EmS} {v : EmV} (hm : EmM X w s v) {q n c : Nat} {l : Nat → Bool} (hr : GRow w q n c l) : ¬ v.S X.p q := fun hS => by
 obtain ⟨cur, hc, _⟩ := hr
 rcases hm.ty hc hS with e | e | e | e | e | e <;> exact absurd e (by decide)
set_option maxRecDepth 100000 in
set_option maxHeartbeats 8000000 in
theorem block_any (X : EmE) (hX : X.Ok) (w : World) (s : EmS) (v : EmV) (h : EmM X w s v) (i : Nat) (hi : i < X.f.blocks.length) (hi2 : i ≤ 4096) (n : Nat) (hn : n = X.n) (hn2 : 0 < n ∧ n ≤ 8192) (lg : Nat) (l : Nat → Bool) (hl : BRow w lg n l) (hlo : X.w0.heap.size ≤ lg) (hr : ∀ b, X.f.blocks[i]? = some b → b.Rng n) (hps : ∀ r ∈ X.f.params, 0 ≤ r ∧ r < X.n) (hpn : X.f.pn ≤ 6) (ht : s.tot + 200 + 40 * (X.f.blocks[i]).ins.length ≤ 9000000) :
 Calls Tryz.prog 30 #[.pointer (some ⟨X.p, 0, none⟩), .int .i64 (i : Int), .slice (some ⟨lg, 0, none⟩) n n] w (fun e w' => e = .returned (.tuple #[]) ∧ EmT X lg v w (s.block X.a X.n X.a.k.toNat (X.a.k + 1) X.f.params i X.f.blocks[i] (afB X.f.blocks[i] l)) w') := by
 obtain ⟨p, hp⟩ : ∃ p, p = X.p := ⟨_, rfl⟩
 rw [← hp]
 obtain ⟨g, o, hsa, hgl, d0, d1, d2, d3, d4, d5, d6⟩ := hX.fok.cells h.be hi
 have c3 : w.cell? ⟨X.p, 3, none⟩ = some (.slice X.f.sa X.f.sn X.f.sc) := h.box.cell 3
 rw [hsa] at c3
 obtain ⟨b, hb⟩ : ∃ b, b = X.f.blocks[i] := ⟨_, rfl⟩
 rw [← hb] at d0 d1 d2 d3 d4 d5 d6 ht ⊢
 have HBO : Hid (b.Ok X.w0) := hX.fok.blocks _ (by rw [hb]; exact List.getElem_mem _)
 have HBR : Hid (b.Rng n) := hr b (by rw [hb, List.getElem?_eq_getElem hi])
 have hisn : i < X.f.sn := by have := hX.fok.len; omega
 have hsc := hX.fok.came.le
 have hsm := hX.fok.came.max
 obtain ⟨m, hm⟩ : ∃ m, m = b.sn := ⟨_, rfl⟩
 have hml : b.ins.length = m := by rw [hm]; exact HBO.out.len
 have hm4 : m ≤ 4096 := by rw [← hml]; exact HBR.out.len
 rw [← hm] at d0
 have HMB := Lib.hid hm
 have hmk2 : ∀ w : World, (Instr.makeSlice 73 (.int .i64 (m : Int)) (.int .i64 (m : Int))).run Tryz.prog w = .ok (.slice (some ⟨w.heap.size, 0, none⟩) m m) (w.alloc (.cells (rowL m fun _ => .slice none 0 0).toArray 51)) := fun w => run_make_rep (P := Tryz.prog) 73 51 (.slice none 0 0) 24 Tryz.underlying73 Tryz.infoR51 rfl m (by omega) (by omega) w
 have hpl := h.box.lt
 have hgw : g < w.heap.size := Nat.lt_of_lt_of_le hgl h.be.size
 have hlw : lg < w.heap.size := Blk.lt hl
 have hnS : ¬ v.S X.p lg := fun hq => by rcases h.ty hl hq with e | e | e | e | e | e <;> exact absurd e (by decide)
 have hns2 : ∀ x ∈ v.mc, x.sv.ownBlock ≠ some lg := fun x hx => own_noBox (h.sl x hx).1 hl (by decide)
 have HNS := Lib.hid hnS
 have HNL := Lib.hid hns2
 have HM := Lib.hid h
 have HX2 := Lib.hid hX
 have HP := Lib.hid hp
 have HN := Lib.hid hn
 have HT := Lib.hid ht
 have HLO := Lib.hid hlo
 have HPS := Lib.hid hps
 have HPN := Lib.hid hpn
 have HLW := Lib.hid hl
 have HML := Lib.hid hml
 obtain ⟨sf, hsf⟩ : ∃ sf, sf = s.block X.a X.n X.a.k.toNat (X.a.k + 1) X.f.params i b (afB b l) := ⟨_, rfl⟩
 rw [← hsf]
 have HSF := Lib.hid hsf
 obtain ⟨bsn, hbs⟩ : ∃ q, q = X.f.sn := ⟨_, rfl⟩
 obtain ⟨bsc, hbc⟩ : ∃ q, q = X.f.sc := ⟨_, rfl⟩
 rw [← hbs] at c3 hisn hsc
 rw [← hbc] at c3 hsm hsc
 rw [← hp] at c3 hpl
 clear h hX hp hr hps hpn ht hn hl hlo hsf hnS hns2 hb hsa hgl hml hm hbs hbc
 have hib : (i : Int) < (bsn : Int) := by omega
 go_enter Tryz.func30, Tryz.ntmps30
 go_upto_region 1 with fail
 obtain ⟨bb, hbb⟩ : ∃ bb, bb = w.heap.size := ⟨_, rfl⟩
 have hba : Below w.heap.size w (w.alloc (.cells #[.slice b.sa m b.sc, .int .i64 b.e.kind, .int .i64 b.e.op, .int .i64 b.e.a, .int .i64 b.e.b, .int .i64 b.e.n, .slice b.e.sa b.e.sn b.e.sc] 46)) := (Below.refl _ _).alloc (Nat.le_refl _) _
 have HVB : Hid (Blk (w.alloc (.cells #[.slice b.sa m b.sc, .int .i64 b.e.kind, .int .i64 b.e.op, .int .i64 b.e.a, .int .i64 b.e.b, .int .i64 b.e.n, .slice b.e.sa b.e.sn b.e.sc] 46)) bb 46 (vbC b)) := by rw [hbb, HMB.out]; exact Blk.new w (vbC b) _
 rw [← hbb]
 have HBB : Hid (w.heap.size ≤ bb) := by show _ ≤ _; omega
 have hwb : bb + 1 = (w.alloc (.cells #[.slice b.sa m b.sc, .int .i64 b.e.kind, .int .i64 b.e.op, .int .i64 b.e.a, .int .i64 b.e.b, .int .i64 b.e.n, .slice b.e.sa b.e.sn b.e.sc] 46)).heap.size := by rw [World.size_alloc, hbb]
 have HBA := Lib.hid hba
 have HWB := Lib.hid hwb
 have HLW1 := Lib.hid (HLW.out.below hba hlw)
 clear hba hbb hwb c3 d0 d1 d2 d3 d4 d5 d6
 change Code.wp _ _ _ _ (w.alloc (.cells #[.slice b.sa m b.sc, .int .i64 b.e.kind, .int .i64 b.e.op, .int .i64 b.e.a, .int .i64 b.e.b, .int .i64 b.e.n, .slice b.e.sa b.e.sn b.e.sc] 46))
 generalize (w.alloc (.cells #[.slice b.sa m b.sc, .int .i64 b.e.kind, .int .i64 b.e.op, .int .i64 b.e.a, .int .i64 b.e.b, .int .i64 b.e.n, .slice b.e.sa b.e.sn b.e.sc] 46)) = w1 at HVB HBA HWB HLW1 ⊢
 have b0 : w1.cell? ⟨bb, 0, none⟩ = some (.slice b.sa m b.sc) := by rw [HMB.out]; exact HVB.out.cell 0
 have b1 : w1.cell? ⟨bb, 1, none⟩ = some (.int .i64 b.e.kind) := HVB.out.cell 1
 have b2 : w1.cell? ⟨bb, 2, none⟩ = some (.int .i64 b.e.op) := HVB.out.cell 2
 have b3 : w1.cell? ⟨bb, 3, none⟩ = some (.int .i64 b.e.a) := HVB.out.cell 3
 have b4 : w1.cell? ⟨bb, 4, none⟩ = some (.int .i64 b.e.b) := HVB.out.cell 4
 have b5 : w1.cell? ⟨bb, 5, none⟩ = some (.int .i64 b.e.n) := HVB.out.cell 5
 have b6 : w1.cell? ⟨bb, 6, none⟩ = some (.slice b.e.sa b.e.sn b.e.sc) := HVB.out.cell 6
 have hbl := HVB.out.lt
 have hba2 : Below w1.heap.size w1 (w1.alloc (.cells (rowL m fun _ => .slice none 0 0).toArray 51)) := (Below.refl _ _).alloc (Nat.le_refl _) _
 have HI0 : Hid (BkM X b l w s v lg bb w1.heap.size m (w1.alloc (.cells (rowL m fun _ => .slice none 0 0).toArray 51)) l m (fun _ => 0) (fun _ => 0)) := by
  have hlg1 := HLW1.out.below hba2 (Nat.lt_of_lt_of_le hlw HBA.out.size)
  refine ⟨below_refl_of (HBA.out.trans (hba2.mono HBA.out.size)) _, by rw [← HN.out]; exact hlg1, HVB.out.below hba2 hbl, ⟨Blk.rowCongr (Blk.new w1 _ _) fun j hj => ?_, fun j h1 h2 => by omega⟩, ⟨HBB.out, HBA.out.size⟩, hlw⟩
  rw [if_neg (fun h => by omega)]
 have HEU := Lib.hid (endUses_any b.e (w1.alloc (.cells (rowL m fun _ => .slice none 0 0).toArray 51)) (HBO.out.e.below (HM.out.be.trans ((HBA.out.trans (hba2.mono HBA.out.size)).mono HM.out.be.size))))
 unfold veV at HEU
 clear hba2
 go_upto_region 2 with fail
 obtain ⟨ab, hab⟩ : ∃ ab, ab = w1.heap.size := ⟨_, rfl⟩
 rw [← hab] at HI0 ⊢
 change Code.wp _ _ _ _ (w1.alloc (.cells (rowL m fun _ => .slice none 0 0).toArray 51))
 clear b0 b1 b2 b3 b4 b5 b6 hbl hab
 generalize w1.alloc (.cells (rowL m fun _ => .slice none 0 0).toArray 51) = w2 at HI0 HEU ⊢
 have b1 : w2.cell? ⟨bb, 1, none⟩ = some (.int .i64 b.e.kind) := HI0.out.box.cell 1
 have b2 : w2.cell? ⟨bb, 2, none⟩ = some (.int .i64 b.e.op) := HI0.out.box.cell 2
 have b3 : w2.cell? ⟨bb, 3, none⟩ = some (.int .i64 b.e.a) := HI0.out.box.cell 3
 have b4 : w2.cell? ⟨bb, 4, none⟩ = some (.int .i64 b.e.b) := HI0.out.box.cell 4
 have b5 : w2.cell? ⟨bb, 5, none⟩ = some (.int .i64 b.e.n) := HI0.out.box.cell 5
 have b6 : w2.cell? ⟨bb, 6, none⟩ = some (.slice b.e.sa b.e.sn b.e.sc) := HI0.out.box.cell 6
 have hbl := HI0.out.box.lt
 go_wp2_with fail
 refine HEU.out.mono ?_
 rintro e w3 ⟨vr, rfl, hown, hb3⟩
 have HI3 := Lib.hid (HI0.out.below hb3)
 obtain ⟨rs, hrs⟩ : ∃ rs, rs = endV b.e := ⟨_, rfl⟩
 obtain ⟨mr, hmr⟩ : ∃ q, q = rs.length := ⟨_, rfl⟩
 rw [← hrs, ← hmr] at hown
 obtain ⟨ra, rc, rfl⟩ := ownG_shape hown
 have hrm : mr ≤ 2 := by rw [hmr, hrs]; exact List.length_filter_le _ _
 have HFE : Hid (∀ r ∈ rs, 1 ≤ r ∧ r < n) := by rw [hrs]; exact HBR.out.fit.e
 have HRS := Lib.hid hrs
 have HMR := Lib.hid hmr
 have HO := Lib.hid hown
 have hlw2 : lg < w2.heap.size := Blk.lt HI0.out.live
 clear hown hrs hmr hb3 HEU b1 b2 b3 b4 b5 b6 hbl
 go_wp2_with fail
 go_loopw [9, 32] (fun _ u wr => ∃ k : Nat, k ≤ mr ∧ u = .int .i64 (k : Int) ∧ BkM X b l w s v lg bb ab m wr (markF (rs.take k) l) m (fun _ => 0) (fun _ => 0) ∧ Rest1 lg w3 wr) (fun _ u _ => mr - (intOf u).toNat)
 case atStart => exact ⟨0, Nat.zero_le _, rfl, HI3.out.congr fun r _ => by simp [markF], Rest1.refl _ _⟩
 case round =>
  clear HI0 HI3 HLW1 HVB
  obtain ⟨k, hk, rfl, hi9, hr1⟩ := hrel
  have HI := Lib.hid hi9
  have HR1 := Lib.hid hr1
  by_cases hlt : k < mr
  ·obtain ⟨q, rfl, ck⟩ := row_at HO.out hr1 hlw2 (k := k) (by have := HMR.out; omega)
   obtain ⟨r, hr⟩ : ∃ r, r = rs[k]'(by have := HMR.out; omega) := ⟨_, rfl⟩
   rw [← hr] at ck
   have hme := HFE.out r (by rw [hr]; exact List.getElem_mem _)
   have HTK : Hid (rs.take (k + 1) = rs.take k ++ [r]) := by rw [hr]; exact List.take_succ_eq_append_getElem _
   obtain ⟨y, rfl⟩ := Int.eq_ofNat_of_zero_le (show 0 ≤ r by omega)
   have hyn : y < n := by omega
   have cx := hi9.live.cell (i := y) (by have := HN.out; omega)
   have fx := Blk.free hi9.live y
   have hql : lg < wr.heap.size := Blk.lt hi9.live
   clear hi9 hr1 hme hr
   generalize markF (rs.take k) l y = oldb at cx
   go_wp2_with fail
   go_roundw
   case rel => exact ⟨k + 1, by omega, by go_num, by rw [HTK.out, ← markF_snoc _ _ y rfl]; exact HI.out.mark y true, HR1.out.trans (Rest1.set lg y wr (.bool true))⟩
   case measure => simp [intOf]; omega
  ·have hall : rs.take k = rs := List.take_of_length_le (by have := HMR.out; omega)
   rw [hall] at hi9
   have HI4 := Lib.hid (hi9.congr (L' := lvB b l m) fun r _ => by rw [lvB_end b l (by rw [HML.out]; exact Nat.le_refl _), HRS.out])
   clear hi9 hr1 HI HR1 hall
   have b0 : wr.cell? ⟨bb, 0, none⟩ = some (.slice b.sa m b.sc) := by rw [HMB.out]; exact HI4.out.box.cell 0
   have hbl := HI4.out.box.lt
   go_upto_block 2 with fail
   clear b0 hbl
   go_cut [10, 11, 13] from 44 (fun _ _ _ wx => ∃ cl cc, BkM X b l w s v lg bb ab m wx (lvB b l 0) 0 cl cc)
   case first => as_aux_lemma =>
    go_wp2_with fail
    go_loopw [10] (fun u wx => ∃ (j : Nat) (cl cc : Nat → Nat), j ≤ m ∧ u = .int .i64 ((j : Int) - 1) ∧ BkM X b l w s v lg bb ab m wx (lvB b l j) j cl cc) (fun u _ => (intOf u + 1).toNat)
    case atStart => exact ⟨m, _, _, Nat.le_refl _, rfl, HI4.out⟩
    case round =>
     clear HI4
     obtain ⟨j, cl, cc, hj, rfl, hi9⟩ := hrel
     have HI := Lib.hid hi9
     have b0 : wr.cell? ⟨bb, 0, none⟩ = some (.slice b.sa m b.sc) := by rw [HMB.out]; exact HI.out.box.cell 0
     have hbl := HI.out.box.lt
     by_cases hj0 : j = 0
     ·subst hj0
      rw [show ((0 : Nat) : Int) - 1 = -1 from rfl]
      clear hi9 b0 hbl
      go_wp2_with fail
      go_meet
      exact ⟨cl, cc, HI.out⟩
     ·obtain ⟨k, rfl⟩ := Nat.exists_eq_succ_of_ne_zero hj0
      rw [show ((k.succ : Nat) : Int) - 1 = (k : Int) by omega]
      have hk : k < b.ins.length := by rw [HML.out]; omega
      have hkm : (k : Int) < (m : Int) := by omega
      have hbe : Below X.w0.heap.size X.w0 wr := HM.out.be.trans (hi9.rest.toBelow (fun q e => by rw [e]; exact HLO.out) HM.out.be.size)
      obtain ⟨x, hx⟩ : ∃ x, x = b.ins[k] := ⟨_, rfl⟩
      have HXO : Hid (x.Ok X.w0) := by rw [hx]; exact HBO.out.ins _ (List.getElem_mem _)
      obtain ⟨gi, oi, hsa, hgi, d0, d1, d2, d3, d4, d5⟩ := HBO.out.cells hbe hk
      rw [hsa] at b0
      rw [← hx] at d0 d1 d2 d3 d4 d5
      have hgi2 : gi < wr.heap.size := Nat.lt_of_lt_of_le hgi hbe.size
      have hbc := HBO.out.came.le
      have hbm := HBO.out.came.max
      rw [← HMB.out] at hbc
      have hd := HBR.out.fit.d x (by rw [hx]; exact List.getElem_mem _)
      have HU : Hid (∀ r ∈ usesV x, 1 ≤ r ∧ r < n) := HBR.out.fit.u x (by rw [hx]; exact List.getElem_mem _)
      have HAT : Hid (b.at k = x) := by show _ = _; rw [VB.at_eq hk, hx]
      have HXB : Hid (∀ h : k < b.ins.length, b.ins[k] = x) := fun _ => hx.symm
      have HLV : Hid (lvB b l k = markF (usesV x) (afB b l k)) := by show _ = _; rw [lvB_step hk, hx]
      have HBE := Lib.hid hbe
      obtain ⟨q, hq⟩ := Int.eq_ofNat_of_zero_le hd.1
      have hqn : q < n := by omega
      have HAF : Hid ((fun r => if r = q then false else lvB b l (k + 1) r) = afB b l k) := by
       funext r
       unfold afB
       rw [HAT.out, hq]
       by_cases e : r = q
       ·rw [if_pos e]; exact (if_pos (by omega)).symm
       ·rw [if_neg e]; exact (if_neg (by omega)).symm
      have HD := def_any x
      unfold viV at HD
      rw [show IntPost (defV x) = fun w e w' => e = .returned (.int .i64 (q : Int)) ∧ Below w.heap.size w w' from by funext w e w'; rw [hq]; rfl] at HD
      have HSA := Lib.hid hsa
      have hgl9 : gi ≠ lg := by have := HLO.out; omega
      clear hx hd hq hsa hi9 hbe hgi hj0
      go_wp2_with fail
      refine (HD _).mono ?_
      rintro e w6 ⟨rfl, hb6⟩
      have HI6 := Lib.hid (HI.out.below hb6)
      have cx := HI6.out.live.cell (i := q) (by have := HN.out; omega)
      have fx := Blk.free HI6.out.live q
      have hlg6 : lg < w6.heap.size := Blk.lt HI6.out.live
      generalize lvB b l (k + 1) q = ob at cx
      have e0 := (hb6.cell (p := ⟨gi, oi + k * 6, none⟩) hgi2).trans d0
      have e1 := (hb6.cell (p := ⟨gi, oi + k * 6 + 1, none⟩) hgi2).trans d1
      have e2 := (hb6.cell (p := ⟨gi, oi + k * 6 + 2, none⟩) hgi2).trans d2
      have e3 := (hb6.cell (p := ⟨gi, oi + k * 6 + 3, none⟩) hgi2).trans d3
      have e4 := (hb6.cell (p := ⟨gi, oi + k * 6 + 4, none⟩) hgi2).trans d4
      have e5 := (hb6.cell (p := ⟨gi, oi + k * 6 + 5, none⟩) hgi2).trans d5
      go_upto_region 11 with fail
      change Code.wp _ _ _ _ (w6.setCell ⟨lg, q, none⟩ (.bool false))
      have HI7 : Hid (BkM X b l w s v lg bb ab m (w6.setCell ⟨lg, q, none⟩ (.bool false)) (afB b l k) (k + 1) cl cc) := by
       have h9 := HI6.out.mark q false
       rw [HAF.out] at h9
       exact h9
      have HB7 : Hid (Below X.w0.heap.size X.w0 (w6.setCell ⟨lg, q, none⟩ (.bool false))) := (HBE.out.trans (hb6.mono HBE.out.size)).setCell HLO.out _
      have e9 : ∀ o, (w6.setCell ⟨lg, q, none⟩ (.bool false)).cell? ⟨gi, o, none⟩ = w6.cell? ⟨gi, o, none⟩ := fun o => World.cell?_of_block (a := ⟨gi, o, none⟩) (Below.heap_setCell _ _ _ _ hgl9)
      rw [← e9] at e0 e1 e2 e3 e4 e5
      have hgi7 : gi < (w6.setCell ⟨lg, q, none⟩ (.bool false)).heap.size := by simpa [World.setCell] using Nat.lt_of_lt_of_le hgi2 hb6.size
      clear e9 d0 d1 d2 d3 d4 d5 b0 hbl cx fx hb6 HI6 HI HBE hgi2 hlg6
      generalize w6.setCell ⟨lg, q, none⟩ (.bool false) = w7 at HI7 HB7 e0 e1 e2 e3 e4 e5 hgi7 ⊢
      have b0 : w7.cell? ⟨bb, 0, none⟩ = some (.slice (some ⟨gi, oi, none⟩) m b.sc) := by rw [HMB.out, ← HSA.out]; exact HI7.out.box.cell 0
      have hbl := HI7.out.box.lt
      have HOPB : Hid (mapO x.op = (callB x.op || x.op == 14 || x.op == 15)) := rfl
      have HUS := fun wx (h : Below w7.heap.size w7 wx) => Lib.hid (uses_any x wx (HXO.out.below (HB7.out.trans (h.mono HB7.out.size))))
      unfold viV at HUS
      obtain ⟨cb, hcb⟩ : ∃ cb, cb = callB x.op := ⟨_, rfl⟩
      have HCB := Lib.hid hcb
      have HCA := Lib.hid (calls_any x.op w7)
      rw [← hcb] at HCA HOPB
      clear hcb
      have hq : cb = true ∨ (cb = false ∧ (x.op == 14) = true) ∨ (cb = false ∧ (x.op == 14) = false ∧ (x.op == 15) = true) ∨ (cb = false ∧ (x.op == 14) = false ∧ (x.op == 15) = false) := by
       cases cb <;> cases h1 : (x.op == 14) <;> cases h2 : (x.op == 15) <;> simp
      rcases hq with q1 | ⟨q1, q2⟩ | ⟨q1, q2, q3⟩ | ⟨q1, q2, q3⟩
      case' inr.inr.inr =>
       have ho : mapO (b.at k).op = false := by rw [HAT.out, HOPB.out, q1, q2, q3]; rfl
       subst q1
       have HIK : Hid (∃ cl2 cc2, BkM X b l w s v lg bb ab m w7 (afB b l k) k cl2 cc2) := ⟨cl, cc, HI7.out.skip ho⟩
       clear ho
       go_wp2_with fail
       refine HCA.out.mono ?_
       rintro e wk ⟨rfl, rfl⟩
       go_upto_region 14 with fail
       obtain ⟨wk, hwk⟩ : ∃ wk, wk = w7 := ⟨_, rfl⟩
      case' inl => have ho : mapO (b.at k).op = true := by rw [HAT.out, HOPB.out, q1]; rfl
      case' inr.inl => have ho : mapO (b.at k).op = true := by rw [HAT.out, HOPB.out, q1, q2]; rfl
      case' inr.inr.inl => have ho : mapO (b.at k).op = true := by rw [HAT.out, HOPB.out, q1, q2, q3]; rfl
      case' inl | inr.inl | inr.inr.inl =>
       subst q1
       have HO9 := Lib.hid ho
       clear ho
       go_wp2_with fail
       refine HCA.out.mono ?_
       rintro e wz ⟨rfl, rfl⟩
       go_wp2_with fail
       have HCL := Lib.hid (clone_bools lg n n (afB b l k) w7 (GRow.ofB (by rw [HN.out]; exact HI7.out.live) (by omega)) hn2)
       refine HCL.out.mono ?_
       rintro e w9 ⟨g9, c9, rfl, hg9, hge9, hb9⟩
       have hi9 := HI7.out.below hb9
       have HI9 := Lib.hid hi9
       have HG9 := Lib.hid hg9
       have cx := Blk.row hi9.aft.blk (show k < m by omega)
       generalize (if k + 1 ≤ k ∧ mapO (b.at k).op = true then Value.slice (some ⟨cl k, 0, none⟩) X.n (cc k) else .slice none 0 0) = oldv at cx
       have fx := Blk.free hi9.aft.blk k
       have hab9 := Blk.lt hi9.aft.blk
       have HGE : Hid (w.heap.size ≤ g9) := Nat.le_trans (Nat.le_trans HI7.out.nb.2 (Nat.le_of_lt (Blk.lt HI7.out.aft.blk))) hge9
       clear hg9 hge9 hb9 hi9 HCL
       go_upto_region 14 with fail
       have HIK : Hid (∃ cl2 cc2, BkM X b l w s v lg bb ab m (w9.setCell ⟨ab, k, none⟩ (.slice (some ⟨g9, 0, none⟩) n c9)) (afB b l k) k cl2 cc2) := ⟨_, _, by rw [HN.out]; exact HI9.out.put HO9.out (by rw [← HN.out]; exact HG9.out) HGE.out⟩
       change Code.wp _ _ _ _ (w9.setCell ⟨ab, k, none⟩ (.slice (some ⟨g9, 0, none⟩) n c9))
       obtain ⟨wk, hwk⟩ : ∃ wk, wk = w9.setCell ⟨ab, k, none⟩ (.slice (some ⟨g9, 0, none⟩) n c9) := ⟨_, rfl⟩
      all_goals
       rw [← hwk] at HIK ⊢
       obtain ⟨cl2, cc2, hik⟩ := HIK.out
       clear hwk HI7 HB7 HCA HUS e0 e1 e2 e3 e4 e5 hgi7 b0 hbl
       have hbk : Below X.w0.heap.size X.w0 wk := HM.out.be.trans (hik.rest.toBelow (fun q e => by rw [e]; exact HLO.out) HM.out.be.size)
       obtain ⟨gk, ok, hsk, hgk, d0, d1, d2, d3, d4, d5⟩ := HBO.out.cells hbk hk
       rw [HXB.out hk] at d0 d1 d2 d3 d4 d5
       have b0 : wk.cell? ⟨bb, 0, none⟩ = some (.slice (some ⟨gk, ok, none⟩) m b.sc) := by rw [HMB.out, ← hsk]; exact hik.box.cell 0
       have hbl := hik.box.lt
       have hgk2 : gk < wk.heap.size := Nat.lt_of_lt_of_le hgk hbk.size
       have hlk : lg < wk.heap.size := Blk.lt hik.live
       have HUS := Lib.hid (uses_any x wk (HXO.out.below hbk))
       unfold viV at HUS
       have HK := Lib.hid hik
       clear hbk hsk hgk hik HIK
       go_wp2_with fail
       refine HUS.out.mono ?_
       rintro e w8 ⟨v8, rfl, ho8, hb8⟩
       obtain ⟨m8, hm8⟩ : ∃ m, m = (usesV x).length := ⟨_, rfl⟩
       obtain ⟨us, hus⟩ : ∃ us, us = usesV x := ⟨_, rfl⟩
       rw [← hus] at ho8 hm8 HU HLV
       rw [← hm8] at ho8
       obtain ⟨a8, c8, rfl⟩ := ownG_shape ho8
       have HO8 := Lib.hid ho8
       have HK8 := Lib.hid (HK.out.below hb8)
       have hm88 : m8 * 8 ≤ 140737488351232 + 16 := by
        have h1 : (usesV x).length ≤ (x.a :: x.b :: x.args).length := List.length_filter_le _ _
        have h2 := HXO.out.len
        have h3 := HXO.out.reach
        rw [hm8, hus]
        simp at h1
        omega
       have HM8 := Lib.hid hm8
       clear ho8 hb8 hm8 hus HUS HK d0 d1 d2 d3 d4 d5 b0 hbl hgk2
       go_wp2_with fail
       go_loopw [13, 84] (fun _ u wx => ∃ t : Nat, t ≤ m8 ∧ u = .int .i64 (t : Int) ∧ BkM X b l w s v lg bb ab m wx (markF (us.take t) (afB b l k)) k cl2 cc2 ∧ Rest1 lg w8 wx) (fun _ u _ => m8 - (intOf u).toNat)
       case atStart => exact ⟨0, Nat.zero_le _, rfl, HK8.out.congr fun r _ => by simp [markF], Rest1.refl _ _⟩
       case round =>
        clear HK8
        obtain ⟨t, ht, rfl, hi9, hr1⟩ := hrel
        have HI := Lib.hid hi9
        have HR1 := Lib.hid hr1
        by_cases hlt : t < m8
        ·obtain ⟨q8, rfl, ck⟩ := row_at HO8.out hr1 hlk (k := t) (by have := HM8.out; omega)
         obtain ⟨r, hr⟩ : ∃ r, r = us[t]'(by have := HM8.out; omega) := ⟨_, rfl⟩
         rw [← hr] at ck
         have hme := HU.out r (by rw [hr]; exact List.getElem_mem _)
         have HTT : Hid (us.take (t + 1) = us.take t ++ [r]) := by rw [hr]; exact List.take_succ_eq_append_getElem _
         obtain ⟨y, rfl⟩ := Int.eq_ofNat_of_zero_le (show 0 ≤ r by omega)
         have hyn : y < n := by omega
         have cx := hi9.live.cell (i := y) (by have := HN.out; omega)
         have fx := Blk.free hi9.live y
         have hql : lg < wr.heap.size := Blk.lt hi9.live
         clear hi9 hr1 hme hr
         generalize markF (us.take t) (afB b l k) y = oldb at cx
         go_wp2_with fail
         go_roundw
         case rel => exact ⟨t + 1, by omega, by go_num, by rw [HTT.out, ← markF_snoc _ _ y rfl]; exact HI.out.mark y true, HR1.out.trans (Rest1.set lg y wr (.bool true))⟩
         case measure => simp [intOf]; omega
        ·have hall : us.take t = us := List.take_of_length_le (by have := HM8.out; omega)
         rw [hall, ← HLV.out] at hi9
         have HI8 := Lib.hid hi9
         clear hi9 hr1 HI HR1 hall
         go_wp2_with fail
         go_roundw
         case rel => exact ⟨k, cl2, cc2, by omega, by go_num, HI8.out⟩
         case measure => simp [intOf]
   case rest => as_aux_lemma =>
    clear HI4
    obtain ⟨cl, cc, hk⟩ := hcut
    have hmc := hk.em HM.out HNS.out HNL.out HLO.out
    have HMC := Lib.hid hmc
    have HBOX := Lib.hid hk.box
    have HAFT := Lib.hid hk.aft
    have HNBX : Hid (¬ v.S X.p bb) := fun hq => by rcases hmc.ty hk.box hq with e | e | e | e | e | e <;> exact absurd e (by decide)
    have HEND : Hid (∀ {s' : EmS} {w' : World}, EmSt X v wc s' w' → EmT X lg v w s' w') := fun ⟨v', m', r', S'⟩ => ⟨v', m', (hk.rest.mono fun q e => .inr e).trans (r'.mono fun q e => .inl e) |> fun h => ⟨h.os, h.tape, h.output, h.size, fun q hq hs => h.block q hq hs⟩, fun q hq => (S' q hq).imp_right fun h => Nat.le_trans hk.rest.size h⟩
    obtain ⟨ai, ci, ac, c9, am, cm, az, cz, aj, cj, e1, e2, e3, e4, e5⟩ := hmc.shapes
    have c0 : wc.cell? ⟨X.p, 8, none⟩ = some v.i := hmc.box.cell 8
    have c1 : wc.cell? ⟨X.p, 12, none⟩ = some v.s := hmc.box.cell 12
    have hpc := hmc.box.lt
    rw [e1] at c0
    rw [e4] at c1
    obtain ⟨n0, hn0⟩ : ∃ n0, n0 = s.items.length := ⟨_, rfl⟩
    obtain ⟨m0, hm0⟩ : ∃ n0, n0 = s.starts.length := ⟨_, rfl⟩
    have hn1 : n0 ≤ 10000000 := by have := HT.out; unfold EmS.tot at this; omega
    have hm1 : m0 ≤ 10000000 := by have := HT.out; unfold EmS.tot at this; omega
    have HN0 := Lib.hid hn0
    have HM0 := Lib.hid hm0
    rw [← hn0] at c0
    rw [← hm0] at c1
    rw [← HP.out] at c0 c1 hpc
    have HE4 := Lib.hid e4
    have hrow := hmc.os
    rw [e4, ← hm0] at hrow
    have HROW := Lib.hid hrow
    have HNEW := Lib.hid (Blk.new wc [.int .i64 (n0 : Int)] 3).cell
    have HBW : Hid (X.B ≤ wc.heap.size) := Nat.le_trans hmc.hp (Nat.le_of_lt hmc.box.lt)
    have r0 := fun z : AfterR (KeepE p p) wc.drew => (World.cell?_of_block (a := ⟨p, 8, none⟩) z.rel.1).trans c0
    have r1 := fun z : AfterR (KeepE p p) wc.drew => (World.cell?_of_block (a := ⟨p, 12, none⟩) z.rel.1).trans c1
    obtain ⟨i1, hi1, hy0, hy1, hy2⟩ : ∃ i, Tryz.prog.info? 3 = some i ∧ i.zero = some (.int .i64 0) ∧ i.size = 1 ∧ i.bytes = 8 := info_partsV (by kernel_rfl)
    clear hrow e1 e2 e3 e4 e5 hn0 hm0 c0 c1 hmc hk
    go_wp2_with fail
    refine wp_region_eagerRT (KeepE p p) [(0, true), (1, true), (2, true), (3, true), (4, true), (5, true), (6, true), (7, true), (8, true), (9, true), (10, true), (11, false), (12, false), (13, true), (14, true), (15, false)] (by kernel_rfl) (by kernel_rfl) ?_
    repeat (refine eagR_readT rfl ?_; go_big_quiet_step (fail); refine wpQuiet_nil ?_)
    clear r0 r1
    refine eagR_doesT rfl rfl ?_
    intro K hK
    go_simp
    refine hK _ _ (fun _ => ⟨Below.heap_alloc _ _ _ hpc, Below.heap_alloc _ _ _ hpc⟩) ?_
    clear hK K
    have hba : Below wc.heap.size wc (wc.alloc (.cells #[.int .i64 (n0 : Int)] 3)).drew := ((Below.refl _ _).alloc (Nat.le_refl _) _).drew
    have HNW : Hid (∀ i, (wc.alloc (.cells #[.int .i64 (n0 : Int)] 3)).drew.cell? ⟨wc.heap.size, i, none⟩ = [Value.int .i64 (n0 : Int)][i]?) := HNEW.out
    have HM1 := Lib.hid (HMC.out.below hba)
    have HBA1 := Lib.hid hba
    have hrow := ownG_below HROW.out hba
    clear hba HNEW HROW
    generalize (wc.alloc (.cells #[.int .i64 (n0 : Int)] 3)).drew = wd at HNW HM1 HBA1 hrow ⊢
    refine eagR_doesT rfl rfl ?_
    intro K hK
    refine wp_append_lies _ _ _ 22 rfl X.B 3 i1 (.int .i64 0) 1 8 Tryz.underlying22 hi1 hy0 hy1 hy2 rfl (by decide) (Value.slice az m0 cz) m0 _ rfl hrow ⟨wc.heap.size, 0, none⟩ 1 1 [.int .i64 (n0 : Int)] rfl rfl ?_ ?_ (by decide) ?_ ?_ (Nat.le_trans HBW.out HBA1.out.size) wd.heap.size rfl ?_
    ·intro jj u hju; rw [Addr.add_lit, Nat.zero_add]; exact (HNW.out jj).trans hju
    ·intro u hu; simp at hu; rcases hu with rfl; rfl
    ·unfold maxLen; omega
    ·omega
    intro g9 cap9 w9 ho hg hat hlt9
    rw [HM0.out, ← HE4.out] at hg hat
    have hown : w9.ownsRow X.B 3 1 (.slice (some ⟨g9, 0, none⟩) (m0 + 1) cap9) (s.starts ++ [n0]).length ((s.starts ++ [n0]).map fun (t : Nat) => Value.int .i64 (t : Int)) := by
     rw [List.length_append, ← HM0.out, List.map_append]
     exact ho
    have hpk : w9.heap[X.p]? = wd.heap[X.p]? := hg.block X.p HM1.out.box.lt fun e => own_noBox HM1.out.os HM1.out.box (by decide) e.symm
    have hbx := HM1.out.box.of_heap hpk
    rw [← HP.out] at hpk
    have f0 := hbx.free 12
    have f0c : w9.cell? ⟨X.p, 12, none⟩ = some v.s := hbx.cell 12
    have hpl9 := hbx.lt
    rw [← HP.out] at f0 f0c hpl9
    have hd := HM1.out.growS HX2.out hown hg (u := .slice (some ⟨g9, 0, none⟩) (m0 + 1) cap9) (fun q hq => by
     have : g9 = q := by simpa [Value.ownBlock] using hq
     rw [← this]
     exact hat.imp_right fun e => by rw [e]; exact Nat.le_refl _)
    have hsb : EmSt X v wc s.begin (w9.setCell ⟨X.p, 12, none⟩ (.slice (some ⟨g9, 0, none⟩) (m0 + 1) cap9)) := by
     refine EmSt.ofBelow HBA1.out ⟨{ v with s := .slice (some ⟨g9, 0, none⟩) (m0 + 1) cap9 }, ?_, ((RestS.ofGrown hg).mono fun q hq => .inr (.inr (.inr (.inr (.inl hq))))).set (p := ⟨X.p, 12, none⟩) (.inl rfl) _, EmV.S_new (fun _ => .inl) (fun _ => .inl) (fun _ => .inl) (fun q hq => ?_) (fun _ => .inl)⟩
     ·have h9 := hd
      rw [HN0.out] at h9
      exact h9
     ·have : g9 = q := by simpa [Value.ownBlock] using hq
      rw [← this]
      exact hat.imp_right fun e => by rw [e]; exact Nat.le_refl _
    obtain ⟨vb, hgb⟩ := hsb.split
    have HGB := Lib.hid hgb
    rw [← HP.out] at HGB
    clear ho hg hat hown hbx hd hsb hgb hrow
    go_simp
    refine hK _ _ (fun _ => ⟨hpk, hpk⟩) ?_
    clear hK K hpk
    repeat (refine eagR_readT rfl ?_; go_big_quiet_step (fail); refine wpQuiet_nil ?_)
    refine eagR_freeT rfl rfl (by kernel_rfl) ?_
    intro K hK
    go_simp
    refine hK _ _ ?_
    clear hK K f0 f0c
    go_simp
    refine eagR_endT ?_
    obtain ⟨s1, hs1⟩ : ∃ s1, s1 = if i = 0 then s.begin.enter X.a (X.a.k + 1) X.f.params else s.begin := ⟨_, rfl⟩
    have HS1 := Lib.hid hs1
    have HT1 : Hid (s1.tot ≤ s.tot + 40) := by
     show _ ≤ _
     have hbt : s.begin.tot = s.tot + 1 := by simp [EmS.begin, EmS.tot]; omega
     rw [hs1]
     split
     ·have := enter_tot s.begin X.a (X.a.k + 1) X.f.params
      have h6 : X.f.params.length ≤ 6 := by have := HPN.out; have h9 : X.f.params.length = X.f.pn := by simpa using HX2.out.fok.pcame.count
                                            omega
      omega
     ·omega
    clear hs1
    have HTB : Hid (s.begin.tot = s.tot + 1) := by show _ = _; simp [EmS.begin, EmS.tot]; omega
    by_cases hi0 : i = 0
    case' pos =>
     have q0 : (((i : Nat) : Int) == 0) = true := by simp [hi0]
     have HE1 : Hid (s1 = s.begin.enter X.a (X.a.k + 1) X.f.params) := by rw [Hid, HS1.out, if_pos hi0]
     have HEN := Lib.hid (emEnter_any X HX2.out _ s.begin vb (by rw [HP.out] at HGB; exact HGB.out.m) HPS.out HPN.out (by have := HTB.out; have := HT.out; omega))
     rw [← HP.out, ← HE1.out] at HEN
     clear hi0
     go_wp2_with fail
     refine HEN.out.mono ?_
     rintro e wk ⟨rfl, hs⟩
     have HSK : Hid (EmSt X v wc s1 wk) := HGB.out.next hs
     clear hs HEN HGB
    case' neg =>
     have q0 : (((i : Nat) : Int) == 0) = false := beq_eq_false_iff_ne.2 (by omega)
     have HE1 : Hid (s1 = s.begin) := by rw [Hid, HS1.out, if_neg hi0]
     have HSK : Hid (EmSt X v wc s1 (w9.setCell ⟨p, 12, none⟩ (.slice (some ⟨g9, 0, none⟩) (m0 + 1) cap9))) := by rw [HE1.out]; exact HGB.out.done
     clear hi0 HGB
     go_upto_region 20 with fail
     generalize w9.setCell ⟨p, 12, none⟩ (.slice (some ⟨g9, 0, none⟩) (m0 + 1) cap9) = wk at HSK ⊢
    all_goals
     obtain ⟨vk, hgk⟩ := HSK.out.split
     have hbk := hgk.blk HBOX.out HNBX.out
     obtain ⟨sa, hsav⟩ : ∃ sa, sa = b.sa := ⟨_, rfl⟩
     have b0 : wk.cell? ⟨bb, 0, none⟩ = some (.slice sa m b.sc) := by rw [HMB.out, hsav]; exact hbk.cell 0
     have HSV := Lib.hid hsav
     have hbl := hbk.lt
     clear hgk hbk hsav
     go_wp2_with fail
     go_loopw [14, 114] (fun _ u wr => ∃ k : Nat, k ≤ m ∧ u = .int .i64 (k : Int) ∧ EmSt X v wc (insL X.a X.n X.a.k.toNat (afB b l) 0 (b.ins.take k) s1) wr) (fun _ u _ => m - (intOf u).toNat)
     case atStart => exact ⟨0, Nat.zero_le _, rfl, HSK.out⟩
     case round =>
      clear HSK b0 hbl
      obtain ⟨k, hk, rfl, hs⟩ := hrel
      obtain ⟨vr, hgr⟩ := hs.split
      have HGR := Lib.hid hgr
      obtain ⟨s2, hs2⟩ : ∃ s2, s2 = insL X.a X.n X.a.k.toNat (afB b l) 0 (b.ins.take k) s1 := ⟨_, rfl⟩
      rw [← hs2] at HGR hgr
      have hst2 : s2.tot ≤ s.tot + 40 + 40 * m := by
       have h9 := insL_tot X.a X.n X.a.k.toNat (afB b l) (b.ins.take k) 0 s1 fun x hx => by
        have h8 := HBR.out.ins x (List.mem_of_mem_take hx)
        have h7 : x.args.length = x.sn := by simpa using (HBO.out.ins x (List.mem_of_mem_take hx)).came.count
        have := h8.sn; omega
       rw [← hs2, List.length_take] at h9
       have := HT1.out; omega
      have HST2 := Lib.hid hst2
      have HS2 := Lib.hid hs2
      by_cases hlt : k < m
      ·have hki : (k : Int) < (m : Int) := by omega
       have hkl : k < b.ins.length := by rw [HML.out]; exact hlt
       obtain ⟨x, hx⟩ : ∃ x, x = b.ins[k] := ⟨_, rfl⟩
       have HXO : Hid (x.Ok X.w0) := by rw [hx]; exact HBO.out.ins _ (List.getElem_mem _)
       have HXR : Hid (x.Rng X.n) := by rw [hx, ← HN.out]; exact HBR.out.ins _ (List.getElem_mem _)
       obtain ⟨gi, oi, hsx, hgi, d0, d1, d2, d3, d4, d5⟩ := HBO.out.cells hgr.m.be hkl
       rw [← hx] at d0 d1 d2 d3 d4 d5
       rw [← HSV.out] at hsx
       subst hsx
       have hgi2 : gi < wr.heap.size := Nat.lt_of_lt_of_le hgi hgr.m.be.size
       have HTK : Hid (insL X.a X.n X.a.k.toNat (afB b l) 0 (b.ins.take (k + 1)) s1 = s2.ins X.a X.n X.a.k.toNat x (afB b l k)) := by
        show _ = _
        rw [List.take_succ_eq_append_getElem hkl, insL_snoc, ← hs2, List.length_take, Nat.min_eq_left (by omega), Nat.zero_add, hx]
       have hba : Below wr.heap.size wr (wr.alloc (.cells #[.int .i64 x.op, .int .i64 x.d, .int .i64 x.a, .int .i64 x.b, .int .i64 x.n, .slice x.sa x.sn x.sc] 48)) := (Below.refl _ _).alloc (Nat.le_refl _) _
       have HG2 := Lib.hid (hgr.below hba)
       have HXB := Lib.hid (Blk.new wr [.int .i64 x.op, .int .i64 x.d, .int .i64 x.a, .int .i64 x.b, .int .i64 x.n, .slice x.sa x.sn x.sc] 48)
       have HA2 := Lib.hid ((HAFT.out.next HMC.out hgr).below hba)
       obtain ⟨lv, hlv⟩ : ∃ lv, lv = if 0 ≤ k ∧ mapO (b.at k).op = true then Value.slice (some ⟨cl k, 0, none⟩) X.n (cc k) else .slice none 0 0 := ⟨_, rfl⟩
       have hat : b.at k = x := by rw [VB.at_eq hkl, hx]
       have HLVV : Hid (lv = if 0 ≤ k ∧ mapO x.op = true then Value.slice (some ⟨cl k, 0, none⟩) X.n (cc k) else .slice none 0 0) := by rw [Hid, hlv, hat]
       have HNL2 : Hid (needL x.op → lv = .slice (some ⟨cl k, 0, none⟩) n (cc k) ∧ LvM X (wr.alloc (.cells #[.int .i64 x.op, .int .i64 x.d, .int .i64 x.a, .int .i64 x.b, .int .i64 x.n, .slice x.sa x.sn x.sc] 48)) vr (cl k) (cc k) (afB b l k)) := fun hq => by
        have ho := needL_map.mp hq
        have hgw := (HA2.out.row k (Nat.zero_le _) hlt (by rw [hat]; exact ho)).1
        refine ⟨by rw [HLVV.out, if_pos ⟨Nat.zero_le _, ho⟩, HN.out], fun r hr => ?_, hgw.lt, grow_noS HG2.out.m hgw, hgw.le.1, ?_⟩
        ·exact hgw.cell hr
        ·have := hgw.le.2; unfold maxLen at this; exact this
       clear hs hs2 hgr hx hat hba hst2 hgi
       go_upto_region 25 with fail
       obtain ⟨xb, hxb⟩ : ∃ xb, xb = wr.heap.size := ⟨_, rfl⟩
       rw [← hxb] at HXB ⊢
       clear hxb d0 d1 d2 d3 d4 d5 hgi2
       change Code.wp _ _ _ _ (wr.alloc (.cells #[.int .i64 x.op, .int .i64 x.d, .int .i64 x.a, .int .i64 x.b, .int .i64 x.n, .slice x.sa x.sn x.sc] 48))
       generalize wr.alloc (.cells #[.int .i64 x.op, .int .i64 x.d, .int .i64 x.a, .int .i64 x.b, .int .i64 x.n, .slice x.sa x.sn x.sc] 48) = wy at HG2 HXB HA2 HNL2 ⊢
       have x0 : wy.cell? ⟨xb, 0, none⟩ = some (.int .i64 x.op) := HXB.out.cell 0
       have x1 : wy.cell? ⟨xb, 1, none⟩ = some (.int .i64 x.d) := HXB.out.cell 1
       have x2 : wy.cell? ⟨xb, 2, none⟩ = some (.int .i64 x.a) := HXB.out.cell 2
       have x3 : wy.cell? ⟨xb, 3, none⟩ = some (.int .i64 x.b) := HXB.out.cell 3
       have x4 : wy.cell? ⟨xb, 4, none⟩ = some (.int .i64 x.n) := HXB.out.cell 4
       have x5 : wy.cell? ⟨xb, 5, none⟩ = some (.slice x.sa x.sn x.sc) := HXB.out.cell 5
       have hxl := HXB.out.lt
       have ak : wy.cell? ⟨ab, k, none⟩ = some lv := by rw [hlv]; exact Blk.row HA2.out.blk hlt
       have hal := Blk.lt HA2.out.blk
       have HIN := Lib.hid (emIns_any X HX2.out wy.drew s2 vr (HG2.out.m.below ((Below.refl _ _).drew)) x HXO.out HXR.out lv (cl k) (cc k) n (afB b l k) HN.out (fun hq => ⟨(HNL2.out hq).1, (HNL2.out hq).2.below ((Below.refl _ _).drew)⟩) (by have := HST2.out; have := HT.out; have := HML.out; omega))
       rw [← HP.out, ← HTK.out] at HIN
       unfold viV at HIN
       have HNX2 : Hid (∀ {s' : EmS} {w' : World}, EmSt X vr wy.drew s' w' → EmSt X v wc s' w') := fun h => (HG2.out.below ((Below.refl _ _).drew)).next h
       clear hlv
       go_wp2_with fail
       go_still_tail 6, (by kernel_rfl)
       change wpList _ _ _ _ _ wy.drew
       generalize wy.drew = wz at HIN HNX2 ⊢
       go_wp2_with fail
       refine HIN.out.mono ?_
       rintro e wn ⟨rfl, hs⟩
       have hsn := HNX2.out hs
       clear hs HIN
       go_wp2_with fail
       go_roundw
       case rel => exact ⟨k + 1, by omega, by go_num, hsn⟩
       case measure => simp [intOf]; omega
      ·have hle : ¬ (k : Int) < (m : Int) := by omega
       have hbr := hgr.blk HBOX.out HNBX.out
       have b1 : wr.cell? ⟨bb, 1, none⟩ = some (.int .i64 b.e.kind) := hbr.cell 1
       have b2 : wr.cell? ⟨bb, 2, none⟩ = some (.int .i64 b.e.op) := hbr.cell 2
       have b3 : wr.cell? ⟨bb, 3, none⟩ = some (.int .i64 b.e.a) := hbr.cell 3
       have b4 : wr.cell? ⟨bb, 4, none⟩ = some (.int .i64 b.e.b) := hbr.cell 4
       have b5 : wr.cell? ⟨bb, 5, none⟩ = some (.int .i64 b.e.n) := hbr.cell 5
       have b6 : wr.cell? ⟨bb, 6, none⟩ = some (.slice b.e.sa b.e.sn b.e.sc) := hbr.cell 6
       have hbl := hbr.lt
       have HFI := Lib.hid (fin_any X HX2.out wr s2 vr hgr.m b.e HBO.out.e (by rw [← HN.out]; exact HBR.out.e) i (by omega) (by have := HST2.out; have := HT.out; have := HML.out; omega))
       have HFE2 : Hid (s2.fin X.a (X.a.k + 1) i b.e = sf) := by
        show _ = _
        rw [HSF.out, hs2, HS1.out, List.take_of_length_le (by have := HML.out; omega)]
        rfl
       rw [HFE2.out, ← HP.out] at HFI
       unfold veV at HFI
       clear hs hs2 hgr hbr hst2
       go_wp2_with fail
       refine HFI.out.mono ?_
       rintro e wn ⟨rfl, hs⟩
       have hsn := HEND.out (HGR.out.next hs)
       clear hs HFI
       go_wp2_with fail
       refine bodyPost_end (results_none rfl _ _ _) rfl ?_
       exact ⟨rfl, hsn⟩
end Go.Proofs.YtdnpoomagjcpfaaGreat
