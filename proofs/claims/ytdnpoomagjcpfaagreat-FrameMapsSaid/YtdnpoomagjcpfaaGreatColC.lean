/- color build: what it makes. -/
import Derived.Test.YtdnpoomagjcpfaaGreatColMem
import Derived.BigRegion
namespace Go.Proofs.YtdnpoomagjcpfaaGreat
open Go.RowKit
set_option linter.unusedVariables false
set_option linter.unusedSimpArgs false

/-- the graph before its rows are made -/
structure NewG (w0 w : World) (f : VF) (n pf gx gb sb tb : Nat) : Prop where
 be : Below w0.heap.size w0 w
 bf : Blk w pf 25 (fC f)
 gbox : Blk w gx 67 [.pointer (some ⟨gb, 0, none⟩)]
 box : Blk w gb 76 [.slice none 0 0, .slice (some ⟨sb, 0, none⟩) n n, .slice (some ⟨tb, 0, none⟩) n n, .slice none 0 0]
 slot : BRow w sb n (fun _ => false)
 there : BRow w tb n (fun _ => false)
 ne : sb ≠ tb
 lo : w0.heap.size ≤ gb ∧ w0.heap.size ≤ sb ∧ w0.heap.size ≤ tb ∧ w0.heap.size ≤ gx
theorem four_heap (w : World) (o0 o1 o2 o3 : Obj) (k : Nat) (hk : k < 4) : ((((w.alloc o0).alloc o1).alloc o2).alloc o3).drew.heap[w.heap.size + k]? = [o0, o1, o2, o3][k]? := by
 have e : ((((w.alloc o0).alloc o1).alloc o2).alloc o3).drew.heap = w.heap ++ #[o0, o1, o2, o3] := by
  show ((((w.heap.push o0).push o1).push o2).push o3) = _
  apply Array.ext'
  simp
 rw [e, Array.getElem?_append_right (by omega), Nat.add_sub_cancel_left]
 simp
theorem newG_four {w0 w1 : World} {f : VF} {n pf : Nat} {o0 o1 o2 o3 : Obj} (hb : Below w0.heap.size w0 w1) (hf : Blk w1 pf 25 (fC f)) (ks kt kg kx : Nat) (h4 : (ks < 4 ∧ kt < 4 ∧ kg < 4 ∧ kx < 4) ∧ ks ≠ kt)
  (e1 : [o0, o1, o2, o3][kx]? = some (.cells #[.pointer (some ⟨w1.heap.size + kg, 0, none⟩)] 67)) (e2 : [o0, o1, o2, o3][kg]? = some (.cells #[.slice none 0 0, .slice (some ⟨w1.heap.size + ks, 0, none⟩) n n, .slice (some ⟨w1.heap.size + kt, 0, none⟩) n n, .slice none 0 0] 76))
  (e3 : [o0, o1, o2, o3][ks]? = some (.cells (rowL n fun _ => .bool false).toArray 4)) (e4 : [o0, o1, o2, o3][kt]? = some (.cells (rowL n fun _ => .bool false).toArray 4)) :
  NewG w0 ((((w1.alloc o0).alloc o1).alloc o2).alloc o3).drew f n pf (w1.heap.size + kx) (w1.heap.size + kg) (w1.heap.size + ks) (w1.heap.size + kt) := by
 have hbe : Below w1.heap.size w1 ((((w1.alloc o0).alloc o1).alloc o2).alloc o3).drew := (((((Below.refl _ w1).alloc (Nat.le_refl _) o0).alloc (by simp) o1).alloc (by simp; omega) o2).alloc (by simp; omega) o3).drew
 have hs := hb.size
 exact ⟨hb.trans (hbe.mono hb.size), hf.below hbe hf.lt, (four_heap w1 o0 o1 o2 o3 kx h4.1.2.2.2).trans e1, (four_heap w1 o0 o1 o2 o3 kg h4.1.2.2.1).trans e2, (four_heap w1 o0 o1 o2 o3 ks h4.1.1).trans e3, (four_heap w1 o0 o1 o2 o3 kt h4.1.2.1).trans e4, by omega, by omega, by omega, by omega, by omega⟩
/-- the graph while its rows are made -/
structure RowK (w0 w : World) (f : VF) (n pf gx gb sb tb k : Nat) (v : Value) (bs : Nat → Nat) : Prop where
 be : Below w0.heap.size w0 w
 bf : Blk w pf 25 (fC f)
 gbox : Blk w gx 67 [.pointer (some ⟨gb, 0, none⟩)]
 box : Blk w gb 76 [v, .slice (some ⟨sb, 0, none⟩) n n, .slice (some ⟨tb, 0, none⟩) n n, .slice none 0 0]
 own : w.ownsRow w0.heap.size 51 1 v k (rowL k fun i => .slice (some ⟨bs i, 0, none⟩) n n)
 row : ∀ i, i < k → BRow w (bs i) n (fun _ => false)
 inj : ∀ i j, i < k → j < k → bs i = bs j → i = j
 slot : BRow w sb n (fun _ => false)
 there : BRow w tb n (fun _ => false)
 ne : sb ≠ tb ∧ ∀ i, i < k → bs i ≠ sb ∧ bs i ≠ tb
 lo : (w0.heap.size ≤ gb ∧ w0.heap.size ≤ sb ∧ w0.heap.size ≤ tb ∧ w0.heap.size ≤ gx) ∧ ∀ i, i < k → w0.heap.size ≤ bs i
section
variable {w0 w w' : World} {f : VF} {n pf gx gb sb tb k : Nat} {v v' : Value} {bs : Nat → Nat}
theorem RowK.ofNew (h : NewG w0 w f n pf gx gb sb tb) : RowK w0 w f n pf gx gb sb tb 0 (.slice none 0 0) (fun _ => 0) :=
 ⟨h.be, h.bf, h.gbox, h.box, World.ownsRow_nil _ _ _ _, fun i hi => absurd hi (Nat.not_lt_zero _), fun i j hi => absurd hi (Nat.not_lt_zero _), h.slot, h.there, ⟨h.ne, fun i hi => absurd hi (Nat.not_lt_zero _)⟩, h.lo, fun i hi => absurd hi (Nat.not_lt_zero _)⟩
theorem RowK.below (h : RowK w0 w f n pf gx gb sb tb k v bs) (hb : Below w.heap.size w w') : RowK w0 w' f n pf gx gb sb tb k v bs :=
 ⟨h.be.trans (hb.mono h.be.size), h.bf.below hb h.bf.lt, h.gbox.below hb h.gbox.lt, h.box.below hb h.box.lt, ownG_below h.own hb, fun i hi => Blk.below (h.row i hi) hb (Blk.lt (h.row i hi)), h.inj, Blk.below h.slot hb (Blk.lt h.slot), Blk.below h.there hb (Blk.lt h.there), h.ne, h.lo⟩
/-- a row made, put behind the others, and the field set anew -/
theorem RowK.push (h : RowK w0 w f n pf gx gb sb tb k v bs) {r : Nat} (hr : BRow w r n (fun _ => false)) (hr2 : ∀ i, i < k → bs i ≠ r) (hr3 : r ≠ sb ∧ r ≠ tb ∧ w0.heap.size ≤ r) (hg : w.grownBy w' v.ownBlock) (hown : w'.ownsRow w0.heap.size 51 1 v' (k + 1) ((rowL k fun i => .slice (some ⟨bs i, 0, none⟩) n n) ++ [.slice (some ⟨r, 0, none⟩) n n])) :
  RowK w0 (w'.setCell ⟨gb, 0, none⟩ v') f n pf gx gb sb tb (k + 1) v' (fun i => if i = k then r else bs i) := by
 have hrs := RestS.ofGrown hg
 have hbl : ∀ {q : Nat} {t : TypeId} {cs : List Value}, Blk w q t cs → t ≠ 51 → Blk w' q t cs := fun hq ht => Blk.of_heap hq (hrs.block _ (Blk.lt hq) (blk_noOwn hq h.own (fun e => ht e.symm)))
 have hgb := hbl h.box (by decide)
 have hrow : ∀ {q : Nat} {l : Nat → Bool}, BRow w q n l → BRow (w'.setCell ⟨gb, 0, none⟩ v') q n l := fun hq => BRow.other (hbl hq (by decide)) (fun e => brow_ne (hbl hq (by decide)) hgb (by decide) e.symm) 0 v'
 have hne : ∀ {q : Nat} {t : TypeId} {cs : List Value}, Blk w' q t cs → t ≠ 76 → q ≠ gb := fun hq ht e => by
  subst e
  have h1 : w'.heap[_]? = _ := hq
  have h2 : w'.heap[_]? = _ := hgb
  rw [h1] at h2
  injection h2 with h2
  injection h2 with _ h2 _
  exact ht h2
 have hl : rowL (k + 1) (fun i => Value.slice (some ⟨if i = k then r else bs i, 0, none⟩) n n) = (rowL k fun i => .slice (some ⟨bs i, 0, none⟩) n n) ++ [.slice (some ⟨r, 0, none⟩) n n] := by
  unfold rowL
  rw [List.range_succ, List.map_append]
  congr 1
  ·refine List.map_congr_left fun i hi => ?_
   have := List.mem_range.1 hi
   simp [show i ≠ k by omega]
  ·simp
 refine ⟨(h.be.trans (hrs.toBelow (fun q e => (h.own.lt q e).1) h.be.size)).setCell (p := ⟨gb, 0, none⟩) h.lo.1.1 _, Blk.setOther (hbl h.bf (by decide)) (a := ⟨gb, 0, none⟩) (hne (hbl h.bf (by decide)) (by decide)) _, Blk.setOther (hbl h.gbox (by decide)) (a := ⟨gb, 0, none⟩) (hne (hbl h.gbox (by decide)) (by decide)) _, ?_, ?_, fun i hi => ?_, fun i j hi hj e => ?_, hrow h.slot, hrow h.there, ⟨h.ne.1, fun i hi => ?_⟩, h.lo.1, fun i hi => ?_⟩
 ·have := Blk.set hgb 0 v'
  simpa using this
 ·rw [hl]
  exact ownG_other (a := ⟨gb, 0, none⟩) hown (fun e => blk_noOwn hgb hown (by decide) e) v'
 ·by_cases e : i = k
  ·simp only [e, if_true]; exact hrow hr
  ·simp only [e, if_false]; exact hrow (h.row i (by omega))
 ·by_cases e1 : i = k <;> by_cases e2 : j = k
  ·omega
  ·simp only [e1, e2, if_true, if_false] at e; exact absurd e.symm (hr2 j (by omega))
  ·simp only [e1, e2, if_true, if_false] at e; exact absurd e (hr2 i (by omega))
  ·simp only [e1, e2, if_false] at e; exact h.inj i j (by omega) (by omega) e
 ·by_cases e : i = k
  ·simp only [e, if_true]; exact ⟨hr3.1, hr3.2.1⟩
  ·simp only [e, if_false]; exact h.ne.2 i (by omega)
 ·by_cases e : i = k
  ·simp only [e, if_true]; exact hr3.2.2
  ·simp only [e, if_false]; exact h.lo.2 i (by omega)
theorem RowK.graph {G rc : Nat} (h : RowK w0 w f n pf gx gb sb tb n (.slice (some ⟨G, 0, none⟩) n rc) bs) : GrM w w0.heap.size n ⟨gb, G, rc, sb, tb, bs⟩ (fun _ _ => false) (fun _ => false) (fun _ => false) (.slice none 0 0) :=
 ⟨h.box, h.own, h.row, h.inj, h.slot, h.there, ⟨h.ne.1, h.ne.2⟩, ⟨⟨h.lo.1.1, h.lo.1.2.1, h.lo.1.2.2.1⟩, h.lo.2⟩⟩
end
def BuildPost (f : VF) (n nb : Nat) (w : World) (e : Ending) (w' : World) : Prop :=
 ∃ (g : GP) (XL EL : Nat → Nat → Bool) (mv : Value), e = .returned (.pointer (some ⟨g.gb, 0, none⟩)) ∧ Below w.heap.size w w' ∧ (∀ i, i < nb → ∀ r, r < n → (XL i r = true ↔ LiveI f i r)) ∧ EL = (fun i => aftF (f.blk i).e.to XL) ∧
  GrM w' w.heap.size n g (parX n (f.params.map Int.toNat) (XL 0) (blksC n f EL nb).X f.pn) (blksC n f EL nb).SL (fun r => if r = 0 then false else markL (blksC n f EL nb).TH (f.params.map Int.toNat) r) mv ∧
  w'.ownsRow w.heap.size 85 2 mv (blksC n f EL nb).mv.length ((blksC n f EL nb).mv.flatMap wpC)
set_option maxRecDepth 100000 in
set_option maxHeartbeats 8000000 in
theorem build_any (w : World) (f : VF) (hf : f.Ok w) (n nb : Nat) (hok : FnOk f n nb) (hfe : fnE f = 0) : Calls Tryz.prog 22 #[f.v] w (BuildPost f n nb w) := by
 have hb0 : Below w.heap.size w (w.alloc (.cells #[.int .i64 f.name, .slice f.pa f.pn f.pc, .int .i64 f.regs, .slice f.sa f.sn f.sc] 25)) := (Below.refl _ _).alloc (Nat.le_refl _) _
 have hbf := Blk.new w (fC f) 25
 unfold VF.v
 have HF := Lib.hid hf
 have HOK := Lib.hid hok
 have HFE := Lib.hid hfe
 have HREG := Lib.hid hok.regs
 have HSN := Lib.hid hok.sn
 have HNB := Lib.hid hok.nbl
 have hn1 := hok.n2.1
 have hn2 := hok.n2.2
 have hnb1 := hok.nb2.1
 have hnb2 := hok.nb2.2
 have hpn6 := hok.pn
 have HB0 := Lib.hid hb0
 have HBF := Lib.hid hbf
 have hmk : ∀ w : World, (Instr.makeSlice 51 (.int .i64 (n : Int)) (.int .i64 (n : Int))).run Tryz.prog w = .ok (.slice (some ⟨w.heap.size, 0, none⟩) n n) (w.alloc (.cells (rowL n fun _ => .bool false).toArray 4)) := fun w => run_make_rep (P := Tryz.prog) 51 4 (.bool false) 1 Tryz.underlying51 Tryz.infoB4 rfl n (by omega) (by omega) w
 clear hf hok hfe hb0 hbf
 go_enter Tryz.func22, Tryz.ntmps22
 go_upto_region 1 with fail
 change Code.wp _ _ _ _ (w.alloc (.cells (fC f).toArray 25))
 obtain ⟨pf, hpf⟩ : ∃ pf, pf = w.heap.size := ⟨_, rfl⟩
 have HB1 : Hid (Below w.heap.size w (w.alloc (.cells (fC f).toArray 25))) := HB0.out
 rw [← hpf] at HBF ⊢
 have HPF := Lib.hid hpf
 generalize w.alloc (.cells (fC f).toArray 25) = w1 at HBF HB1 ⊢
 have c2 := HBF.out.cell 2
 simp only [fC, List.getElem?_cons_zero, List.getElem?_cons_succ] at c2
 rw [HREG.out] at c2
 have hpl := Blk.lt HBF.out
 clear HB0 hpf
 go_cut [3] from 21 (fun v wx => ∃ gx gb sb tb, v = .pointer (some ⟨gx, 0, none⟩) ∧ NewG w wx f n pf gx gb sb tb)
 case first => as_aux_lemma =>
  go_region
  all_goals go_wp2_with fail
  all_goals go_meet
  ·exact ⟨_, _, _, _, rfl, newG_four HB1.out HBF.out 0 1 2 3 (by decide) rfl rfl rfl rfl⟩
  ·exact ⟨_, _, _, _, rfl, newG_four HB1.out HBF.out 0 1 3 2 (by decide) rfl rfl rfl rfl⟩
  ·exact ⟨_, _, _, _, rfl, newG_four HB1.out HBF.out 0 2 3 1 (by decide) rfl rfl rfl rfl⟩
  ·exact ⟨_, _, _, _, rfl, newG_four HB1.out HBF.out 1 0 2 3 (by decide) rfl rfl rfl rfl⟩
  ·exact ⟨_, _, _, _, rfl, newG_four HB1.out HBF.out 1 0 3 2 (by decide) rfl rfl rfl rfl⟩
  ·exact ⟨_, _, _, _, rfl, newG_four HB1.out HBF.out 2 0 3 1 (by decide) rfl rfl rfl rfl⟩
  ·exact ⟨_, _, _, _, rfl, newG_four HB1.out HBF.out 1 2 3 0 (by decide) rfl rfl rfl rfl⟩
  ·exact ⟨_, _, _, _, rfl, newG_four HB1.out HBF.out 2 1 3 0 (by decide) rfl rfl rfl rfl⟩
 case rest => as_aux_lemma =>
  clear c2 HBF HB1 hpl
  obtain ⟨gx, gb, sb, tb, rfl, hng⟩ := hcut
  have HK0 := Lib.hid (RowK.ofNew hng)
  clear hng
  have c2 := HK0.out.bf.cell 2
  simp only [fC, List.getElem?_cons_zero, List.getElem?_cons_succ] at c2
  rw [HREG.out] at c2
  obtain ⟨i1, hi1, hy0, hy1, hy2⟩ : ∃ i, Tryz.prog.info? 51 = some i ∧ i.zero = some (.slice none 0 0) ∧ i.size = 1 ∧ i.bytes = 24 := info_partsV (by kernel_rfl)
  go_upto_block 0 with fail
  go_cut [] from 29 (fun wx => ∃ (G rc : Nat) (bs : Nat → Nat), RowK w wx f n pf gx gb sb tb n (.slice (some ⟨G, 0, none⟩) n rc) bs)
  case first => as_aux_lemma =>
   go_wp2_with fail
   clear c2
   go_loopw [31] (fun u wr => ∃ (k : Nat) (v : Value) (bs : Nat → Nat), k ≤ n ∧ u = .int .i64 (k : Int) ∧ RowK w wr f n pf gx gb sb tb k v bs) (fun u _ => n - (intOf u).toNat)
   case atStart => exact ⟨0, _, _, Nat.zero_le _, rfl, HK0.out⟩
   case round =>
    clear HK0
    obtain ⟨k, v, bs, hk, rfl, hrk⟩ := hrel
    obtain ⟨va, vc, rfl⟩ := ownG_shape hrk.own
    have HRK := Lib.hid hrk
    clear hrk
    by_cases hlt : k < n
    ·obtain ⟨wd, hwd⟩ : ∃ wd, wd = wr.drew := ⟨_, rfl⟩
     have hde : Below wr.heap.size wr wd := by rw [hwd]; exact (Below.refl _ _).drew
     have HD := Lib.hid (HRK.out.below hde)
     have k0 := HD.out.gbox.cell 0
     have k1 := HD.out.box.cell 0
     have k2 := HD.out.bf.cell 2
     simp only [fC, List.getElem?_cons_zero, List.getElem?_cons_succ] at k0 k1 k2
     rw [HREG.out] at k2
     have hl1 := Blk.lt HD.out.gbox
     have hl2 := Blk.lt HD.out.box
     have hl3 := Blk.lt HD.out.bf
     have r0 := fun z : AfterR (Keep3C gx gb pf) wd => (World.cell?_of_block (a := ⟨gx, 0, none⟩) z.rel.1).trans k0
     have r1 := fun z : AfterR (Keep3C gx gb pf) wd => (World.cell?_of_block (a := ⟨gb, 0, none⟩) z.rel.2.1).trans k1
     have r2 := fun z : AfterR (Keep3C gx gb pf) wd => (World.cell?_of_block (a := ⟨pf, 2, none⟩) z.rel.2.2).trans k2
     clear k0 k1 k2 hde
     go_upto_region 4 with fail
     refine wp_region_eagerRT (Keep3C gx gb pf) [(0, true), (1, true), (2, true), (3, true), (4, true), (5, true), (6, true), (7, false), (8, false), (9, false), (10, true), (11, true), (12, false)] (by kernel_rfl) (by kernel_rfl) ?_
     rw [← hwd]
     clear hwd
     repeat (refine eagR_readT rfl ?_; go_big_quiet_step (fail); refine wpQuiet_nil ?_)
     clear r0 r1 r2
     refine eagR_doesT rfl rfl ?_
     intro K hK
     go_simp
     refine hK _ _ (fun _ => ⟨Below.heap_alloc _ _ _ hl1, Below.heap_alloc _ _ _ hl2, Below.heap_alloc _ _ _ hl3⟩) ?_
     clear hK K
     go_simp
     have hb1 : Below wd.heap.size wd (wd.alloc (.cells (rowL n fun _ => .bool false).toArray 4)) := (Below.refl _ _).alloc (Nat.le_refl _) _
     have HD1 := Lib.hid (HD.out.below hb1)
     have HRW : Hid (BRow (wd.alloc (.cells (rowL n fun _ => .bool false).toArray 4)) wd.heap.size n (fun _ => false)) := Blk.new wd (rowL n fun _ => .bool false) 4
     obtain ⟨r, hr⟩ : ∃ r, r = wd.heap.size := ⟨_, rfl⟩
     have HR2 : Hid (∀ i, i < k → bs i ≠ r) := fun i hi e => by have := Blk.lt (HD.out.row i hi); omega
     have HR3 : Hid (r ≠ sb ∧ r ≠ tb ∧ w.heap.size ≤ r) := ⟨fun e => by have := Blk.lt HD.out.slot; omega, fun e => by have := Blk.lt HD.out.there; omega, by rw [hr]; exact HD.out.be.size⟩
     rw [← hr] at HRW ⊢
     clear hb1 hl1 hl2 hl3 HD hr
     generalize wd.alloc (.cells (rowL n fun _ => .bool false).toArray 4) = w3 at HD1 HRW ⊢
     have hl1 := Blk.lt HD1.out.gbox
     have hl2 := Blk.lt HD1.out.box
     have hl3 := Blk.lt HD1.out.bf
     refine eagR_doesT rfl rfl ?_
     intro K hK
     go_simp
     refine hK _ _ (fun _ => ⟨Below.heap_alloc _ _ _ hl1, Below.heap_alloc _ _ _ hl2, Below.heap_alloc _ _ _ hl3⟩) ?_
     clear hK K hl1 hl2 hl3
     go_simp
     have hb2 : Below w3.heap.size w3 (w3.alloc (.cells #[.slice (some ⟨r, 0, none⟩) n n] 51)) := (Below.refl _ _).alloc (Nat.le_refl _) _
     have HD2 := Lib.hid (HD1.out.below hb2)
     have HRW2 := Lib.hid (Blk.below HRW.out hb2 (Blk.lt HRW.out))
     have HNEW := Lib.hid (Blk.new w3 [.slice (some ⟨r, 0, none⟩) n n] 51)
     obtain ⟨nb2, hnb⟩ : ∃ x, x = w3.heap.size := ⟨_, rfl⟩
     rw [← hnb] at HNEW ⊢
     change Hid (Blk (w3.alloc (.cells #[.slice (some ⟨r, 0, none⟩) n n] 51)) nb2 51 [.slice (some ⟨r, 0, none⟩) n n]) at HNEW
     clear hb2 HD1 HRW hnb
     generalize w3.alloc (.cells #[.slice (some ⟨r, 0, none⟩) n n] 51) = w4 at HD2 HRW2 HNEW ⊢
     refine eagR_doesT rfl rfl ?_
     intro K hK
     refine wp_append_own _ _ _ 73 rfl w.heap.size 51 i1 (.slice none 0 0) 1 24 Tryz.underlying73 hi1 hy0 hy1 hy2 rfl (by decide) _ _ _ rfl HD2.out.own ⟨nb2, 0, none⟩ 1 1 [.slice (some ⟨r, 0, none⟩) n n] rfl rfl ?_ ?_ ?_ ?_ HD2.out.be.size ?_
     ·intro j u hj
      rw [Addr.add_lit, Nat.zero_add]
      exact (HNEW.out.cell j).trans hj
     ·intro u hu; simp at hu; subst hu; rfl
     ·unfold maxLen; omega
     ·omega
     intro v' w5 hown' hgrow _
     obtain ⟨va5, vc5, rfl⟩ := ownG_shape hown'
     have hrs := RestS.ofGrown hgrow
     have hq1 : w5.heap[gx]? = w4.heap[gx]? := hrs.block _ (Blk.lt HD2.out.gbox) (blk_noOwn HD2.out.gbox HD2.out.own (by decide))
     have hq2 : w5.heap[gb]? = w4.heap[gb]? := hrs.block _ (Blk.lt HD2.out.box) (blk_noOwn HD2.out.box HD2.out.own (by decide))
     have hq3 : w5.heap[pf]? = w4.heap[pf]? := hrs.block _ (Blk.lt HD2.out.bf) (blk_noOwn HD2.out.bf HD2.out.own (by decide))
     go_simp
     refine hK _ _ (fun _ => ⟨hq1, hq2, hq3⟩) ?_
     clear hK K
     go_simp
     have HP := Lib.hid (HD2.out.push HRW2.out HR2.out HR3.out hgrow hown')
     have hgb5 : Blk w5 gb 76 _ := Blk.of_heap HD2.out.box hq2
     have x1 := hgb5.cell 0
     have x2 := hgb5.free 0
     simp only [List.getElem?_cons_zero] at x1
     clear hown' hgrow hrs hq1 hq2 hq3 hgb5 HD2 HRW2 HNEW HR2 HR3
     repeat (refine eagR_readT rfl ?_; go_big_quiet_step (fail); refine wpQuiet_nil ?_)
     refine eagR_freeT rfl rfl (by kernel_rfl) ?_
     intro K hK
     go_simp
     refine hK _ _ ?_
     clear hK K x1 x2
     go_simp
     refine eagR_endT ?_
     go_wp2_with fail
     go_roundw
     case rel => exact ⟨k + 1, _, _, by omega, by go_num, HP.out⟩
     case measure => simp [intOf]; omega
    ·have ek : k = n := by omega
     subst ek
     obtain ⟨G, rc, hgv, _⟩ := ownG_has HRK.out.own hn1
     injection hgv with e1 _ e3
     subst e1 e3
     go_wp2_with fail
     go_meet
     exact ⟨G, vc, bs, HRK.out⟩
  case rest => as_aux_lemma =>
   obtain ⟨G, rc, bs, hrk⟩ := hcut
   have HRK := Lib.hid hrk
   have hsz0 := hrk.be.size
   have HGR := Lib.hid hrk.graph
   have HRE : Hid (fnE f = 0) := HFE.out
   have HLV := Lib.hid (liveD_any wc f (HF.out.below hrk.be) n (fun _ => HREG.out))
   unfold VF.v at HLV
   have c0 := hrk.bf.cell 0
   have c1 := hrk.bf.cell 1
   have c2 := hrk.bf.cell 2
   have c3 := hrk.bf.cell 3
   simp only [fC, List.getElem?_cons_zero, List.getElem?_cons_succ] at c0 c1 c2 c3
   clear hrk HK0
   go_wp2_with fail
   refine HLV.out.mono ?_
   rintro e w3 ⟨hb3, hlv⟩
   obtain ⟨Gl, bl, XL, ev, es, rfl, hbeg, hxl, hend, hein, heb, helo, hblo⟩ : ∃ G bs X v es, e = .returned (.tuple #[.slice (some ⟨G, 0, none⟩) f.sn f.sn, v, .int .i64 0]) ∧ BRows w3 G f.sn n X bs ∧ (∀ i, i < f.sn → ∀ r, r < n → (X i r = true ↔ LiveI f i r)) ∧ EndV wc w3 v n ((List.range f.sn).map fun i => aftF (f.blk i).e.to X) es ∧
    (∀ i j, i < f.sn → j < f.sn → es i = es j → i = j) ∧ (∀ i j, i < f.sn → j < f.sn → es i ≠ bs j) ∧ (∀ i, i < f.sn → wc.heap.size ≤ es i) ∧ (∀ i, i < f.sn → wc.heap.size ≤ bs i) := by
    rcases hlv with ⟨h, _⟩ | ⟨_, h⟩
    ·exact absurd HRE.out h
    ·exact h
   rw [HSN.out] at hbeg hxl hend hein heb helo hblo ⊢
   have HI0 : Hid (BldI w w3 f n nb pf gx ⟨gb, G, rc, sb, tb, bs⟩ (fun _ _ => false) (fun _ => false) (fun _ => false) [] (.slice none 0 0) bl es Gl XL (fun i => aftF (f.blk i).e.to XL) ev) := by
    have hlt : ∀ {q : Nat} {l : Nat → Bool}, BRow wc q n l → q < wc.heap.size := fun h => Blk.lt h
    refine ⟨HRK.out.be.trans (hb3.mono HRK.out.be.size), HRK.out.bf.below hb3 HRK.out.bf.lt, HRK.out.gbox.below hb3 HRK.out.gbox.lt, HGR.out.below hb3, World.ownsRow_nil _ _ _ _, hbeg, ?_, fun i hi => ?_, hein, fun i hi => ?_, fun i hi => ?_, heb, fun i hi => Nat.le_trans HRK.out.be.size (helo i hi)⟩
    ·have h1 := ownG_base hend.own HRK.out.be.size
     have h2 : ((List.range nb).map fun i => aftF (f.blk i).e.to XL).length = nb := by simp
     rw [h2] at h1
     exact h1
    ·have := hend.row i (by simpa using hi)
     simpa using this
    ·have h1 := helo i hi
     have h2 : sb < wc.heap.size := hlt HGR.out.slot
     have h3 : tb < wc.heap.size := hlt HGR.out.there
     exact ⟨fun e => by have e' : sb = es i := e; omega, fun e => by have e' : tb = es i := e; omega, fun j hj e => by have e' : bs j = es i := e; have h4 : bs j < wc.heap.size := hlt (HGR.out.row j hj); omega⟩
    ·have h1 := hblo i hi
     have h2 : sb < wc.heap.size := hlt HGR.out.slot
     have h3 : tb < wc.heap.size := hlt HGR.out.there
     exact ⟨fun e => by have e' : sb = bl i := e; omega, fun e => by have e' : tb = bl i := e; omega, fun j hj e => by have e' : bs j = bl i := e; have h4 : bs j < wc.heap.size := hlt (HGR.out.row j hj); omega⟩
   have HXL := Lib.hid hxl
   obtain ⟨ea, ec, rfl⟩ := ownG_shape HI0.out.eown
   obtain ⟨g, hg⟩ : ∃ g : GP, g = ⟨gb, G, rc, sb, tb, bs⟩ := ⟨_, rfl⟩
   rw [← hg] at HI0
   clear hb3 hlv hbeg hxl hend hein heb helo hblo HLV HGR HRK c0 c1 c2 c3 hg hmk
   obtain ⟨EL, hEL⟩ : ∃ EL : Nat → Nat → Bool, EL = fun i => aftF (f.blk i).e.to XL := ⟨_, rfl⟩
   rw [← hEL] at HI0
   have HEL := Lib.hid hEL
   clear hEL
   have c3 := HI0.out.bf.cell 3
   simp only [fC, List.getElem?_cons_zero, List.getElem?_cons_succ] at c3
   rw [HSN.out] at c3
   go_upto_block 2 with fail
   go_cut [7, 8, 9, 10, 11, 12, 13, 14, 15, 16] from 52 (fun _ _ _ _ _ _ _ _ _ _ wx => ∃ (mv : Value) (EL' : Nat → Nat → Bool), BldI w wx f n nb pf gx g (blksC n f EL nb).X (blksC n f EL nb).SL (blksC n f EL nb).TH (blksC n f EL nb).mv mv bl es Gl XL EL' (.slice ea nb ec))
   case first => as_aux_lemma =>
    go_wp2_with fail
    clear c3
    have hmf : ∀ (fn : Fn) (first cap : Array Value) (w : World), (Instr.makeFunc fn first cap).run Tryz.prog w = .ok (.func fn first cap) w := fun _ _ _ _ => rfl
    go_loopw [55] (fun u wr => ∃ (k : Nat) (mv : Value) (EL' : Nat → Nat → Bool), k ≤ nb ∧ u = .int .i64 (k : Int) ∧ BldI w wr f n nb pf gx g (blksC n f EL k).X (blksC n f EL k).SL (blksC n f EL k).TH (blksC n f EL k).mv mv bl es Gl XL EL' (.slice ea nb ec) ∧ ∀ i, k ≤ i → EL' i = EL i) (fun u _ => nb - (intOf u).toNat)
    case atStart => exact ⟨0, _, EL, Nat.zero_le _, rfl, HI0.out, fun _ _ => rfl⟩
    case round =>
     clear HI0
     obtain ⟨k, mv, EL', hk, rfl, hi, hel⟩ := hrel
     have HI := Lib.hid hi
     have HELK := Lib.hid hel
     clear hi hel
     by_cases hlt : k < nb
     ·have hib : k < f.blocks.length := by rw [← HNB.out]; exact hlt
      obtain ⟨gb3, ob3, hsa, hgb3, d0, d1, d2, d3, d4, d5, d6⟩ := HF.out.cells HI.out.be hib
      obtain ⟨b, hb⟩ : ∃ b, b = f.blocks[k] := ⟨_, rfl⟩
      rw [← hb] at d0 d1 d2 d3 d4 d5 d6
      have HB : Hid (b = f.blk k) := by show _ = _; rw [hb, VF.blk_get f hib]
      have HBO : Hid (b.Ok w) := HF.out.blocks _ (by rw [hb]; exact List.getElem_mem _)
      have HFI : Hid (∀ x ∈ b.ins, x.Fits n) := by show ∀ x ∈ b.ins, _; rw [HB.out]; exact HOK.out.fits.ins k hib
      have HFEE : Hid (∀ z ∈ endV b.e, 1 ≤ z ∧ z < n) := by show ∀ x ∈ endV b.e, _; rw [HB.out]; exact HOK.out.fits.ends k hib
      have HBL := Lib.hid HBO.out.len
      have hbl : b.sn ≤ 4096 := by have := HOK.out.ins k hlt; rw [← HB.out, HBL.out] at this; exact this
      rw [hsa]
      clear hb hsa hgb3
      go_upto_region 10 with fail
      have hba : Below wr.heap.size wr (wr.alloc (.cells #[.slice b.sa b.sn b.sc, .int .i64 b.e.kind, .int .i64 b.e.op, .int .i64 b.e.a, .int .i64 b.e.b, .int .i64 b.e.n, .slice b.e.sa b.e.sn b.e.sc] 46)) := (Below.refl _ _).alloc (Nat.le_refl _) _
      have HI5 := Lib.hid (HI.out.below hba)
      have HVB : Hid (Blk (wr.alloc (.cells #[.slice b.sa b.sn b.sc, .int .i64 b.e.kind, .int .i64 b.e.op, .int .i64 b.e.a, .int .i64 b.e.b, .int .i64 b.e.n, .slice b.e.sa b.e.sn b.e.sc] 46)) wr.heap.size 46 (vbC b)) := Blk.new wr (vbC b) 46
      obtain ⟨bb, hbb⟩ : ∃ bb, bb = wr.heap.size := ⟨_, rfl⟩
      rw [← hbb] at HVB ⊢
      generalize wr.alloc (.cells #[.slice b.sa b.sn b.sc, .int .i64 b.e.kind, .int .i64 b.e.op, .int .i64 b.e.a, .int .i64 b.e.b, .int .i64 b.e.n, .slice b.e.sa b.e.sn b.e.sc] 46) = w5 at HI5 HVB hba ⊢
      clear d0 d1 d2 d3 d4 d5 d6 hba hbb HI
      obtain ⟨ge, ce, hev, hge1, hge2, hge3, hge4⟩ := ownG_has HI5.out.eown hnb1
      injection hev with e1 _ e3
      subst e1 e3
      unfold maxLen at hge4
      have ce0 : w5.cell? ⟨ge, k, none⟩ = some (.slice (some ⟨es k, 0, none⟩) n n) := by
       rw [World.ownsRow.cellAt HI5.out.eown k (by omega), rowL_get hlt]
      obtain ⟨lb, hlb⟩ : ∃ lb, lb = es k := ⟨_, rfl⟩
      rw [← hlb] at ce0
      have HLB := Lib.hid hlb
      clear hlb
      go_upto_region 11 with fail
      have hba : Below w5.heap.size w5 (w5.alloc (.cells #[.slice (some ⟨lb, 0, none⟩) n n] 51)) := (Below.refl _ _).alloc (Nat.le_refl _) _
      have hi6 := HI5.out.below hba
      have HC6 : Hid (BlkB w (w5.alloc (.cells #[.slice (some ⟨lb, 0, none⟩) n n] 51)) f n nb pf gx g { blksC n f EL k with L := EL k } mv bl es Gl XL EL' (.slice (some ⟨ge, 0, none⟩) nb ec) k w5.heap.size bb b) := by
       have e : (fun q => if q = k then EL k else EL' q) = EL' := by
        funext q
        by_cases e : q = k
        ·subst e; simp [HELK.out q (Nat.le_refl _)]
        ·simp [e]
       refine ⟨?_, ?_, HVB.out.below hba HVB.out.lt⟩
       ·show BldI _ _ _ _ _ _ _ _ _ _ _ _ _ _ _ _ _ (fun q => if q = k then EL k else EL' q) _
        rw [e]; exact hi6
       ·have := Blk.new w5 [.slice (some ⟨lb, 0, none⟩) n n] 51
        rw [HLB.out] at this ⊢
        exact this
      obtain ⟨lx, hlx⟩ : ∃ lx, lx = w5.heap.size := ⟨_, rfl⟩
      rw [← hlx] at HC6
      generalize w5.alloc (.cells #[.slice (some ⟨lb, 0, none⟩) n n] 51) = w6 at HC6 hba hi6 ⊢
      rw [← hlx]
      clear hba hi6 hlx HI5 HVB ce0 hge1 hge2
      obtain ⟨cs0, hcs0⟩ : ∃ cs0 : CS, cs0 = { blksC n f EL k with L := EL k } := ⟨_, rfl⟩
      rw [← hcs0] at HC6
      have HCS0 := Lib.hid hcs0
      clear hcs0
      have v1 := HC6.out.bbox.cell 1
      have v2 := HC6.out.bbox.cell 2
      have v3 := HC6.out.bbox.cell 3
      have v4 := HC6.out.bbox.cell 4
      have v5 := HC6.out.bbox.cell 5
      have v6 := HC6.out.bbox.cell 6
      simp only [vbC, veC, List.getElem?_cons_zero, List.getElem?_cons_succ] at v1 v2 v3 v4 v5 v6
      have HEU := Lib.hid (endUses_any b.e w6 (HBO.out.e.below HC6.out.bi.be))
      unfold veV at HEU
      go_wp2_with fail
      refine HEU.out.mono ?_
      rintro e w7 ⟨v, rfl, hown, hb7⟩
      have hla := hown.lt
      obtain ⟨la, lc, rfl, hlc⟩ := came_ownsV hown
      have HC7 := Lib.hid (HC6.out.below hb7)
      have huN : ((endV b.e).map Int.toNat).map (fun z : Nat => (z : Int)) = endV b.e := by
       rw [List.map_map]
       conv => rhs; rw [← List.map_id (endV b.e)]
       refine List.map_congr_left fun z hz => ?_
       have := HFEE.out z hz
       simp; omega
      have HMK := Lib.hid (mark_any w7 w.heap.size n g cs0.X cs0.SL cs0.TH mv lx gx (es k) cs0.L (HC7.out.mark hlt) hn2 la (endV b.e).length lc ((endV b.e).map Int.toNat) (by rw [huN]; exact hlc) (fun r hr => by
       obtain ⟨z, hz, rfl⟩ := List.mem_map.1 hr
       have := HFEE.out z hz; omega) (fun p hp => by
       subst hp
       have h1 := (hla p.block rfl).1
       have h2 := Blk.lt (HC6.out.row hlt)
       have h3 := Blk.lt HC6.out.bi.gr.there
       exact ⟨by omega, by omega⟩))
      clear huN hlc hown hb7 HEU HC6 hla v1 v2 v3 v4 v5 v6
      go_wp2_with fail
      refine HMK.out.mono ?_
      rintro e w8 ⟨rfl, hm8, hr8⟩
      have HC8 := Lib.hid (HC7.out.marked hlt hm8 hr8)
      clear hm8 hr8 HMK HC7
      obtain ⟨s1, hs1⟩ : ∃ s1 : CS, s1 = { X := cs0.X, SL := cs0.SL, TH := markL cs0.TH ((endV b.e).map Int.toNat), mv := cs0.mv, L := markL cs0.L ((endV b.e).map Int.toNat) } := ⟨_, rfl⟩
      have HC9 : Hid (BlkB w w8 f n nb pf gx g s1 mv bl es Gl XL EL' (.slice (some ⟨ge, 0, none⟩) nb ec) k lx bb b) := by rw [hs1]; exact HC8.out
      have HNX : Hid (blksC n f EL (k + 1) = b.ins.foldr (insC n) s1) := by
       show _ = _
       rw [hs1, HCS0.out, HB.out]
       rfl
      have HMVL : Hid (s1.mv.length ≤ 16777216) := by
       show _ ≤ _
       have h1 := blksC_mv n f EL HOK.out.ins k (by omega)
       rw [hs1, HCS0.out]
       show (blksC n f EL k).mv.length ≤ _
       omega
      clear hs1 HC8 HCS0
      have v0 := HC9.out.bbox.cell 0
      simp only [vbC, List.getElem?_cons_zero] at v0
      go_wp2_with fail
      clear v0
      go_loopw [11] (fun u wr => ∃ (j : Nat) (mv : Value), j ≤ b.sn ∧ u = .int .i64 ((j : Int) - 1) ∧ BlkB w wr f n nb pf gx g ((b.ins.drop j).foldr (insC n) s1) mv bl es Gl XL EL' (.slice (some ⟨ge, 0, none⟩) nb ec) k lx bb b) (fun u _ => (intOf u + 1).toNat)
      case atStart => exact ⟨b.sn, mv, Nat.le_refl _, rfl, by rw [List.drop_of_length_le (by have := HBL.out; omega)]; exact HC9.out⟩
      case round =>
       clear HC9
       obtain ⟨j, mv, hj, rfl, hi⟩ := hrel
       have HI := Lib.hid hi
       clear hi
       by_cases hj0 : j = 0
       ·skip
        subst hj0
        have q1 : ¬ (0 : Int) ≤ ((0 : Nat) : Int) - 1 := by omega
        have HFI2 : Hid (BldI w wr f n nb pf gx g (blksC n f EL (k + 1)).X (blksC n f EL (k + 1)).SL (blksC n f EL (k + 1)).TH (blksC n f EL (k + 1)).mv mv bl es Gl XL (fun q => if q = k then (blksC n f EL (k + 1)).L else EL' q) (.slice (some ⟨ge, 0, none⟩) nb ec)) := by
         show BldI _ _ _ _ _ _ _ _ _ _ _ _ _ _ _ _ _ _ _
         rw [HNX.out]
         exact HI.out.bi
        have HE2 : Hid (∀ q, k + 1 ≤ q → (fun q => if q = k then (blksC n f EL (k + 1)).L else EL' q) q = EL q) := fun q hq => by
         have : q ≠ k := by omega
         simp only [this, if_false]
         exact HELK.out q (by omega)
        clear HI
        go_wp2_with fail
        go_roundw
        case rel => exact ⟨k + 1, mv, _, by omega, by go_num, HFI2.out, HE2.out⟩
        case measure => simp [intOf]; omega
       ·obtain ⟨i, rfl⟩ := Nat.exists_eq_succ_of_ne_zero hj0
        have hkl : i < b.ins.length := by have := HBL.out; omega
        rw [show ((i.succ : Nat) : Int) - 1 = (i : Int) by omega]
        have q1 : (0 : Int) ≤ (i : Int) := by omega
        have hilt : (i : Int) < (b.sn : Int) := by omega
        obtain ⟨gi, oi, hbs, hgi, e0, e1, e2, e3, e4, e5⟩ := HBO.out.cells HI.out.bi.be hkl
        have HXM : Hid (b.ins[i] ∈ b.ins) := List.getElem_mem hkl
        have HDR : Hid (b.ins.drop i = b.ins[i] :: b.ins.drop (i + 1)) := List.drop_eq_getElem_cons hkl
        obtain ⟨x, hxe⟩ : ∃ x, x = b.ins[i] := ⟨_, rfl⟩
        rw [← hxe] at e0 e1 e2 e3 e4 e5 HXM HDR
        have HXO : Hid (x.Ok w) := HBO.out.ins x HXM.out
        have HXF := Lib.hid (HFI.out x HXM.out)
        obtain ⟨s, hs⟩ : ∃ s : CS, s = (b.ins.drop (i + 1)).foldr (insC n) s1 := ⟨_, rfl⟩
        have HI2 : Hid (BlkB w wr f n nb pf gx g s mv bl es Gl XL EL' (.slice (some ⟨ge, 0, none⟩) nb ec) k lx bb b) := by rw [hs]; exact HI.out
        have HDS : Hid ((b.ins.drop i).foldr (insC n) s1 = insC n x s) := by show _ = _; rw [HDR.out, hs]; rfl
        have HSM : Hid (s.mv.length ≤ 16781312) := by
         show _ ≤ _
         have h1 := foldC_mv n s1 (b.ins.drop (i + 1))
         have h2 := HMVL.out
         have h3 := HBL.out
         rw [hs]
         rw [List.length_drop] at h1
         omega
        have v0 := HI2.out.bbox.cell 0
        simp only [vbC, List.getElem?_cons_zero] at v0
        rw [hbs] at v0
        clear hxe hs HI hbs hgi
        go_upto_region 17 with fail
        change Code.wp _ _ _ _ (wr.alloc (.cells (viC x).toArray 48))
        have hb7 : Below wr.heap.size wr (wr.alloc (.cells (viC x).toArray 48)) := (Below.refl _ _).alloc (Nat.le_refl _) _
        have HI7 := Lib.hid (HI2.out.below hb7)
        have HXB := Lib.hid (Blk.new wr (viC x) 48)
        obtain ⟨xb, hxb⟩ : ∃ xb, xb = wr.heap.size := ⟨_, rfl⟩
        rw [← hxb] at HXB ⊢
        generalize wr.alloc (.cells (viC x).toArray 48) = w9 at HI7 HXB hb7 ⊢
        clear hb7 hxb HI2 e0 e1 e2 e3 e4 e5 v0
        have HDF := fun w => Lib.hid (def_any x w)
        unfold viV at HDF
        obtain ⟨dn, hdn⟩ : ∃ dn : Nat, defV x = (dn : Int) := ⟨(defV x).toNat, by have := HXF.out.d; omega⟩
        have hdnn : dn < n := by have := HXF.out.d; omega
        obtain ⟨an, han⟩ : ∃ an : Nat, x.a = (an : Int) := ⟨x.a.toNat, by have := HXF.out.a; omega⟩
        have hann : an < n := by have := HXF.out.a; omega
        rw [hdn] at HDF
        have HDN := Lib.hid hdn
        have HAN := Lib.hid han
        clear hdn han
        have HSZ : Hid ((Tryz.prog.info? 48).map (·.size) = some (viC x).toArray.size) := by unfold Hid; kernel_rfl
        go_wp2_with (refine wpList_load_row rfl 48 _ rfl xb rfl _ (viC x).toArray _ _ HXB.out Tryz.underlying48 rfl HSZ.out ?_)
        refine (HDF _).out.mono ?_
        rintro e w10 ⟨rfl, hb10⟩
        have HI10 := Lib.hid (HI7.out.below hb10)
        have HXB10 := Lib.hid (HXB.out.below hb10 HXB.out.lt)
        clear hb10 HDF HI7 HXB
        have k0 := HXB10.out.cell 0
        have k2 := HXB10.out.cell 2
        simp only [viC, List.getElem?_cons_zero, List.getElem?_cons_succ] at k0 k2
        rw [HAN.out] at k2
        obtain ⟨mvb, hmv⟩ : ∃ mvb, mvb = (x.op == 100) := ⟨_, rfl⟩
        have HMV := Lib.hid hmv
        obtain ⟨exc, hexc⟩ : ∃ exc : Nat, exc = if x.op = 100 then x.a.toNat else 0 := ⟨_, rfl⟩
        have HEXC := Lib.hid hexc
        obtain ⟨mvs, hmvs⟩ : ∃ mvs, mvs = if x.op = 100 ∧ x.a ≠ 0 ∧ defV x ≠ 0 ∧ x.a ≠ defV x then s.mv ++ [(defV x, x.a)] else s.mv := ⟨_, rfl⟩
        have HMVS := Lib.hid hmvs
        clear hexc hmvs
        go_upto_if 87 with fail
        go_cut [14] from 85 to 160 (fun v wx => v = .int .i64 (exc : Int) ∧ (∃ mv', BlkB w wx f n nb pf gx g { s with mv := mvs } mv' bl es Gl XL EL' (.slice (some ⟨ge, 0, none⟩) nb ec) k lx bb b) ∧ Blk wx xb 48 (viC x))
        case first => as_aux_lemma =>
         clear hmv HMV
         by_cases ho : x.op = 100
         ·have q2 : (x.op == 100) = true := by simp [ho]
          have HE1 : Hid (exc = an) := by show _ = _; rw [HEXC.out, if_pos ho, HAN.out]; rfl
          have HM1 : Hid (mvs = if an ≠ 0 ∧ dn ≠ 0 ∧ an ≠ dn then s.mv ++ [((dn : Int), (an : Int))] else s.mv) := by
           show _ = _
           rw [HMVS.out, HDN.out, HAN.out]
           by_cases h1 : an = 0 <;> by_cases h2 : dn = 0 <;> by_cases h3 : an = dn <;> simp [ho, h1, h2, h3] <;> omega
          clear ho
          have hdone : ¬ (an ≠ 0 ∧ dn ≠ 0 ∧ an ≠ dn) → (∃ mv', BlkB w w10 f n nb pf gx g { s with mv := mvs } mv' bl es Gl XL EL' (.slice (some ⟨ge, 0, none⟩) nb ec) k lx bb b) := fun h => ⟨mv, by rw [HM1.out, if_neg h]; exact HI10.out⟩
          have HDONE := Lib.hid hdone
          clear hdone
          by_cases h1 : an = 0
          ·have q3 : ((an : Int) != 0) = false := by simp [h1]
           have HN := Lib.hid (HDONE.out (fun h => h.1 h1))
           clear h1
           go_wp2_with fail
           go_meet
           exact ⟨by rw [HE1.out], HN.out, HXB10.out⟩
          ·have q3 : ((an : Int) != 0) = true := by simp; omega
           by_cases h2 : dn = 0
           ·have q4 : ((dn : Int) != 0) = false := by simp [h2]
            have HN := Lib.hid (HDONE.out (fun h => h.2.1 h2))
            clear h1 h2
            go_wp2_with fail
            go_meet
            exact ⟨by rw [HE1.out], HN.out, HXB10.out⟩
           ·have q4 : ((dn : Int) != 0) = true := by simp; omega
            by_cases h3 : an = dn
            ·have q5 : ((an : Int) != (dn : Int)) = false := by simp [h3]
             have HN := Lib.hid (HDONE.out (fun h => h.2.2 h3))
             clear h1 h2 h3
             go_wp2_with fail
             go_meet
             exact ⟨by rw [HE1.out], HN.out, HXB10.out⟩
            ·have q5 : ((an : Int) != (dn : Int)) = true := by simp; omega
             have HM2 : Hid (mvs = s.mv ++ [((dn : Int), (an : Int))]) := by show _ = _; rw [HM1.out, if_pos ⟨h1, h2, h3⟩]
             clear h1 h2 h3 HDONE HM1
             obtain ⟨va, vc, hmvv⟩ := ownG_shape HI10.out.bi.mo
             subst hmvv
             obtain ⟨wd, hwd⟩ : ∃ wd, wd = w10.drew := ⟨_, rfl⟩
             have hde : Below w10.heap.size w10 wd := by rw [hwd]; exact (Below.refl _ _).drew
             have HD := Lib.hid (HI10.out.below hde)
             have HXD := Lib.hid (HXB10.out.below hde HXB10.out.lt)
             have g0 := HD.out.bi.gbox.cell 0
             have g3 := HD.out.bi.gr.box.cell 3
             have x2 := HXD.out.cell 2
             simp only [viC, List.getElem?_cons_zero, List.getElem?_cons_succ] at g0 g3 x2
             rw [HAN.out] at x2
             obtain ⟨gb, hgb⟩ : ∃ y, y = g.gb := ⟨_, rfl⟩
             rw [← hgb] at g0 g3
             have HGB := Lib.hid hgb
             have hl1 := Blk.lt HD.out.bi.gbox
             have hl2 := Blk.lt HD.out.bi.gr.box
             rw [← hgb] at hl2
             have hl3 := Blk.lt HXD.out
             have r0 := fun z : AfterR (Keep3C gx gb xb) wd => (World.cell?_of_block (a := ⟨gx, 0, none⟩) z.rel.1).trans g0
             have r1 := fun z : AfterR (Keep3C gx gb xb) wd => (World.cell?_of_block (a := ⟨gb, 3, none⟩) z.rel.2.1).trans g3
             have r2 := fun z : AfterR (Keep3C gx gb xb) wd => (World.cell?_of_block (a := ⟨xb, 2, none⟩) z.rel.2.2).trans x2
             have hml : s.mv.length ≤ 16781312 := HSM.out
             obtain ⟨i0, hi0, hz0, hz1, hz2⟩ := infoPair
             clear g0 g3 x2 hde hgb
             go_upto_region 21 with fail
             clear k0 k2
             refine wp_region_eagerRT (Keep3C gx gb xb) [(0, true), (1, true), (2, true), (3, true), (4, true), (5, true), (6, true), (7, true), (8, true), (9, false), (10, false), (11, true), (12, true), (13, false)] (by kernel_rfl) (by kernel_rfl) ?_
             rw [← hwd]
             clear hwd HI10
             repeat (refine eagR_readT rfl ?_; go_big_quiet_step (fail); refine wpQuiet_nil ?_)
             clear r0 r1 r2
             refine eagR_doesT rfl rfl ?_
             intro K hK
             go_simp
             refine hK _ _ (fun _ => ⟨Below.heap_alloc _ _ _ hl1, Below.heap_alloc _ _ _ hl2, Below.heap_alloc _ _ _ hl3⟩) ?_
             clear hK K hl1 hl2 hl3
             go_simp
             have hb1 : Below wd.heap.size wd (wd.alloc (.cells #[.int .i64 (dn : Int), .int .i64 (an : Int)] 85)) := (Below.refl _ _).alloc (Nat.le_refl _) _
             have HD1 := Lib.hid (HD.out.below hb1)
             have HX1 := Lib.hid (HXD.out.below hb1 HXD.out.lt)
             have HNEW := Lib.hid (Blk.new wd [.int .i64 (dn : Int), .int .i64 (an : Int)] 85)
             obtain ⟨nb2, hnb⟩ : ∃ y, y = wd.heap.size := ⟨_, rfl⟩
             rw [← hnb] at HNEW ⊢
             change Hid (Blk (wd.alloc (.cells #[.int .i64 (dn : Int), .int .i64 (an : Int)] 85)) nb2 85 [.int .i64 (dn : Int), .int .i64 (an : Int)]) at HNEW
             clear hb1 HD HXD hnb
             generalize wd.alloc (.cells #[.int .i64 (dn : Int), .int .i64 (an : Int)] 85) = w12 at HD1 HX1 HNEW ⊢
             refine eagR_doesT rfl rfl ?_
             intro K hK
             refine wp_append_own _ _ _ 74 rfl w.heap.size 85 i0 (.agg #[.int .i64 0, .int .i64 0]) 2 16 Tryz.underlying74 hi0 hz0 hz1 hz2 rfl (by decide) _ _ _ rfl HD1.out.bi.mo ⟨nb2, 0, none⟩ 1 1 [.int .i64 (dn : Int), .int .i64 (an : Int)] rfl rfl ?_ ?_ ?_ ?_ HD1.out.bi.be.size ?_
             ·intro j u hj
              rw [Addr.add_lit, Nat.zero_add]
              exact (HNEW.out.cell j).trans hj
             ·intro u hu; simp at hu; rcases hu with rfl | rfl <;> rfl
             ·unfold maxLen; omega
             ·omega
             intro v' w13 hown' hgrow _
             obtain ⟨va5, vc5, rfl⟩ := ownG_shape hown'
             have hrs := RestS.ofGrown hgrow
             have hq1 : w13.heap[gx]? = w12.heap[gx]? := hrs.block _ (Blk.lt HD1.out.bi.gbox) (blk_noOwn HD1.out.bi.gbox HD1.out.bi.mo (by decide))
             have hq2 : w13.heap[gb]? = w12.heap[gb]? := by rw [HGB.out]; exact hrs.block _ (Blk.lt HD1.out.bi.gr.box) (blk_noOwn HD1.out.bi.gr.box HD1.out.bi.mo (by decide))
             have hq3 : w13.heap[xb]? = w12.heap[xb]? := hrs.block _ (Blk.lt HX1.out) (blk_noOwn HX1.out HD1.out.bi.mo (by decide))
             go_simp
             refine hK _ _ (fun _ => ⟨hq1, hq2, hq3⟩) ?_
             clear hK K
             go_simp
             have HP := Lib.hid (HD1.out.move (mvs' := s.mv ++ [((dn : Int), (an : Int))]) hgrow (by rw [List.length_append, List.flatMap_append]; simpa [wpC] using hown'))
             have hgb5 : Blk w13 gb 76 _ := Blk.of_heap (by rw [HGB.out]; exact HD1.out.bi.gr.box) hq2
             have y1 := hgb5.cell 3
             have y2 := hgb5.free 3
             simp only [List.getElem?_cons_zero, List.getElem?_cons_succ] at y1
             have HX2 : Hid (Blk (w13.setCell ⟨gb, 3, none⟩ (.slice va5 (s.mv.length + 1) vc5)) xb 48 (viC x)) := by
              have e1 := Blk.of_heap HX1.out hq3
              refine Blk.setOther e1 (a := ⟨gb, 3, none⟩) (fun e => ?_) _
              have h3 : w13.heap[_]? = _ := e1
              have h4 : w13.heap[_]? = _ := hgb5
              rw [show xb = gb from e, h4] at h3
              injection h3 with h3
              injection h3 with _ h3 _
              exact absurd h3 (by decide)
             rw [← HGB.out, ← HM2.out] at HP
             clear hown' hgrow hrs hq1 hq2 hq3 hgb5 HD1 HX1 HNEW
             repeat (refine eagR_readT rfl ?_; go_big_quiet_step (fail); refine wpQuiet_nil ?_)
             refine eagR_freeT rfl rfl (by kernel_rfl) ?_
             intro K hK
             go_simp
             refine hK _ _ ?_
             clear hK K y1 y2
             go_simp
             refine eagR_endT ?_
             go_wp2_with fail
             go_meet
             exact ⟨by rw [HE1.out], ⟨_, HP.out⟩, HX2.out⟩
         ·have q2 : (x.op == 100) = false := by simp [ho]
          have HE1 : Hid (exc = 0) := by show _ = _; rw [HEXC.out, if_neg ho]
          have HM1 : Hid (mvs = s.mv) := by show _ = _; rw [HMVS.out, if_neg (fun h => ho h.1)]
          clear ho
          go_wp2_with fail
          go_meet
          exact ⟨by rw [HE1.out]; rfl, ⟨mv, by rw [HM1.out]; exact HI10.out⟩, HXB10.out⟩
        case rest => as_aux_lemma =>
         obtain ⟨rfl, ⟨mv2, hi⟩, hxb⟩ := hcut
         have HIR := Lib.hid hi
         have HXR := Lib.hid hxb
         clear hi hxb HI10 HXB10 k0 k2 hmv
         have g0 := HIR.out.bi.gbox.cell 0
         have l0 := HIR.out.lbox.cell 0
         simp only [List.getElem?_cons_zero] at g0 l0
         have HDEF := Lib.hid (cdefine_any wc w.heap.size n g s.X s.SL s.TH mv2 HIR.out.bi.gr dn exc hdnn (es k) s.L (HIR.out.row hlt) (fun ⟨q, hq, e⟩ => (HIR.out.bi.eap k hlt).2.2 q hq e.symm) hn2)
         obtain ⟨gb, hgb⟩ : ∃ y, y = g.gb := ⟨_, rfl⟩
         rw [← hgb] at g0 HDEF
         rw [← HLB.out] at l0 HDEF
         have HGB := Lib.hid hgb
         clear hgb
         go_wp2_with fail
         refine HDEF.out.mono ?_
         rintro e w11 ⟨rfl, hg11, hr11⟩
         have HI11 := Lib.hid (HIR.out.edges hr11 hg11)
         have HX11 : Hid (Blk w11 xb 48 (viC x)) := Blk.of_heap HXR.out (hr11.block _ (Blk.lt HXR.out) (HIR.out.bi.gr.tyBs.noBlk HXR.out (by decide)))
         clear hg11 hr11 HDEF g0 l0 HIR HXR
         obtain ⟨s2, hs2⟩ : ∃ s2 : CS, s2 = { X := defE s.X dn exc s.L n, SL := s.SL, TH := s.TH, mv := mvs, L := s.L } := ⟨_, rfl⟩
         have HI12 : Hid (BlkB w w11 f n nb pf gx g s2 mv2 bl es Gl XL EL' (.slice (some ⟨ge, 0, none⟩) nb ec) k lx bb b) := by rw [hs2]; exact HI11.out
         have HS2 := Lib.hid hs2
         clear hs2 HI11
         obtain ⟨wd, hwd⟩ : ∃ wd, wd = w11.drew := ⟨_, rfl⟩
         have hde : Below w11.heap.size w11 wd := by rw [hwd]; exact (Below.refl _ _).drew
         have HD := Lib.hid (HI12.out.below hde)
         have HXD := Lib.hid (HX11.out.below hde HX11.out.lt)
         have g0 := HD.out.bi.gbox.cell 0
         have g2 := HD.out.bi.gr.box.cell 2
         have l0 := HD.out.lbox.cell 0
         simp only [List.getElem?_cons_zero, List.getElem?_cons_succ] at g0 g2 l0
         have hn1' := brow_ne HD.out.bi.gr.there HD.out.bi.gbox (by decide)
         have hn2' := brow_ne HD.out.bi.gr.there HD.out.bi.gr.box (by decide)
         have hn3' := brow_ne HD.out.bi.gr.there HD.out.lbox (by decide)
         obtain ⟨tb2, htb2⟩ : ∃ y, y = g.tb := ⟨_, rfl⟩
         rw [← HGB.out] at g0 g2 hn2'
         rw [← htb2] at g2 hn1' hn2' hn3'
         rw [← HLB.out] at l0
         have HTB := Lib.hid htb2
         have r0 := fun z : AfterR (Keep3C gx gb lx) wd => (World.cell?_of_block (a := ⟨gx, 0, none⟩) z.rel.1).trans g0
         have r1 := fun z : AfterR (Keep3C gx gb lx) wd => (World.cell?_of_block (a := ⟨gb, 2, none⟩) z.rel.2.1).trans g2
         have r2 := fun z : AfterR (Keep3C gx gb lx) wd => (World.cell?_of_block (a := ⟨lx, 0, none⟩) z.rel.2.2).trans l0
         clear g0 g2 l0 hde htb2
         go_upto_region 23 with fail
         refine wp_region_eagerRT (Keep3C gx gb lx) [(0, true), (1, true), (2, true), (3, true), (4, true), (5, true), (6, true), (7, true), (8, false), (9, true), (10, false)] (by kernel_rfl) (by kernel_rfl) ?_
         rw [← hwd]
         clear hwd HI12 HX11
         repeat (refine eagR_readT rfl ?_; go_big_quiet_step (fail); refine wpQuiet_nil ?_)
         clear r0 r1 r2
         have y1 := BRow.cell HD.out.bi.gr.there hdnn
         have y2 := Blk.free HD.out.bi.gr.there dn
         rw [← HTB.out] at y1 y2
         refine eagR_doesT rfl rfl ?_
         intro K hK
         go_simp
         refine hK _ _ (fun _ => Keep3C.set wd hn1' hn2' hn3' dn (.bool true)) ?_
         clear hK K y1 y2 hn1' hn2' hn3'
         go_simp
         have HM1 := Lib.hid ((HD.out.mark hlt).setT dn true)
         have hra : RestS (fun q => q = es k ∨ q = g.tb) wd (wd.setCell ⟨g.tb, dn, none⟩ (.bool true)) := RestS.set (S := fun q => q = es k ∨ q = g.tb) (RestS.refl _ wd) (p := ⟨g.tb, dn, none⟩) (.inr rfl) _
         have HRA := Lib.hid hra
         rw [← HTB.out] at HM1 HRA
         clear hra
         generalize hw2 : wd.setCell ⟨tb2, dn, none⟩ (.bool true) = w12 at HM1 HRA ⊢
         clear hw2
         repeat (refine eagR_readT rfl ?_; go_big_quiet_step (fail); refine wpQuiet_nil ?_)
         have z1 := BRow.cell HM1.out.row hdnn
         have z2 := Blk.free HM1.out.row dn
         rw [← HLB.out] at z1 z2
         refine eagR_freeT rfl rfl (by kernel_rfl) ?_
         intro K hK
         go_simp
         refine hK _ _ ?_
         clear hK K z1 z2
         go_simp
         refine eagR_endT ?_
         have hm2 := HM1.out.setL dn false
         have hrb : RestS (fun q => q = es k ∨ q = g.tb) wd (w12.setCell ⟨es k, dn, none⟩ (.bool false)) := RestS.set (S := fun q => q = es k ∨ q = g.tb) (by rw [HTB.out] at HRA; exact HRA.out) (p := ⟨es k, dn, none⟩) (.inl rfl) _
         have HI13 := Lib.hid (HD.out.marked hlt hm2 hrb)
         have HX13 : Hid (Blk (w12.setCell ⟨es k, dn, none⟩ (.bool false)) xb 48 (viC x)) := Blk.of_heap HXD.out (hrb.block _ (Blk.lt HXD.out) (fun e => by
          rcases e with e | e
          ·exact brow_ne (HD.out.row hlt) HXD.out (by decide) e
          ·exact brow_ne HD.out.bi.gr.there HXD.out (by decide) e))
         rw [← HLB.out] at HI13 HX13
         clear hm2 hrb HM1 HRA HD HXD
         obtain ⟨s3, hs3⟩ : ∃ s3 : CS, s3 = { X := s2.X, SL := s2.SL, TH := fun r => if r = dn then true else s2.TH r, mv := s2.mv, L := fun r => if r = dn then false else s2.L r } := ⟨_, rfl⟩
         have HI14 : Hid (BlkB w (w12.setCell ⟨lb, dn, none⟩ (.bool false)) f n nb pf gx g s3 mv2 bl es Gl XL EL' (.slice (some ⟨ge, 0, none⟩) nb ec) k lx bb b) := by rw [hs3]; exact HI13.out
         have HS3 := Lib.hid hs3
         clear hs3 HI13
         generalize w12.setCell ⟨lb, dn, none⟩ (.bool false) = w14 at HI14 HX13 ⊢
         have k0 := HX13.out.cell 0
         simp only [viC, List.getElem?_cons_zero] at k0
         go_wp2_with fail
         refine (calls_any x.op _).mono ?_
         rintro e w' ⟨rfl, rfl⟩
         obtain ⟨cbv, hcb⟩ : ∃ cbv, cbv = callB x.op := ⟨_, rfl⟩
         rw [← hcb]
         have HCB := Lib.hid hcb
         obtain ⟨SL4, hsl4⟩ : ∃ SL4 : Nat → Bool, SL4 = if callB x.op = true then fun r => s3.SL r || s3.L r else s3.SL := ⟨_, rfl⟩
         have HSL4 := Lib.hid hsl4
         clear hcb k0 hsl4
         go_upto_if 132 with fail
         go_cut [15, 16] from 130 to 160 (fun _ _ wx => BlkB w wx f n nb pf gx g { s3 with SL := SL4 } mv2 bl es Gl XL EL' (.slice (some ⟨ge, 0, none⟩) nb ec) k lx bb b ∧ Blk wx xb 48 (viC x))
         case first => as_aux_lemma =>
          cases cbv with
          | false =>
           have HN : Hid (SL4 = s3.SL) := by show _ = _; rw [HSL4.out, ← HCB.out]; rfl
           go_wp2_with fail
           go_meet
           exact ⟨by rw [HN.out]; exact HI14.out, HX13.out⟩
          | true =>
           have HN : Hid (SL4 = fun r => s3.SL r || s3.L r) := by show _ = _; rw [HSL4.out, ← HCB.out]; rfl
           have l0 := HI14.out.lbox.cell 0
           simp only [List.getElem?_cons_zero] at l0
           rw [← HLB.out] at l0
           go_wp2_with fail
           clear l0
           obtain ⟨L3, hL3⟩ : ∃ L3, L3 = s3.L := ⟨_, rfl⟩
           have HL3 : Hid (BRow w14 (es k) n L3) := by rw [hL3]; exact HI14.out.row hlt
           have HN2 : Hid (SL4 = fun r => s3.SL r || L3 r) := by show _ = _; rw [hL3]; exact HN.out
           clear hL3
           have hap := (HI14.out.bi.eap k hlt).1
           go_loopw [135] (fun u wx => ∃ j : Nat, j ≤ n ∧ u = .int .i64 (j : Int) ∧ GrM wx w.heap.size n g s3.X (fun r => if r < j then s3.SL r || L3 r else s3.SL r) s3.TH mv2 ∧ RestS (fun q => q = g.sb) w14 wx) (fun u _ => n - (intOf u).toNat)
           case atStart => exact ⟨0, Nat.zero_le _, rfl, HI14.out.bi.gr.congr (fun _ _ _ _ => rfl) (fun r _ => by simp) (fun _ _ => rfl), RestS.refl _ _⟩
           case round =>
            obtain ⟨j, hj, rfl, hg, hr⟩ := hrel
            have HG := Lib.hid hg
            have HR := Lib.hid hr
            clear hg hr
            by_cases hjl : j < n
            ·obtain ⟨wd, hwd⟩ : ∃ wd, wd = wr.drew := ⟨_, rfl⟩
             have hde : Below wr.heap.size wr wd := by rw [hwd]; exact (Below.refl _ _).drew
             have HD := Lib.hid (HG.out.below hde)
             have hl := BRow.cell (Blk.of_heap HL3.out (HR.out.block _ (Blk.lt HL3.out) (fun e => hap e.symm)) : BRow wr (es k) n L3) hjl
             have hrd : RestS (fun q => q = g.sb) w14 wd := HR.out.trans (below_refl_of hde _)
             have HRD := Lib.hid hrd
             have ht : TyB 4 w14 (fun q => q = g.sb) := fun q e => e ▸ brow_ty HI14.out.bi.gr.slot
             have g0 := (Blk.of_heap HI14.out.bi.gbox (hrd.block _ (Blk.lt HI14.out.bi.gbox) (ht.noBlk HI14.out.bi.gbox (by decide))) : Blk wd gx _ _).cell 0
             have g1 := HD.out.box.cell 1
             have x1 := BRow.cell HD.out.slot hjl
             simp only [List.getElem?_cons_zero, List.getElem?_cons_succ] at g0 g1
             rw [if_neg (by omega)] at x1
             have f1 := Blk.free HD.out.slot j
             obtain ⟨sb2, hsb2⟩ : ∃ y, y = g.sb := ⟨_, rfl⟩
             rw [← HGB.out] at g0 g1
             rw [← hsb2] at g1 x1 f1
             have HSB := Lib.hid hsb2
             rw [← HLB.out] at hl
             obtain ⟨bl1, hbl1⟩ : ∃ y, y = L3 j := ⟨_, rfl⟩
             rw [← hbl1] at hl
             obtain ⟨sl1, hsl1⟩ : ∃ y, y = s3.SL j := ⟨_, rfl⟩
             rw [← hsl1] at x1
             have r0 := fun z : AfterR (Keep3C gx gb sb2) wd => (World.cell?_of_block (a := ⟨gx, 0, none⟩) z.rel.1).trans g0
             have r1 := fun z : AfterR (Keep3C gx gb sb2) wd => (World.cell?_of_block (a := ⟨gb, 1, none⟩) z.rel.2.1).trans g1
             have r2 := fun z : AfterR (Keep3C gx gb sb2) wd => (World.cell?_of_block (a := ⟨sb2, j, none⟩) z.rel.2.2).trans x1
             have HGN : Hid (GrM (wd.setCell ⟨sb2, j, none⟩ (.bool (sl1 || bl1))) w.heap.size n g s3.X (fun r => if r < j + 1 then s3.SL r || L3 r else s3.SL r) s3.TH mv2) := by
              have := HD.out.setS j (sl1 || bl1)
              rw [← hsb2] at this
              refine this.congr (fun _ _ _ _ => rfl) (fun r _ => ?_) (fun _ _ => rfl)
              by_cases e : r = j
              ·subst e; rw [hbl1, hsl1]; simp
              ·by_cases e2 : r < j
               ·simp [e, e2, show r < j + 1 by omega]
               ·simp [e, e2, show ¬ r < j + 1 by omega]
             have HRN : Hid (RestS (fun q => q = g.sb) w14 (wd.setCell ⟨sb2, j, none⟩ (.bool (sl1 || bl1)))) := HRD.out.set (p := ⟨sb2, j, none⟩) hsb2 _
             clear g0 g1 hde hsb2 hbl1 hsl1 hrd ht HG HR HD HRD
             go_upto_region 28 with fail
             refine wp_region_eagerRT (Keep3C gx gb sb2) [(0, true), (1, true), (2, true), (3, true), (4, true), (5, true), (6, true), (7, true), (8, true), (9, true), (10, true), (11, true), (12, true), (13, true), (14, true), (15, true), (16, false)] (by kernel_rfl) (by kernel_rfl) ?_
             rw [← hwd]
             clear hwd hl
             cases sl1
             all_goals
              repeat (refine eagR_readT rfl ?_; go_big_quiet_step (fail); refine wpQuiet_nil ?_)
              clear r0 r1 r2
              refine eagR_freeT rfl rfl (by kernel_rfl) ?_
              intro K hK
              go_simp
              refine hK _ _ ?_
              clear hK K x1 f1
              go_simp
              refine eagR_endT ?_
              go_wp2_with fail
              go_roundw
              case rel => exact ⟨j + 1, by omega, by go_num, HGN.out, HRN.out⟩
              case measure => simp [intOf]; omega
            ·have ej : j = n := by omega
             have hgf : GrM wr w.heap.size n g s3.X SL4 s3.TH mv2 := HG.out.congr (fun _ _ _ _ => rfl) (fun r hr => by rw [HN2.out, if_pos (by omega)]) (fun _ _ => rfl)
             have HF4 := Lib.hid (HI14.out.slots HR.out hgf)
             have HX4 : Hid (Blk wr xb 48 (viC x)) := Blk.of_heap HX13.out (HR.out.block _ (Blk.lt HX13.out) (fun e => brow_ne HI14.out.bi.gr.slot HX13.out (by decide) e))
             clear hgf
             go_wp2_with fail
             go_meet
             exact ⟨HF4.out, HX4.out⟩
         case rest => as_aux_lemma =>
          obtain ⟨hi, hxb⟩ := hcut
          have HI15 := Lib.hid hi
          have HX15 := Lib.hid hxb
          clear hi hxb HI14 HX13
          have HUS := fun w (h : x.Ok w) => Lib.hid (uses_any x w h)
          unfold viV at HUS
          go_wp2_with (refine wpList_load_row rfl 48 _ rfl xb rfl _ (viC x).toArray _ _ HX15.out Tryz.underlying48 rfl HSZ.out ?_)
          refine (HUS _ (HXO.out.below HI15.out.bi.be)).out.mono ?_
          rintro e w16 ⟨v, rfl, hown, hb16⟩
          have hla := hown.lt
          obtain ⟨la, lc, rfl, hlc⟩ := came_ownsV hown
          have HI16 := Lib.hid (HI15.out.below hb16)
          have huN : ((usesV x).map Int.toNat).map (fun z : Nat => (z : Int)) = usesV x := by
           rw [List.map_map]
           conv => rhs; rw [← List.map_id (usesV x)]
           refine List.map_congr_left fun z hz => ?_
           have := HXF.out.uses z hz
           simp; omega
          have HMK := Lib.hid (mark_any w16 w.heap.size n g s3.X SL4 s3.TH mv2 lx gx (es k) s3.L (HI16.out.mark hlt) hn2 la (usesV x).length lc ((usesV x).map Int.toNat) (by rw [huN]; exact hlc) (fun r hr => by
           obtain ⟨z, hz, rfl⟩ := List.mem_map.1 hr
           have := HXF.out.uses z hz; omega) (fun p hp => by
           subst hp
           have h1 := (hla p.block rfl).1
           have h2 := Blk.lt (HI15.out.row hlt)
           have h3 := Blk.lt HI15.out.bi.gr.there
           exact ⟨by omega, by omega⟩))
          clear huN hlc hown hb16 HUS HI15 HX15 hla
          go_wp2_with fail
          refine HMK.out.mono ?_
          rintro e w17 ⟨rfl, hm17, hr17⟩
          have hfin := HI16.out.marked hlt hm17 hr17
          have HFIN : Hid (BlkB w w17 f n nb pf gx g ((b.ins.drop i).foldr (insC n) s1) mv2 bl es Gl XL EL' (.slice (some ⟨ge, 0, none⟩) nb ec) k lx bb b) := by
           have e : insC n x s = { X := s3.X, SL := SL4, TH := markL s3.TH ((usesV x).map Int.toNat), mv := s3.mv, L := markL s3.L ((usesV x).map Int.toNat) } := by
            rw [HSL4.out, HS3.out, HS2.out, HMVS.out, HEXC.out]
            unfold insC usesN
            simp only [HDN.out, Int.toNat_natCast]
           show BlkB _ _ _ _ _ _ _ _ _ _ _ _ _ _ _ _ _ _ _ _
           rw [HDS.out, e]
           exact hfin
          clear hfin hm17 hr17 HMK HI16
          go_wp2_with fail
          go_roundw
          case rel => exact ⟨i, mv2, by omega, by go_num, HFIN.out⟩
          case measure => simp [intOf]
     ·have ek : k = nb := by omega
      subst ek
      go_wp2_with fail
      go_meet
      exact ⟨mv, EL', HI.out⟩
   case rest => as_aux_lemma =>
    obtain ⟨mv, EL', hi⟩ := hcut
    have HI := Lib.hid hi
    clear hi HI0 c3
    obtain ⟨cs, hcs⟩ : ∃ cs, cs = blksC n f EL nb := ⟨_, rfl⟩
    rw [← hcs] at HI
    have HCS := Lib.hid hcs
    clear hcs
    have c1 := HI.out.bf.cell 1
    simp only [fC, List.getElem?_cons_zero, List.getElem?_cons_succ] at c1
    have HPL := Lib.hid HF.out.plen
    obtain ⟨ps, hps⟩ : ∃ ps, ps = f.params.map Int.toNat := ⟨_, rfl⟩
    have HPS := Lib.hid hps
    clear hps
    go_wp2_with fail
    clear c1
    go_loopw [165] (fun u wr => ∃ (k : Nat), k ≤ f.pn ∧ u = .int .i64 (k : Int) ∧ BldI w wr f n nb pf gx g (parX n ps (XL 0) cs.X k) cs.SL (markL cs.TH (ps.take k)) cs.mv mv bl es Gl XL EL' (.slice ea nb ec)) (fun u _ => f.pn - (intOf u).toNat)
    case atStart => exact ⟨0, Nat.zero_le _, rfl, by
     have e : markL cs.TH (ps.take 0) = cs.TH := by funext r; simp [markL]
     rw [e]; exact HI.out⟩
    case round =>
     clear HI
     obtain ⟨k, hk, rfl, hi⟩ := hrel
     have HI := Lib.hid hi
     clear hi
     by_cases hlt : k < f.pn
     ·obtain ⟨b', off, epa, hbl, hcell⟩ := HF.out.pcame.ints (by omega)
      have hkl : k < f.params.length := by have := HPL.out; omega
      have cl := (HI.out.be.cell (p := ⟨b', off + k, none⟩) hbl).trans (hcell k hkl)
      have hr := HOK.out.par _ (List.getElem_mem hkl)
      have hkl2 : k < ps.length := by rw [HPS.out]; simpa using hkl
      obtain ⟨r, hre⟩ : ∃ r : Nat, f.params[k] = (r : Int) := ⟨f.params[k].toNat, by omega⟩
      rw [hre] at cl hr
      have hrn : r < n := by omega
      have hpsk : ps[k] = r := by simp only [HPS.out, List.getElem_map, hre, Int.toNat_natCast]
      have HT : Hid (ps.take (k + 1) = ps.take k ++ [r]) := by show _ = _; rw [List.take_succ_eq_append_getElem hkl2, hpsk]
      have HGD : Hid (ps.getD k 0 = r) := by show _ = _; rw [← hpsk]; simp [List.getD, hkl2]
      rw [epa]
      have g0 := HI.out.gbox.cell 0
      have g2 := HI.out.gr.box.cell 2
      simp only [List.getElem?_cons_zero, List.getElem?_cons_succ] at g0 g2
      have x1 := BRow.cell HI.out.gr.there hrn
      have f1 := Blk.free HI.out.gr.there r
      have HI2 := Lib.hid (HI.out.occ r true)
      obtain ⟨gb, hgb⟩ : ∃ y, y = g.gb := ⟨_, rfl⟩
      obtain ⟨tb2, htb⟩ : ∃ y, y = g.tb := ⟨_, rfl⟩
      rw [← hgb] at g0 g2
      rw [← htb] at g2 x1 f1
      rw [← htb] at HI2
      have HGB := Lib.hid hgb
      have HEPA := Lib.hid epa
      have HCELL := Lib.hid hcell
      clear hgb htb hcell hre hpsk hr epa
      go_upto_region 36 with fail
      have e9 : (fun q => if q = r then true else markL cs.TH (ps.take k) q) = markL cs.TH (ps.take (k + 1)) := by funext q; rw [HT.out]; exact markL_snoc _ _ _ _
      rw [e9] at HI2
      generalize wr.setCell ⟨tb2, r, none⟩ (.bool true) = w2 at HI2 ⊢
      clear g0 g2 x1 f1 cl e9 HI
      have c1 := HI2.out.bf.cell 1
      simp only [fC, List.getElem?_cons_zero, List.getElem?_cons_succ] at c1
      rw [HEPA.out] at c1
      have hcm := HF.out.pcame.max
      have hcl := HF.out.pcame.le
      go_wp2_with fail
      clear c1
      obtain ⟨wq, rfl⟩ : ∃ y, y = wr := ⟨_, rfl⟩
      go_loopw [181] (fun u wx => ∃ j : Nat, j ≤ k ∧ u = .int .i64 (j : Int) ∧ BldI w wx f n nb pf gx g ((ps.take j).foldl (fun Y s => addE Y r s) (parX n ps (XL 0) cs.X k)) cs.SL (markL cs.TH (ps.take (k + 1))) cs.mv mv bl es Gl XL EL' (.slice ea nb ec)) (fun u _ => k - (intOf u).toNat)
      case atStart => exact ⟨0, Nat.zero_le _, rfl, by simpa using HI2.out⟩
      case round =>
       clear HI2
       obtain ⟨j, hj, rfl, hi⟩ := hrel
       have HI := Lib.hid hi
       clear hi
       have g0 := HI.out.gbox.cell 0
       simp only [List.getElem?_cons_zero] at g0
       rw [← HGB.out] at g0
       by_cases hjl : j < k
       ·have hjl2 : j < f.params.length := by omega
        have cl := (HI.out.be.cell (p := ⟨b', off + j, none⟩) hbl).trans (HCELL.out j hjl2)
        have hr := HOK.out.par _ (List.getElem_mem hjl2)
        have hjl3 : j < ps.length := by rw [HPS.out]; simpa using hjl2
        obtain ⟨q, hqe⟩ : ∃ q : Nat, f.params[j] = (q : Int) := ⟨f.params[j].toNat, by omega⟩
        rw [hqe] at cl hr
        have hqn : q < n := by omega
        have hpsj : ps[j] = q := by simp only [HPS.out, List.getElem_map, hqe, Int.toNat_natCast]
        have HTJ : Hid (ps.take (j + 1) = ps.take j ++ [q]) := by show _ = _; rw [List.take_succ_eq_append_getElem hjl3, hpsj]
        have HCA := Lib.hid (cadd_any wr w.heap.size n g _ cs.SL (markL cs.TH (ps.take (k + 1))) mv HI.out.gr r q hrn hqn hn2)
        rw [← HGB.out] at HCA
        clear hpsj hqe hr
        go_wp2_with fail
        refine HCA.out.mono ?_
        rintro e w9 ⟨rfl, hg9, hr9⟩
        have HI9 : Hid (BldI w w9 f n nb pf gx g ((ps.take (j + 1)).foldl (fun Y s => addE Y r s) (parX n ps (XL 0) cs.X k)) cs.SL (markL cs.TH (ps.take (k + 1))) cs.mv mv bl es Gl XL EL' (.slice ea nb ec)) := by
         show BldI _ _ _ _ _ _ _ _ _ _ _ _ _ _ _ _ _ _ _
         rw [HTJ.out, List.foldl_append]
         exact HI.out.edges hr9 hg9
        clear hg9 hr9 HCA HI g0
        go_wp2_with fail
        go_roundw
        case rel => exact ⟨j + 1, by omega, by go_num, HI9.out⟩
        case measure => simp [intOf]; omega
       ·have ej : j = k := by omega
        subst ej
        obtain ⟨wd, hwd⟩ : ∃ wd, wd = wr.drew := ⟨_, rfl⟩
        have hde : Below wr.heap.size wr wd := by rw [hwd]; exact (Below.refl _ _).drew
        have HD := Lib.hid (HI.out.below hde)
        have HGR := Lib.hid (HI.out.below hde)
        have g1 := HD.out.gbox.cell 0
        have b1 := Blk.row HD.out.beg.blk hnb1
        simp only [List.getElem?_cons_zero] at g1
        rw [← HGB.out] at g1
        have HCD := Lib.hid (cdefine_any wd w.heap.size n g _ cs.SL (markL cs.TH (ps.take (j + 1))) mv HD.out.gr r 0 hrn (bl 0) (XL 0) (HD.out.beg.row 0 hnb1) (fun ⟨q, hq, e⟩ => (HD.out.bap 0 hnb1).2.2 q hq e.symm) hn2)
        rw [← HGB.out] at HCD
        obtain ⟨bl0, hbl0⟩ : ∃ y, y = bl 0 := ⟨_, rfl⟩
        rw [← hbl0] at b1 HCD
        have r0 := fun z : AfterR (Keep2C gx Gl) wd => (World.cell?_of_block (a := ⟨gx, 0, none⟩) z.rel.1).trans g1
        have r1 := fun z : AfterR (Keep2C gx Gl) wd => (World.cell?_of_block (a := ⟨Gl, 0, none⟩) z.rel.2).trans b1
        clear hde g0 g1 b1 hbl0 HI
        go_upto_region 41 with fail
        refine wp_region_eagerRT (Keep2C gx Gl) [(0, true), (1, true), (2, true), (3, true), (4, true), (5, false)] (by kernel_rfl) (by kernel_rfl) ?_
        rw [← hwd]
        clear hwd
        repeat (refine eagR_readT rfl ?_; go_big_quiet_step (fail); refine wpQuiet_nil ?_)
        clear r0 r1
        refine eagR_freeT rfl rfl (by kernel_rfl) ?_
        intro K hK
        go_simp
        refine HCD.out.mono ?_
        rintro e w9 ⟨rfl, hg9, hr9⟩
        refine hK _ _ ?_
        clear hK K
        go_simp
        refine eagR_endT ?_
        have HI9 : Hid (BldI w w9 f n nb pf gx g (parX n ps (XL 0) cs.X (j + 1)) cs.SL (markL cs.TH (ps.take (j + 1))) cs.mv mv bl es Gl XL EL' (.slice ea nb ec)) := by
         have e : parX n ps (XL 0) cs.X (j + 1) = defE ((ps.take j).foldl (fun Y s => addE Y r s) (parX n ps (XL 0) cs.X j)) r 0 (XL 0) n := by
          conv => lhs; unfold parX
          rw [HGD.out]
         show BldI _ _ _ _ _ _ _ _ _ _ _ _ _ _ _ _ _ _ _
         rw [e]
         exact HD.out.edges hr9 hg9
        clear hg9 hr9 HCD HD HGR
        go_wp2_with fail
        go_roundw
        case rel => exact ⟨j + 1, by omega, by go_num, HI9.out⟩
        case measure => simp [intOf]; omega
     ·have ek : k = f.pn := by omega
      subst ek
      have ept : ps.take f.pn = ps := List.take_of_length_le (by rw [HPS.out]; have := HPL.out; simp; omega)
      rw [ept] at HI
      have g0 := HI.out.gbox.cell 0
      have g2 := HI.out.gr.box.cell 2
      simp only [List.getElem?_cons_zero, List.getElem?_cons_succ] at g0 g2
      have x1 := BRow.cell HI.out.gr.there hn1
      have f1 := Blk.free HI.out.gr.there 0
      have hgt := HI.out.gr.setT 0 false
      have hne := brow_ne HI.out.gr.there HI.out.gbox (by decide)
      have hmo := ownG_other (a := ⟨g.tb, 0, none⟩) HI.out.mo (fun e => by
       obtain ⟨cur, h1⟩ := own_blkTy HI.out.mo e
       have h2 : wr.heap[g.tb]? = _ := HI.out.gr.there
       rw [h1] at h2
       injection h2 with h2
       injection h2 with _ h2 _
       exact absurd h2 (by decide)) (.bool false)
      have HFB : Hid (Below w.heap.size w (wr.setCell ⟨g.tb, 0, none⟩ (.bool false))) := HI.out.be.setCell (p := ⟨g.tb, 0, none⟩) HI.out.gr.lo.1.2.2 _
      have g9 : (wr.setCell ⟨g.tb, 0, none⟩ (.bool false)).cell? ⟨gx, 0, none⟩ = some (.pointer (some ⟨g.gb, 0, none⟩)) := (World.cell?_of_block (a := ⟨gx, 0, none⟩) (Below.heap_setCell _ _ _ _ hne)).trans g0
      have HGT := Lib.hid hgt
      have HMO := Lib.hid hmo
      obtain ⟨gb, hgb⟩ : ∃ y, y = g.gb := ⟨_, rfl⟩
      obtain ⟨tb2, htb⟩ : ∃ y, y = g.tb := ⟨_, rfl⟩
      rw [← hgb, ← htb] at g9
      rw [← hgb] at g0 g2
      rw [← htb] at g2 x1 f1 HGT HMO HFB
      have HGB := Lib.hid hgb
      clear hgb htb hgt hmo hne ept HI
      go_wp2_with fail
      go_ret
      exact ⟨g, XL, EL, mv, by rw [HGB.out]; rfl, HFB.out, HXL.out, HEL.out, by rw [← HPS.out, ← HCS.out]; exact HGT.out, by rw [← HCS.out]; exact HMO.out⟩
end Go.Proofs.YtdnpoomagjcpfaaGreat
