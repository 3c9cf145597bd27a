/- The reference's AliveAfter. The reference's Points. -/
import Derived.Test.YtlaogkbdjkofaaaVAlive
import Derived.Test.YtlaogkbdjkofaaaVCheck
import Derived.Test.YtlaogkbdjkofaaaLinFin
import Derived.Test.YtlaogkbdjkofaaaColMem
import Derived.Deep.AppendLies
import Derived.Deep.CutBlock
namespace Go.Proofs.Ytlaogkbdjkofaaa
open Go.RowKit
set_option linter.unusedVariables false
set_option linter.unusedSimpArgs false

section
def AliveAPost (f : VF) (i r : Nat) (w : World) (e : Ending) (w' : World) : Prop := ∃ b : Bool, e = .returned (.bool b) ∧ (b = true ↔ ∃ t : Nat, (t : Int) ∈ (f.blk i).e.to ∧ LiveI f t r) ∧ Below w.heap.size w w'
set_option maxRecDepth 100000 in
set_option maxHeartbeats 8000000 in
theorem aliveAfter_any (w : World) (f : VF) (hf : f.Ok w) (m : Nat) (hm : m = f.blocks.length) (hm2 : m ≤ 4096) (htos : TosV f m) (hins : ∀ i, i < m → (f.blk i).ins.length ≤ 4096) (i r : Nat) (hi : i < m) (hr : r ≠ 0) (hr2 : r ≤ 10000) :
    Calls Try.prog 68 #[f.v, .int .i64 (i : Int), .int .i64 (r : Int)] w (AliveAPost f i r w) := by
  have HF := Lib.hid hf
  have hlen := hf.len
  have hb0 : BoxV f w (w.alloc (.cells #[.int .i64 f.name, .slice f.pa f.pn f.pc, .int .i64 f.regs, .slice f.sa f.sn f.sc] 25)) f.pa f.sa := ⟨(Below.refl _ _).alloc (Nat.le_refl _) _, Blk.new w [.int .i64 f.name, .slice f.pa f.pn f.pc, .int .i64 f.regs, .slice f.sa f.sn f.sc] 25⟩
  have HAL := fun wx (h : Below w.heap.size w wx) (t : Nat) (ht : t < m) => alive_any wx f (hf.below h) m hm hm2 htos hins t 0 r ht (by omega) hr hr2
  have hib : i < f.blocks.length := by omega
  have HTO := Lib.hid (htos i hi)
  obtain ⟨gb, ob, hsa, hgb, _, _, _, _, _, _, d6⟩ := hf.cells hb0.be hib
  rw [VF.blk_get f hib] at d6
  have HBO : Hid ((f.blk i).e.Ok w) := by rw [← VF.blk_get f hib]; exact (hf.blocks _ (List.getElem_mem _)).e
  obtain ⟨x, hx⟩ : ∃ x, x = (f.blk i).e := ⟨_, rfl⟩
  rw [← hx] at d6 HBO HTO
  have hpost : AliveAPost f i r w = fun e w' => ∃ b : Bool, e = .returned (.bool b) ∧ (b = true ↔ ∃ t : Nat, (t : Int) ∈ x.to ∧ LiveI f t r) ∧ Below w.heap.size w w' := by rw [hx]; rfl
  rw [hpost]
  clear hpost hx
  unfold VF.v at HAL ⊢
  obtain ⟨sa, hsa0⟩ : ∃ s, s = f.sa := ⟨_, rfl⟩
  rw [← hsa0] at hb0 HAL hsa d6 ⊢
  subst hsa
  obtain ⟨ta, hta⟩ : ∃ s, s = x.sa := ⟨_, rfl⟩
  rw [← hta] at d6
  have HC : Hid (Came w ta x.sn x.sc 1 (x.to.map intCells)) := by rw [hta]; exact HBO.out.came
  have htl := HBO.out.len
  have hreach := HBO.out.reach
  have HB0 := Lib.hid hb0
  have HAL := Lib.hid HAL
  have hil : (i : Int) < (f.sn : Int) := by omega
  clear hf hta htos hins hsa0
  go_enter Try.func68, Try.ntmps68
  go_wp2_with fail
  clear d6 hb0
  generalize w.alloc (.cells #[.int .i64 f.name, .slice f.pa f.pn f.pc, .int .i64 f.regs, .slice (some ⟨gb, ob, none⟩) f.sn f.sc] 25) = w1 at HB0 ⊢
  go_loopw [6, 8, 17] (fun _ _ u wr => ∃ k : Nat, k ≤ x.sn ∧ u = .int .i64 (k : Int) ∧ BoxV f w wr f.pa (some ⟨gb, ob, none⟩) ∧ ∀ t : Nat, (t : Int) ∈ x.to.take k → ¬ LiveI f t r) (fun _ _ u _ => x.sn - (intOf u).toNat)
  case atStart => exact ⟨0, Nat.zero_le _, rfl, HB0.out, fun t ht => by simp at ht⟩
  case round =>
    clear HB0
    obtain ⟨k, hk, rfl, hbx, hno⟩ := hrel
    have HBX := Lib.hid hbx
    have HNO := Lib.hid hno
    clear hbx hno
    by_cases hlt : k < x.sn
    · obtain ⟨gt, ot, rfl, hgt, hct⟩ := HC.out.ints (by omega)
      have ck := (HBX.out.be.cell (p := ⟨gt, ot + k, none⟩) hgt).trans (hct k (by omega))
      obtain ⟨t, ht⟩ : ∃ t, t = x.to[k]'(by omega) := ⟨_, rfl⟩
      rw [← ht] at ck
      have htm := HTO.out t (by rw [ht]; exact List.getElem_mem _)
      have HTK : Hid (x.to.take (k + 1) = x.to.take k ++ [t]) := by rw [ht]; exact List.take_succ_eq_append_getElem _
      have HME : Hid (t ∈ x.to) := by rw [ht]; exact List.getElem_mem _
      obtain ⟨t, rfl⟩ := Int.eq_ofNat_of_zero_le htm.1
      have hAL := HAL.out _ HBX.out.be t (by omega)
      rw [show ((0 : Nat) : Int) = 0 from rfl] at hAL
      have HA := Lib.hid hAL
      have c0 := HBX.out.box.cell 0
      have c1 := HBX.out.box.cell 1
      have c2 := HBX.out.box.cell 2
      have c3 := HBX.out.box.cell 3
      simp only [List.getElem?_cons_zero, List.getElem?_cons_succ] at c0 c1 c2 c3
      clear ht htm hct hAL
      go_wp2_with fail
      refine HA.out.mono ?_
      rintro e w2 ⟨bb, rfl, hbb, hb2⟩
      have HBB := Lib.hid (hbb.trans (aliveP_zero hr))
      have HBX2 := Lib.hid (HBX.out.below hb2)
      clear hbb hb2 c0 c1 c2 c3
      cases bb
      · go_wp2_with fail
        go_roundw
        case rel =>
          refine ⟨k + 1, by omega, by go_num, HBX2.out, fun u hu => ?_⟩
          rw [HTK.out] at hu
          rcases List.mem_append.1 hu with h1 | h1
          · exact HNO.out u h1
          · have e : u = t := by have := List.mem_singleton.1 h1; omega
            subst e
            intro hl
            have := HBB.out.2 hl
            cases this
        case measure => simp [intOf]; omega
      · go_wp2_with fail
        go_ret
        exact ⟨true, rfl, ⟨fun _ => ⟨t, HME.out, HBB.out.1 (by simp)⟩, fun _ => by simp⟩, HBX2.out.be⟩
    · have HALL : Hid (x.to.take k = x.to) := List.take_of_length_le (by omega)
      go_wp2_with fail
      go_ret
      refine ⟨false, rfl, ⟨fun h => (by cases h), fun ⟨t, h1, h2⟩ => ?_⟩, HBX.out.be⟩
      exact absurd h2 (HNO.out t (by rw [HALL.out]; exact h1))
end

section
/-- a point that is added if p holds -/
def AddP (p : Prop) (t : Int) (l l' : List Int) : Prop := (p ∧ l' = l ++ [t]) ∨ (¬ p ∧ l' = l)
theorem AddP.mem {p : Prop} {t : Int} {l l' : List Int} (h : AddP p t l l') {s : Int} : s ∈ l' ↔ s ∈ l ∨ (p ∧ s = t) := by
  rcases h with ⟨hp, rfl⟩ | ⟨hp, rfl⟩
  · rw [List.mem_append, List.mem_singleton]
    exact ⟨fun h => h.imp id fun h => ⟨hp, h⟩, fun h => h.imp id fun h => h.2⟩
  · exact ⟨.inl, fun h => h.elim id fun h => absurd h.1 hp⟩
theorem AddP.len {p : Prop} {t : Int} {l l' : List Int} (h : AddP p t l l') : l'.length ≤ l.length + 1 := by
  rcases h with ⟨_, rfl⟩ | ⟨_, rfl⟩ <;> simp
/-- all blocks but those of integers are kept -/
structure NoInt (w w' : World) : Prop where
  size : w.heap.size ≤ w'.heap.size
  keep : ∀ k, k < w.heap.size → (∀ cur, w.heap[k]? ≠ some (.cells cur 3 (0, 0))) → w'.heap[k]? = w.heap[k]?
theorem NoInt.refl (w : World) : NoInt w w := ⟨Nat.le_refl _, fun _ _ _ => rfl⟩
theorem NoInt.trans {w w' w'' : World} (h : NoInt w w') (k : NoInt w' w'') : NoInt w w'' := ⟨Nat.le_trans h.size k.size, fun q hq hn => by
  have h1 := h.keep q hq hn
  exact (k.keep q (Nat.lt_of_lt_of_le hq h.size) (by rw [h1]; exact hn)).trans h1⟩
theorem NoInt.ofBelow {w w' : World} (h : Below w.heap.size w w') : NoInt w w' := ⟨h.size, fun k hk _ => h.block k hk⟩
theorem NoInt.ofGrown {w w' : World} {base n : Nat} {l : List Value} {v : Value} (ho : w.ownsRow base 3 1 v n l) (h : w.grownBy w' v.ownBlock) : NoInt w w' := ⟨h.size, fun k hk hn => h.block k hk fun e => by
  obtain ⟨cur, hc⟩ := own_blkTy ho e.symm
  exact hn cur hc⟩
theorem NoInt.blk {w w' : World} (h : NoInt w w') {b : Nat} {t : TypeId} {cs : List Value} (hb : Blk w b t cs) (ht : t ≠ 3) : Blk w' b t cs := Blk.of_heap hb (h.keep b (Blk.lt hb) fun cur e => by
  have h2 : w.heap[b]? = _ := hb
  rw [e] at h2
  injection h2 with h2
  injection h2 with _ h2 _
  exact ht h2.symm)
/-- the memory of Points -/
structure PtI (w0 w : World) (f : VF) (pf : Nat) (ov : Value) (outs : List Int) (cv : Value) (calls : List Int) : Prop where
  be : Below w0.heap.size w0 w
  bf : Blk w pf 25 (fC f)
  oo : w.ownsRow w0.heap.size 3 1 ov outs.length (outs.map (Value.int .i64))
  co : w.ownsRow w0.heap.size 3 1 cv calls.length (calls.map (Value.int .i64))
  ap : ∀ g, ov.ownBlock = some g → cv.ownBlock ≠ some g
section
variable {w0 w w' : World} {f : VF} {pf : Nat} {ov cv : Value} {outs calls : List Int}
theorem PtI.below (h : PtI w0 w f pf ov outs cv calls) (hb : Below w.heap.size w w') : PtI w0 w' f pf ov outs cv calls := ⟨h.be.trans (hb.mono h.be.size), h.bf.below hb h.bf.lt, ownG_below h.oo hb, ownG_below h.co hb, h.ap⟩
theorem PtI.pushO (h : PtI w0 w f pf ov outs cv calls) {g cap : Nat} {t : Int} (hown : w'.ownsRow w0.heap.size 3 1 (.slice (some ⟨g, 0, none⟩) (outs.length + 1) cap) (outs.length + 1) (outs.map (Value.int .i64) ++ [.int .i64 t])) (hg : w.grownBy w' ov.ownBlock) (hw : ov.ownBlock = some g ∨ g = w.heap.size) :
    PtI w0 w' f pf (.slice (some ⟨g, 0, none⟩) (outs ++ [t]).length cap) (outs ++ [t]) cv calls := by
  have hrs := RestS.ofGrown hg
  refine ⟨h.be.trans (hrs.toBelow (fun q e => (h.oo.lt q e).1) h.be.size), Blk.of_heap h.bf (hrs.block _ (Blk.lt h.bf) (blk_noOwn h.bf h.oo (by decide))), by simpa using hown, ownG_kept h.co fun q hq => hrs.block q (h.co.lt q hq).2 fun e => h.ap q e hq, fun q hq hq2 => ?_⟩
  injection hq with hq
  simp only at hq
  subst hq
  rcases hw with e | e
  · exact h.ap g e hq2
  · have := (h.co.lt _ hq2).2; omega
theorem PtI.pushC (h : PtI w0 w f pf ov outs cv calls) {g cap : Nat} {t : Int} (hown : w'.ownsRow w0.heap.size 3 1 (.slice (some ⟨g, 0, none⟩) (calls.length + 1) cap) (calls.length + 1) (calls.map (Value.int .i64) ++ [.int .i64 t])) (hg : w.grownBy w' cv.ownBlock) (hw : cv.ownBlock = some g ∨ g = w.heap.size) :
    PtI w0 w' f pf ov outs (.slice (some ⟨g, 0, none⟩) (calls ++ [t]).length cap) (calls ++ [t]) := by
  have hrs := RestS.ofGrown hg
  refine ⟨h.be.trans (hrs.toBelow (fun q e => (h.co.lt q e).1) h.be.size), Blk.of_heap h.bf (hrs.block _ (Blk.lt h.bf) (blk_noOwn h.bf h.co (by decide))), ownG_kept h.oo fun q hq => hrs.block q (h.oo.lt q hq).2 fun e => h.ap q hq e, by simpa using hown, fun q hq hq2 => ?_⟩
  injection hq2 with hq2
  simp only at hq2
  subst hq2
  rcases hw with e | e
  · exact h.ap g hq e
  · have := (h.oo.lt _ hq).2; omega
end
def PointsPost (f : VF) (nb r : Nat) (w : World) (e : Ending) (w' : World) : Prop :=
  ∃ (oa ca : Option Addr) (oc cc : Nat) (outs calls : List Int), e = .returned (.tuple #[.slice oa outs.length oc, .slice ca calls.length cc]) ∧ w'.ownsRow w.heap.size 3 1 (.slice oa outs.length oc) outs.length (outs.map (Value.int .i64)) ∧ w'.ownsRow w.heap.size 3 1 (.slice ca calls.length cc) calls.length (calls.map (Value.int .i64)) ∧
    (∀ t, t ∈ outs ↔ PtP f nb r t) ∧ (∀ t, t ∈ calls ↔ CallPt f nb t) ∧ outs.length ≤ 1000000000 ∧ calls.length ≤ 1000000000 ∧ Below w.heap.size w w'
/-- the points of one instruction -/
def PtQ (b : VB) (r : Nat) (a0 : Int) (q : Nat) (s : Int) : Prop := ∃ (q' : Nat) (x : VI), q' < q ∧ b.ins[q']? = some x ∧ (((r : Int) ∈ usesV x ∧ s = a0 + 2 * q') ∨ ((r : Int) = defV x ∧ s = a0 + 2 * q' + 1))
def ClQ (b : VB) (a0 : Int) (q : Nat) (s : Int) : Prop := ∃ (q' : Nat) (x : VI), q' < q ∧ b.ins[q']? = some x ∧ callB x.op = true ∧ s = a0 + 2 * q'
theorem ptQ_next {b : VB} {r : Nat} {a0 : Int} {q : Nat} {z : VI} (hz : b.ins[q]? = some z) {s : Int} : PtQ b r a0 (q + 1) s ↔ PtQ b r a0 q s ∨ (((r : Int) ∈ usesV z ∧ s = a0 + 2 * q) ∨ ((r : Int) = defV z ∧ s = a0 + 2 * q + 1)) := by
  constructor
  · rintro ⟨q', x, h1, h2, h3⟩
    by_cases e : q' = q
    · subst e
      rw [hz] at h2
      injection h2 with h2
      subst h2
      exact .inr h3
    · exact .inl ⟨q', x, by omega, h2, h3⟩
  · rintro (⟨q', x, h1, h2, h3⟩ | h)
    · exact ⟨q', x, by omega, h2, h3⟩
    · exact ⟨q, z, by omega, hz, h⟩
theorem clQ_next {b : VB} {a0 : Int} {q : Nat} {z : VI} (hz : b.ins[q]? = some z) {s : Int} : ClQ b a0 (q + 1) s ↔ ClQ b a0 q s ∨ (callB z.op = true ∧ s = a0 + 2 * q) := by
  constructor
  · rintro ⟨q', x, h1, h2, h3⟩
    by_cases e : q' = q
    · subst e
      rw [hz] at h2
      injection h2 with h2
      subst h2
      exact .inr h3
    · exact .inl ⟨q', x, by omega, h2, h3⟩
  · rintro (⟨q', x, h1, h2, h3⟩ | h)
    · exact ⟨q', x, by omega, h2, h3⟩
    · exact ⟨q, z, by omega, hz, h⟩
theorem ptP_next {f : VF} {i r : Nat} {s : Int} : PtP f (i + 1) r s ↔ PtP f i r s ∨ ((LiveI f i r ∧ s = atI f i) ∨ PtQ (f.blk i) r (atI f i) (f.blk i).ins.length s ∨ ((r : Int) ∈ endV (f.blk i).e ∧ s = atI f i + 2 * (f.blk i).ins.length) ∨ ((∃ t : Nat, (t : Int) ∈ (f.blk i).e.to ∧ LiveI f t r) ∧ s = atI f i + 2 * (f.blk i).ins.length + 1)) := by
  constructor
  · rintro (h | ⟨j, h1, h2⟩)
    · exact .inl (.inl h)
    · by_cases e : j = i
      · subst e
        refine .inr (h2.imp id fun h => h.imp (fun ⟨q, x, h3, h4⟩ => ⟨q, x, (List.getElem?_eq_some_iff.1 h3).1, h3, h4⟩) id)
      · exact .inl (.inr ⟨j, by omega, h2⟩)
  · rintro ((h | ⟨j, h1, h2⟩) | h)
    · exact .inl h
    · exact .inr ⟨j, by omega, h2⟩
    · exact .inr ⟨i, by omega, h.imp id fun h => h.imp (fun ⟨q, x, h3, h4, h5⟩ => ⟨q, x, h4, h5⟩) id⟩
theorem callPt_next {f : VF} {i : Nat} {s : Int} : CallPt f (i + 1) s ↔ CallPt f i s ∨ ClQ (f.blk i) (atI f i) (f.blk i).ins.length s := by
  constructor
  · rintro ⟨j, h1, q, x, h2, h3⟩
    by_cases e : j = i
    · subst e
      exact .inr ⟨q, x, (List.getElem?_eq_some_iff.1 h2).1, h2, h3⟩
    · exact .inl ⟨j, by omega, q, x, h2, h3⟩
  · rintro (⟨j, h1, h2⟩ | ⟨q, x, h1, h2, h3⟩)
    · exact ⟨j, by omega, h2⟩
    · exact ⟨i, by omega, q, x, h2, h3⟩
set_option maxRecDepth 100000 in
set_option maxHeartbeats 8000000 in
theorem points_any (w : World) (f : VF) (hf : f.Ok w) (n nb : Nat) (hok : FnOk f n nb) (r : Nat) (hr : 1 ≤ r ∧ r < n) :
    Calls Try.prog 25 #[f.v, .int .i64 (r : Int)] w (PointsPost f nb r w) := by
  have HF := Lib.hid hf
  have hlen := hf.len
  have hsn := hok.sn
  have hn2 := hok.n2
  have hnb2 := hok.nb2
  have hb0 : Below w.heap.size w (w.alloc (.cells #[.int .i64 f.name, .slice f.pa f.pn f.pc, .int .i64 f.regs, .slice f.sa f.sn f.sc] 25)) := (Below.refl _ _).alloc (Nat.le_refl _) _
  have hp0 : PtI w (w.alloc (.cells #[.int .i64 f.name, .slice f.pa f.pn f.pc, .int .i64 f.regs, .slice f.sa f.sn f.sc] 25)) f w.heap.size (.slice none 0 0) [] (.slice none 0 0) [] :=
    ⟨hb0, Blk.new w (fC f) 25, World.ownsRow_nil _ _ _ _, World.ownsRow_nil _ _ _ _, fun g h => by cases h⟩
  have htos : TosV f nb := by rw [hok.nbl]; exact hok.fits.tos
  have HAL := fun wx (h : Below w.heap.size w wx) (i q r : Nat) (hi : i < nb) (hq : q ≤ 10000) (hr : r ≠ 0) (hr2 : r ≤ 10000) => alive_any wx f (hf.below h) nb hok.nbl hnb2.2 htos hok.ins i q r hi hq hr hr2
  have HAA := fun wx (h : Below w.heap.size w wx) (i r : Nat) (hi : i < nb) (hr : r ≠ 0) (hr2 : r ≤ 10000) => aliveAfter_any wx f (hf.below h) nb hok.nbl hnb2.2 htos hok.ins i r hi hr hr2
  have HAM := fun wx (h : Below w.heap.size w wx) (r : Int) => among_any wx f.pa f.pn f.pc f.params (hf.pcame.below h) r
  have HOK := Lib.hid hok
  have HSN := Lib.hid hsn
  unfold VF.v at HAL HAA ⊢
  have HP0 := Lib.hid hp0
  have HAL := Lib.hid HAL
  have HAA := Lib.hid HAA
  have HAM := Lib.hid HAM
  obtain ⟨i0, hi0, hz0, hz1, hz2⟩ : ∃ i, Try.prog.info? 3 = some i ∧ i.zero = some (.int .i64 0) ∧ i.size = 1 ∧ i.bytes = 8 := info_partsV (by kernel_rfl)
  clear hf hok htos hb0 hp0 hsn
  go_enter Try.func25, Try.ntmps25
  go_upto_region 2 with fail
  obtain ⟨pf, hpf⟩ : ∃ pf, pf = w.heap.size := ⟨_, rfl⟩
  rw [← hpf] at HP0 ⊢
  clear hpf
  generalize w.alloc (.cells #[.int .i64 f.name, .slice f.pa f.pn f.pc, .int .i64 f.regs, .slice f.sa f.sn f.sc] 25) = w1 at HP0 ⊢
  have c1 := HP0.out.bf.cell 1
  simp only [fC, List.getElem?_cons_zero, List.getElem?_cons_succ] at c1
  have HA := Lib.hid (HAM.out w1 HP0.out.be (r : Int))
  obtain ⟨pm, hpm⟩ : ∃ x, x = decide ((r : Int) ∈ f.params) := ⟨_, rfl⟩
  rw [← hpm] at HA
  have HPM : Hid (pm = true ↔ (r : Int) ∈ f.params) := by rw [hpm]; exact decide_eq_true_iff
  clear hpm HAM
  go_wp2_with fail
  refine HA.out.mono ?_
  rintro e wx ⟨rfl, hwx⟩
  rw [← hwx]
  clear hwx wx HA
  go_upto_if 16 with fail
  clear c1
  go_cut [6] from 13 (fun v wx => ∃ (oa : Option Addr) (oc : Nat) (outs : List Int), v = .slice oa outs.length oc ∧ PtI w wx f pf (.slice oa outs.length oc) outs (.slice none 0 0) [] ∧ AddP ((r : Int) ∈ f.params) 0 [] outs)
  case first => as_aux_lemma =>
    have HP : Hid (PtI w w1 f pf (.slice none ([] : List Int).length 0) [] (.slice none ([] : List Int).length 0) []) := HP0.out
    cases pm with
    | true =>
      have HY := Lib.hid (HPM.out.1 rfl)
      have hba : Below w1.heap.size w1 (w1.alloc (.cells #[.int .i64 0] 3)) := (Below.refl _ _).alloc (Nat.le_refl _) _
      have HP1 := Lib.hid (HP.out.below hba)
      have HN1 := Lib.hid (NoInt.ofBelow hba)
      have HA2 : Hid (∀ j u, ([Value.int .i64 0] : List Value)[j]? = some u → (w1.alloc (.cells #[.int .i64 0] 3)).cell? ((⟨w1.heap.size, 0, none⟩ : Addr).add j) = some u) := fun j u hj => by
        cases j with
        | zero => simp at hj; subst hj; rw [Addr.add_lit, World.cell?_alloc_new]; rfl
        | succ j => simp at hj
      have HA3 : Hid (∀ u ∈ ([Value.int .i64 0] : List Value), u.oneCell' = true) := fun u hu => by simp at hu; subst hu; rfl
      have HBZ := Lib.hid HP1.out.be.size
      clear hba
      go_wp2_with (at_builtin; refine wpList_append_lies _ rfl _ _ 22 rfl w.heap.size 3 i0 (.int .i64 0) 1 8 Try.underlying22 hi0 hz0 hz1 hz2 rfl (by decide) _ _ _ rfl HP1.out.oo ⟨w1.heap.size, 0, none⟩ 1 1 [.int .i64 0] rfl rfl HA2.out HA3.out (by decide) (by first | (unfold maxLen; omega) | (unfold maxLen; simp)) (by first | omega | simp) HBZ.out _ rfl ?_)
      intro g' cap' w' hown' hgrow hwh hlt9
      have HQ := Lib.hid (HP1.out.pushO hown' hgrow (hwh.imp id fun e => e.trans (by simp)))
      have HN2 := Lib.hid (HN1.out.trans (NoInt.ofGrown HP1.out.oo hgrow))
      have HLQ : Hid (([] : List Int).length + 1 = (([] : List Int) ++ [0]).length) := by show _ = _; rw [List.length_append]; rfl
      clear hown' hgrow hwh HP1 HN1 HA2 HA3 HBZ
      go_wp2_with fail
      go_meet
      exact ⟨some ⟨g', 0, none⟩, cap', [0], rfl, HQ.out, .inl ⟨HY.out, rfl⟩⟩
    | false =>
      have HN : Hid (¬ (r : Int) ∈ f.params) := fun h => by have := HPM.out.2 h; cases this
      go_wp2_with fail
      go_meet
      exact ⟨none, 0, [], rfl, HP.out, .inr ⟨HN.out, rfl⟩⟩
  case rest => as_aux_lemma =>
    obtain ⟨oa0, oc0, outs0, rfl, hp, ha⟩ := hcut
    have HP := Lib.hid hp
    have HADD := Lib.hid ha
    have hol0 := ha.len
    have c3 := hp.bf.cell 3
    simp only [fC, List.getElem?_cons_zero, List.getElem?_cons_succ] at c3
    rw [HSN.out] at c3
    clear hp ha HP0 HPM
    go_wp2_with fail
    clear c3
    go_loopw [6, 7, 8, 23] (fun u6 u7 u8 u23 wr => ∃ (i : Nat) (oa ca : Option Addr) (oc cc : Nat) (outs calls : List Int), i ≤ nb ∧ u23 = .int .i64 (i : Int) ∧ u8 = .int .i64 (atI f i) ∧ u6 = .slice oa outs.length oc ∧ u7 = .slice ca calls.length cc ∧ PtI w wr f pf (.slice oa outs.length oc) outs (.slice ca calls.length cc) calls ∧ (∀ s, s ∈ outs ↔ PtP f i r s) ∧ (∀ s, s ∈ calls ↔ CallPt f i s) ∧ (outs.length : Int) ≤ 1 + 2 * atI f i ∧ (calls.length : Int) ≤ atI f i) (fun _ _ _ u _ => nb - (intOf u).toNat)
    case atStart =>
      refine ⟨0, oa0, none, oc0, 0, outs0, [], Nat.zero_le _, rfl, rfl, rfl, rfl, HP.out, fun s => ?_, fun s => ⟨fun h => (by cases h), fun ⟨i, hi, _⟩ => absurd hi (Nat.not_lt_zero _)⟩, by simp [atI] at hol0 ⊢; omega, by simp [atI]⟩
      rw [HADD.out.mem]
      constructor
      · rintro (h | h)
        · cases h
        · exact .inl h
      · rintro (h | ⟨i, hi, _⟩)
        · exact .inr h
        · exact absurd hi (Nat.not_lt_zero _)
    case round =>
      clear HP HADD hol0
      obtain ⟨i, oa, ca, oc, cc, outs, calls, hi, rfl, rfl, rfl, rfl, hp, hmo, hmc, hlo, hlc⟩ := hrel
      have HP := Lib.hid hp
      have HMO := Lib.hid hmo
      have HMC := Lib.hid hmc
      clear hp hmo hmc
      by_cases hlt : i < nb
      ·
        have hib : i < f.blocks.length := by have := HOK.out.nbl; omega
        obtain ⟨gb, ob, hsa, hgb, d0, d1, d2, d3, d4, d5, d6⟩ := HF.out.cells HP.out.be hib
        have hbo : f.blocks[i].Ok w := HF.out.blocks _ (List.getElem_mem _)
        rw [VF.blk_get f hib] at d0 d1 d2 d3 d4 d5 d6 hbo
        have hins := HOK.out.ins i hlt
        have ha1 := atI_pos f i
        have ha2 := atI_le HOK.out.ins i (by omega)
        have HAT : Hid (atI f (i + 1) = atI f i + 2 * (f.blk i).ins.length + 2) := rfl
        have HPN := Lib.hid fun s => ptP_next (f := f) (i := i) (r := r) (s := s)
        have HCN := Lib.hid fun s => callPt_next (f := f) (i := i) (s := s)
        obtain ⟨bk, hbk⟩ : ∃ b, b = f.blk i := ⟨_, rfl⟩
        rw [← hbk] at d0 d1 d2 d3 d4 d5 d6 hbo hins HAT HPN HCN
        have HBK := Lib.hid hbk
        have hbl := hbo.len
        have HBO := Lib.hid hbo
        obtain ⟨sb, hsb⟩ : ∃ s, s = bk.sa := ⟨_, rfl⟩
        rw [← hsb] at d0
        have HSB := Lib.hid hsb
        obtain ⟨a0, ha0⟩ : ∃ a, a = atI f i := ⟨_, rfl⟩
        rw [← ha0] at ha1 ha2 HAT HPN HCN hlo hlc ⊢
        rw [hbl] at HAT HPN HCN hins
        rw [hsa]
        clear hbk hsb hbo ha0 hsa
        have hb4 : Below wr.heap.size wr (wr.alloc (.cells #[.slice sb bk.sn bk.sc, .int .i64 bk.e.kind, .int .i64 bk.e.op, .int .i64 bk.e.a, .int .i64 bk.e.b, .int .i64 bk.e.n, .slice bk.e.sa bk.e.sn bk.e.sc] 63)) := (Below.refl _ _).alloc (Nat.le_refl _) _
        have HP4 := Lib.hid (HP.out.below hb4)
        have HBV : Hid (Blk (wr.alloc (.cells #[.slice sb bk.sn bk.sc, .int .i64 bk.e.kind, .int .i64 bk.e.op, .int .i64 bk.e.a, .int .i64 bk.e.b, .int .i64 bk.e.n, .slice bk.e.sa bk.e.sn bk.e.sc] 63)) wr.heap.size 63 [.slice sb bk.sn bk.sc, .int .i64 bk.e.kind, .int .i64 bk.e.op, .int .i64 bk.e.a, .int .i64 bk.e.b, .int .i64 bk.e.n, .slice bk.e.sa bk.e.sn bk.e.sc]) := Blk.new wr _ _
        go_upto_region 8 with fail
        obtain ⟨vb, hvb⟩ : ∃ x, x = wr.heap.size := ⟨_, rfl⟩
        rw [← hvb] at HBV ⊢
        clear hvb d0 d1 d2 d3 d4 d5 d6 HP hb4
        generalize wr.alloc (.cells #[.slice sb bk.sn bk.sc, .int .i64 bk.e.kind, .int .i64 bk.e.op, .int .i64 bk.e.a, .int .i64 bk.e.b, .int .i64 bk.e.n, .slice bk.e.sa bk.e.sn bk.e.sc] 63) = w4 at HP4 HBV ⊢
        have c0 := HP4.out.bf.cell 0
        have c1 := HP4.out.bf.cell 1
        have c2 := HP4.out.bf.cell 2
        have c3 := HP4.out.bf.cell 3
        simp only [fC, List.getElem?_cons_zero, List.getElem?_cons_succ] at c0 c1 c2 c3
        have HA := Lib.hid (HAL.out w4 HP4.out.be i 0 r hlt (by omega) (by omega) (by omega))
        go_wp2_with fail
        refine HA.out.mono ?_
        rintro e w5 ⟨am, rfl, ham, hb5⟩
        go_upto_if 31 with fail
        have HP := Lib.hid (HP4.out.below hb5)
        have HBV5 := Lib.hid (HBV.out.below hb5 (Blk.lt HBV.out))
        have HAMX : Hid (am = true ↔ LiveI f i r) := ham.trans (aliveP_zero (by omega))
        clear c0 c1 c2 c3 ham hb5 HP4 HBV HA
        go_cut [6] from 24 to 102 (fun v wx => ∃ (oa1 : Option Addr) (oc1 : Nat) (outs1 : List Int), v = .slice oa1 outs1.length oc1 ∧ PtI w wx f pf (.slice oa1 outs1.length oc1) outs1 (.slice ca calls.length cc) calls ∧ AddP (LiveI f i r) a0 outs outs1 ∧ Blk wx vb 63 [.slice sb bk.sn bk.sc, .int .i64 bk.e.kind, .int .i64 bk.e.op, .int .i64 bk.e.a, .int .i64 bk.e.b, .int .i64 bk.e.n, .slice bk.e.sa bk.e.sn bk.e.sc])
        case first => as_aux_lemma =>
          cases am with
          | true =>
            have HY := Lib.hid (HAMX.out.1 rfl)
            have hba : Below w5.heap.size w5 (w5.alloc (.cells #[.int .i64 a0] 3)) := (Below.refl _ _).alloc (Nat.le_refl _) _
            have HP1 := Lib.hid (HP.out.below hba)
            have HN1 := Lib.hid (NoInt.ofBelow hba)
            have HA2 : Hid (∀ j u, ([Value.int .i64 a0] : List Value)[j]? = some u → (w5.alloc (.cells #[.int .i64 a0] 3)).cell? ((⟨w5.heap.size, 0, none⟩ : Addr).add j) = some u) := fun j u hj => by
              cases j with
              | zero => simp at hj; subst hj; rw [Addr.add_lit, World.cell?_alloc_new]; rfl
              | succ j => simp at hj
            have HA3 : Hid (∀ u ∈ ([Value.int .i64 a0] : List Value), u.oneCell' = true) := fun u hu => by simp at hu; subst hu; rfl
            have HBZ := Lib.hid HP1.out.be.size
            clear hba
            go_wp2_with (at_builtin; refine wpList_append_lies _ rfl _ _ 22 rfl w.heap.size 3 i0 (.int .i64 0) 1 8 Try.underlying22 hi0 hz0 hz1 hz2 rfl (by decide) _ _ _ rfl HP1.out.oo ⟨w5.heap.size, 0, none⟩ 1 1 [.int .i64 a0] rfl rfl HA2.out HA3.out (by decide) (by first | (unfold maxLen; omega) | (unfold maxLen; simp)) (by first | omega | simp) HBZ.out _ rfl ?_)
            intro g' cap' w' hown' hgrow hwh hlt9
            have HQ := Lib.hid (HP1.out.pushO hown' hgrow (hwh.imp id fun e => e.trans (by simp)))
            have HN2 := Lib.hid (HN1.out.trans (NoInt.ofGrown HP1.out.oo hgrow))
            have HLQ : Hid (outs.length + 1 = (outs ++ [a0]).length) := by show _ = _; rw [List.length_append]; rfl
            clear hown' hgrow hwh HP1 HN1 HA2 HA3 HBZ
            have HBV6 := Lib.hid (HN2.out.blk HBV5.out (by decide))
            clear HN2
            go_wp2_with fail
            go_meet
            exact ⟨some ⟨g', 0, none⟩, cap', outs ++ [a0], by rw [← HLQ.out], HQ.out, .inl ⟨HY.out, rfl⟩, HBV6.out⟩
          | false =>
            have HN : Hid (¬ LiveI f i r) := fun h => by have := HAMX.out.2 h; cases this
            go_wp2_with fail
            go_meet
            exact ⟨oa, oc, outs, rfl, HP.out, .inr ⟨HN.out, rfl⟩, HBV5.out⟩
        case rest => as_aux_lemma =>
          clear HAMX HP HBV5
          obtain ⟨oa1, oc1, outs1, rfl, hp, had, hbv⟩ := hcut
          have HP := Lib.hid hp
          have HBV := Lib.hid hbv
          have HAD1 := Lib.hid had
          have hol1 := had.len
          have v0 := hbv.cell 0
          simp only [List.getElem?_cons_zero] at v0
          clear hp had hbv
          go_upto_block 2 with fail
          go_cut [6, 7, 8, 12] from 36 to 102 (fun v6 v7 v8 _ wx => ∃ (oa2 ca2 : Option Addr) (oc2 cc2 : Nat) (outs2 calls2 : List Int), v6 = .slice oa2 outs2.length oc2 ∧ v7 = .slice ca2 calls2.length cc2 ∧ v8 = .int .i64 (a0 + 2 * (bk.sn : Int)) ∧ PtI w wx f pf (.slice oa2 outs2.length oc2) outs2 (.slice ca2 calls2.length cc2) calls2 ∧
            (∀ s, s ∈ outs2 ↔ s ∈ outs1 ∨ PtQ bk r a0 bk.sn s) ∧ (∀ s, s ∈ calls2 ↔ s ∈ calls ∨ ClQ bk a0 bk.sn s) ∧ outs2.length ≤ outs1.length + 2 * bk.sn ∧ calls2.length ≤ calls.length + bk.sn ∧ Blk wx vb 63 [.slice sb bk.sn bk.sc, .int .i64 bk.e.kind, .int .i64 bk.e.op, .int .i64 bk.e.a, .int .i64 bk.e.b, .int .i64 bk.e.n, .slice bk.e.sa bk.e.sn bk.e.sc])
          case first => as_aux_lemma =>
            go_wp2_with fail
            clear v0
            go_loopw [6, 7, 8, 39] (fun u6 u7 u8 u39 wr => ∃ (q : Nat) (oa2 ca2 : Option Addr) (oc2 cc2 : Nat) (outs2 calls2 : List Int), q ≤ bk.sn ∧ u39 = .int .i64 (q : Int) ∧ u6 = .slice oa2 outs2.length oc2 ∧ u7 = .slice ca2 calls2.length cc2 ∧ u8 = .int .i64 (a0 + 2 * (q : Int)) ∧ PtI w wr f pf (.slice oa2 outs2.length oc2) outs2 (.slice ca2 calls2.length cc2) calls2 ∧
              (∀ s, s ∈ outs2 ↔ s ∈ outs1 ∨ PtQ bk r a0 q s) ∧ (∀ s, s ∈ calls2 ↔ s ∈ calls ∨ ClQ bk a0 q s) ∧ outs2.length ≤ outs1.length + 2 * q ∧ calls2.length ≤ calls.length + q ∧ Blk wr vb 63 [.slice sb bk.sn bk.sc, .int .i64 bk.e.kind, .int .i64 bk.e.op, .int .i64 bk.e.a, .int .i64 bk.e.b, .int .i64 bk.e.n, .slice bk.e.sa bk.e.sn bk.e.sc]) (fun _ _ _ u _ => bk.sn - (intOf u).toNat)
            case atStart => exact ⟨0, oa1, ca, oc1, cc, outs1, calls, Nat.zero_le _, rfl, rfl, rfl, by simp, HP.out, fun s => ⟨.inl, fun h => h.elim id fun ⟨q, x, h, _⟩ => absurd h (Nat.not_lt_zero _)⟩, fun s => ⟨.inl, fun h => h.elim id fun ⟨q, x, h, _⟩ => absurd h (Nat.not_lt_zero _)⟩, Nat.le_refl _, Nat.le_refl _, HBV.out⟩
            case round =>
              clear HP HBV
              obtain ⟨q, oa2, ca2, oc2, cc2, outs2, calls2, hq, rfl, rfl, rfl, rfl, hp, hmo, hmc, hlo2, hlc2, hbv⟩ := hrel
              have HP := Lib.hid hp
              have HMO2 := Lib.hid hmo
              have HMC2 := Lib.hid hmc
              have HBV := Lib.hid hbv
              clear hp hmo hmc hbv
              by_cases hql : q < bk.sn
              ·
                have hqb : q < bk.ins.length := by omega
                obtain ⟨z, hz⟩ : ∃ z, z = bk.ins[q] := ⟨_, rfl⟩
                obtain ⟨gi, oi, hsb2, hgi, d0, d1, d2, d3, d4, d5⟩ := HBO.out.cells HP.out.be hqb
                have hzo := HBO.out.ins bk.ins[q] (List.getElem_mem _)
                rw [← hz] at d0 d1 d2 d3 d4 d5 hzo
                rw [← HSB.out] at hsb2
                subst hsb2
                have HZQ : Hid (bk.ins[q]? = some z) := by rw [hz]; exact List.getElem?_eq_getElem hqb
                have HZO := Lib.hid hzo
                obtain ⟨t, ht⟩ : ∃ t, t = a0 + 2 * (q : Int) := ⟨_, rfl⟩
                rw [← ht]
                have HT := Lib.hid ht
                have ht1 : 0 ≤ t ∧ t ≤ 900000000 := by omega
                have hb5 : Below wr.heap.size wr (wr.alloc (.cells #[.int .i64 z.op, .int .i64 z.d, .int .i64 z.a, .int .i64 z.b, .int .i64 z.n, .slice z.sa z.sn z.sc] 65)) := (Below.refl _ _).alloc (Nat.le_refl _) _
                have HXV : Hid (Blk (wr.alloc (.cells #[.int .i64 z.op, .int .i64 z.d, .int .i64 z.a, .int .i64 z.b, .int .i64 z.n, .slice z.sa z.sn z.sc] 65)) wr.heap.size 65 (viC z)) := Blk.new wr _ _
                have HP5 := Lib.hid (HP.out.below hb5)
                have HBV5 := Lib.hid (HBV.out.below hb5 (Blk.lt HBV.out))
                clear hz ht hzo HP HBV
                go_upto_region 13 with fail
                obtain ⟨xb, hxb⟩ : ∃ x, x = wr.heap.size := ⟨_, rfl⟩
                rw [← hxb] at HXV ⊢
                clear hxb d0 d1 d2 d3 d4 d5 hb5
                generalize wr.alloc (.cells #[.int .i64 z.op, .int .i64 z.d, .int .i64 z.a, .int .i64 z.b, .int .i64 z.n, .slice z.sa z.sn z.sc] 65) = w5 at HP5 HBV5 HXV ⊢
                have d0 := HXV.out.cell 0
                have d1 := HXV.out.cell 1
                have d2 := HXV.out.cell 2
                have d3 := HXV.out.cell 3
                have d4 := HXV.out.cell 4
                have d5 := HXV.out.cell 5
                simp only [viC, List.getElem?_cons_zero, List.getElem?_cons_succ] at d0 d1 d2 d3 d4 d5
                have HUS := Lib.hid (insUses_any z w5 (HZO.out.below HP5.out.be))
                unfold viV at HUS
                go_wp2_with fail
                refine HUS.out.mono ?_
                rintro e w6 ⟨v6, rfl, ho6, hb6⟩
                have HP6 := Lib.hid (HP5.out.below hb6)
                have HBV6 := Lib.hid (HBV5.out.below hb6 (Blk.lt HBV5.out))
                have HXV6 := Lib.hid (HXV.out.below hb6 (Blk.lt HXV.out))
                obtain ⟨a9, c9, rfl⟩ := ownG_shape ho6
                have HA9 := Lib.hid (among_any w6 a9 _ c9 (usesV z) (came_owns_ints ho6) (r : Int))
                obtain ⟨um, hum⟩ : ∃ x, x = decide ((r : Int) ∈ usesV z) := ⟨_, rfl⟩
                rw [← hum] at HA9
                have HUM : Hid (um = true ↔ (r : Int) ∈ usesV z) := by rw [hum]; exact decide_eq_true_iff
                generalize (usesV z).length = lz at HA9 ⊢
                clear hum ho6 hb6 HUS d0 d1 d2 d3 d4 d5 HP5 HBV5 HXV
                go_wp2_with fail
                refine HA9.out.mono ?_
                rintro e wx ⟨rfl, hwx⟩
                rw [← hwx]
                clear hwx wx HA9
                go_upto_if 46 with fail
                go_cut [6] from 40 to 74 (fun v wx => ∃ (oa3 : Option Addr) (oc3 : Nat) (outs3 : List Int), v = .slice oa3 outs3.length oc3 ∧ PtI w wx f pf (.slice oa3 outs3.length oc3) outs3 (.slice ca2 calls2.length cc2) calls2 ∧ AddP ((r : Int) ∈ usesV z) t outs2 outs3 ∧ Blk wx vb 63 [.slice (some ⟨gi, oi, none⟩) bk.sn bk.sc, .int .i64 bk.e.kind, .int .i64 bk.e.op, .int .i64 bk.e.a, .int .i64 bk.e.b, .int .i64 bk.e.n, .slice bk.e.sa bk.e.sn bk.e.sc] ∧ Blk wx xb 65 (viC z))
                case first => as_aux_lemma =>
                  cases um with
                  | true =>
                    have HY := Lib.hid (HUM.out.1 rfl)
                    have hba : Below w6.heap.size w6 (w6.alloc (.cells #[.int .i64 t] 3)) := (Below.refl _ _).alloc (Nat.le_refl _) _
                    have HP1 := Lib.hid (HP6.out.below hba)
                    have HN1 := Lib.hid (NoInt.ofBelow hba)
                    have HA2 : Hid (∀ j u, ([Value.int .i64 t] : List Value)[j]? = some u → (w6.alloc (.cells #[.int .i64 t] 3)).cell? ((⟨w6.heap.size, 0, none⟩ : Addr).add j) = some u) := fun j u hj => by
                      cases j with
                      | zero => simp at hj; subst hj; rw [Addr.add_lit, World.cell?_alloc_new]; rfl
                      | succ j => simp at hj
                    have HA3 : Hid (∀ u ∈ ([Value.int .i64 t] : List Value), u.oneCell' = true) := fun u hu => by simp at hu; subst hu; rfl
                    have HBZ := Lib.hid HP1.out.be.size
                    clear hba
                    go_wp2_with (at_builtin; refine wpList_append_lies _ rfl _ _ 22 rfl w.heap.size 3 i0 (.int .i64 0) 1 8 Try.underlying22 hi0 hz0 hz1 hz2 rfl (by decide) _ _ _ rfl HP1.out.oo ⟨w6.heap.size, 0, none⟩ 1 1 [.int .i64 t] rfl rfl HA2.out HA3.out (by decide) (by first | (unfold maxLen; omega) | (unfold maxLen; simp)) (by first | omega | simp) HBZ.out _ rfl ?_)
                    intro g' cap' w' hown' hgrow hwh hlt9
                    have HQ := Lib.hid (HP1.out.pushO hown' hgrow (hwh.imp id fun e => e.trans (by simp)))
                    have HN2 := Lib.hid (HN1.out.trans (NoInt.ofGrown HP1.out.oo hgrow))
                    have HLQ : Hid (outs2.length + 1 = (outs2 ++ [t]).length) := by show _ = _; rw [List.length_append]; rfl
                    clear hown' hgrow hwh HP1 HN1 HA2 HA3 HBZ
                    have HBV7 := Lib.hid (HN2.out.blk HBV6.out (by decide))
                    have HXV7 := Lib.hid (HN2.out.blk HXV6.out (by decide))
                    clear HN2
                    go_wp2_with fail
                    go_meet
                    exact ⟨some ⟨g', 0, none⟩, cap', outs2 ++ [t], by rw [← HLQ.out], HQ.out, .inl ⟨HY.out, rfl⟩, HBV7.out, HXV7.out⟩
                  | false =>
                    have HN : Hid (¬ (r : Int) ∈ usesV z) := fun h => by have := HUM.out.2 h; cases this
                    go_wp2_with fail
                    go_meet
                    exact ⟨oa2, oc2, outs2, rfl, HP6.out, .inr ⟨HN.out, rfl⟩, HBV6.out, HXV6.out⟩
                case rest => as_aux_lemma =>
                  clear HUM HP6 HBV6 HXV6
                  obtain ⟨oa3, oc3, outs3, rfl, hp, had, hbv, hxv⟩ := hcut
                  have HP3 := Lib.hid hp
                  have HAD3 := Lib.hid had
                  have hol3 := had.len
                  have HBV3 := Lib.hid hbv
                  have HXV3 := Lib.hid hxv
                  have d0 := hxv.cell 0
                  have d1 := hxv.cell 1
                  have d2 := hxv.cell 2
                  have d3 := hxv.cell 3
                  have d4 := hxv.cell 4
                  have d5 := hxv.cell 5
                  simp only [viC, List.getElem?_cons_zero, List.getElem?_cons_succ] at d0 d1 d2 d3 d4 d5
                  have HID := Lib.hid (insDef_any z wc)
                  unfold viV at HID
                  clear hp had hbv hxv
                  obtain ⟨dm, hdm⟩ : ∃ x, x = (defV z == (r : Int)) := ⟨_, rfl⟩
                  have HDM : Hid (dm = true ↔ (r : Int) = defV z) := by rw [hdm]; exact ⟨fun h => (eq_of_beq h).symm, fun h => by rw [h]; simp⟩
                  go_wp2_with fail
                  refine HID.out.mono ?_
                  rintro e w7 ⟨rfl, hb7⟩
                  go_upto_if 54 with fail
                  rw [← hdm]
                  have HP7 := Lib.hid (HP3.out.below hb7)
                  have HBV7 := Lib.hid (HBV3.out.below hb7 (Blk.lt HBV3.out))
                  have HXV7 := Lib.hid (HXV3.out.below hb7 (Blk.lt HXV3.out))
                  clear hdm hb7 HID d0 d1 d2 d3 d4 d5 HP3 HBV3 HXV3
                  go_cut [6] from 40 to 74 (fun v wx => ∃ (oa4 : Option Addr) (oc4 : Nat) (outs4 : List Int), v = .slice oa4 outs4.length oc4 ∧ PtI w wx f pf (.slice oa4 outs4.length oc4) outs4 (.slice ca2 calls2.length cc2) calls2 ∧ AddP ((r : Int) = defV z) (t + 1) outs3 outs4 ∧ Blk wx vb 63 [.slice (some ⟨gi, oi, none⟩) bk.sn bk.sc, .int .i64 bk.e.kind, .int .i64 bk.e.op, .int .i64 bk.e.a, .int .i64 bk.e.b, .int .i64 bk.e.n, .slice bk.e.sa bk.e.sn bk.e.sc] ∧ Blk wx xb 65 (viC z))
                  case first => as_aux_lemma =>
                    cases dm with
                    | true =>
                      have HY := Lib.hid (HDM.out.1 rfl)
                      have hba : Below w7.heap.size w7 (w7.alloc (.cells #[.int .i64 (t + 1)] 3)) := (Below.refl _ _).alloc (Nat.le_refl _) _
                      have HP1 := Lib.hid (HP7.out.below hba)
                      have HN1 := Lib.hid (NoInt.ofBelow hba)
                      have HA2 : Hid (∀ j u, ([Value.int .i64 (t + 1)] : List Value)[j]? = some u → (w7.alloc (.cells #[.int .i64 (t + 1)] 3)).cell? ((⟨w7.heap.size, 0, none⟩ : Addr).add j) = some u) := fun j u hj => by
                        cases j with
                        | zero => simp at hj; subst hj; rw [Addr.add_lit, World.cell?_alloc_new]; rfl
                        | succ j => simp at hj
                      have HA3 : Hid (∀ u ∈ ([Value.int .i64 (t + 1)] : List Value), u.oneCell' = true) := fun u hu => by simp at hu; subst hu; rfl
                      have HBZ := Lib.hid HP1.out.be.size
                      clear hba
                      go_wp2_with (at_builtin; refine wpList_append_lies _ rfl _ _ 22 rfl w.heap.size 3 i0 (.int .i64 0) 1 8 Try.underlying22 hi0 hz0 hz1 hz2 rfl (by decide) _ _ _ rfl HP1.out.oo ⟨w7.heap.size, 0, none⟩ 1 1 [.int .i64 (t + 1)] rfl rfl HA2.out HA3.out (by decide) (by first | (unfold maxLen; omega) | (unfold maxLen; simp)) (by first | omega | simp) HBZ.out _ rfl ?_)
                      intro g' cap' w' hown' hgrow hwh hlt9
                      have HQ := Lib.hid (HP1.out.pushO hown' hgrow (hwh.imp id fun e => e.trans (by simp)))
                      have HN2 := Lib.hid (HN1.out.trans (NoInt.ofGrown HP1.out.oo hgrow))
                      have HLQ : Hid (outs3.length + 1 = (outs3 ++ [(t + 1)]).length) := by show _ = _; rw [List.length_append]; rfl
                      clear hown' hgrow hwh HP1 HN1 HA2 HA3 HBZ
                      have HBV8 := Lib.hid (HN2.out.blk HBV7.out (by decide))
                      have HXV8 := Lib.hid (HN2.out.blk HXV7.out (by decide))
                      clear HN2
                      go_wp2_with fail
                      go_meet
                      exact ⟨some ⟨g', 0, none⟩, cap', outs3 ++ [t + 1], by rw [← HLQ.out], HQ.out, .inl ⟨HY.out, rfl⟩, HBV8.out, HXV8.out⟩
                    | false =>
                      have HN : Hid (¬ (r : Int) = defV z) := fun h => by have := HDM.out.2 h; cases this
                      go_wp2_with fail
                      go_meet
                      exact ⟨oa3, oc3, outs3, rfl, HP7.out, .inr ⟨HN.out, rfl⟩, HBV7.out, HXV7.out⟩
                  case rest => as_aux_lemma =>
                    clear HDM HP7 HBV7 HXV7
                    obtain ⟨oa4, oc4, outs4, rfl, hp, had, hbv, hxv⟩ := hcut
                    have HP4 := Lib.hid hp
                    have hol4 := had.len
                    have HBV4 := Lib.hid hbv
                    have d0 := hxv.cell 0
                    simp only [viC, List.getElem?_cons_zero, List.getElem?_cons_succ] at d0
                    have HMO4 : Hid (∀ s, s ∈ outs4 ↔ s ∈ outs1 ∨ PtQ bk r a0 (q + 1) s) := fun s => by
                      rw [had.mem, HAD3.out.mem, HMO2.out, ptQ_next HZQ.out, ← HT.out]
                      constructor
                      · rintro (((h | h) | h) | h)
                        · exact .inl h
                        · exact .inr (.inl h)
                        · exact .inr (.inr (.inl h))
                        · exact .inr (.inr (.inr h))
                      · rintro (h | h | h | h)
                        · exact .inl (.inl (.inl h))
                        · exact .inl (.inl (.inr h))
                        · exact .inl (.inr h)
                        · exact .inr h
                    have hlo4 : outs4.length ≤ outs1.length + 2 * (q + 1) := by omega
                    clear hp had hbv hxv HAD3 HMO2 hol4
                    have hcb : callB z.op = ((z.op == 101) || (z.op == 102)) := rfl
                    cases hc : callB z.op
                    · have h1 : (z.op == 101) = false := by rw [hcb] at hc; simp at hc; simp; exact hc.1
                      have h2 : (z.op == 102) = false := by rw [hcb] at hc; simp at hc; simp; exact hc.2
                      have HMC4 : Hid (∀ s, s ∈ calls2 ↔ s ∈ calls ∨ ClQ bk a0 (q + 1) s) := fun s => by
                        rw [HMC2.out, clQ_next HZQ.out, hc]
                        simp
                      clear hcb hc
                      go_wp2_with fail
                      go_roundw
                      case rel => exact ⟨q + 1, oa4, ca2, oc4, cc2, outs4, calls2, by omega, by go_num, rfl, rfl, by rw [HT.out]; go_num, HP4.out, HMO4.out, HMC4.out, hlo4, by omega, HBV4.out⟩
                      case measure => simp [intOf]; omega
                    · have hk1 : (z.op == 101) = true ∨ ((z.op == 101) = false ∧ (z.op == 102) = true) := by
                        rw [hcb] at hc
                        cases h1 : (z.op == 101)
                        · right; rw [h1] at hc; exact ⟨rfl, by simpa using hc⟩
                        · left; rfl
                      have HMC4 : Hid (∀ s, s ∈ calls2 ++ [t] ↔ s ∈ calls ∨ ClQ bk a0 (q + 1) s) := fun s => by
                        rw [List.mem_append, HMC2.out, clQ_next HZQ.out, hc, ← HT.out]
                        simp [or_assoc]
                      clear hcb hc
                      rcases hk1 with h1 | ⟨h1, h2⟩
                      all_goals
                        have hba : Below wc.heap.size wc (wc.alloc (.cells #[.int .i64 t] 3)) := (Below.refl _ _).alloc (Nat.le_refl _) _
                        have HP1 := Lib.hid (HP4.out.below hba)
                        have HN1 := Lib.hid (NoInt.ofBelow hba)
                        have HA2 : Hid (∀ j u, ([Value.int .i64 t] : List Value)[j]? = some u → (wc.alloc (.cells #[.int .i64 t] 3)).cell? ((⟨wc.heap.size, 0, none⟩ : Addr).add j) = some u) := fun j u hj => by
                          cases j with
                          | zero => simp at hj; subst hj; rw [Addr.add_lit, World.cell?_alloc_new]; rfl
                          | succ j => simp at hj
                        have HA3 : Hid (∀ u ∈ ([Value.int .i64 t] : List Value), u.oneCell' = true) := fun u hu => by simp at hu; subst hu; rfl
                        have HBZ := Lib.hid HP1.out.be.size
                        clear hba
                        go_wp2_with (at_builtin; refine wpList_append_lies _ rfl _ _ 22 rfl w.heap.size 3 i0 (.int .i64 0) 1 8 Try.underlying22 hi0 hz0 hz1 hz2 rfl (by decide) _ _ _ rfl HP1.out.co ⟨wc.heap.size, 0, none⟩ 1 1 [.int .i64 t] rfl rfl HA2.out HA3.out (by decide) (by first | (unfold maxLen; omega) | (unfold maxLen; simp)) (by first | omega | simp) HBZ.out _ rfl ?_)
                        intro g' cap' w' hown' hgrow hwh hlt9
                        have HQ := Lib.hid (HP1.out.pushC hown' hgrow (hwh.imp id fun e => e.trans (by simp)))
                        have HN2 := Lib.hid (HN1.out.trans (NoInt.ofGrown HP1.out.co hgrow))
                        have HLQ : Hid (calls2.length + 1 = (calls2 ++ [t]).length) := by show _ = _; rw [List.length_append]; rfl
                        clear hown' hgrow hwh HP1 HN1 HA2 HA3 HBZ
                        have HBV8 := Lib.hid (HN2.out.blk HBV4.out (by decide))
                        clear HN2
                        go_wp2_with fail
                        go_roundw
                        case rel => exact ⟨q + 1, oa4, some ⟨g', 0, none⟩, oc4, cap', outs4, calls2 ++ [t], by omega, by go_num, rfl, by rw [← HLQ.out], by rw [HT.out]; go_num, HQ.out, HMO4.out, HMC4.out, hlo4, by rw [← HLQ.out]; omega, HBV8.out⟩
                        case measure => simp [intOf]; omega
              ·
                have HQ : Hid (q = bk.sn) := by show _ = _; omega
                have HMO3 : Hid (∀ s, s ∈ outs2 ↔ s ∈ outs1 ∨ PtQ bk r a0 bk.sn s) := by rw [← HQ.out]; exact HMO2.out
                have HMC3 : Hid (∀ s, s ∈ calls2 ↔ s ∈ calls ∨ ClQ bk a0 bk.sn s) := by rw [← HQ.out]; exact HMC2.out
                go_wp2_with fail
                go_meet
                exact ⟨oa2, ca2, oc2, cc2, outs2, calls2, rfl, rfl, by rw [HQ.out], HP.out, HMO3.out, HMC3.out, by omega, by omega, HBV.out⟩
          case rest => as_aux_lemma =>
            clear v0 HP HBV
            obtain ⟨oa2, ca2, oc2, cc2, outs2, calls2, rfl, rfl, rfl, hp, hmo, hmc, hlo2, hlc2, hbv⟩ := hcut
            have HP := Lib.hid hp
            have HMO2 := Lib.hid hmo
            have HMC2 := Lib.hid hmc
            have HBV := Lib.hid hbv
            have e2 := hbv.cell 3
            have e3 := hbv.cell 4
            simp only [List.getElem?_cons_zero, List.getElem?_cons_succ] at e2 e3
            obtain ⟨t, ht⟩ : ∃ t, t = a0 + 2 * (bk.sn : Int) := ⟨_, rfl⟩
            rw [← ht] at HAT HPN ⊢
            have HT := Lib.hid ht
            have ht1 : 0 ≤ t ∧ t ≤ 900000000 := by omega
            obtain ⟨em, hem⟩ : ∃ x, x = decide ((r : Int) ∈ endV bk.e) := ⟨_, rfl⟩
            have HEM : Hid (em = true ↔ (r : Int) ∈ endV bk.e) := by rw [hem]; exact decide_eq_true_iff
            have hab := end_mem (e := bk.e) (r := r) (by omega)
            clear hp hmo hmc hbv hem ht
            go_upto_region 21 with fail
            go_cut [75, 76, 77, 78, 79, 80, 81, 82, 83, 84, 85, 86] from 87 to 102 (fun _ _ _ _ _ _ _ _ _ _ _ v wx => v = .bool em ∧ wx = wc)
            case first => as_aux_lemma =>
              have hq : (em = true ∧ (bk.e.a == (r : Int)) = true) ∨ (em = true ∧ (bk.e.a == (r : Int)) = false ∧ (bk.e.b == (r : Int)) = true) ∨ (em = false ∧ (bk.e.a == (r : Int)) = false ∧ (bk.e.b == (r : Int)) = false) := by
                by_cases e : bk.e.a = (r : Int)
                · exact .inl ⟨HEM.out.2 (hab.2 (.inl e)), by simp [e]⟩
                · by_cases e' : bk.e.b = (r : Int)
                  · exact .inr (.inl ⟨HEM.out.2 (hab.2 (.inr e')), by simp [e], by simp [e']⟩)
                  · refine .inr (.inr ⟨?_, by simp [e], by simp [e']⟩)
                    cases hx : em with
                    | false => rfl
                    | true => exact ((hab.1 (HEM.out.1 hx)).elim e e').elim
              clear hab
              rcases hq with ⟨h0, h1⟩ | ⟨h0, h1, h2⟩ | ⟨h0, h1, h2⟩
              all_goals
                have H0 := Lib.hid h0
                clear h0
                go_wp2_with fail
                go_meet
                exact ⟨by rw [H0.out], rfl⟩
            case rest => as_aux_lemma =>
              obtain ⟨h86, hwc⟩ := hcut
              subst h86
              subst hwc
              clear e2 e3 hab
              go_upto_if 86 with fail
              go_cut [6] from 75 to 102 (fun v wx => ∃ (oa5 : Option Addr) (oc5 : Nat) (outs5 : List Int), v = .slice oa5 outs5.length oc5 ∧ PtI w wx f pf (.slice oa5 outs5.length oc5) outs5 (.slice ca2 calls2.length cc2) calls2 ∧ AddP ((r : Int) ∈ endV bk.e) t outs2 outs5)
              case first => as_aux_lemma =>
                cases em with
                | true =>
                  have HY := Lib.hid (HEM.out.1 rfl)
                  have hba : Below wc.heap.size wc (wc.alloc (.cells #[.int .i64 t] 3)) := (Below.refl _ _).alloc (Nat.le_refl _) _
                  have HP1 := Lib.hid (HP.out.below hba)
                  have HN1 := Lib.hid (NoInt.ofBelow hba)
                  have HA2 : Hid (∀ j u, ([Value.int .i64 t] : List Value)[j]? = some u → (wc.alloc (.cells #[.int .i64 t] 3)).cell? ((⟨wc.heap.size, 0, none⟩ : Addr).add j) = some u) := fun j u hj => by
                    cases j with
                    | zero => simp at hj; subst hj; rw [Addr.add_lit, World.cell?_alloc_new]; rfl
                    | succ j => simp at hj
                  have HA3 : Hid (∀ u ∈ ([Value.int .i64 t] : List Value), u.oneCell' = true) := fun u hu => by simp at hu; subst hu; rfl
                  have HBZ := Lib.hid HP1.out.be.size
                  clear hba
                  go_wp2_with (at_builtin; refine wpList_append_lies _ rfl _ _ 22 rfl w.heap.size 3 i0 (.int .i64 0) 1 8 Try.underlying22 hi0 hz0 hz1 hz2 rfl (by decide) _ _ _ rfl HP1.out.oo ⟨wc.heap.size, 0, none⟩ 1 1 [.int .i64 t] rfl rfl HA2.out HA3.out (by decide) (by first | (unfold maxLen; omega) | (unfold maxLen; simp)) (by first | omega | simp) HBZ.out _ rfl ?_)
                  intro g' cap' w' hown' hgrow hwh hlt9
                  have HQ := Lib.hid (HP1.out.pushO hown' hgrow (hwh.imp id fun e => e.trans (by simp)))
                  have HN2 := Lib.hid (HN1.out.trans (NoInt.ofGrown HP1.out.oo hgrow))
                  have HLQ : Hid (outs2.length + 1 = (outs2 ++ [t]).length) := by show _ = _; rw [List.length_append]; rfl
                  clear hown' hgrow hwh HP1 HN1 HA2 HA3 HBZ
                  go_wp2_with fail
                  go_meet
                  exact ⟨some ⟨g', 0, none⟩, cap', outs2 ++ [t], by rw [← HLQ.out], HQ.out, .inl ⟨HY.out, rfl⟩⟩
                | false =>
                  have HN : Hid (¬ (r : Int) ∈ endV bk.e) := fun h => by have := HEM.out.2 h; cases this
                  go_wp2_with fail
                  go_meet
                  exact ⟨oa2, oc2, outs2, rfl, HP.out, .inr ⟨HN.out, rfl⟩⟩
              case rest => as_aux_lemma =>
                clear HEM HP HBV
                obtain ⟨oa5, oc5, outs5, rfl, hp, had⟩ := hcut
                have HP5 := Lib.hid hp
                have HAD5 := Lib.hid had
                have hol5 := had.len
                have c0 := hp.bf.cell 0
                have c1 := hp.bf.cell 1
                have c2 := hp.bf.cell 2
                have c3 := hp.bf.cell 3
                simp only [fC, List.getElem?_cons_zero, List.getElem?_cons_succ] at c0 c1 c2 c3
                have HA := Lib.hid (HAA.out wc hp.be i r hlt (by omega) (by omega))
                clear hp had
                go_wp2_with fail
                refine HA.out.mono ?_
                rintro e w7 ⟨fm, rfl, hfm, hb7⟩
                have HP7 := Lib.hid (HP5.out.below hb7)
                rw [← HBK.out] at hfm
                have HFM := Lib.hid hfm
                have HMC8 : Hid (∀ s, s ∈ calls2 ↔ CallPt f (i + 1) s) := fun s => by rw [HMC2.out, HCN.out, HMC.out]
                have HMO8 : Hid (∀ outs8, AddP (∃ t : Nat, (t : Int) ∈ bk.e.to ∧ LiveI f t r) (t + 1) outs5 outs8 → ∀ s, s ∈ outs8 ↔ PtP f (i + 1) r s) := fun outs8 had s => by
                  rw [had.mem, HAD5.out.mem, HMO2.out, HAD1.out.mem, HMO.out, HPN.out]
                  constructor
                  · rintro ((((h | h) | h) | h) | h)
                    · exact .inl h
                    · exact .inr (.inl h)
                    · exact .inr (.inr (.inl h))
                    · exact .inr (.inr (.inr (.inl h)))
                    · exact .inr (.inr (.inr (.inr h)))
                  · rintro (h | h | h | h | h)
                    · exact .inl (.inl (.inl (.inl h)))
                    · exact .inl (.inl (.inl (.inr h)))
                    · exact .inl (.inl (.inr h))
                    · exact .inl (.inr h)
                    · exact .inr h
                have hlo9 : (outs5.length : Int) ≤ 1 + 2 * a0 + 2 + 2 * bk.sn := by omega
                have hlc9 : (calls2.length : Int) ≤ a0 + bk.sn := by omega
                clear hfm hb7 HA c0 c1 c2 c3 HP5 HAD5 HMO2 HMC2
                cases fm with
                | true =>
                  have HY := Lib.hid (HMO8.out (outs5 ++ [t + 1]) (.inl ⟨HFM.out.1 rfl, rfl⟩))
                  clear HMO8 HFM
                  have hba : Below w7.heap.size w7 (w7.alloc (.cells #[.int .i64 (t + 1)] 3)) := (Below.refl _ _).alloc (Nat.le_refl _) _
                  have HP1 := Lib.hid (HP7.out.below hba)
                  have HN1 := Lib.hid (NoInt.ofBelow hba)
                  have HA2 : Hid (∀ j u, ([Value.int .i64 (t + 1)] : List Value)[j]? = some u → (w7.alloc (.cells #[.int .i64 (t + 1)] 3)).cell? ((⟨w7.heap.size, 0, none⟩ : Addr).add j) = some u) := fun j u hj => by
                    cases j with
                    | zero => simp at hj; subst hj; rw [Addr.add_lit, World.cell?_alloc_new]; rfl
                    | succ j => simp at hj
                  have HA3 : Hid (∀ u ∈ ([Value.int .i64 (t + 1)] : List Value), u.oneCell' = true) := fun u hu => by simp at hu; subst hu; rfl
                  have HBZ := Lib.hid HP1.out.be.size
                  clear hba
                  go_wp2_with (at_builtin; refine wpList_append_lies _ rfl _ _ 22 rfl w.heap.size 3 i0 (.int .i64 0) 1 8 Try.underlying22 hi0 hz0 hz1 hz2 rfl (by decide) _ _ _ rfl HP1.out.oo ⟨w7.heap.size, 0, none⟩ 1 1 [.int .i64 (t + 1)] rfl rfl HA2.out HA3.out (by decide) (by first | (unfold maxLen; omega) | (unfold maxLen; simp)) (by first | omega | simp) HBZ.out _ rfl ?_)
                  intro g' cap' w' hown' hgrow hwh hlt9
                  have HQ := Lib.hid (HP1.out.pushO hown' hgrow (hwh.imp id fun e => e.trans (by simp)))
                  have HN2 := Lib.hid (HN1.out.trans (NoInt.ofGrown HP1.out.oo hgrow))
                  have HLQ : Hid (outs5.length + 1 = (outs5 ++ [(t + 1)]).length) := by show _ = _; rw [List.length_append]; rfl
                  clear hown' hgrow hwh HP1 HN1 HA2 HA3 HBZ
                  have HL9 : Hid (((outs5 ++ [t + 1]).length : Int) ≤ 1 + 2 * (t + 2)) := by show (_ : Int) ≤ _; rw [← HLQ.out]; have := HT.out; omega
                  have HL8 : Hid ((calls2.length : Int) ≤ t + 2) := by show (_ : Int) ≤ _; have := HT.out; omega
                  go_wp2_with fail
                  go_roundw
                  case rel => exact ⟨i + 1, some ⟨g', 0, none⟩, ca2, cap', cc2, outs5 ++ [t + 1], calls2, by omega, by go_num, by rw [HAT.out], by rw [← HLQ.out], rfl, HQ.out, HY.out, HMC8.out, by rw [HAT.out]; exact HL9.out, by rw [HAT.out]; exact HL8.out⟩
                  case measure => simp [intOf]; omega
                | false =>
                  have HY := Lib.hid (HMO8.out outs5 (.inr ⟨fun h => (by have := HFM.out.2 h; cases this), rfl⟩))
                  clear HMO8 HFM
                  have HL9 : Hid ((outs5.length : Int) ≤ 1 + 2 * (t + 2)) := by show (_ : Int) ≤ _; have := HT.out; omega
                  have HL8 : Hid ((calls2.length : Int) ≤ t + 2) := by show (_ : Int) ≤ _; have := HT.out; omega
                  go_wp2_with fail
                  go_roundw
                  case rel => exact ⟨i + 1, oa5, ca2, oc5, cc2, outs5, calls2, by omega, by go_num, by rw [HAT.out], rfl, rfl, HP7.out, HY.out, HMC8.out, by rw [HAT.out]; exact HL9.out, by rw [HAT.out]; exact HL8.out⟩
                  case measure => simp [intOf]; omega
      ·
        have ei : i = nb := by omega
        subst ei
        have ha2 := atI_le HOK.out.ins i (Nat.le_refl _)
        have h9 : outs.length ≤ 1000000000 ∧ calls.length ≤ 1000000000 := by omega
        go_wp2_with fail
        exact bodyPost_ret (v := .tuple #[.slice oa outs.length oc, .slice ca calls.length cc]) (by simp [results, Try.results25, go_sem]) rfl ⟨oa, ca, oc, cc, outs, calls, rfl, HP.out.oo, HP.out.co, HMO.out, HMC.out, h9.1, h9.2, HP.out.be⟩
end
end Go.Proofs.Ytlaogkbdjkofaaa
