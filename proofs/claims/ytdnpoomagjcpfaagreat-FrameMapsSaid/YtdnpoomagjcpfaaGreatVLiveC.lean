/- tile's Live. -/
import Derived.Test.YtdnpoomagjcpfaaGreatVCheck
namespace Go.Proofs.YtdnpoomagjcpfaaGreat
open Go.RowKit
set_option linter.unusedVariables false
set_option linter.unusedSimpArgs false

/-- an own row of rows of bools -/
structure EndV (w wr : World) (v : Value) (n : Nat) (Y : List (Nat → Bool)) (es : Nat → Nat) : Prop where
 own : wr.ownsRow w.heap.size 51 1 v Y.length ((List.range Y.length).map fun i => .slice (some ⟨es i, 0, none⟩) n n)
 row : ∀ i (hi : i < Y.length), BRow wr (es i) n Y[i]
def LiveCPost (f : VF) (n : Nat) (w : World) (e : Ending) (w' : World) : Prop :=
 Below w.heap.size w w' ∧ ((fnE f ≠ 0 ∧ e = .returned (.tuple #[.slice none 0 0, .slice none 0 0, .int .i64 (fnE f)])) ∨
  (fnE f = 0 ∧ ∃ G bs X v es, e = .returned (.tuple #[.slice (some ⟨G, 0, none⟩) f.sn f.sn, v, .int .i64 0]) ∧ BRows w' G f.sn n X bs ∧ (∀ i, i < f.sn → ∀ r, r < n → (X i r = true ↔ LiveI f i r)) ∧ EndV w w' v n ((List.range f.sn).map fun i => aftF (f.blk i).e.to X) es))
theorem fnE_zero {f : VF} (h : fnE f = 0) : 0 < f.sn ∧ f.sn ≤ 4096 ∧ (1 ≤ f.regs ∧ f.regs ≤ 8192) ∧ blkE f.regs f.sn 0 f.blocks = 0 := by
 unfold fnE at h
 split at h
 ·cases h
 ·rename_i h1
  have hb9 : bigV f = false := by simpa using h1
  simp only [bigV, Bool.or_eq_false_iff, decide_eq_false_iff_not, Bool.not_eq_false'] at hb9
  have h9 := inB_true.1 hb9.2
  split at h
  ·cases h
  ·split at h
   ·rename_i h3; exact absurd h h3
   ·split at h
    ·rename_i h4; exact absurd h h4
    ·rename_i h2 _ h4
     exact ⟨by omega, by have := hb9.1.2; omega, h9, Classical.not_not.1 h4⟩
theorem Tryz.infoR251 : (Tryz.prog.info? 51).map (fun i => (i.zero, i.size, i.bytes)) = some (some (.slice none 0 0), 1, 24) := by kernel_rfl
theorem EndV.below {w wr w' : World} {v : Value} {n : Nat} {Y : List (Nat → Bool)} {es : Nat → Nat} (h : EndV w wr v n Y es) (hb : Below wr.heap.size wr w') : EndV w w' v n Y es :=
 ⟨ownG_below h.own hb, fun i hi => (h.row i hi).below hb (Blk.lt (h.row i hi))⟩
set_option maxRecDepth 100000 in
theorem EndV.push {w wr : World} {v : Value} {n g : Nat} {Y : List (Nat → Bool)} {es : Nat → Nat} {l : Nat → Bool} (h : EndV w wr v n Y es) (hg : BRow wr g n l) (hw : w.heap.size ≤ wr.heap.size) (hY : Y.length ≤ 100000) (ty : TypeId) :
  ∃ v' w', (Builtin.append_ #[73, 73] ty #[v, .slice (some ⟨wr.heap.size, 0, none⟩) 1 1]).run Tryz.prog (wr.alloc (.cells #[.slice (some ⟨g, 0, none⟩) n n] 51)) = .ok v' w' ∧ EndV w w' v' n (Y ++ [l]) (fun i => if i = Y.length then g else es i) ∧
   (wr.alloc (.cells #[.slice (some ⟨g, 0, none⟩) n n] 51)).grownBy w' v.ownBlock := by
 obtain ⟨i, hi, hz, hs, hby⟩ := info_partsV Tryz.infoR251
 have hbk := Blk.new wr [.slice (some ⟨g, 0, none⟩) n n] 51
 obtain ⟨v', w', e1, e2, e3, _⟩ := run_append_own (P := Tryz.prog) (wr.alloc (.cells #[.slice (some ⟨g, 0, none⟩) n n] 51)) w.heap.size 73 ty 51 i (.slice none 0 0) 1 24 Tryz.underlying73 hi hz hs hby rfl (by decide) v Y.length _ (h.own.alloc _) ⟨wr.heap.size, 0, none⟩ 1 1 [.slice (some ⟨g, 0, none⟩) n n] rfl (fun j u hu => by
  rw [Addr.add_lit, Nat.zero_add]
  exact (hbk.cell j).trans hu) (by intro u hu; simp at hu; rw [hu]; rfl) (by unfold maxLen; omega) (by omega) (by simp; omega)
 have key : ∀ b q (l' : Nat → Bool), BRow wr b q l' → BRow w' b q l' := fun b q l' hb => by
  have h1 : BRow (wr.alloc (.cells #[.slice (some ⟨g, 0, none⟩) n n] 51)) b q l' := Blk.alloc hb _
  refine Blk.of_heap h1 (e3.block b (Blk.lt h1) fun e => ?_)
  obtain ⟨_, h2⟩ := h.own
  rcases h2 with ⟨h0, _⟩ | ⟨g', cap', cur, hv, hg', hh, _⟩
  ·rw [h0] at e; cases e
  ·rw [hv] at e
   have : b = g' := by simpa [Value.ownBlock] using e
   subst this
   have h3 : wr.heap[b]? = _ := hb
   rw [hh] at h3
   injection h3 with h3
   injection h3 with _ h3 _
   exact absurd h3 (by decide)
 refine ⟨v', w', e1, ⟨?_, fun j hj => ?_⟩, e3⟩
 ·rw [List.length_append]
  have e4 : ((List.range (Y.length + [l].length)).map fun i => Value.slice (some ⟨(if i = Y.length then g else es i), 0, none⟩) n n) = ((List.range Y.length).map fun i => Value.slice (some ⟨es i, 0, none⟩) n n) ++ [.slice (some ⟨g, 0, none⟩) n n] := by
   simp only [List.length_cons, List.length_nil, Nat.zero_add]
   rw [List.range_succ, List.map_append]
   congr 1
   ·refine List.map_congr_left fun k hk => ?_
    have := List.mem_range.1 hk
    simp [show k ≠ Y.length by omega]
   ·simp
  rw [e4]
  exact e2
 ·by_cases e : j = Y.length
  ·subst e
   simp only [if_true, List.getElem_concat_length]
   exact key _ _ _ hg
  ·have hj2 : j < Y.length := by rw [List.length_append] at hj; simp at hj; omega
   simp only [e, if_false]
   rw [List.getElem_append_left hj2]
   exact key _ _ _ (h.row j hj2)

set_option maxRecDepth 100000 in
set_option maxHeartbeats 8000000 in
theorem liveC_any (w : World) (f : VF) (hf : f.Ok w) (n : Nat) (hn : 0 ≤ f.regs → f.regs = (n : Int)) : Calls Tryz.prog 29 #[f.v] w (LiveCPost f n w) := by
 have HF := Lib.hid hf
 have hlen := hf.len
 have HNN := Lib.hid hn
 have hb0 : BoxV f w (w.alloc (.cells #[.int .i64 f.name, .slice f.pa f.pn f.pc, .int .i64 f.regs, .slice f.sa f.sn f.sc] 25)) f.pa f.sa := ⟨(Below.refl _ _).alloc (Nat.le_refl _) _, Blk.new w [.int .i64 f.name, .slice f.pa f.pn f.pc, .int .i64 f.regs, .slice f.sa f.sn f.sc] 25⟩
 have hck := vcheck_any _ f (hf.below hb0.be)
 unfold VF.v at hck ⊢
 have HCK := Lib.hid hck
 have HB0 := Lib.hid hb0
 obtain ⟨e9, he9⟩ : ∃ e9, e9 = fnE f := ⟨_, rfl⟩
 rw [← he9] at HCK
 have HE9 := Lib.hid he9
 clear hf hb0 hck he9 hn
 go_enter Tryz.func29, Tryz.ntmps29
 go_wp2_with fail
 refine HCK.out.mono ?_
 rintro e w2 ⟨rfl, hb2⟩
 have HB2 := Lib.hid (HB0.out.below hb2)
 clear hb2 HB0 HCK
 by_cases he : e9 = 0
 ·have he' : (e9 == 0) = true := by simp [he]
  have hz := fnE_zero (f := f) (by rw [← HE9.out]; exact he)
  obtain ⟨hs1, hs2, hrg, hblk⟩ := hz
  have HN := Lib.hid (HNN.out (by omega))
  have hn2 : 0 < n ∧ n ≤ 8192 := by have := HN.out; omega
  have HEZ : Hid (fnE f = 0) := by rw [← HE9.out]; exact he
  obtain ⟨hfit, htos, hins⟩ := fits_of (m := f.sn) hlen.symm rfl HN.out hn2.1 hblk
  have hLV := live_any w2 f (HF.out.below HB2.out.be) f.sn n hlen.symm ⟨hs1, hs2⟩ HN.out hn2 hfit htos
  unfold VF.v at hLV
  have HLV := Lib.hid hLV
  have HTO := Lib.hid htos
  have c0 := HB2.out.box.cell 0
  have c1 := HB2.out.box.cell 1
  have c2 := HB2.out.box.cell 2
  have c3 := HB2.out.box.cell 3
  simp only [List.getElem?_cons_zero, List.getElem?_cons_succ] at c0 c1 c2 c3
  clear he hblk hfit htos hins hLV hrg HE9 HNN
  go_wp2_with fail
  refine HLV.out.mono ?_
  rintro e w3 ⟨G, bs, X, rfl, hR, hb3, hX, _⟩
  have HR3 := Lib.hid hR
  have HX := Lib.hid hX
  have HB3 := Lib.hid (HB2.out.below hb3)
  clear hR hb3 hX c0 c1 c2 c3 HB2
  have c3 := HB3.out.box.cell 3
  simp only [List.getElem?_cons_zero, List.getElem?_cons_succ] at c3
  go_wp2_with fail
  clear c3
  have hw3 := HB3.out.be.size
  go_loopw [3, 6, 17] (fun v _ u wr => ∃ (k : Nat) (es : Nat → Nat), k ≤ f.sn ∧ u = .int .i64 (k : Int) ∧ Below w3.heap.size w3 wr ∧ EndV w3 wr v n ((List.range k).map fun i => aftF (f.blk i).e.to X) es) (fun _ _ u _ => f.sn - (intOf u).toNat)
  case atStart => exact ⟨0, fun _ => 0, Nat.zero_le _, rfl, Below.refl _ _, ⟨World.ownsRow_nil _ _ _ _, fun i hi => by simp at hi⟩⟩
  case round =>
   obtain ⟨k, es, hk, rfl, hb4, hE⟩ := hrel
   obtain ⟨w4, hw4⟩ : ∃ w4, w4 = wr := ⟨_, rfl⟩
   rw [← hw4] at hb4 hE ⊢
   clear hw4
   have hkl9 : ((List.range k).map fun i => aftF (f.blk i).e.to X).length = k := by simp
   obtain ⟨a3, cc3, rfl⟩ := ownG_shape hE.own
   have HB4 := Lib.hid hb4
   have HE := Lib.hid hE
   have HBX := Lib.hid (HB3.out.below hb4)
   have HR := Lib.hid (HR3.out.below hb4)
   by_cases hlt : k < f.sn
   ·have c0 := HBX.out.box.cell 0
    have c1 := HBX.out.box.cell 1
    have c2 := HBX.out.box.cell 2
    have c3 := HBX.out.box.cell 3
    simp only [List.getElem?_cons_zero, List.getElem?_cons_succ] at c0 c1 c2 c3
    have hAF := after_any w w4 f HF.out HBX.out.be G f.sn n k X bs HR.out HN.out hn2 (by omega) (by rw [VF.blk_get f (by omega)]; exact HTO.out k hlt)
    unfold VF.v at hAF
    rw [VF.blk_get f (by omega)] at hAF
    have HAF := Lib.hid hAF
    clear hb4 hE hAF
    go_wp2_with fail
    refine HAF.out.mono ?_
    rintro e w5 ⟨g, rfl, hg, hrow, hb5⟩
    have hb35 := HB4.out.trans (hb5.mono HB4.out.size)
    obtain ⟨v6, w6, hrun, hE6, hgr⟩ := (HE.out.below hb5).push hrow hb35.size (by rw [hkl9]; omega) 73
    rw [hkl9] at hE6 hrun
    have hb6 := hb35.alloc hb35.size (.cells #[.slice (some ⟨g, 0, none⟩) n n] 51)
    have HB6 : Hid (Below w3.heap.size w3 w6) := hb6.trans (belowOf (base := 0) hgr (fun z hz => (HE.out.own.lt z hz).1) hb6.size)
    have HE6 : Hid (EndV w3 w6 v6 n ((List.range (k + 1)).map fun i => aftF (f.blk i).e.to X) (fun i => if i = k then g else es i)) := by
     rw [List.range_succ, List.map_append]
     exact hE6
    have HRUN := Lib.hid hrun
    clear hrun hE6 hgr hb6 hb35 hb5 hrow c0 c1 c2 c3
    go_wp2_with (refine wpList_of_wp _ rfl (fun K Q' hk => wp_append_eq _ _ _ 73 73 rfl _ _ rfl rfl HRUN.out hk) ?_)
    go_roundw
    case rel => exact ⟨k + 1, _, by omega, by go_num, HB6.out, HE6.out⟩
    case measure => simp [intOf]; omega
   ·obtain rfl : k = f.sn := by omega
    clear hb4 hE
    go_wp2_with fail
    exact bodyPost_ret (v := .tuple #[.slice (some ⟨G, 0, none⟩) f.sn f.sn, .slice a3 _ cc3, .int .i64 0]) (by simp [results, Tryz.results29, go_sem]) rfl ⟨HBX.out.be, .inr ⟨HEZ.out, G, bs, X, _, es, rfl, HR.out, HX.out, ⟨ownG_base HE.out.own hw3, HE.out.row⟩⟩⟩
 ·have he' : (e9 == 0) = false := by simp [he]
  have HEN : Hid (fnE f ≠ 0) := by rw [← HE9.out]; exact he
  clear he
  go_wp2_with fail
  exact bodyPost_ret (v := .tuple #[.slice none 0 0, .slice none 0 0, .int .i64 e9]) (by simp [results, Tryz.results29, go_sem]) rfl ⟨HB2.out.be, .inl ⟨HEN.out, by rw [HE9.out]⟩⟩
end Go.Proofs.YtdnpoomagjcpfaaGreat
