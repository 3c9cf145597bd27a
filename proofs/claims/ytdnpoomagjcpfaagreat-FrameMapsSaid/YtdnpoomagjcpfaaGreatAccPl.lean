/- What is placed as it must be is accepted: the plain law. No program. -/
import Derived.Test.YtdnpoomagjcpfaaGreatAccRef
import Derived.Test.YtdnpoomagjcpfaaGreatPlc
namespace Go.Proofs.YtdnpoomagjcpfaaGreat
open Go.RowKit
set_option linter.unusedVariables false
set_option linter.unusedSimpArgs false

theorem pairsE_one {k : Int} : ∀ {rs ss : List Int}, pairsE k rs ss = 0 → ∀ i, i < rs.length → i < ss.length → ¬ (0 < rs.getD i 0 ∧ 0 ≤ ss.getD i (-1))
 | r :: rs, s :: ss, h, i, h1, h2 => by
  unfold pairsE at h
  split at h
  ·cases h
  ·split at h
   ·cases h
   ·cases i with
    | zero => simp; omega
    | succ i => simpa using pairsE_one h i (by simpa using h1) (by simpa using h2)
 | [], _, _, i, h1, _ => absurd h1 (Nat.not_lt_zero _)
 | _ :: _, [], _, i, _, h2 => absurd h2 (Nat.not_lt_zero _)
theorem allocE_one {f : VF} {a : AL} {w : World} (ha : a.Ok w) (h : allocE f a = 0) {n : Nat} (hn : f.regs = (n : Int)) {r : Nat} (hr : r < n) (hs : 0 ≤ a.slot.getD r (-1)) (h0 : r ≠ 0) : 11 ≤ plc 11 a r := by
 unfold allocE at h
 split at h
 ·contradiction
 split at h
 ·cases h
 rename_i h1
 split at h
 ·cases h
 have hrl : a.reg.length = a.rn := by simpa using ha.rcame.count
 have hsl : a.slot.length = a.sn := by simpa using ha.scame.count
 have hp := pairsE_one h r (by omega) (by omega)
 unfold plc
 rw [if_neg h0, if_neg (by omega), if_pos hs]
 omega
section
variable {f : VF} {n nb m : Nat} {k : Int} {a : AL}
/-- what is live at a place is where it must be -/
def HoldsX (f : VF) (a : AL) (n i q : Nat) (X : Nat → Nat → Bool) : Prop := ∀ r, 1 ≤ r → r < n → AliveP f i q r → X (plc 11 a r).toNat r = true
/-- the facts on an allocation that Accept needs -/
structure PlX (f : VF) (n nb m : Nat) (a : AL) : Prop where
 good : a.Good n m
 spot : ∀ r, 1 ≤ r → r < n → OccP f nb r → plc 11 a r ≠ 0
 kept : ∀ r, 1 ≤ r → r < n → KeptP f nb r → 11 ≤ plc 11 a r
 apart : ∀ x y, 1 ≤ x ∧ x < n → 1 ≤ y ∧ y < n → x ≠ y → ClashP f nb x y → OccP f nb x → plc 11 a x ≠ plc 11 a y
theorem PlacedA.plx {w : World} (ha : a.Ok w) (hok : FnOk f n nb) (h : PlacedA f n nb k a) : PlX f n nb (11 + a.k.toNat) a := by
 have hg := AL.good ha hok.regs h.err
 have hz : ∀ r, r < n → (plc 11 a r = 0 ↔ plc 100 a r = 0) := fun r hr => by
  have := (hg.fit.pl r hr).1
  rw [hg.spot r hr, spotOf_zero]
  omega
 refine ⟨hg, fun r h1 h2 ho => ?_, fun r h1 h2 hk => allocE_one ha h.err hok.regs h2 (h.kept r h1 h2 hk) (by omega), fun x y hx hy hne hc ho e => ?_⟩
 ·rw [Ne, hz r h2]
  exact (h.spot r h2).2 ⟨h1, ho⟩
 ·exact h.apart x y hx hy hne hc ((h.spot x hx.2).2 ⟨hx.1, ho⟩) (by rw [hg.spot x hx.2, hg.spot y hy.2, e])
theorem alive_use {i q r : Nat} (hq : q < (f.blk i).ins.length) (hu : (r : Int) ∈ usesV (f.blk i).ins[q]) : AliveP f i q r := .inl (by rw [genAt_step hq, if_pos hu])
theorem alive_step {i q r : Nat} (hq : q < (f.blk i).ins.length) (hd : (r : Int) ≠ defV (f.blk i).ins[q]) (h : AliveP f i (q + 1) r) : AliveP f i q r := by
 rcases h with h | ⟨h, h'⟩
 ·left
  rw [genAt_step hq]
  split
  ·rfl
  ·first | exact h | (rw [if_neg hd]; exact h)
 ·right
  refine ⟨?_, h'⟩
  rw [thruAt_step hq]
  split
  ·rfl
  ·first | exact h | (rw [if_neg hd]; exact h)
theorem callX_holds (h : PlX f n nb m a) {i q r : Nat} {X : Nat → Nat → Bool} (hi : i < nb) (hq : q < (f.blk i).ins.length) (h1 : 1 ≤ r) (h2 : r < n) (hd : (r : Int) ≠ defV (f.blk i).ins[q]) (hl : AliveP f i (q + 1) r) (hx : X (plc 11 a r).toNat r = true) : callX (f.blk i).ins[q] X (plc 11 a r).toNat r = true := by
 unfold callX
 split
 ·rename_i hc
  have := h.kept r h1 h2 ⟨i, hi, q, _, List.getElem?_eq_getElem hq, hc.1, hd, hl⟩
  omega
 ·exact hx
theorem insT_holds (hok : FnOk f n nb) (h : PlX f n nb m a) {i q : Nat} {X : Nat → Nat → Bool} (hi : i < nb) (hq : q < (f.blk i).ins.length) (hx : HoldsX f a n i q X) : ∃ X', insT a (f.blk i).ins[q] X = some X' ∧ HoldsX f a n i (q + 1) X' := by
 have htos : TosV f nb := by rw [hok.nbl]; exact hok.fits.tos
 have hfit := hok.fits.ins i (by rw [← hok.nbl]; exact hi) _ (List.getElem_mem hq)
 refine ⟨_, if_pos ?_, fun r h1 h2 hl => ?_⟩
 ·unfold usedB usesN
  rw [List.all_eq_true]
  intro u hu
  obtain ⟨z, hz, rfl⟩ := List.mem_map.1 hu
  obtain ⟨hz1, hz2⟩ := hfit.uses z hz
  have hzz : ((z.toNat : Nat) : Int) = z := by omega
  have hal : AliveP f i q z.toNat := alive_use hq (by rw [hzz]; exact hz)
  unfold useB
  have := h.spot z.toNat (by omega) (by omega) (.inr (aliveP_occ htos hi hal))
  rw [hx z.toNat (by omega) (by omega) hal]
  simp [this]
 ·unfold insX
  by_cases hd0 : defV (f.blk i).ins[q] = 0
  ·rw [if_pos hd0]
   have hd : (r : Int) ≠ defV (f.blk i).ins[q] := by omega
   exact callX_holds h hi hq h1 h2 hd hl (hx r h1 h2 (alive_step hq hd hl))
  ·rw [if_neg hd0]
   unfold defX
   have hdf := hfit.d
   obtain ⟨d, hdd⟩ : ∃ d : Nat, d = (defV (f.blk i).ins[q]).toNat := ⟨_, rfl⟩
   have hdz : (d : Int) = defV (f.blk i).ins[q] := by omega
   rw [← hdd]
   have hod : OccP f nb d := .inr ⟨i, hi, .inl ⟨q, _, List.getElem?_eq_getElem hq, .inl hdz⟩⟩
   have hpd := h.spot d (by omega) (by omega) hod
   have hpd0 := (h.good.fit.pl d (by omega)).1
   by_cases hrd : r = d
   ·subst hrd
    rw [if_pos ⟨by omega, rfl⟩, if_pos rfl]
   ·have hne : (r : Int) ≠ defV (f.blk i).ins[q] := by omega
    have hcx := callX_holds h hi hq h1 h2 hne hl (hx r h1 h2 (alive_step hq hne hl))
    have hpr0 := (h.good.fit.pl r h2).1
    by_cases hpe : (plc 11 a r).toNat = (plc 11 a d).toNat
    ·rw [if_pos ⟨by omega, hpe⟩, if_neg hrd]
     have hcl : ¬ ClashP f nb d r := fun hc => h.apart d r ⟨by omega, by omega⟩ ⟨h1, h2⟩ (fun e => hrd e.symm) hc hod (by omega)
     have hmv : (f.blk i).ins[q].op = 100 ∧ (f.blk i).ins[q].a = (r : Int) := Classical.byContradiction fun hn => hcl (.inr ⟨i, hi, q, _, List.getElem?_eq_getElem hq, .inl ⟨⟨hdz.symm, hn⟩, hl⟩⟩)
     unfold alsoA
     rw [if_pos ⟨hmv.1, by omega⟩, ← hdd, if_neg hrd, hmv.2]
     exact hcx
    ·rw [if_neg (by omega), if_neg hrd]
     exact hcx
theorem inssT_holds (hok : FnOk f n nb) (h : PlX f n nb m a) {i : Nat} (hi : i < nb) : ∀ (l : List VI) (q : Nat) {X : Nat → Nat → Bool}, (f.blk i).ins.drop q = l → q ≤ (f.blk i).ins.length → HoldsX f a n i q X → ∃ X', inssT a l X = some X' ∧ HoldsX f a n i (f.blk i).ins.length X'
 | [], q, X, hd, hq, hx => by
  have hql : (f.blk i).ins.length = q := by
   have := congrArg List.length hd
   simp at this
   omega
  exact ⟨X, rfl, by rw [hql]; exact hx⟩
 | x :: l, q, X, hd, hq, hx => by
  have hql : q < (f.blk i).ins.length := by
   have := congrArg List.length hd
   simp at this
   omega
  rw [List.drop_eq_getElem_cons hql] at hd
  injection hd with e1 e2
  subst e1
  obtain ⟨X', hX', hx'⟩ := insT_holds hok h hi hql hx
  obtain ⟨X2, hX2, hx2⟩ := inssT_holds hok h hi l (q + 1) e2 (by omega) hx'
  exact ⟨X2, by unfold inssT; rw [hX']; exact hX2, hx2⟩
theorem blkT_holds (hok : FnOk f n nb) (h : PlX f n nb m a) {i : Nat} (hi : i < nb) {X : Nat → Nat → Bool} (hx : HoldsX f a n i 0 X) : ∃ X', blkT a (f.blk i) X = some X' ∧ ∀ t : Nat, (t : Int) ∈ (f.blk i).e.to → HoldsX f a n t 0 X' := by
 have htos : TosV f nb := by rw [hok.nbl]; exact hok.fits.tos
 obtain ⟨X', hX', hx'⟩ := inssT_holds hok h hi (f.blk i).ins 0 rfl (Nat.zero_le _) hx
 refine ⟨X', ?_, fun t ht r h1 h2 hl => hx' r h1 h2 (.inr ⟨thruAt_end (Nat.le_refl _), t, ht, (aliveP_zero (by omega)).1 hl⟩)⟩
 unfold blkT
 rw [hX']
 show (if _ then _ else _) = _
 rw [if_pos]
 unfold usedB
 rw [List.all_eq_true]
 intro u hu
 obtain ⟨z, hz, rfl⟩ := List.mem_map.1 hu
 obtain ⟨hz1, hz2⟩ := hok.fits.ends i (by rw [← hok.nbl]; exact hi) z hz
 have hzz : ((z.toNat : Nat) : Int) = z := by omega
 have hal : AliveP f i (f.blk i).ins.length z.toNat := .inl (by rw [genAt_end (Nat.le_refl _), hzz]; exact decide_eq_true hz)
 unfold useB
 have := h.spot z.toNat (by omega) (by omega) (.inr (aliveP_occ htos hi hal))
 rw [hx' z.toNat (by omega) (by omega) hal]
 simp [this]
theorem startX_holds (a : AL) {r : Nat} (hp : plc 11 a r ≠ 0) (h0 : 0 ≤ plc 11 a r) : ∀ (ps : List Nat) (X : Nat → Nat → Bool), (∀ q ∈ ps, q ≠ r → 0 ≤ plc 11 a q ∧ plc 11 a q ≠ plc 11 a r) → (r ∈ ps ∨ X (plc 11 a r).toNat r = true) → ps.foldl (fun X r => defX X (plc 11 a r).toNat r (fun _ => false)) X (plc 11 a r).toNat r = true
 | [], X, _, h => h.elim (fun h => by cases h) id
 | q :: ps, X, hq, h => by
  rw [List.foldl_cons]
  refine startX_holds a hp h0 ps _ (fun s hs => hq s (List.mem_cons_of_mem _ hs)) ?_
  by_cases e : q = r
  ·right
   subst e
   unfold defX
   rw [if_pos ⟨by omega, rfl⟩, if_pos rfl]
  ·rcases h with h | h
   ·rcases List.mem_cons.1 h with h | h
    ·exact absurd h.symm e
    ·exact .inl h
   ·right
    have := hq q List.mem_cons_self e
    unfold defX
    rw [if_neg (by omega), if_neg (fun h => e h.symm)]
    exact h
theorem live_par (hok : FnOk f n nb) (hfe : fnE f = 0) {r : Nat} (hr : r < n) (hl : LiveI f 0 r) : (r : Int) ∈ f.params := by
 unfold fnE at hfe
 split at hfe
 ·cases hfe
 split at hfe
 ·cases hfe
 split at hfe
 ·contradiction
 split at hfe
 ·contradiction
 unfold liveE at hfe
 split at hfe
 ·cases hfe
 rename_i hn
 exact Classical.byContradiction fun hp => hn ⟨r, by rw [hok.regs]; omega, hl, hp⟩
theorem placed_good (hok : FnOk f n nb) (hfe : fnE f = 0) (h : PlX f n nb m a) : GoodS f a (startX a (f.params.map Int.toNat)) := by
 have hst : HoldsX f a n 0 0 (startX a (f.params.map Int.toNat)) := fun r h1 h2 hl => by
  have hp := live_par hok hfe h2 ((aliveP_zero (by omega)).1 hl)
  refine startX_holds a (h.spot r h1 h2 (.inl hp)) (h.good.fit.pl r h2).1 _ _ (fun q hq hne => ?_) (.inl (List.mem_map.2 ⟨_, hp, by omega⟩))
  obtain ⟨z, hz, rfl⟩ := List.mem_map.1 hq
  have hz2 := hok.par z hz
  have hzz : ((z.toNat : Nat) : Int) = z := by omega
  exact ⟨(h.good.fit.pl _ (by omega)).1, h.apart _ r ⟨by omega, by omega⟩ ⟨h1, h2⟩ hne (.inl (.inl ⟨by rw [hzz]; exact hz, hp⟩)) (.inl (by rw [hzz]; exact hz))⟩
 have key : ∀ i X, ReachS f a (startX a (f.params.map Int.toNat)) i X → i < nb ∧ HoldsX f a n i 0 X := by
  intro i X hr
  induction hr with
  | start => exact ⟨hok.nb2.1, hst⟩
  | @step i X X' b t hr hb hX ht ih =>
   obtain ⟨hi, hx⟩ := ih
   have hbe : b = f.blk i := by
    obtain ⟨h9, h8⟩ := List.getElem?_eq_some_iff.1 hb
    rw [← h8, f.blk_get h9]
   subst hbe
   obtain ⟨X2, hX2, hx2⟩ := blkT_holds hok h hi hx
   rw [hX2] at hX
   injection hX with hX
   subst hX
   have htos : TosV f nb := by rw [hok.nbl]; exact hok.fits.tos
   have h7 := htos i hi t ht
   exact ⟨by omega, hx2 t.toNat (by rw [show ((t.toNat : Nat) : Int) = t by omega]; exact ht)⟩
 intro i X b hr hb
 obtain ⟨hi, hx⟩ := key i X hr
 have hbe : b = f.blk i := by
  obtain ⟨h9, h8⟩ := List.getElem?_eq_some_iff.1 hb
  rw [← h8, f.blk_get h9]
 subst hbe
 obtain ⟨X2, hX2, _⟩ := blkT_holds hok h hi hx
 rw [hX2]
 simp
end
end Go.Proofs.YtdnpoomagjcpfaaGreat
