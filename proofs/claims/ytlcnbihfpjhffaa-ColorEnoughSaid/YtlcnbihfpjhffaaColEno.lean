/- Where every register has fewer than k neighbours, only what is kept has a slot: the plain law of ColorEnough. -/
import Derived.Test.YtlcnbihfpjhffaaColFew
namespace Go.Proofs.Ytlcnbihfpjhffaa
open Go.RowKit
set_option linter.unusedVariables false
set_option linter.unusedSimpArgs false

theorem color_enough {f : VF} {w : World} {n nb k : Nat} (hf : f.Ok w) (hok : FnOk f n nb) (hk : 0 < k) {a : AL} (hdeg : ∀ X : Nat → Nat → Bool, (∀ x y, 1 ≤ x ∧ x < n → 1 ≤ y ∧ y < n → x ≠ y → (X x y = true ↔ ClashP f nb x y)) → SymZ X → ∀ r, r < n → cntY n (X r) < k) (h : AllocLaw f n nb k a) : ∀ r, 1 ≤ r → r < n → 0 ≤ a.slot.getD r (-1) → KeptP f nb r := by
 obtain ⟨XL, hXL, reg, slot, hreg, hslot, ⟨l, R, S, hel, hrr, hsr, h6, h7⟩⟩ := h
 have hsz : SymZ (parX n (f.params.map Int.toNat) (XL 0) (blksC n f (fun i => aftF (f.blk i).e.to XL) nb).X f.pn) := SymZ.par _ _ _ (SymZ.blks _ _ _ _) _
 have hth := fun r (hr : 1 ≤ r) => graph_TH (XL := XL) hok hr
 have hslk := fun r (hr : r < n) => blksC_SL hok hXL hr nb (Nat.le_refl _)
 have hcl := fun x y hx hy hxy => graph_X (a := x) (b := y) hok hf.plen hXL hx hy hxy
 have hmo := moves_ok hok (fun i => aftF (f.blk i).e.to XL)
 have hmc := moves_occ hok (fun i => aftF (f.blk i).e.to XL)
 obtain ⟨cs, hcs⟩ : ∃ cs, cs = blksC n f (fun i => aftF (f.blk i).e.to XL) nb := ⟨_, rfl⟩
 rw [← hcs] at hmo hmc hslk
 obtain ⟨X0, hX0⟩ : ∃ X, X = parX n (f.params.map Int.toNat) (XL 0) (blksC n f (fun i => aftF (f.blk i).e.to XL) nb).X f.pn := ⟨_, rfl⟩
 obtain ⟨T0, hT0⟩ : ∃ T, T = fun r => if r = 0 then false else markL (blksC n f (fun i => aftF (f.blk i).e.to XL) nb).TH (f.params.map Int.toNat) r := ⟨_, rfl⟩
 have hT00 : T0 0 = false := by rw [hT0]; rfl
 rw [← hX0] at hsz
 rw [← hX0, ← hT0, ← hcs] at hel hrr hsr h6 h7
 simp only [← hX0] at hcl
 simp only [← hT0] at hth
 have hth2 : ∀ r, 1 ≤ r → (T0 r = true ↔ OccP f nb r) := fun r hr => by rw [hT0]; exact graph_TH hok hr
 have hms : ∀ m ∈ cs.mv, MvOk n m ∧ T0 m.1.toNat = true ∧ T0 m.2.toNat = true := fun m hm => by
  have h1 := hmo m hm
  have h2 := hmc m hm
  obtain ⟨⟨g1, g2⟩, g3, g4⟩ := h1
  exact ⟨hmo m hm, (hth2 _ (by omega)).2 (.inr h2.1), (hth2 _ (by omega)).2 (.inr h2.2)⟩
 have hki := (hsz.kinv T0).coal k cs.SL hmo
 have hcr := CoRel.coal (SL := cs.SL) k hms (hsz.kinv T0) (CoRel.start n X0 T0 cs.SL)
 obtain ⟨s, hs⟩ : ∃ s, s = coalK k n cs.SL cs.mv (startK X0 T0) := ⟨_, rfl⟩
 rw [← hs] at hel hrr hsr h6 h7 hki hcr
 obtain ⟨rank, hc⟩ := hki.cr
 have hrb := hrr.bd
 have hsb := hsr.bd
 intro r hr1 hr2 hsl
 have hg : a.slot.getD r (-1) = S (s.rep r) := by rw [hslot, map_getD n slot (-1) hr2]; exact h7 r hr2
 rw [hg] at hsl
 obtain ⟨g1, g2⟩ := hsr.who (s.rep r) (by omega)
 have hrn : s.rep r < n := hc.rl r hr2
 have hthin : ThinK n k cs.SL s.X := by
  rw [hs]
  exact coalK_thin hk _ _ (fun q => hsz.diag q) (ThinK.of_deg fun q hq => hdeg X0 (fun x y hx hy hxy => hcl x y hx hy hxy) hsz q hq)
 have hsl2 : cs.SL (s.rep r) = true := by
  by_cases e : cs.SL (s.rep r) = true
  ·exact e
  ·have hmem : s.rep r ∈ l := List.mem_reverse.1 ((hel.all _ hrn).2 (by simp [g1, e]))
   obtain ⟨left, hep, hal⟩ := hel
   have := hrr.few (fun p q b e2 => by
    obtain ⟨lf, h1, h2, _⟩ := (ElimP.few hthin (fun q hq h9 => by simp at h9; exact h9.2) hep).2 p q b e2
    exact ⟨lf, h1, h2⟩) _ hmem
   omega
 rw [hcr.sl r hr2] at hsl2
 exact (hslk r hr2).1 hsl2
end Go.Proofs.Ytlcnbihfpjhffaa
