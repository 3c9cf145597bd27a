/- What colouring allocates is placed as it must be: the law, no program. -/
import Derived.Test.YtdnpoomagjcpfaaGreatColAlloc
import Derived.Test.YtdnpoomagjcpfaaGreatPlc
namespace Go.Proofs.YtdnpoomagjcpfaaGreat
open Go.RowKit
set_option linter.unusedVariables false
set_option linter.unusedSimpArgs false

theorem RegRun.apart {n k : Nat} {X : Nat → Nat → Bool} (hsym : ∀ i j, i < n → j < n → X i j = X j i) (hd : ∀ i, i < n → X i i = false) {l : List Nat} {R : Nat → Int} (h : RegRun n X k l R) : ∀ p q, p < n → q < n → X p q = true → R p ≠ -1 → R p ≠ R q := by
 induction h with
 | nil => exact fun p q _ _ _ h => absurd rfl h
 | snoc l R r m _ hr hm ih =>
  intro p q hp hq hx hne
  dsimp only at hne ⊢
  have hpq : p ≠ q := fun e => by subst e; rw [hd p hp] at hx; cases hx
  by_cases e1 : p = r ∧ m ≤ k
  ·rw [if_pos e1, if_neg (fun h => hpq (e1.1.trans h.1.symm))]
   have := hm.2.1 q hq (by rw [← e1.1]; exact hx)
   exact fun h => this h.symm
  ·rw [if_neg e1] at hne ⊢
   by_cases e2 : q = r ∧ m ≤ k
   ·rw [if_pos e2]
    exact hm.2.1 p hp (by rw [← e2.1, hsym q p hq hp]; exact hx)
   ·rw [if_neg e2]
    exact ih p q hp hq hx hne
theorem RegRun.mem {n k : Nat} {X : Nat → Nat → Bool} {l : List Nat} {R : Nat → Int} (h : RegRun n X k l R) : ∀ p, R p ≠ -1 → p ∈ l := by
 induction h with
 | nil => exact fun p h => absurd rfl h
 | snoc l R r m _ hr hm ih =>
  intro p hne
  dsimp only at hne
  by_cases e1 : p = r ∧ m ≤ k
  ·rw [e1.1]; exact List.mem_append_right _ (List.mem_singleton.2 rfl)
  ·rw [if_neg e1] at hne
   exact List.mem_append_left _ (ih p hne)
theorem SlotRun.who {n : Nat} {X : Nat → Nat → Bool} {TH : Nat → Bool} {R : Nat → Int} {j : Nat} {S : Nat → Int} {K : Int} (h : SlotRun n X TH R j S K) : ∀ q, S q ≠ -1 → TH q = true ∧ R q < 0 := by
 induction h with
 | zero => exact fun p h => absurd rfl h
 | skip r S K _ _ ih => exact ih
 | put r S K m _ h1 h2 _ ih =>
  intro q hne
  dsimp only at hne
  by_cases e : q = r
  ·rw [e]; exact ⟨h1, h2⟩
  ·rw [if_neg e] at hne; exact ih q hne
theorem SlotRun.full {n : Nat} {X : Nat → Nat → Bool} {TH : Nat → Bool} {R : Nat → Int} {j : Nat} {S : Nat → Int} {K : Int} (h : SlotRun n X TH R j S K) : ∀ q, q < j → TH q = true → R q < 0 → 0 ≤ S q := by
 induction h with
 | zero => exact fun q h => absurd h (Nat.not_lt_zero _)
 | skip r S K _ hn ih =>
  intro q hq h1 h2
  by_cases e : q = r
  ·subst e; exact absurd ⟨h1, h2⟩ hn
  ·exact ih q (by omega) h1 h2
 | put r S K m _ _ _ _ ih =>
  intro q hq h1 h2
  dsimp only
  by_cases e : q = r
  ·rw [if_pos e]; omega
  ·rw [if_neg e]; exact ih q (by omega) h1 h2
theorem SlotRun.apart {n : Nat} {X : Nat → Nat → Bool} (hsym : ∀ i j, i < n → j < n → X i j = X j i) (hd : ∀ i, i < n → X i i = false) {TH : Nat → Bool} {R : Nat → Int} {j : Nat} {S : Nat → Int} {K : Int} (hj : j ≤ n) (h : SlotRun n X TH R j S K) : ∀ p q, p < n → q < n → X p q = true → S p ≠ -1 → S p ≠ S q := by
 induction h with
 | zero => exact fun p q _ _ _ h => absurd rfl h
 | skip r S K _ hn ih => exact ih (by omega)
 | put r S K m _ _ _ hm ih =>
  intro p q hp hq hx hne
  dsimp only at hne ⊢
  have hpq : p ≠ q := fun e => by subst e; rw [hd p hp] at hx; cases hx
  by_cases e1 : p = r
  ·rw [if_pos e1, if_neg (fun h => hpq (e1.trans h.symm))]
   have := hm.2.1 q hq (by rw [← e1]; exact hx)
   exact fun h => this h.symm
  ·rw [if_neg e1] at hne ⊢
   by_cases e2 : q = r
   ·rw [if_pos e2]
    exact hm.2.1 p hp (by rw [← e2, hsym q p hq hp]; exact hx)
   ·rw [if_neg e2]
    exact ih (by omega) p q hp hq hx hne
/-- what coalescing keeps -/
structure CoRel (n : Nat) (X0 : Nat → Nat → Bool) (TH0 SL : Nat → Bool) (s : KS) : Prop where
 x : ∀ x y, x < n → y < n → X0 x y = true → s.X (s.rep x) (s.rep y) = true
 th : ∀ r, r < n → s.TH (s.rep r) = TH0 r
 sl : ∀ r, r < n → SL (s.rep r) = SL r
theorem CoRel.start (n : Nat) (X0 : Nat → Nat → Bool) (TH0 SL : Nat → Bool) : CoRel n X0 TH0 SL (startK X0 TH0) := ⟨fun _ _ _ _ h => h, fun _ _ => rfl, fun _ _ => rfl⟩
theorem CoRel.join {n : Nat} {X0 : Nat → Nat → Bool} {TH0 SL : Nat → Bool} {s : KS} (h : CoRel n X0 TH0 SL s) (hk : KInv n s) {a b : Nat} (ha : a < n) (hb : b < n) (hab : a ≠ b) (ra : s.rep a = a) (rb : s.rep b = b) (ha0 : a ≠ 0) (hx : s.X a b = false) (hsl : SL a = SL b) (ta : s.TH a = true) (tb : s.TH b = true) : CoRel n X0 TH0 SL (s.join n a b) := by
 obtain ⟨rank, hcr⟩ := hk.cr
 have hxb : s.X b a = false := by rw [hk.sym b a hb ha]; exact hx
 refine ⟨fun x y hx' hy' he => ?_, fun r hr => ?_, fun r hr => ?_⟩
 ·have h1 := h.x x y hx' hy' he
  have hp := hcr.rl x hx'
  have hq := hcr.rl y hy'
  show dropK b n (joinK a b n s.X) (if s.rep x = b then a else s.rep x) (if s.rep y = b then a else s.rep y) = true
  generalize s.rep x = p at h1 hp ⊢
  generalize s.rep y = q at h1 hq ⊢
  rw [dropK_iff, joinK_iff hab (hk.diag b hb)]
  by_cases e1 : p = b <;> by_cases e2 : q = b
  ·subst e1 e2; rw [hk.diag _ hb] at h1; cases h1
  ·subst e1
   rw [if_pos rfl, if_neg e2]
   have hqa : a ≠ q := fun e => by subst e; rw [hxb] at h1; cases h1
   have hq0 : q ≠ 0 := fun e => by subst e; rw [hk.zero _ hb] at h1; cases h1
   exact ⟨.inr ⟨q, hq, h1, hqa, ha0, hq0, .inl ⟨rfl, rfl⟩⟩, by omega⟩
  ·subst e2
   rw [if_neg e1, if_pos rfl]
   have h2 : s.X q p = true := by rw [hk.sym q p hb hp]; exact h1
   have hqa : a ≠ p := fun e => by subst e; rw [hxb] at h2; cases h2
   have hq0 : p ≠ 0 := fun e => by subst e; rw [hk.zero _ hb] at h2; cases h2
   exact ⟨.inr ⟨p, hp, h2, hqa, ha0, hq0, .inr ⟨rfl, rfl⟩⟩, by omega⟩
  ·rw [if_neg e1, if_neg e2]
   exact ⟨.inl h1, by omega⟩
 ·show (if (if s.rep r = b then a else s.rep r) = b then false else s.TH (if s.rep r = b then a else s.rep r)) = TH0 r
  rw [← h.th r hr]
  by_cases e : s.rep r = b
  ·rw [if_pos e, if_neg hab, ta, e, tb]
  ·rw [if_neg e, if_neg e]
 ·show SL (if s.rep r = b then a else s.rep r) = SL r
  rw [← h.sl r hr]
  by_cases e : s.rep r = b
  ·rw [if_pos e, hsl, e]
  ·rw [if_neg e]
theorem CoRel.step {n : Nat} {X0 : Nat → Nat → Bool} {TH0 SL : Nat → Bool} {s : KS} (h : CoRel n X0 TH0 SL s) (hk : KInv n s) (k : Nat) {m : Int × Int} (hm : MvOk n m) (h1 : TH0 m.1.toNat = true) (h2 : TH0 m.2.toNat = true) : CoRel n X0 TH0 SL (stepK k n SL s m) := by
 obtain ⟨⟨a1, a2, a3⟩, b1, b2, b3⟩ := hk.ab hm
 have hmn : (min m.1 m.2).toNat = m.1.toNat ∨ (min m.1 m.2).toNat = m.2.toNat := by omega
 have hmx : (max m.1 m.2).toNat = m.1.toNat ∨ (max m.1 m.2).toNat = m.2.toNat := by omega
 obtain ⟨⟨g1, g2⟩, g3, g4⟩ := hm
 have ta : s.TH (s.a m) = true := by
  show s.TH (s.rep (min m.1 m.2).toNat) = true
  rw [h.th _ (by omega)]
  rcases hmn with e | e <;> rw [e]
  ·exact h1
  ·exact h2
 have tb : s.TH (s.b m) = true := by
  show s.TH (s.rep (max m.1 m.2).toNat) = true
  rw [h.th _ (by omega)]
  rcases hmx with e | e <;> rw [e]
  ·exact h1
  ·exact h2
 unfold stepK
 split
 ·exact h
 ·rename_i hs
  split
  ·exact h
  ·refine h.join hk a1 b1 (fun e => hs (.inl e)) a3 b3 a2 ?_ ?_ ta tb
   ·cases hx : s.X (s.a m) (s.b m)
    ·rfl
    ·exact absurd (.inr (.inl hx)) hs
   ·exact Decidable.byContradiction fun hne => hs (.inr (.inr hne))
theorem CoRel.coal {n : Nat} {X0 : Nat → Nat → Bool} {TH0 SL : Nat → Bool} (k : Nat) : ∀ {ms : List (Int × Int)}, (∀ m ∈ ms, MvOk n m ∧ TH0 m.1.toNat = true ∧ TH0 m.2.toNat = true) → ∀ {s : KS}, KInv n s → CoRel n X0 TH0 SL s → CoRel n X0 TH0 SL (coalK k n SL ms s)
 | [], _, s, _, h => h
 | m :: ms, hm, s, hk, h => by
  obtain ⟨h1, h2, h3⟩ := hm m List.mem_cons_self
  exact CoRel.coal k (fun x hx => hm x (List.mem_cons_of_mem _ hx)) (hk.step k SL h1) (h.step hk k h1 h2 h3)
theorem placed_of {f : VF} {w : World} {n nb k : Nat} (hf : f.Ok w) (hok : FnOk f n nb) (hfe : fnE f = 0) (hn : n ≤ 8000) (hk : 1 ≤ k ∧ k ≤ 10) {a : AL} (hrn : a.rn = n) (hsn : a.sn = n) (h : AllocLaw f n nb k a) : PlacedA f n nb k a := by
 obtain ⟨XL, hXL, reg, slot, hreg, hslot, ⟨l, R, S, hel, hrr, hsr, h6, h7⟩⟩ := h
 have hsz : SymZ (parX n (f.params.map Int.toNat) (XL 0) (blksC n f (fun i => aftF (f.blk i).e.to XL) nb).X f.pn) := SymZ.par _ _ _ (SymZ.blks _ _ _ _) _
 have hth := fun r (hr : 1 ≤ r) => graph_TH (XL := XL) hok hr
 have hslk := fun r (hr : r < n) => blksC_SL hok hXL hr nb (Nat.le_refl _)
 have hcl := fun x y hx hy hxy => graph_X (a := x) (b := y) hok hf.plen hXL hx hy hxy
 have hmo := moves_ok hok (fun i => aftF (f.blk i).e.to XL)
 have hmc := moves_occ hok (fun i => aftF (f.blk i).e.to XL)
 obtain ⟨cs, hcs⟩ : ∃ cs, cs = blksC n f (fun i => aftF (f.blk i).e.to XL) nb := ⟨_, rfl⟩
 rw [← hcs] at hmo hmc hslk
 obtain ⟨X0, hX0⟩ : ∃ X, X = parX n (f.params.map Int.toNat) (XL 0) (blksC n f (fun i => aftF (f.blk i).e.to XL) nb).X f.pn := ⟨_, rfl⟩
 obtain ⟨T0, hT0⟩ : ∃ T, T = fun r => if r = 0 then false else markL (blksC n f (fun i => aftF (f.blk i).e.to XL) nb).TH (f.params.map Int.toNat) r := ⟨_, rfl⟩
 have hT00 : T0 0 = false := by rw [hT0]; rfl
 rw [← hX0] at hsz
 rw [← hX0, ← hT0, ← hcs] at hel hrr hsr h6 h7
 simp only [← hX0] at hcl
 simp only [← hT0] at hth
 have hth2 : ∀ r, 1 ≤ r → (T0 r = true ↔ OccP f nb r) := fun r hr => by rw [hT0]; exact graph_TH hok hr
 have hms : ∀ m ∈ cs.mv, MvOk n m ∧ T0 m.1.toNat = true ∧ T0 m.2.toNat = true := fun m hm => by
  have h1 := hmo m hm
  have h2 := hmc m hm
  obtain ⟨⟨g1, g2⟩, g3, g4⟩ := h1
  exact ⟨hmo m hm, (hth2 _ (by omega)).2 (.inr h2.1), (hth2 _ (by omega)).2 (.inr h2.2)⟩
 have hki := (hsz.kinv T0).coal k cs.SL hmo
 have hcr := CoRel.coal (SL := cs.SL) k hms (hsz.kinv T0) (CoRel.start n X0 T0 cs.SL)
 obtain ⟨s, hs⟩ : ∃ s, s = coalK k n cs.SL cs.mv (startK X0 T0) := ⟨_, rfl⟩
 rw [← hs] at hel hrr hsr h6 h7 hki hcr
 obtain ⟨rank, hc⟩ := hki.cr
 have hrb := hrr.bd
 have hsb := hsr.bd
 have hrep0 : s.rep 0 = 0 ∨ s.rep 0 ≠ 0 := by omega
 have hg : ∀ r, r < n → a.reg.getD r 0 = R (s.rep r) ∧ a.slot.getD r (-1) = S (s.rep r) := fun r hr => ⟨by rw [hreg, map_getD n reg 0 hr]; exact h6 r hr, by rw [hslot, map_getD n slot (-1) hr]; exact h7 r hr⟩
 -- a register that has a place occurs
 have hthR : ∀ q, q < n → R q ≠ -1 → s.TH q = true ∧ cs.SL q = false := fun q hq h => by
  have h1 := (hel.all q hq).1 (List.mem_reverse.2 (hrr.mem q h))
  simpa using h1
 have hone : ∀ q, q < n → (s.TH q = true ↔ (0 < R q ∨ 0 ≤ S q)) := fun q hq => by
  constructor
  ·intro h1
   rcases hrb q with h2 | h2
   ·exact .inr (hsr.full q hq h1 (by omega))
   ·exact .inl (by omega)
  ·rintro (h1 | h1)
   ·exact (hthR q hq (by omega)).1
   ·exact (hsr.who q (by omega)).1
 have hplc : ∀ r, 1 ≤ r → r < n → plc 100 a r = if 0 < R (s.rep r) then R (s.rep r) else if 0 ≤ S (s.rep r) then 100 + S (s.rep r) else 0 := fun r h1 h2 => by
  unfold plc
  rw [if_neg (by omega), (hg r h2).1, (hg r h2).2]
 refine ⟨?_, fun r hr => ?_, fun r hr => ?_, fun r h1 hr hkp => ?_, fun x y hx hy hxy hcls hp => ?_⟩
 ·unfold allocE
  have hregs := hok.regs
  have hkb := hsb.1
  rw [if_neg (by simp [hfe]), if_neg (by omega), if_neg (by omega)]
  refine pairsE_okC _ _ fun i hi hi' => ?_
  have hin : i < n := by rw [hreg] at hi; simpa using hi
  have hq := hc.rl i hin
  have e1 : a.reg[i] = R (s.rep i) := by
   have := (hg i hin).1
   rw [List.getD_eq_getElem?_getD, List.getElem?_eq_getElem hi] at this
   exact this
  have e2 : a.slot[i] = S (s.rep i) := by
   have := (hg i hin).2
   rw [List.getD_eq_getElem?_getD, List.getElem?_eq_getElem hi'] at this
   exact this
  rw [e1, e2]
  have h1 := hrb (s.rep i)
  have h2 := hsb.2 (s.rep i)
  refine ⟨by omega, by omega, fun h3 => ?_⟩
  have := (hsr.who (s.rep i) (by omega)).2
  omega
 ·by_cases h0 : r = 0
  ·subst h0
   unfold plc
   rw [if_pos rfl]
   exact ⟨fun h => absurd rfl h, fun h => by omega⟩
  ·have hr1 : 1 ≤ r := by omega
   have hq := hc.rl r hr
   rw [hplc r hr1 hr, ← hth2 r hr1, ← hcr.th r hr, hone _ hq]
   have h2 := hsb.2 (s.rep r)
   constructor
   ·intro h
    refine ⟨hr1, ?_⟩
    by_cases e1 : 0 < R (s.rep r)
    ·exact .inl e1
    ·rw [if_neg e1] at h
     by_cases e2 : 0 ≤ S (s.rep r)
     ·exact .inr e2
     ·rw [if_neg e2] at h; exact absurd rfl h
   ·rintro ⟨_, h⟩
    by_cases e1 : 0 < R (s.rep r)
    ·rw [if_pos e1]; omega
    ·rw [if_neg e1, if_pos (h.resolve_left e1)]; have := h.resolve_left e1; omega
 ·rw [(hg r hr).1]
  have := hrb (s.rep r)
  omega
 ·rw [(hg r hr).2]
  have hq := hc.rl r hr
  have hsl : cs.SL (s.rep r) = true := (hcr.sl r hr).trans ((hslk r hr).2 hkp)
  have hocc : OccP f nb r := by
   obtain ⟨i, hi, k', x, _, _, _, hal⟩ := hkp
   exact .inr (aliveP_occ (by rw [hok.nbl]; exact hok.fits.tos) hi hal)
  have hT : s.TH (s.rep r) = true := (hcr.th r hr).trans ((hth2 r h1).2 hocc)
  have hR : R (s.rep r) = -1 := Decidable.byContradiction fun h => by
   have := (hthR _ hq h).2
   rw [hsl] at this; cases this
  exact hsr.full _ hq hT (by omega)
 ·have hx0 : X0 x y = true := (hcl x y hx hy hxy).2 hcls
  have h1 := hcr.x x y hx.2 hy.2 hx0
  have hpx := hc.rl x hx.2
  have hpy := hc.rl y hy.2
  have ha1 := RegRun.apart hki.sym hki.diag hrr _ _ hpx hpy h1
  have ha2 := SlotRun.apart hki.sym hki.diag (Nat.le_refl _) hsr _ _ hpx hpy h1
  rw [hplc x hx.1 hx.2] at hp ⊢
  rw [hplc y hy.1 hy.2]
  have b1 := hrb (s.rep x)
  have b2 := hrb (s.rep y)
  have b3 := hsb.2 (s.rep x)
  have b4 := hsb.2 (s.rep y)
  by_cases e1 : 0 < R (s.rep x)
  ·rw [if_pos e1]
   by_cases e2 : 0 < R (s.rep y)
   ·rw [if_pos e2]; exact ha1 (by omega)
   ·rw [if_neg e2]
    by_cases e3 : 0 ≤ S (s.rep y)
    ·rw [if_pos e3]; omega
    ·rw [if_neg e3]; omega
  ·rw [if_neg e1] at hp ⊢
   by_cases e3 : 0 ≤ S (s.rep x)
   ·rw [if_pos e3]
    by_cases e2 : 0 < R (s.rep y)
    ·rw [if_pos e2]; omega
    ·rw [if_neg e2]
     by_cases e4 : 0 ≤ S (s.rep y)
     ·rw [if_pos e4]; have := ha2 (by omega); omega
     ·rw [if_neg e4]; omega
   ·rw [if_neg e3] at hp; exact absurd rfl hp

end Go.Proofs.YtdnpoomagjcpfaaGreat
