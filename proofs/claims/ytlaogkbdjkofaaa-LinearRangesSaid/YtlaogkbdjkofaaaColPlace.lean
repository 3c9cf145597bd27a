/- What colouring allocates is placed as it must be: the law, no program. The reference's Occurs and Kept (printed by wip/occ.py). The law's 'placed'. -/
import Derived.Test.YtlaogkbdjkofaaaColAlloc
import Derived.Test.YtlaogkbdjkofaaaAllocP
import Derived.Test.YtlaogkbdjkofaaaColLaw
import Derived.Test.YtlaogkbdjkofaaaVAlive
import Derived.Test.YtlaogkbdjkofaaaVCheck
import Derived.Test.YtlaogkbdjkofaaaAllocE
namespace Go.Proofs.Ytlaogkbdjkofaaa
open Go.RowKit
set_option linter.unusedVariables false
set_option linter.unusedSimpArgs false

theorem RegRun.apart {n k : Nat} {X : Nat → Nat → Bool} (hsym : ∀ i j, i < n → j < n → X i j = X j i) (hd : ∀ i, i < n → X i i = false) {l : List Nat} {R : Nat → Int} (h : RegRun n X k l R) : ∀ p q, p < n → q < n → X p q = true → R p ≠ -1 → R p ≠ R q := by
  induction h with
  | nil => exact fun p q _ _ _ h => absurd rfl h
  | snoc l R r m _ hr hm ih =>
    intro p q hp hq hx hne
    dsimp only at hne ⊢
    have hpq : p ≠ q := fun e => by subst e; rw [hd p hp] at hx; cases hx
    by_cases e1 : p = r ∧ m ≤ k
    · rw [if_pos e1, if_neg (fun h => hpq (e1.1.trans h.1.symm))]
      have := hm.2.1 q hq (by rw [← e1.1]; exact hx)
      exact fun h => this h.symm
    · rw [if_neg e1] at hne ⊢
      by_cases e2 : q = r ∧ m ≤ k
      · rw [if_pos e2]
        exact hm.2.1 p hp (by rw [← e2.1, hsym q p hq hp]; exact hx)
      · rw [if_neg e2]
        exact ih p q hp hq hx hne
theorem RegRun.mem {n k : Nat} {X : Nat → Nat → Bool} {l : List Nat} {R : Nat → Int} (h : RegRun n X k l R) : ∀ p, R p ≠ -1 → p ∈ l := by
  induction h with
  | nil => exact fun p h => absurd rfl h
  | snoc l R r m _ hr hm ih =>
    intro p hne
    dsimp only at hne
    by_cases e1 : p = r ∧ m ≤ k
    · rw [e1.1]; exact List.mem_append_right _ (List.mem_singleton.2 rfl)
    · rw [if_neg e1] at hne
      exact List.mem_append_left _ (ih p hne)
theorem SlotRun.who {n : Nat} {X : Nat → Nat → Bool} {TH : Nat → Bool} {R : Nat → Int} {j : Nat} {S : Nat → Int} {K : Int} (h : SlotRun n X TH R j S K) : ∀ q, S q ≠ -1 → TH q = true ∧ R q < 0 := by
  induction h with
  | zero => exact fun p h => absurd rfl h
  | skip r S K _ _ ih => exact ih
  | put r S K m _ h1 h2 _ ih =>
    intro q hne
    dsimp only at hne
    by_cases e : q = r
    · rw [e]; exact ⟨h1, h2⟩
    · rw [if_neg e] at hne; exact ih q hne
theorem SlotRun.full {n : Nat} {X : Nat → Nat → Bool} {TH : Nat → Bool} {R : Nat → Int} {j : Nat} {S : Nat → Int} {K : Int} (h : SlotRun n X TH R j S K) : ∀ q, q < j → TH q = true → R q < 0 → 0 ≤ S q := by
  induction h with
  | zero => exact fun q h => absurd h (Nat.not_lt_zero _)
  | skip r S K _ hn ih =>
    intro q hq h1 h2
    by_cases e : q = r
    · subst e; exact absurd ⟨h1, h2⟩ hn
    · exact ih q (by omega) h1 h2
  | put r S K m _ _ _ _ ih =>
    intro q hq h1 h2
    dsimp only
    by_cases e : q = r
    · rw [if_pos e]; omega
    · rw [if_neg e]; exact ih q (by omega) h1 h2
theorem SlotRun.apart {n : Nat} {X : Nat → Nat → Bool} (hsym : ∀ i j, i < n → j < n → X i j = X j i) (hd : ∀ i, i < n → X i i = false) {TH : Nat → Bool} {R : Nat → Int} {j : Nat} {S : Nat → Int} {K : Int} (hj : j ≤ n) (h : SlotRun n X TH R j S K) : ∀ p q, p < n → q < n → X p q = true → S p ≠ -1 → S p ≠ S q := by
  induction h with
  | zero => exact fun p q _ _ _ h => absurd rfl h
  | skip r S K _ hn ih => exact ih (by omega)
  | put r S K m _ _ _ hm ih =>
    intro p q hp hq hx hne
    dsimp only at hne ⊢
    have hpq : p ≠ q := fun e => by subst e; rw [hd p hp] at hx; cases hx
    by_cases e1 : p = r
    · rw [if_pos e1, if_neg (fun h => hpq (e1.trans h.symm))]
      have := hm.2.1 q hq (by rw [← e1]; exact hx)
      exact fun h => this h.symm
    · rw [if_neg e1] at hne ⊢
      by_cases e2 : q = r
      · rw [if_pos e2]
        exact hm.2.1 p hp (by rw [← e2, hsym q p hq hp]; exact hx)
      · rw [if_neg e2]
        exact ih (by omega) p q hp hq hx hne
/-- what coalescing keeps -/
structure CoRel (n : Nat) (X0 : Nat → Nat → Bool) (TH0 SL : Nat → Bool) (s : KS) : Prop where
  x : ∀ x y, x < n → y < n → X0 x y = true → s.X (s.rep x) (s.rep y) = true
  th : ∀ r, r < n → s.TH (s.rep r) = TH0 r
  sl : ∀ r, r < n → SL (s.rep r) = SL r
theorem CoRel.start (n : Nat) (X0 : Nat → Nat → Bool) (TH0 SL : Nat → Bool) : CoRel n X0 TH0 SL (startK X0 TH0) := ⟨fun _ _ _ _ h => h, fun _ _ => rfl, fun _ _ => rfl⟩
theorem CoRel.join {n : Nat} {X0 : Nat → Nat → Bool} {TH0 SL : Nat → Bool} {s : KS} (h : CoRel n X0 TH0 SL s) (hk : KInv n s) {a b : Nat} (ha : a < n) (hb : b < n) (hab : a ≠ b) (ra : s.rep a = a) (rb : s.rep b = b) (ha0 : a ≠ 0) (hx : s.X a b = false) (hsl : SL a = SL b) (ta : s.TH a = true) (tb : s.TH b = true) : CoRel n X0 TH0 SL (s.join n a b) := by
  obtain ⟨rank, hcr⟩ := hk.cr
  have hxb : s.X b a = false := by rw [hk.sym b a hb ha]; exact hx
  refine ⟨fun x y hx' hy' he => ?_, fun r hr => ?_, fun r hr => ?_⟩
  · have h1 := h.x x y hx' hy' he
    have hp := hcr.rl x hx'
    have hq := hcr.rl y hy'
    show dropK b n (joinK a b n s.X) (if s.rep x = b then a else s.rep x) (if s.rep y = b then a else s.rep y) = true
    generalize s.rep x = p at h1 hp ⊢
    generalize s.rep y = q at h1 hq ⊢
    rw [dropK_iff, joinK_iff hab (hk.diag b hb)]
    by_cases e1 : p = b <;> by_cases e2 : q = b
    · subst e1 e2; rw [hk.diag _ hb] at h1; cases h1
    · subst e1
      rw [if_pos rfl, if_neg e2]
      have hqa : a ≠ q := fun e => by subst e; rw [hxb] at h1; cases h1
      have hq0 : q ≠ 0 := fun e => by subst e; rw [hk.zero _ hb] at h1; cases h1
      exact ⟨.inr ⟨q, hq, h1, hqa, ha0, hq0, .inl ⟨rfl, rfl⟩⟩, by omega⟩
    · subst e2
      rw [if_neg e1, if_pos rfl]
      have h2 : s.X q p = true := by rw [hk.sym q p hb hp]; exact h1
      have hqa : a ≠ p := fun e => by subst e; rw [hxb] at h2; cases h2
      have hq0 : p ≠ 0 := fun e => by subst e; rw [hk.zero _ hb] at h2; cases h2
      exact ⟨.inr ⟨p, hp, h2, hqa, ha0, hq0, .inr ⟨rfl, rfl⟩⟩, by omega⟩
    · rw [if_neg e1, if_neg e2]
      exact ⟨.inl h1, by omega⟩
  · show (if (if s.rep r = b then a else s.rep r) = b then false else s.TH (if s.rep r = b then a else s.rep r)) = TH0 r
    rw [← h.th r hr]
    by_cases e : s.rep r = b
    · rw [if_pos e, if_neg hab, ta, e, tb]
    · rw [if_neg e, if_neg e]
  · show SL (if s.rep r = b then a else s.rep r) = SL r
    rw [← h.sl r hr]
    by_cases e : s.rep r = b
    · rw [if_pos e, hsl, e]
    · rw [if_neg e]
theorem CoRel.step {n : Nat} {X0 : Nat → Nat → Bool} {TH0 SL : Nat → Bool} {s : KS} (h : CoRel n X0 TH0 SL s) (hk : KInv n s) (k : Nat) {m : Int × Int} (hm : MvOk n m) (h1 : TH0 m.1.toNat = true) (h2 : TH0 m.2.toNat = true) : CoRel n X0 TH0 SL (stepK k n SL s m) := by
  obtain ⟨⟨a1, a2, a3⟩, b1, b2, b3⟩ := hk.ab hm
  have hmn : (min m.1 m.2).toNat = m.1.toNat ∨ (min m.1 m.2).toNat = m.2.toNat := by omega
  have hmx : (max m.1 m.2).toNat = m.1.toNat ∨ (max m.1 m.2).toNat = m.2.toNat := by omega
  obtain ⟨⟨g1, g2⟩, g3, g4⟩ := hm
  have ta : s.TH (s.a m) = true := by
    show s.TH (s.rep (min m.1 m.2).toNat) = true
    rw [h.th _ (by omega)]
    rcases hmn with e | e <;> rw [e]
    · exact h1
    · exact h2
  have tb : s.TH (s.b m) = true := by
    show s.TH (s.rep (max m.1 m.2).toNat) = true
    rw [h.th _ (by omega)]
    rcases hmx with e | e <;> rw [e]
    · exact h1
    · exact h2
  unfold stepK
  split
  · exact h
  · rename_i hs
    split
    · exact h
    · refine h.join hk a1 b1 (fun e => hs (.inl e)) a3 b3 a2 ?_ ?_ ta tb
      · cases hx : s.X (s.a m) (s.b m)
        · rfl
        · exact absurd (.inr (.inl hx)) hs
      · exact Decidable.byContradiction fun hne => hs (.inr (.inr hne))
theorem CoRel.coal {n : Nat} {X0 : Nat → Nat → Bool} {TH0 SL : Nat → Bool} (k : Nat) : ∀ {ms : List (Int × Int)}, (∀ m ∈ ms, MvOk n m ∧ TH0 m.1.toNat = true ∧ TH0 m.2.toNat = true) → ∀ {s : KS}, KInv n s → CoRel n X0 TH0 SL s → CoRel n X0 TH0 SL (coalK k n SL ms s)
  | [], _, s, _, h => h
  | m :: ms, hm, s, hk, h => by
    obtain ⟨h1, h2, h3⟩ := hm m List.mem_cons_self
    exact CoRel.coal k (fun x hx => hm x (List.mem_cons_of_mem _ hx)) (hk.step k SL h1) (h.step hk k h1 h2 h3)
theorem foldF_use (r : Nat) : ∀ (l : List VI) (g : Nat → Bool), l.foldr insF g r = true → (∃ x ∈ l, (r : Int) ∈ usesV x) ∨ g r = true
  | [], g, h => .inr h
  | x :: l, g, h => by
    have h1 : (if (r : Int) ∈ usesV x then true else if (r : Int) = defV x then false else (l.foldr insF g) r) = true := h
    by_cases e : (r : Int) ∈ usesV x
    · exact .inl ⟨x, List.mem_cons_self, e⟩
    · rw [if_neg e] at h1
      split at h1
      · cases h1
      · exact (foldF_use r l g h1).imp (fun ⟨y, hy, h2⟩ => ⟨y, List.mem_cons_of_mem _ hy, h2⟩) id
theorem gen_occ {f : VF} {nb i q r : Nat} (hi : i < nb) (h : genAt (f.blk i) q r = true) : OccB f nb r := by
  rcases foldF_use r _ _ h with ⟨x, hx, hu⟩ | hg
  · obtain ⟨k, hk⟩ := List.getElem?_of_mem (List.mem_of_mem_drop hx)
    exact ⟨i, hi, .inl ⟨k, x, hk, .inr hu⟩⟩
  · refine ⟨i, hi, .inr ?_⟩
    by_cases e : (r : Int) ∈ endV (f.blk i).e
    · exact e
    · rw [if_neg e] at hg; cases hg
theorem live_occ {f : VF} {nb : Nat} (ht : TosV f nb) {i r : Nat} (h : LiveI f i r) : i < nb → OccB f nb r := by
  have h0 := h.pos
  induction h with
  | here i r hg => exact fun hi => gen_occ hi (q := 0) (by rw [genAt_zero h0]; exact hg)
  | step i t r _ h2 _ ih =>
    intro hi
    have := ht i hi _ h2
    exact ih h0 (by omega)
theorem aliveP_occ {f : VF} {nb : Nat} (ht : TosV f nb) {i q r : Nat} (hi : i < nb) (h : AliveP f i q r) : OccB f nb r := by
  rcases h with h | ⟨_, t, h1, h2⟩
  · exact gen_occ hi h
  · have := ht i hi _ h1
    exact live_occ ht h2 (by omega)
/-- an allocation of the required form -/
structure PlacedA (f : VF) (n nb : Nat) (k : Int) (a : AL) : Prop where
  err : allocE f a = 0
  spot : ∀ r, r < n → (plc 100 a r ≠ 0 ↔ 1 ≤ r ∧ OccP f nb r)
  le : ∀ r, r < n → a.reg.getD r 0 ≤ k
  kept : ∀ r, 1 ≤ r → r < n → KeptP f nb r → 0 ≤ a.slot.getD r (-1)
  apart : ∀ x y, 1 ≤ x ∧ x < n → 1 ≤ y ∧ y < n → x ≠ y → ClashP f nb x y → plc 100 a x ≠ 0 → plc 100 a x ≠ plc 100 a y
theorem pairsE_okC {k : Int} : ∀ (rs ss : List Int), (∀ i (h : i < rs.length) (h' : i < ss.length), (rs[i] = -1 ∨ (1 ≤ rs[i] ∧ rs[i] ≤ 10)) ∧ (-1 ≤ ss[i] ∧ ss[i] < k) ∧ ¬ (0 < rs[i] ∧ 0 ≤ ss[i])) → pairsE k rs ss = 0
  | [], _, _ => by unfold pairsE; rfl
  | _ :: _, [], _ => by unfold pairsE; rfl
  | r :: rs, s :: ss, h => by
    obtain ⟨h1, h2, h3⟩ := h 0 (by simp) (by simp)
    simp only [List.getElem_cons_zero] at h1 h2 h3
    unfold pairsE
    rw [if_neg (by omega), if_neg h3]
    exact pairsE_okC rs ss fun i hi hi' => h (i + 1) (by simp; omega) (by simp; omega)
theorem map_getD (n : Nat) (g : Nat → Int) (d : Int) {r : Nat} (hr : r < n) : ((List.range n).map g).getD r d = g r := by
  rw [List.getD_eq_getElem?_getD, List.getElem?_map, List.getElem?_range hr]
  rfl
theorem placed_of {f : VF} {w : World} {n nb k : Nat} (hf : f.Ok w) (hok : FnOk f n nb) (hfe : fnE f = 0) (hn : n ≤ 8000) (hk : 1 ≤ k ∧ k ≤ 10) {a : AL} (hrn : a.rn = n) (hsn : a.sn = n) (h : AllocLaw f n nb k a) : PlacedA f n nb k a := by
  obtain ⟨XL, hXL, reg, slot, hreg, hslot, ⟨l, R, S, hel, hrr, hsr, h6, h7⟩⟩ := h
  have hsz : SymZ (parX n (f.params.map Int.toNat) (XL 0) (blksC n f (fun i => aftF (f.blk i).e.to XL) nb).X f.pn) := SymZ.par _ _ _ (SymZ.blks _ _ _ _) _
  have hth := fun r (hr : 1 ≤ r) => graph_TH (XL := XL) hok hr
  have hslk := fun r (hr : r < n) => blksC_SL hok hXL hr nb (Nat.le_refl _)
  have hcl := fun x y hx hy hxy => graph_X (a := x) (b := y) hok hf.plen hXL hx hy hxy
  have hmo := moves_ok hok (fun i => aftF (f.blk i).e.to XL)
  have hmc := moves_occ hok (fun i => aftF (f.blk i).e.to XL)
  obtain ⟨cs, hcs⟩ : ∃ cs, cs = blksC n f (fun i => aftF (f.blk i).e.to XL) nb := ⟨_, rfl⟩
  rw [← hcs] at hmo hmc hslk
  obtain ⟨X0, hX0⟩ : ∃ X, X = parX n (f.params.map Int.toNat) (XL 0) (blksC n f (fun i => aftF (f.blk i).e.to XL) nb).X f.pn := ⟨_, rfl⟩
  obtain ⟨T0, hT0⟩ : ∃ T, T = fun r => if r = 0 then false else markL (blksC n f (fun i => aftF (f.blk i).e.to XL) nb).TH (f.params.map Int.toNat) r := ⟨_, rfl⟩
  have hT00 : T0 0 = false := by rw [hT0]; rfl
  rw [← hX0] at hsz
  rw [← hX0, ← hT0, ← hcs] at hel hrr hsr h6 h7
  simp only [← hX0] at hcl
  simp only [← hT0] at hth
  have hth2 : ∀ r, 1 ≤ r → (T0 r = true ↔ OccP f nb r) := fun r hr => by rw [hT0]; exact graph_TH hok hr
  have hms : ∀ m ∈ cs.mv, MvOk n m ∧ T0 m.1.toNat = true ∧ T0 m.2.toNat = true := fun m hm => by
    have h1 := hmo m hm
    have h2 := hmc m hm
    obtain ⟨⟨g1, g2⟩, g3, g4⟩ := h1
    exact ⟨hmo m hm, (hth2 _ (by omega)).2 (.inr h2.1), (hth2 _ (by omega)).2 (.inr h2.2)⟩
  have hki := (hsz.kinv T0).coal k cs.SL hmo
  have hcr := CoRel.coal (SL := cs.SL) k hms (hsz.kinv T0) (CoRel.start n X0 T0 cs.SL)
  obtain ⟨s, hs⟩ : ∃ s, s = coalK k n cs.SL cs.mv (startK X0 T0) := ⟨_, rfl⟩
  rw [← hs] at hel hrr hsr h6 h7 hki hcr
  obtain ⟨rank, hc⟩ := hki.cr
  have hrb := hrr.bd
  have hsb := hsr.bd
  have hrep0 : s.rep 0 = 0 ∨ s.rep 0 ≠ 0 := by omega
  have hg : ∀ r, r < n → a.reg.getD r 0 = R (s.rep r) ∧ a.slot.getD r (-1) = S (s.rep r) := fun r hr => ⟨by rw [hreg, map_getD n reg 0 hr]; exact h6 r hr, by rw [hslot, map_getD n slot (-1) hr]; exact h7 r hr⟩
  -- a register that has a place occurs
  have hthR : ∀ q, q < n → R q ≠ -1 → s.TH q = true ∧ cs.SL q = false := fun q hq h => by
    have h1 := (hel.all q hq).1 (List.mem_reverse.2 (hrr.mem q h))
    simpa using h1
  have hone : ∀ q, q < n → (s.TH q = true ↔ (0 < R q ∨ 0 ≤ S q)) := fun q hq => by
    constructor
    · intro h1
      rcases hrb q with h2 | h2
      · exact .inr (hsr.full q hq h1 (by omega))
      · exact .inl (by omega)
    · rintro (h1 | h1)
      · exact (hthR q hq (by omega)).1
      · exact (hsr.who q (by omega)).1
  have hplc : ∀ r, 1 ≤ r → r < n → plc 100 a r = if 0 < R (s.rep r) then R (s.rep r) else if 0 ≤ S (s.rep r) then 100 + S (s.rep r) else 0 := fun r h1 h2 => by
    unfold plc
    rw [if_neg (by omega), (hg r h2).1, (hg r h2).2]
  refine ⟨?_, fun r hr => ?_, fun r hr => ?_, fun r h1 hr hkp => ?_, fun x y hx hy hxy hcls hp => ?_⟩
  · unfold allocE
    have hregs := hok.regs
    have hkb := hsb.1
    rw [if_neg (by simp [hfe]), if_neg (by omega), if_neg (by omega)]
    refine pairsE_okC _ _ fun i hi hi' => ?_
    have hin : i < n := by rw [hreg] at hi; simpa using hi
    have hq := hc.rl i hin
    have e1 : a.reg[i] = R (s.rep i) := by
      have := (hg i hin).1
      rw [List.getD_eq_getElem?_getD, List.getElem?_eq_getElem hi] at this
      exact this
    have e2 : a.slot[i] = S (s.rep i) := by
      have := (hg i hin).2
      rw [List.getD_eq_getElem?_getD, List.getElem?_eq_getElem hi'] at this
      exact this
    rw [e1, e2]
    have h1 := hrb (s.rep i)
    have h2 := hsb.2 (s.rep i)
    refine ⟨by omega, by omega, fun h3 => ?_⟩
    have := (hsr.who (s.rep i) (by omega)).2
    omega
  · by_cases h0 : r = 0
    · subst h0
      unfold plc
      rw [if_pos rfl]
      exact ⟨fun h => absurd rfl h, fun h => by omega⟩
    · have hr1 : 1 ≤ r := by omega
      have hq := hc.rl r hr
      rw [hplc r hr1 hr, ← hth2 r hr1, ← hcr.th r hr, hone _ hq]
      have h2 := hsb.2 (s.rep r)
      constructor
      · intro h
        refine ⟨hr1, ?_⟩
        by_cases e1 : 0 < R (s.rep r)
        · exact .inl e1
        · rw [if_neg e1] at h
          by_cases e2 : 0 ≤ S (s.rep r)
          · exact .inr e2
          · rw [if_neg e2] at h; exact absurd rfl h
      · rintro ⟨_, h⟩
        by_cases e1 : 0 < R (s.rep r)
        · rw [if_pos e1]; omega
        · rw [if_neg e1, if_pos (h.resolve_left e1)]; have := h.resolve_left e1; omega
  · rw [(hg r hr).1]
    have := hrb (s.rep r)
    omega
  · rw [(hg r hr).2]
    have hq := hc.rl r hr
    have hsl : cs.SL (s.rep r) = true := (hcr.sl r hr).trans ((hslk r hr).2 hkp)
    have hocc : OccP f nb r := by
      obtain ⟨i, hi, k', x, _, _, _, hal⟩ := hkp
      exact .inr (aliveP_occ (by rw [hok.nbl]; exact hok.fits.tos) hi hal)
    have hT : s.TH (s.rep r) = true := (hcr.th r hr).trans ((hth2 r h1).2 hocc)
    have hR : R (s.rep r) = -1 := Decidable.byContradiction fun h => by
      have := (hthR _ hq h).2
      rw [hsl] at this; cases this
    exact hsr.full _ hq hT (by omega)
  · have hx0 : X0 x y = true := (hcl x y hx hy hxy).2 hcls
    have h1 := hcr.x x y hx.2 hy.2 hx0
    have hpx := hc.rl x hx.2
    have hpy := hc.rl y hy.2
    have ha1 := RegRun.apart hki.sym hki.diag hrr _ _ hpx hpy h1
    have ha2 := SlotRun.apart hki.sym hki.diag (Nat.le_refl _) hsr _ _ hpx hpy h1
    rw [hplc x hx.1 hx.2] at hp ⊢
    rw [hplc y hy.1 hy.2]
    have b1 := hrb (s.rep x)
    have b2 := hrb (s.rep y)
    have b3 := hsb.2 (s.rep x)
    have b4 := hsb.2 (s.rep y)
    by_cases e1 : 0 < R (s.rep x)
    · rw [if_pos e1]
      by_cases e2 : 0 < R (s.rep y)
      · rw [if_pos e2]; exact ha1 (by omega)
      · rw [if_neg e2]
        by_cases e3 : 0 ≤ S (s.rep y)
        · rw [if_pos e3]; omega
        · rw [if_neg e3]; omega
    · rw [if_neg e1] at hp ⊢
      by_cases e3 : 0 ≤ S (s.rep x)
      · rw [if_pos e3]
        by_cases e2 : 0 < R (s.rep y)
        · rw [if_pos e2]; omega
        · rw [if_neg e2]
          by_cases e4 : 0 ≤ S (s.rep y)
          · rw [if_pos e4]; have := ha2 (by omega); omega
          · rw [if_neg e4]; omega
      · rw [if_neg e3] at hp; exact absurd rfl hp

def OccPost (P : Prop) (w : World) (e : Ending) (w' : World) : Prop := ∃ t : Bool, e = .returned (.bool t) ∧ (t = true ↔ P) ∧ Below w.heap.size w w'
set_option maxRecDepth 100000 in
set_option maxHeartbeats 8000000 in
theorem occurs_any (w : World) (f : VF) (hf : f.Ok w) (n nb : Nat) (hok : FnOk f n nb) (r : Nat) (hr : 1 ≤ r ∧ r < n) :
    Calls Try.prog 26 #[f.v, .int .i64 (r : Int)] w (OccPost (OccP f nb r) w) := by
  have HF := Lib.hid hf
  have hlen := hf.len
  have hsn := hok.sn
  have hn2 := hok.n2
  have hnb2 := hok.nb2
  have hb0 : BoxV f w (w.alloc (.cells #[.int .i64 f.name, .slice f.pa f.pn f.pc, .int .i64 f.regs, .slice f.sa f.sn f.sc] 25)) f.pa f.sa := ⟨(Below.refl _ _).alloc (Nat.le_refl _) _, Blk.new w [.int .i64 f.name, .slice f.pa f.pn f.pc, .int .i64 f.regs, .slice f.sa f.sn f.sc] 25⟩
  have htos : TosV f nb := by rw [hok.nbl]; exact hok.fits.tos
  have HAL := fun wx (h : Below w.heap.size w wx) (i q r : Nat) (hi : i < nb) (hq : q ≤ 10000) (hr : r ≠ 0) (hr2 : r ≤ 10000) => alive_any wx f (hf.below h) nb hok.nbl hnb2.2 htos hok.ins i q r hi hq hr hr2
  have HAM := fun wx (h : Below w.heap.size w wx) (r : Int) => among_any wx f.pa f.pn f.pc f.params (hf.pcame.below h) r
  have HOK := Lib.hid hok
  unfold VF.v at HAL ⊢
  obtain ⟨pa, hpa⟩ : ∃ s, s = f.pa := ⟨_, rfl⟩
  obtain ⟨sa, hsa⟩ : ∃ s, s = f.sa := ⟨_, rfl⟩
  rw [← hpa, ← hsa] at hb0 HAL ⊢
  rw [← hpa] at HAM
  rw [hsn] at hb0 HAL ⊢
  have HB0 := Lib.hid hb0
  have HSA := Lib.hid hsa
  have HAL := Lib.hid HAL
  have HAM := Lib.hid HAM
  have HSN := Lib.hid hsn
  clear hf hok htos hb0 hpa hsa hsn
  go_enter Try.func26, Try.ntmps26
  go_upto_region 1 with fail
  generalize w.alloc (.cells #[.int .i64 f.name, .slice pa f.pn f.pc, .int .i64 f.regs, .slice sa nb f.sc] 25) = w1 at HB0 ⊢
  have c1 := HB0.out.box.cell 1
  have c3 := HB0.out.box.cell 3
  simp only [List.getElem?_cons_zero, List.getElem?_cons_succ] at c1 c3
  rw [HSN.out] at c3
  have HA := Lib.hid (HAM.out w1 HB0.out.be (r : Int))
  obtain ⟨pm, hpm⟩ : ∃ x, x = decide ((r : Int) ∈ f.params) := ⟨_, rfl⟩
  rw [← hpm] at HA
  have HPM : Hid (pm = true ↔ (r : Int) ∈ f.params) := by rw [hpm]; exact decide_eq_true_iff
  clear hpm
  go_wp2_with fail
  refine HA.out.mono ?_
  rintro e wx ⟨rfl, hwx⟩
  rw [← hwx]
  clear hwx wx HA
  cases pm with
  | true =>
    have HP := Lib.hid (HPM.out.1 rfl)
    go_wp2_with fail
    go_ret
    exact ⟨true, rfl, ⟨fun _ => .inl HP.out, fun _ => rfl⟩, HB0.out.be⟩
  | false =>
  have HNP : Hid (¬ (r : Int) ∈ f.params) := fun h => by have := HPM.out.2 h; cases this
  have HB1 := HB0
  clear HPM HB0 HAM
  go_wp2_with fail
  clear c1 c3
  go_loopw [16] (fun u wr => ∃ i : Nat, i ≤ nb ∧ u = .int .i64 (i : Int) ∧ BoxV f w wr pa sa ∧ ¬ OccB f i r) (fun u _ => nb - (intOf u).toNat)
  case atStart => exact ⟨0, Nat.zero_le _, rfl, HB1.out, fun ⟨i, hi, _⟩ => absurd hi (Nat.not_lt_zero _)⟩
  case round =>
    clear HB1
    obtain ⟨i, hi, rfl, hbx, hno⟩ := hrel
    have HBX := Lib.hid hbx
    have HNO := Lib.hid hno
    clear hbx hno
    by_cases hlt : i < nb
    · have hib : i < f.blocks.length := by have := HOK.out.nbl; omega
      obtain ⟨gb, ob, hsa, hgb, d0, d1, d2, d3, d4, d5, d6⟩ := HF.out.cells HBX.out.be hib
      have hbo : f.blocks[i].Ok w := HF.out.blocks _ (List.getElem_mem _)
      rw [VF.blk_get f hib] at d0 d1 d2 d3 d4 d5 d6 hbo
      have hins := HOK.out.ins i hlt
      obtain ⟨bk, hbk⟩ : ∃ b, b = f.blk i := ⟨_, rfl⟩
      rw [← hbk] at d0 d1 d2 d3 d4 d5 d6 hbo hins
      rw [← HSA.out] at hsa
      subst hsa
      have hbl := hbo.len
      have HBO := Lib.hid hbo
      have HBK := Lib.hid hbk
      obtain ⟨sb, hsb⟩ : ∃ s, s = bk.sa := ⟨_, rfl⟩
      rw [← hsb] at d0
      have HSB := Lib.hid hsb
      have hb4 : Below wr.heap.size wr (wr.alloc (.cells #[.slice sb bk.sn bk.sc, .int .i64 bk.e.kind, .int .i64 bk.e.op, .int .i64 bk.e.a, .int .i64 bk.e.b, .int .i64 bk.e.n, .slice bk.e.sa bk.e.sn bk.e.sc] 63)) := (Below.refl _ _).alloc (Nat.le_refl _) _
      have hbv : Blk (wr.alloc (.cells #[.slice sb bk.sn bk.sc, .int .i64 bk.e.kind, .int .i64 bk.e.op, .int .i64 bk.e.a, .int .i64 bk.e.b, .int .i64 bk.e.n, .slice bk.e.sa bk.e.sn bk.e.sc] 63)) wr.heap.size 63 [.slice sb bk.sn bk.sc, .int .i64 bk.e.kind, .int .i64 bk.e.op, .int .i64 bk.e.a, .int .i64 bk.e.b, .int .i64 bk.e.n, .slice bk.e.sa bk.e.sn bk.e.sc] := Blk.new wr _ _
      have HBX4 := Lib.hid (HBX.out.below hb4)
      have HBV := Lib.hid hbv
      clear hbk hsb hb4 hbv hbo
      go_upto_region 6 with fail
      obtain ⟨vb, hvb⟩ : ∃ x, x = wr.heap.size := ⟨_, rfl⟩
      rw [← hvb] at HBV ⊢
      clear hvb d0 d1 d2 d3 d4 d5 d6 HBX
      generalize wr.alloc (.cells #[.slice sb bk.sn bk.sc, .int .i64 bk.e.kind, .int .i64 bk.e.op, .int .i64 bk.e.a, .int .i64 bk.e.b, .int .i64 bk.e.n, .slice bk.e.sa bk.e.sn bk.e.sc] 63) = w4 at HBX4 HBV ⊢
      have v0 := HBV.out.cell 0
      simp only [List.getElem?_cons_zero] at v0
      have hvl := HBV.out.lt
      have HB4 : Hid (∀ wx, Below w4.heap.size w4 wx → Blk wx vb 63 [.slice sb bk.sn bk.sc, .int .i64 bk.e.kind, .int .i64 bk.e.op, .int .i64 bk.e.a, .int .i64 bk.e.b, .int .i64 bk.e.n, .slice bk.e.sa bk.e.sn bk.e.sc]) := fun wx h => HBV.out.below h hvl
      go_wp2_with fail
      clear v0
      go_loopw [23] (fun u wx => ∃ k : Nat, k ≤ bk.sn ∧ u = .int .i64 (k : Int) ∧ BoxV f w wx pa (some ⟨gb, ob, none⟩) ∧ Below w4.heap.size w4 wx ∧ ¬ ∃ (k' : Nat) (x : VI), k' < k ∧ bk.ins[k']? = some x ∧ ((r : Int) = defV x ∨ (r : Int) ∈ usesV x)) (fun u _ => bk.sn - (intOf u).toNat)
      case atStart => exact ⟨0, Nat.zero_le _, rfl, HBX4.out, Below.refl _ _, fun ⟨k, x, hk, _⟩ => absurd hk (Nat.not_lt_zero _)⟩
      case round =>
        clear HBX4 HBV
        obtain ⟨k, hk, rfl, hbx, hbe4, hnk⟩ := hrel
        have HBX := Lib.hid hbx
        have HNK := Lib.hid hnk
        have HBE := Lib.hid hbe4
        clear hbx hnk hbe4
        by_cases hkl : k < bk.sn
        ·
          have hkb : k < bk.ins.length := by omega
          obtain ⟨z, hz⟩ : ∃ z, z = bk.ins[k] := ⟨_, rfl⟩
          obtain ⟨gi, oi, hsb2, hgi, d0, d1, d2, d3, d4, d5⟩ := HBO.out.cells HBX.out.be hkb
          rw [← hz] at d0 d1 d2 d3 d4 d5
          rw [← HSB.out] at hsb2
          subst hsb2
          have HID := insDef_any z
          have HIU := Lib.hid fun wx (h : Below w.heap.size w wx) => insUses_any z wx (by rw [hz]; exact (HBO.out.ins _ (List.getElem_mem _)).below h)
          unfold viV at HID HIU
          have HZQ0 : bk.ins[k]? = some z := by rw [hz]; exact List.getElem?_eq_getElem hkb
          have HZQ : Hid ((f.blk i).ins[k]? = some z) := by rw [← HBK.out]; exact HZQ0
          have hfz := HOK.out.fits.ins i hib z (by rw [← HBK.out]; exact List.mem_of_getElem? HZQ0)
          have HNX : Hid (¬ ((r : Int) = defV z ∨ (r : Int) ∈ usesV z) → ¬ ∃ (k' : Nat) (x : VI), k' < k + 1 ∧ bk.ins[k']? = some x ∧ ((r : Int) = defV x ∨ (r : Int) ∈ usesV x)) := fun hn ⟨k', x, h1, h2, h3⟩ => by
            by_cases e : k' = k
            · subst e
              rw [HZQ0] at h2
              injection h2 with h2
              subst h2
              exact hn h3
            · exact HNK.out ⟨k', x, by omega, h2, h3⟩
          have hb5 : Below wr.heap.size wr (wr.alloc (.cells #[.int .i64 z.op, .int .i64 z.d, .int .i64 z.a, .int .i64 z.b, .int .i64 z.n, .slice z.sa z.sn z.sc] 65)) := (Below.refl _ _).alloc (Nat.le_refl _) _
          have hxb : Blk (wr.alloc (.cells #[.int .i64 z.op, .int .i64 z.d, .int .i64 z.a, .int .i64 z.b, .int .i64 z.n, .slice z.sa z.sn z.sc] 65)) wr.heap.size 65 (viC z) := Blk.new wr _ _
          have HBV5 := Lib.hid (And.intro (HBX.out.below hb5) hxb)
          have HBE5 := Lib.hid (HBE.out.trans (hb5.mono HBE.out.size))
          have hdz := hfz.d
          clear hz HZQ0 hfz hb5 hxb HBX HNK HBE
          go_upto_region 9 with fail
          obtain ⟨xb, hxb⟩ : ∃ x, x = wr.heap.size := ⟨_, rfl⟩
          rw [← hxb] at HBV5 ⊢
          clear hxb d0 d1 d2 d3 d4 d5
          generalize wr.alloc (.cells #[.int .i64 z.op, .int .i64 z.d, .int .i64 z.a, .int .i64 z.b, .int .i64 z.n, .slice z.sa z.sn z.sc] 65) = w5 at HBV5 HBE5 ⊢
          have d0 := HBV5.out.2.cell 0
          have d1 := HBV5.out.2.cell 1
          have d2 := HBV5.out.2.cell 2
          have d3 := HBV5.out.2.cell 3
          have d4 := HBV5.out.2.cell 4
          have d5 := HBV5.out.2.cell 5
          simp only [viC, List.getElem?_cons_zero, List.getElem?_cons_succ] at d0 d1 d2 d3 d4 d5
          have HID := Lib.hid HID
          have hcs : defV z = (r : Int) ∨ defV z ≠ (r : Int) := by omega
          rcases hcs with hdp | hdp
          · have hq1 : (defV z == (r : Int)) = true := by simp [hdp]
            have HY : Hid ((r : Int) = defV z) := hdp.symm
            clear hdp
            go_wp2_with fail
            refine (HID.out _).mono ?_
            rintro e w8 ⟨rfl, hb8⟩
            have HB8 := Lib.hid (HBV5.out.1.below hb8)
            clear hb8 d0 d1 d2 d3 d4 d5
            go_wp2_with fail
            go_ret
            exact ⟨true, rfl, ⟨fun _ => .inr ⟨i, hlt, .inl ⟨k, z, HZQ.out, .inl HY.out⟩⟩, fun _ => rfl⟩, HB8.out.be⟩
          · have hq1 : (defV z == (r : Int)) = false := by simp [hdp]
            have HY : Hid (¬ (r : Int) = defV z) := fun h => hdp h.symm
            clear hdp
            go_wp2_with fail
            refine (HID.out _).mono ?_
            rintro e w8 ⟨rfl, hb8⟩
            have HB8 := Lib.hid (HBV5.out.1.below hb8)
            have HBE8 := Lib.hid (HBE5.out.trans (hb8.mono HBE5.out.size))
            have hx8 := HBV5.out.2.below hb8 HBV5.out.2.lt
            clear hb8 d0 d1 d2 d3 d4 d5 HBV5 HBE5
            have d0 := hx8.cell 0
            have d1 := hx8.cell 1
            have d2 := hx8.cell 2
            have d3 := hx8.cell 3
            have d4 := hx8.cell 4
            have d5 := hx8.cell 5
            simp only [viC, List.getElem?_cons_zero, List.getElem?_cons_succ] at d0 d1 d2 d3 d4 d5
            clear hx8
            go_wp2_with fail
            refine (HIU.out w8 HB8.out.be).mono ?_
            rintro e w9 ⟨v9, rfl, ho9, hb9⟩
            obtain ⟨a9, c9, rfl⟩ := ownG_shape ho9
            have HA9 := Lib.hid (among_any w9 a9 _ c9 (usesV z) (came_owns_ints ho9) (r : Int))
            have HB9 := Lib.hid (HB8.out.below hb9)
            have HBE9 := Lib.hid (HBE8.out.trans (hb9.mono HBE8.out.size))
            obtain ⟨um, hum⟩ : ∃ x, x = decide ((r : Int) ∈ usesV z) := ⟨_, rfl⟩
            rw [← hum] at HA9
            have HUM : Hid (um = true ↔ (r : Int) ∈ usesV z) := by rw [hum]; exact decide_eq_true_iff
            generalize (usesV z).length = lz at HA9 ⊢
            clear hum ho9 hb9 d0 d1 d2 d3 d4 d5 HB8 HBE8
            go_wp2_with fail
            refine HA9.out.mono ?_
            rintro e wx ⟨rfl, hwx⟩
            rw [← hwx]
            clear hwx wx HA9
            cases um with
            | true =>
              have HP := Lib.hid (HUM.out.1 rfl)
              go_wp2_with fail
              go_ret
              exact ⟨true, rfl, ⟨fun _ => .inr ⟨i, hlt, .inl ⟨k, z, HZQ.out, .inr HP.out⟩⟩, fun _ => rfl⟩, HB9.out.be⟩
            | false =>
              have HN : Hid (¬ ((r : Int) = defV z ∨ (r : Int) ∈ usesV z)) := fun h => h.elim HY.out fun h => by have := HUM.out.2 h; cases this
              clear HUM
              go_wp2_with fail
              go_roundw
              case rel => exact ⟨k + 1, by omega, by go_num, HB9.out, HBE9.out, HNX.out HN.out⟩
              case measure => simp [intOf]; omega
        ·
          have hvx := HB4.out wr HBE.out
          have e2 := hvx.cell 3
          have e3 := hvx.cell 4
          simp only [List.getElem?_cons_zero, List.getElem?_cons_succ] at e2 e3
          have hem := end_mem (e := bk.e) (r := r) (by omega)
          by_cases h1 : bk.e.a = (r : Int) ∨ bk.e.b = (r : Int)
          · have HY : Hid ((r : Int) ∈ endV (f.blk i).e) := by rw [← HBK.out]; exact hem.2 h1
            have hq : (bk.e.a == (r : Int)) = true ∨ ((bk.e.a == (r : Int)) = false ∧ (bk.e.b == (r : Int)) = true) := by
              by_cases e : bk.e.a = (r : Int)
              · left; simp [e]
              · right; exact ⟨by simp [e], by simp; exact h1.resolve_left e⟩
            clear h1 hem hvx
            rcases hq with hq1 | ⟨hq1, hq2⟩
            all_goals
              go_wp2_with fail
              go_ret
              exact ⟨true, rfl, ⟨fun _ => .inr ⟨i, hlt, .inr HY.out⟩, fun _ => rfl⟩, HBX.out.be⟩
          · have HN : Hid (¬ OccB f (i + 1) r) := fun ⟨i', h2, h3⟩ => by
              by_cases e : i' = i
              · subst e
                rw [← HBK.out] at h3
                rcases h3 with ⟨k', x, h4, h5⟩ | h3
                · exact HNK.out ⟨k', x, by have := (List.getElem?_eq_some_iff.1 h4).1; omega, h4, h5⟩
                · exact h1 (hem.1 h3)
              · exact HNO.out ⟨i', by omega, h3⟩
            have hq1 : (bk.e.a == (r : Int)) = false := by simp; exact fun h => h1 (.inl h)
            have hq2 : (bk.e.b == (r : Int)) = false := by simp; exact fun h => h1 (.inr h)
            clear h1 hem hvx
            go_wp2_with fail
            go_roundw
            case rel => exact ⟨i + 1, by omega, by go_num, HBX.out, HN.out⟩
            case measure => simp [intOf]; omega
    · have ei : nb = i := by omega
      subst ei
      go_wp2_with fail
      go_ret
      exact ⟨false, rfl, ⟨fun h => (by cases h), fun h => (h.elim HNP.out HNO.out).elim⟩, HBX.out.be⟩
set_option maxRecDepth 100000 in
set_option maxHeartbeats 8000000 in
theorem kept_any (w : World) (f : VF) (hf : f.Ok w) (n nb : Nat) (hok : FnOk f n nb) (r : Nat) (hr : 1 ≤ r ∧ r < n) :
    Calls Try.prog 34 #[f.v, .int .i64 (r : Int)] w (OccPost (KeptP f nb r) w) := by
  have HF := Lib.hid hf
  have hlen := hf.len
  have hsn := hok.sn
  have hn2 := hok.n2
  have hnb2 := hok.nb2
  have hb0 : BoxV f w (w.alloc (.cells #[.int .i64 f.name, .slice f.pa f.pn f.pc, .int .i64 f.regs, .slice f.sa f.sn f.sc] 25)) f.pa f.sa := ⟨(Below.refl _ _).alloc (Nat.le_refl _) _, Blk.new w [.int .i64 f.name, .slice f.pa f.pn f.pc, .int .i64 f.regs, .slice f.sa f.sn f.sc] 25⟩
  have htos : TosV f nb := by rw [hok.nbl]; exact hok.fits.tos
  have HAL := fun wx (h : Below w.heap.size w wx) (i q r : Nat) (hi : i < nb) (hq : q ≤ 10000) (hr : r ≠ 0) (hr2 : r ≤ 10000) => alive_any wx f (hf.below h) nb hok.nbl hnb2.2 htos hok.ins i q r hi hq hr hr2
  have HAM := fun wx (h : Below w.heap.size w wx) (r : Int) => among_any wx f.pa f.pn f.pc f.params (hf.pcame.below h) r
  have HOK := Lib.hid hok
  unfold VF.v at HAL ⊢
  obtain ⟨pa, hpa⟩ : ∃ s, s = f.pa := ⟨_, rfl⟩
  obtain ⟨sa, hsa⟩ : ∃ s, s = f.sa := ⟨_, rfl⟩
  rw [← hpa, ← hsa] at hb0 HAL ⊢
  rw [← hpa] at HAM
  rw [hsn] at hb0 HAL ⊢
  have HB0 := Lib.hid hb0
  have HSA := Lib.hid hsa
  have HAL := Lib.hid HAL
  have HAM := Lib.hid HAM
  have HSN := Lib.hid hsn
  clear hf hok htos hb0 hpa hsa hsn
  go_enter Try.func34, Try.ntmps34
  go_upto_region 1 with fail
  generalize w.alloc (.cells #[.int .i64 f.name, .slice pa f.pn f.pc, .int .i64 f.regs, .slice sa nb f.sc] 25) = w1 at HB0 ⊢
  have c3 := HB0.out.box.cell 3
  simp only [List.getElem?_cons_zero, List.getElem?_cons_succ] at c3
  rw [HSN.out] at c3
  have HB1 := HB0
  clear HB0 HAM
  go_wp2_with fail
  clear c3
  go_loopw [12] (fun u wr => ∃ i : Nat, i ≤ nb ∧ u = .int .i64 (i : Int) ∧ BoxV f w wr pa sa ∧ ¬ KeptP f i r) (fun u _ => nb - (intOf u).toNat)
  case atStart => exact ⟨0, Nat.zero_le _, rfl, HB1.out, fun ⟨i, hi, _⟩ => absurd hi (Nat.not_lt_zero _)⟩
  case round =>
    clear HB1
    obtain ⟨i, hi, rfl, hbx, hno⟩ := hrel
    have HBX := Lib.hid hbx
    have HNO := Lib.hid hno
    clear hbx hno
    by_cases hlt : i < nb
    · have hib : i < f.blocks.length := by have := HOK.out.nbl; omega
      obtain ⟨gb, ob, hsa, hgb, d0, d1, d2, d3, d4, d5, d6⟩ := HF.out.cells HBX.out.be hib
      have hbo : f.blocks[i].Ok w := HF.out.blocks _ (List.getElem_mem _)
      rw [VF.blk_get f hib] at d0 d1 d2 d3 d4 d5 d6 hbo
      have hins := HOK.out.ins i hlt
      obtain ⟨bk, hbk⟩ : ∃ b, b = f.blk i := ⟨_, rfl⟩
      rw [← hbk] at d0 d1 d2 d3 d4 d5 d6 hbo hins
      rw [← HSA.out] at hsa
      subst hsa
      have hbl := hbo.len
      have HBO := Lib.hid hbo
      have HBK := Lib.hid hbk
      obtain ⟨sb, hsb⟩ : ∃ s, s = bk.sa := ⟨_, rfl⟩
      rw [← hsb] at d0
      have HSB := Lib.hid hsb
      have hb4 : Below wr.heap.size wr (wr.alloc (.cells #[.slice sb bk.sn bk.sc, .int .i64 bk.e.kind, .int .i64 bk.e.op, .int .i64 bk.e.a, .int .i64 bk.e.b, .int .i64 bk.e.n, .slice bk.e.sa bk.e.sn bk.e.sc] 63)) := (Below.refl _ _).alloc (Nat.le_refl _) _
      have hbv : Blk (wr.alloc (.cells #[.slice sb bk.sn bk.sc, .int .i64 bk.e.kind, .int .i64 bk.e.op, .int .i64 bk.e.a, .int .i64 bk.e.b, .int .i64 bk.e.n, .slice bk.e.sa bk.e.sn bk.e.sc] 63)) wr.heap.size 63 [.slice sb bk.sn bk.sc, .int .i64 bk.e.kind, .int .i64 bk.e.op, .int .i64 bk.e.a, .int .i64 bk.e.b, .int .i64 bk.e.n, .slice bk.e.sa bk.e.sn bk.e.sc] := Blk.new wr _ _
      have HBX4 := Lib.hid (HBX.out.below hb4)
      have HBV := Lib.hid hbv
      clear hbk hsb hb4 hbv hbo
      go_upto_region 4 with fail
      obtain ⟨vb, hvb⟩ : ∃ x, x = wr.heap.size := ⟨_, rfl⟩
      rw [← hvb] at HBV ⊢
      clear hvb d0 d1 d2 d3 d4 d5 d6 HBX
      generalize wr.alloc (.cells #[.slice sb bk.sn bk.sc, .int .i64 bk.e.kind, .int .i64 bk.e.op, .int .i64 bk.e.a, .int .i64 bk.e.b, .int .i64 bk.e.n, .slice bk.e.sa bk.e.sn bk.e.sc] 63) = w4 at HBX4 HBV ⊢
      have v0 := HBV.out.cell 0
      simp only [List.getElem?_cons_zero] at v0
      have hvl := HBV.out.lt
      have HB4 : Hid (∀ wx, Below w4.heap.size w4 wx → Blk wx vb 63 [.slice sb bk.sn bk.sc, .int .i64 bk.e.kind, .int .i64 bk.e.op, .int .i64 bk.e.a, .int .i64 bk.e.b, .int .i64 bk.e.n, .slice bk.e.sa bk.e.sn bk.e.sc]) := fun wx h => HBV.out.below h hvl
      go_wp2_with fail
      clear v0
      go_loopw [20] (fun u wx => ∃ k : Nat, k ≤ bk.sn ∧ u = .int .i64 (k : Int) ∧ BoxV f w wx pa (some ⟨gb, ob, none⟩) ∧ Below w4.heap.size w4 wx ∧ ¬ ∃ (k' : Nat) (x : VI), k' < k ∧ bk.ins[k']? = some x ∧ (callB x.op = true ∧ (r : Int) ≠ defV x ∧ AliveP f i (k' + 1) r)) (fun u _ => bk.sn - (intOf u).toNat)
      case atStart => exact ⟨0, Nat.zero_le _, rfl, HBX4.out, Below.refl _ _, fun ⟨k, x, hk, _⟩ => absurd hk (Nat.not_lt_zero _)⟩
      case round =>
        clear HBX4 HBV
        obtain ⟨k, hk, rfl, hbx, hbe4, hnk⟩ := hrel
        have HBX := Lib.hid hbx
        have HNK := Lib.hid hnk
        have HBE := Lib.hid hbe4
        clear hbx hnk hbe4
        by_cases hkl : k < bk.sn
        ·
          have hkb : k < bk.ins.length := by omega
          obtain ⟨z, hz⟩ : ∃ z, z = bk.ins[k] := ⟨_, rfl⟩
          obtain ⟨gi, oi, hsb2, hgi, d0, d1, d2, d3, d4, d5⟩ := HBO.out.cells HBX.out.be hkb
          rw [← hz] at d0 d1 d2 d3 d4 d5
          rw [← HSB.out] at hsb2
          subst hsb2
          have HID := insDef_any z
          have HIU := Lib.hid fun wx (h : Below w.heap.size w wx) => insUses_any z wx (by rw [hz]; exact (HBO.out.ins _ (List.getElem_mem _)).below h)
          unfold viV at HID HIU
          have HZQ0 : bk.ins[k]? = some z := by rw [hz]; exact List.getElem?_eq_getElem hkb
          have HZQ : Hid ((f.blk i).ins[k]? = some z) := by rw [← HBK.out]; exact HZQ0
          have hfz := HOK.out.fits.ins i hib z (by rw [← HBK.out]; exact List.mem_of_getElem? HZQ0)
          have HNX : Hid (¬ (callB z.op = true ∧ (r : Int) ≠ defV z ∧ AliveP f i (k + 1) r) → ¬ ∃ (k' : Nat) (x : VI), k' < k + 1 ∧ bk.ins[k']? = some x ∧ (callB x.op = true ∧ (r : Int) ≠ defV x ∧ AliveP f i (k' + 1) r)) := fun hn ⟨k', x, h1, h2, h3⟩ => by
            by_cases e : k' = k
            · subst e
              rw [HZQ0] at h2
              injection h2 with h2
              subst h2
              exact hn h3
            · exact HNK.out ⟨k', x, by omega, h2, h3⟩
          have hb5 : Below wr.heap.size wr (wr.alloc (.cells #[.int .i64 z.op, .int .i64 z.d, .int .i64 z.a, .int .i64 z.b, .int .i64 z.n, .slice z.sa z.sn z.sc] 65)) := (Below.refl _ _).alloc (Nat.le_refl _) _
          have hxb : Blk (wr.alloc (.cells #[.int .i64 z.op, .int .i64 z.d, .int .i64 z.a, .int .i64 z.b, .int .i64 z.n, .slice z.sa z.sn z.sc] 65)) wr.heap.size 65 (viC z) := Blk.new wr _ _
          have HBV5 := Lib.hid (And.intro (HBX.out.below hb5) hxb)
          have HBE5 := Lib.hid (HBE.out.trans (hb5.mono HBE.out.size))
          have hdz := hfz.d
          clear hz HZQ0 hfz hb5 hxb HBX HNK HBE
          go_upto_region 7 with fail
          obtain ⟨xb, hxb⟩ : ∃ x, x = wr.heap.size := ⟨_, rfl⟩
          rw [← hxb] at HBV5 ⊢
          clear hxb d0 d1 d2 d3 d4 d5
          generalize wr.alloc (.cells #[.int .i64 z.op, .int .i64 z.d, .int .i64 z.a, .int .i64 z.b, .int .i64 z.n, .slice z.sa z.sn z.sc] 65) = w5 at HBV5 HBE5 ⊢
          have d0 := HBV5.out.2.cell 0
          have d1 := HBV5.out.2.cell 1
          have d2 := HBV5.out.2.cell 2
          have d3 := HBV5.out.2.cell 3
          have d4 := HBV5.out.2.cell 4
          have d5 := HBV5.out.2.cell 5
          simp only [viC, List.getElem?_cons_zero, List.getElem?_cons_succ] at d0 d1 d2 d3 d4 d5
          have HID := Lib.hid HID
          have hcb : callB z.op = ((z.op == 101) || (z.op == 102)) := rfl
          have hcs : callB z.op = false ∨ (callB z.op = true ∧ defV z = (r : Int)) ∨ (callB z.op = true ∧ defV z ≠ (r : Int)) := by
            cases callB z.op
            · exact .inl rfl
            · by_cases h : defV z = (r : Int)
              · exact .inr (.inl ⟨rfl, h⟩)
              · exact .inr (.inr ⟨rfl, h⟩)
          have hk1 : callB z.op = true → (z.op == 101) = true ∨ ((z.op == 101) = false ∧ (z.op == 102) = true) := fun h => by
            rw [hcb] at h
            cases h1 : (z.op == 101)
            · right; rw [h1] at h; exact ⟨rfl, by simpa using h⟩
            · left; rfl
          rcases hcs with hc | ⟨hc, hdp⟩ | ⟨hc, hdp⟩
          · have h1 : (z.op == 101) = false := by rw [hcb] at hc; simp at hc; simp; exact hc.1
            have h2 : (z.op == 102) = false := by rw [hcb] at hc; simp at hc; simp; exact hc.2
            have HN : Hid (¬ (callB z.op = true ∧ (r : Int) ≠ defV z ∧ AliveP f i (k + 1) r)) := fun h => by have := h.1; rw [hc] at this; cases this
            clear hcb hk1 hc
            go_wp2_with fail
            go_roundw
            case rel => exact ⟨k + 1, by omega, by go_num, HBV5.out.1, HBE5.out, HNX.out HN.out⟩
            case measure => simp [intOf]; omega
          · have HN : Hid (¬ (callB z.op = true ∧ (r : Int) ≠ defV z ∧ AliveP f i (k + 1) r)) := fun h => h.2.1 hdp.symm
            have hq1 : (defV z != (r : Int)) = false := by simp [hdp]
            have hk2 := hk1 hc
            clear hcb hk1 hc hdp
            rcases hk2 with h1 | ⟨h1, h2⟩
            all_goals
              go_wp2_with fail
              refine (HID.out _).mono ?_
              rintro e w8 ⟨rfl, hb8⟩
              have HB8 := Lib.hid (HBV5.out.1.below hb8)
              have HBE8 := Lib.hid (HBE5.out.trans (hb8.mono HBE5.out.size))
              clear hb8 d0 d1 d2 d3 d4 d5
              go_wp2_with fail
              go_roundw
              case rel => exact ⟨k + 1, by omega, by go_num, HB8.out, HBE8.out, HNX.out HN.out⟩
              case measure => simp [intOf]; omega
          · have HC : Hid (callB z.op = true ∧ (r : Int) ≠ defV z) := ⟨hc, fun h => hdp h.symm⟩
            have hq1 : (defV z != (r : Int)) = true := by simp [hdp]
            have hk2 := hk1 hc
            clear hcb hk1 hc hdp
            rcases hk2 with h1 | ⟨h1, h2⟩
            all_goals
              go_wp2_with fail
              refine (HID.out _).mono ?_
              rintro e w8 ⟨rfl, hb8⟩
              have HB8 := Lib.hid (HBV5.out.1.below hb8)
              have HBE8 := Lib.hid (HBE5.out.trans (hb8.mono HBE5.out.size))
              have c0 := HB8.out.box.cell 0
              have c1 := HB8.out.box.cell 1
              have c2 := HB8.out.box.cell 2
              have c3 := HB8.out.box.cell 3
              simp only [List.getElem?_cons_zero, List.getElem?_cons_succ] at c0 c1 c2 c3
              rw [HSN.out] at c3
              have HA20 := Lib.hid (HAL.out w8 HB8.out.be i (k + 1) r hlt (by omega) (by omega) (by omega))
              have ek1 : ((k + 1 : Nat) : Int) = (k : Int) + 1 := by omega
              rw [ek1] at HA20
              clear hb8 d0 d1 d2 d3 d4 d5 ek1
              go_wp2_with fail
              refine HA20.out.mono ?_
              rintro e w9 ⟨t, rfl, ht, hb9⟩
              have HB9 := Lib.hid (HB8.out.below hb9)
              have HBE9 := Lib.hid (HBE8.out.trans (hb9.mono HBE8.out.size))
              cases t with
              | true =>
                have HCY := Lib.hid (ht.1 rfl)
                clear ht hb9 c0 c1 c2 c3
                go_wp2_with fail
                go_ret
                exact ⟨true, rfl, ⟨fun _ => ⟨i, hlt, k, z, HZQ.out, HC.out.1, HC.out.2, HCY.out⟩, fun _ => rfl⟩, HB9.out.be⟩
              | false =>
                have HN : Hid (¬ (callB z.op = true ∧ (r : Int) ≠ defV z ∧ AliveP f i (k + 1) r)) := fun h => by have := ht.2 h.2.2; cases this
                clear ht hb9 c0 c1 c2 c3
                go_wp2_with fail
                go_roundw
                case rel => exact ⟨k + 1, by omega, by go_num, HB9.out, HBE9.out, HNX.out HN.out⟩
                case measure => simp [intOf]; omega
        ·
          have HN : Hid (¬ KeptP f (i + 1) r) := fun ⟨i', h2, k', x, h4, h5⟩ => by
            by_cases e : i' = i
            · subst e
              rw [← HBK.out] at h4
              exact HNK.out ⟨k', x, by have := (List.getElem?_eq_some_iff.1 h4).1; omega, h4, h5⟩
            · exact HNO.out ⟨i', by omega, k', x, h4, h5⟩
          go_wp2_with fail
          go_roundw
          case rel => exact ⟨i + 1, by omega, by go_num, HBX.out, HN.out⟩
          case measure => simp [intOf]; omega
    · have ei : nb = i := by omega
      subst ei
      go_wp2_with fail
      go_ret
      exact ⟨false, rfl, ⟨fun h => (by cases h), fun h => (HNO.out h).elim⟩, HBX.out.be⟩

/-- a function's box and an allocation's box -/
structure BoxP (f : VF) (a : AL) (w wr : World) (pf pb : Nat) (pa sa ra la : Option Addr) (n : Nat) : Prop where
  be : Below w.heap.size w wr
  bf : Blk wr pf 25 [.int .i64 f.name, .slice pa f.pn f.pc, .int .i64 f.regs, .slice sa f.sn f.sc]
  ba : Blk wr pb 27 [.slice ra n a.rc, .slice la n a.sc, .int .i64 a.k]
theorem BoxP.below {f : VF} {a : AL} {w wr w' : World} {pf pb : Nat} {pa sa ra la : Option Addr} {n : Nat} (h : BoxP f a w wr pf pb pa sa ra la n) (hb : Below wr.heap.size wr w') : BoxP f a w w' pf pb pa sa ra la n := ⟨h.be.trans (hb.mono h.be.size), h.bf.below hb h.bf.lt, h.ba.below hb h.ba.lt⟩
theorem AL.cellR {a : AL} {w wx : World} (h : a.Ok w) (hb : Below w.heap.size w wx) {n r : Nat} (hn : a.rn = n) (hr : r < n) : ∃ g off, a.ra = some ⟨g, off, none⟩ ∧ wx.cell? ⟨g, off + r, none⟩ = some (.int .i64 (a.reg.getD r 0)) := by
  have hl : a.reg.length = a.rn := by simpa using h.rcame.count
  obtain ⟨g, off, ha, hg, hc⟩ := h.rcame.ints (by omega)
  refine ⟨g, off, ha, ?_⟩
  have h1 := hc r (by omega)
  rw [List.getD_eq_getElem?_getD, List.getElem?_eq_getElem (by omega)]
  exact (hb.cell (p := ⟨g, off + r, none⟩) hg).trans h1
theorem AL.cellS {a : AL} {w wx : World} (h : a.Ok w) (hb : Below w.heap.size w wx) {n r : Nat} (hn : a.sn = n) (hr : r < n) : ∃ g off, a.sa = some ⟨g, off, none⟩ ∧ wx.cell? ⟨g, off + r, none⟩ = some (.int .i64 (a.slot.getD r (-1))) := by
  have hl : a.slot.length = a.sn := by simpa using h.scame.count
  obtain ⟨g, off, ha, hg, hc⟩ := h.scame.ints (by omega)
  refine ⟨g, off, ha, ?_⟩
  have h1 := hc r (by omega)
  rw [List.getD_eq_getElem?_getD, List.getElem?_eq_getElem (by omega)]
  exact (hb.cell (p := ⟨g, off + r, none⟩) hg).trans h1
set_option maxRecDepth 100000 in
set_option maxHeartbeats 8000000 in
theorem placed_any (w : World) (f : VF) (hf : f.Ok w) (a : AL) (ha : a.Ok w) (n nb : Nat) (k : Int) (hk : I64 k) (hok : FnOk f n nb) (hrn : a.rn = n) (hsn : a.sn = n) (hsl : ∀ z ∈ a.slot, z ≤ 8192) (hp : PlacedA f n nb k a) :
    Calls Try.prog 28 #[f.v, a.v, .int .i64 k] w (fun e w' => e = .returned (.bool true) ∧ Below w.heap.size w w') := by
  have hb0 : BoxP f a w ((w.alloc (.cells #[.int .i64 f.name, .slice f.pa f.pn f.pc, .int .i64 f.regs, .slice f.sa f.sn f.sc] 25)).alloc (.cells #[.slice a.ra n a.rc, .slice a.sa n a.sc, .int .i64 a.k] 27)) w.heap.size (w.heap.size + 1) f.pa f.sa a.ra a.sa n := by
    have h2 := Blk.new (w.alloc (.cells #[.int .i64 f.name, .slice f.pa f.pn f.pc, .int .i64 f.regs, .slice f.sa f.sn f.sc] 25)) [.slice a.ra n a.rc, .slice a.sa n a.sc, .int .i64 a.k] 27
    rw [World.size_alloc] at h2
    exact ⟨((Below.refl _ _).alloc (Nat.le_refl _) _).alloc (by simp) _, (Blk.new w [.int .i64 f.name, .slice f.pa f.pn f.pc, .int .i64 f.regs, .slice f.sa f.sn f.sc] 25).alloc _, h2⟩
  have HAE := fun wx (h : Below w.heap.size w wx) => allocError_any wx f (hf.below h) a (ha.below h)
  have HSP := fun wx (h : Below w.heap.size w wx) (r : Nat) (h1 : r < n) => spot_any wx a (ha.below h) r (by omega) (by omega) hsl
  have HOC := fun wx (h : Below w.heap.size w wx) (r : Nat) (h1 : 1 ≤ r ∧ r < n) => occurs_any wx f (hf.below h) n nb hok r h1
  have HKE := fun wx (h : Below w.heap.size w wx) (r : Nat) (h1 : 1 ≤ r ∧ r < n) => kept_any wx f (hf.below h) n nb hok r h1
  have HRC := fun wx (h : Below w.heap.size w wx) (r : Nat) (h1 : r < n) => AL.cellR ha h hrn h1
  have HSC := fun wx (h : Below w.heap.size w wx) (r : Nat) (h1 : r < n) => AL.cellS ha h hsn h1
  have hrl := ha.rcame.le
  have hrm := ha.rcame.max
  have hsl2 := ha.scame.le
  have hsm := ha.scame.max
  rw [hp.err] at HAE
  rw [hrn] at hrl
  rw [hsn] at hsl2
  unfold VF.v AL.v at HAE ⊢
  unfold VF.v at HOC HKE
  unfold AL.v at HSP
  rw [hrn, hsn] at HAE HSP ⊢
  have HP := Lib.hid hp
  have HREG := Lib.hid hok.regs
  have hn2 := hok.n2
  obtain ⟨pa, hpa⟩ : ∃ s, s = f.pa := ⟨_, rfl⟩
  obtain ⟨sa, hsa⟩ : ∃ s, s = f.sa := ⟨_, rfl⟩
  obtain ⟨ra, hra⟩ : ∃ s, s = a.ra := ⟨_, rfl⟩
  obtain ⟨la, hla⟩ : ∃ s, s = a.sa := ⟨_, rfl⟩
  simp only [← hpa, ← hsa, ← hra, ← hla] at hb0 HAE HSP HOC HKE HRC HSC ⊢
  have HB0 := Lib.hid hb0
  have HAE := Lib.hid HAE
  have HSP := Lib.hid HSP
  have HOC := Lib.hid HOC
  have HKE := Lib.hid HKE
  have HRC := Lib.hid HRC
  have HSC := Lib.hid HSC
  have hk1 := hk.1
  have hk2 := hk.2
  clear hf ha hok hrn hsn hsl hp hb0 hpa hsa hra hla hk
  go_enter Try.func28, Try.ntmps28
  go_upto_region 1 with fail
  generalize (w.alloc (.cells #[.int .i64 f.name, .slice pa f.pn f.pc, .int .i64 f.regs, .slice sa f.sn f.sc] 25)).alloc (.cells #[.slice ra n a.rc, .slice la n a.sc, .int .i64 a.k] 27) = w1 at HB0 ⊢
  obtain ⟨pf, hpf⟩ : ∃ x, x = w.heap.size := ⟨_, rfl⟩
  have HB1 : Hid (BoxP f a w w1 pf (pf + 1) pa sa ra la n) := by rw [hpf]; exact HB0.out
  rw [← hpf]
  clear hpf HB0
  have c0 := HB1.out.bf.cell 0
  have c1 := HB1.out.bf.cell 1
  have c2 := HB1.out.bf.cell 2
  have c3 := HB1.out.bf.cell 3
  have a0 := HB1.out.ba.cell 0
  have a1 := HB1.out.ba.cell 1
  have a2 := HB1.out.ba.cell 2
  simp only [List.getElem?_cons_zero, List.getElem?_cons_succ] at c0 c1 c2 c3 a0 a1 a2
  go_wp2_with fail
  refine (HAE.out w1 HB1.out.be).mono ?_
  rintro e w2 ⟨rfl, hb2⟩
  have HB2 := Lib.hid (HB1.out.below hb2)
  clear hb2 HB1 c0 c1 c2 c3 a0 a1 a2 HAE
  have c2 := HB2.out.bf.cell 2
  simp only [List.getElem?_cons_zero, List.getElem?_cons_succ] at c2
  rw [HREG.out] at c2
  go_wp2_with fail
  clear c2
  go_loopw [14] (fun u wr => ∃ r : Nat, r ≤ n ∧ u = .int .i64 (r : Int) ∧ BoxP f a w wr pf (pf + 1) pa sa ra la n) (fun u _ => n - (intOf u).toNat)
  case atStart => exact ⟨0, Nat.zero_le _, rfl, HB2.out⟩
  case round =>
    clear HB2
    obtain ⟨r, hr, rfl, hbx⟩ := hrel
    have HBX := Lib.hid hbx
    clear hbx
    by_cases hlt : r < n
    · have hle := HP.out.le r hlt
      have hsp := HP.out.spot r hlt
      have hke := HP.out.kept r
      obtain ⟨p, hpp⟩ : ∃ p, p = plc 100 a r := ⟨_, rfl⟩
      have HS1 := Lib.hid (HSP.out wr HBX.out.be r hlt)
      rw [← hpp] at HS1 hsp
      obtain ⟨zr, hzr⟩ : ∃ z, z = a.reg.getD r 0 := ⟨_, rfl⟩
      obtain ⟨zs, hzs⟩ : ∃ z, z = a.slot.getD r (-1) := ⟨_, rfl⟩
      rw [← hzr] at hle
      rw [← hzs] at hke
      have HCR := Lib.hid fun wx (h : Below w.heap.size w wx) => HRC.out wx h r hlt
      have HCS := Lib.hid fun wx (h : Below w.heap.size w wx) => HSC.out wx h r hlt
      rw [← hzr] at HCR
      rw [← hzs] at HCS
      have HSPQ := Lib.hid hsp
      have HKEQ := Lib.hid hke
      have q9 : decide (k < zr) = false := by simp; omega
      have a0 := HBX.out.ba.cell 0
      have a1 := HBX.out.ba.cell 1
      have a2 := HBX.out.ba.cell 2
      simp only [List.getElem?_cons_zero, List.getElem?_cons_succ] at a0 a1 a2
      clear hpp hzr hzs hsp hke
      by_cases h0 : r = 0
      ·
        subst h0
        have hp0 : p = 0 := Decidable.byContradiction fun h => by have := (HSPQ.out.1 h).1; omega
        rw [hp0] at HS1
        clear hp0
        go_wp2_with fail
        refine HS1.out.mono ?_
        rintro e w3 ⟨rfl, hb3⟩
        have HB3 := Lib.hid (HBX.out.below hb3)
        obtain ⟨g, off, hra, cr⟩ := HCR.out w3 HB3.out.be
        subst hra
        rw [Nat.add_zero] at cr
        clear hb3 a0 a1 a2 HBX
        have a0 := HB3.out.ba.cell 0
        have a1 := HB3.out.ba.cell 1
        simp only [List.getElem?_cons_zero, List.getElem?_cons_succ] at a0 a1
        go_wp2_with fail
        go_roundw
        case rel => exact ⟨1, by omega, by go_num, HB3.out⟩
        case measure => simp [intOf]; omega
      ·
        have hr1 : 1 ≤ r := by omega
        have hrI : (0 : Int) < (r : Int) := by omega
        go_wp2_with fail
        refine HS1.out.mono ?_
        rintro e w3 ⟨rfl, hb3⟩
        have HB3 := Lib.hid (HBX.out.below hb3)
        have HO1 := Lib.hid (HOC.out w3 HB3.out.be r ⟨hr1, hlt⟩)
        clear hb3 a0 a1 a2 HBX HS1
        have c0 := HB3.out.bf.cell 0
        have c1 := HB3.out.bf.cell 1
        have c2 := HB3.out.bf.cell 2
        have c3 := HB3.out.bf.cell 3
        simp only [List.getElem?_cons_zero, List.getElem?_cons_succ] at c0 c1 c2 c3
        go_wp2_with fail
        refine HO1.out.mono ?_
        rintro e w4 ⟨t, rfl, ht, hb4⟩
        have HB4 := Lib.hid (HB3.out.below hb4)
        have HK1 := Lib.hid (HKE.out w4 HB4.out.be r ⟨hr1, hlt⟩)
        have hpt : (p != 0) = t := by
          have h1 : p ≠ 0 ↔ t = true := HSPQ.out.trans ⟨fun h => ht.2 h.2, fun h => ⟨hr1, ht.1 h⟩⟩
          cases t
          · simp at h1; simp [h1]
          · simp at h1; simp [h1]
        obtain ⟨g, off, hra, cr⟩ := HCR.out w4 HB4.out.be
        subst hra
        clear hb4 c0 c1 c2 c3 HB3 HO1 ht
        have c0 := HB4.out.bf.cell 0
        have c1 := HB4.out.bf.cell 1
        have c2 := HB4.out.bf.cell 2
        have c3 := HB4.out.bf.cell 3
        have a0 := HB4.out.ba.cell 0
        simp only [List.getElem?_cons_zero, List.getElem?_cons_succ] at c0 c1 c2 c3 a0
        cases t
        all_goals
          go_wp2_with fail
          refine HK1.out.mono ?_
          rintro e w5 ⟨u, rfl, hu, hb5⟩
          have HB5 := Lib.hid (HB4.out.below hb5)
          obtain ⟨g2, off2, hla, cs⟩ := HCS.out w5 HB5.out.be
          subst hla
          clear hb5 c0 c1 c2 c3 a0 cr HB4 HK1
          have a1 := HB5.out.ba.cell 1
          simp only [List.getElem?_cons_zero, List.getElem?_cons_succ] at a1
          cases u with
          | true =>
            have h9 := HKEQ.out hr1 hlt (hu.1 rfl)
            have q8 : decide (zs < 0) = false := by simp; omega
            clear hu
            go_wp2_with fail
            go_roundw
            case rel => exact ⟨r + 1, by omega, by go_num, HB5.out⟩
            case measure => simp [intOf]; omega
          | false =>
            clear hu
            go_wp2_with fail
            go_roundw
            case rel => exact ⟨r + 1, by omega, by go_num, HB5.out⟩
            case measure => simp [intOf]; omega
    · have er : n = r := by omega
      subst er
      go_wp2_with fail
      go_ret
      exact ⟨rfl, HBX.out.be⟩
end Go.Proofs.Ytlaogkbdjkofaaa
