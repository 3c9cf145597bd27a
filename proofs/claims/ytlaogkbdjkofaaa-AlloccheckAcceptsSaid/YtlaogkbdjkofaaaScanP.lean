/- What the linear scan allocates is placed as it must be: the law. No function of the program. -/
import Derived.Test.YtlaogkbdjkofaaaScanF
import Derived.Test.YtlaogkbdjkofaaaPlc
namespace Go.Proofs.Ytlaogkbdjkofaaa
open Go.RowKit
set_option linter.unusedVariables false
set_option linter.unusedSimpArgs false

section
variable {f : VF} {n nb : Nat}
/-- what is live before an instruction has a point that is not later -/
theorem live_before {i r : Nat} (hi : i < nb) (hr : r ≠ 0) : ∀ q, q ≤ (f.blk i).ins.length → AliveP f i q r → ∃ t, PtP f nb r t ∧ t ≤ atI f i + 2 * q
  | 0, _, h => ⟨atI f i, .inr ⟨i, hi, .inl ⟨(aliveP_zero hr).1 h, rfl⟩⟩, by omega⟩
  | q + 1, hq, h => by
    have hql : q < (f.blk i).ins.length := by omega
    by_cases hd : (r : Int) = defV (f.blk i).ins[q]
    · exact ⟨atI f i + 2 * q + 1, .inr ⟨i, hi, .inr (.inl ⟨q, _, List.getElem?_eq_getElem hql, .inr ⟨hd, rfl⟩⟩)⟩, by omega⟩
    · have h2 : AliveP f i q r := by
        rcases h with h | ⟨h, h'⟩
        · left
          rw [genAt_step hql]
          split
          · rfl
          · first | exact h | (rw [if_neg hd]; exact h)
        · right
          refine ⟨?_, h'⟩
          rw [thruAt_step hql]
          split
          · rfl
          · first | exact h | (rw [if_neg hd]; exact h)
      obtain ⟨t, h3, h4⟩ := live_before hi hr q (by omega) h2
      exact ⟨t, h3, by omega⟩
/-- and one that is not earlier -/
theorem live_behind {i r : Nat} (hi : i < nb) (hr : r ≠ 0) : ∀ m q, (f.blk i).ins.length - q = m → q ≤ (f.blk i).ins.length → AliveP f i q r → ∃ t, PtP f nb r t ∧ atI f i + 2 * q ≤ t
  | 0, q, hm, hq, h => by
    obtain rfl : q = (f.blk i).ins.length := by omega
    rcases h with h | ⟨_, s, h1, h2⟩
    · rw [genAt_end (Nat.le_refl _), decide_eq_true_eq] at h
      exact ⟨_, .inr ⟨i, hi, .inr (.inr (.inl ⟨h, rfl⟩))⟩, Int.le_refl _⟩
    · exact ⟨_, .inr ⟨i, hi, .inr (.inr (.inr ⟨⟨s, h1, h2⟩, rfl⟩))⟩, by omega⟩
  | m + 1, q, hm, hq, h => by
    have hql : q < (f.blk i).ins.length := by omega
    by_cases hu : (r : Int) ∈ usesV (f.blk i).ins[q]
    · exact ⟨_, .inr ⟨i, hi, .inr (.inl ⟨q, _, List.getElem?_eq_getElem hql, .inl ⟨hu, rfl⟩⟩)⟩, Int.le_refl _⟩
    · have h2 : AliveP f i (q + 1) r := by
        rcases h with h | ⟨h, h'⟩
        · left
          rw [genAt_step hql, if_neg hu] at h
          split at h
          · cases h
          · exact h
        · right
          refine ⟨?_, h'⟩
          rw [thruAt_step hql, if_neg hu] at h
          split at h
          · cases h
          · exact h
      obtain ⟨t, h3, h4⟩ := live_behind hi hr m (q + 1) (by omega) (by omega) h2
      exact ⟨t, h3, by omega⟩
/-- what is live behind an instruction that does not define it is live before it -/
theorem live_step {i q r : Nat} (hq : q < (f.blk i).ins.length) (hd : (r : Int) ≠ defV (f.blk i).ins[q]) (h : AliveP f i (q + 1) r) : AliveP f i q r := by
  rcases h with h | ⟨h, h'⟩
  · left
    rw [genAt_step hq]
    split
    · rfl
    · first | exact h | (rw [if_neg hd]; exact h)
  · right
    refine ⟨?_, h'⟩
    rw [thruAt_step hq]
    split
    · rfl
    · first | exact h | (rw [if_neg hd]; exact h)
/-- a point lies between two points of a register -/
def CoverP (f : VF) (nb r : Nat) (t : Int) : Prop := (∃ s, PtP f nb r s ∧ s ≤ t) ∧ ∃ s, PtP f nb r s ∧ t ≤ s
theorem CoverP.at {r : Nat} {t : Int} (h : PtP f nb r t) : CoverP f nb r t := ⟨⟨t, h, Int.le_refl _⟩, t, h, Int.le_refl _⟩
theorem clash_ins {i k a b : Nat} {x : VI} (hi : i < nb) (ha : a ≠ 0) (hb : b ≠ 0) (hab : a ≠ b) (hx : (f.blk i).ins[k]? = some x) (hd : defV x = (a : Int)) (hl : AliveP f i (k + 1) b) : ∃ t, CoverP f nb a t ∧ CoverP f nb b t := by
  obtain ⟨hk, hxe⟩ := List.getElem?_eq_some_iff.1 hx
  refine ⟨atI f i + 2 * k + 1, CoverP.at (.inr ⟨i, hi, .inr (.inl ⟨k, x, hx, .inr ⟨hd.symm, rfl⟩⟩)⟩), ?_, ?_⟩
  · have h2 : AliveP f i k b := live_step hk (by rw [hxe, hd]; omega) hl
    obtain ⟨t, h3, h4⟩ := live_before hi hb k (by omega) h2
    exact ⟨t, h3, by omega⟩
  · obtain ⟨t, h3, h4⟩ := live_behind hi hb _ (k + 1) rfl (by omega) hl
    exact ⟨t, h3, by omega⟩
theorem clash_cover (hnb : 0 < nb) {a b : Nat} (ha : a ≠ 0) (hb : b ≠ 0) (hab : a ≠ b) (h : ClashP f nb a b) : ∃ t, CoverP f nb a t ∧ CoverP f nb b t := by
  rcases h with (⟨h1, h2⟩ | ⟨h1, h2⟩ | ⟨h1, h2⟩) | ⟨i, hi, k, x, hx, ⟨⟨h1, _⟩, h2⟩ | ⟨⟨h1, _⟩, h2⟩⟩
  · exact ⟨0, CoverP.at (.inl ⟨h1, rfl⟩), CoverP.at (.inl ⟨h2, rfl⟩)⟩
  · exact ⟨0, CoverP.at (.inl ⟨h1, rfl⟩), CoverP.at (.inr ⟨0, hnb, .inl ⟨h2, rfl⟩⟩)⟩
  · exact ⟨0, CoverP.at (.inr ⟨0, hnb, .inl ⟨h2, rfl⟩⟩), CoverP.at (.inl ⟨h1, rfl⟩)⟩
  · exact clash_ins hi ha hb hab hx h1 h2
  · obtain ⟨t, h3, h4⟩ := clash_ins hi hb ha (fun e => hab e.symm) hx h1 h2
    exact ⟨t, h4, h3⟩
theorem kept_mark {r : Nat} (hr : r ≠ 0) (h : KeptP f nb r) : ∃ t s e, CallPt f nb t ∧ PtP f nb r s ∧ PtP f nb r e ∧ s ≤ t ∧ t < e := by
  obtain ⟨i, hi, k, x, hx, h1, h2, h3⟩ := h
  obtain ⟨hk, hxe⟩ := List.getElem?_eq_some_iff.1 hx
  have h4 : AliveP f i k r := live_step hk (by rw [hxe]; exact h2) h3
  obtain ⟨s, h5, h6⟩ := live_before hi hr k (by omega) h4
  obtain ⟨e, h7, h8⟩ := live_behind hi hr _ (k + 1) rfl (by omega) h3
  exact ⟨atI f i + 2 * k, s, e, ⟨i, hi, k, x, hx, h1, rfl⟩, h5, h7, h6, by omega⟩
theorem cover_range {l : List RG} (h : RangesP f n nb l) {x : RG} (hx : x ∈ l) {r : Nat} (hr : x.r = (r : Int)) {t : Int} (hc : CoverP f nb r t) : x.b ≤ t ∧ t ≤ x.e := by
  obtain ⟨q, h1, _, _, _, _, h6, _⟩ := h.el x hx
  obtain rfl : q = r := by omega
  obtain ⟨⟨s, h7, h8⟩, s', h9, h10⟩ := hc
  have := h6 s h7
  have := h6 s' h9
  omega
theorem ranges_same {l l' : List RG} (h : RangesP f n nb l) (h' : RangesP f n nb l') {x x' : RG} (hx : x ∈ l) (hx' : x' ∈ l') (hr : x.r = x'.r) : x.b = x'.b ∧ x.e = x'.e := by
  obtain ⟨q, h1, _, _, h4, h5, h6, _⟩ := h.el x hx
  obtain ⟨q', h1', _, _, h4', h5', h6', _⟩ := h'.el x' hx'
  obtain rfl : q = q' := by omega
  have := h6 _ h4'
  have := h6 _ h5'
  have := h6' _ h4
  have := h6' _ h5
  omega
end
/-- what the scan's rows hold -/
theorem LinLaw.sci {f : VF} {n nb k : Nat} {a : AL} (h : LinLaw f n nb k a) : ∃ (l : List RG) (s : LS) (b : Int), RangesP f n nb l ∧ ScI k l b s ∧ a.reg = (List.range n).map (fun (r : Nat) => s.R (r : Int)) ∧ a.slot = (List.range n).map (fun (r : Nat) => s.S (r : Int)) ∧ a.k = (s.sl.length : Int) ∧ s.sl.length ≤ 8192 := by
  obtain ⟨l, s, h1, h2, h3, h4, h5, h6⟩ := h
  obtain ⟨b, _, hsc⟩ := h2.sci h1.ord h1.once (fun z hz => by
    obtain ⟨q, _, _, _, h4, _, h6, _⟩ := h1.el z hz
    exact (h6 _ h4).2)
  exact ⟨l, s, b, h1, hsc, h3, h4, h5, h6⟩
theorem lin_placed {f : VF} {n nb k : Nat} (hok : FnOk f n nb) (hfe : fnE f = 0) (hk : 1 ≤ k ∧ k ≤ 10) {a : AL} (hrn : a.rn = n) (hsn : a.sn = n) (h : LinLaw f n nb k a) : PlacedA f n nb k a := by
  obtain ⟨l, s, b, hrp, hsc, hreg, hslot, hak, hsl⟩ := h.sci
  have hg : ∀ r, r < n → a.reg.getD r 0 = s.R (r : Int) ∧ a.slot.getD r (-1) = s.S (r : Int) := fun r hr => ⟨by rw [hreg]; exact map_getD n (fun (r : Nat) => s.R (r : Int)) 0 hr, by rw [hslot]; exact map_getD n (fun (r : Nat) => s.S (r : Int)) (-1) hr⟩
  have hplc : ∀ r, 1 ≤ r → r < n → plc 100 a r = if 0 < s.R (r : Int) then s.R (r : Int) else if 0 ≤ s.S (r : Int) then 100 + s.S (r : Int) else 0 := fun r h1 h2 => by
    unfold plc
    rw [if_neg (by omega), (hg r h2).1, (hg r h2).2]
  have hcases : ∀ q : Int, (∃ x ∈ l, x.r = q) ∨ (s.R q = -1 ∧ s.S q = -1) := fun q => by
    by_cases h : ∃ x ∈ l, x.r = q
    · exact .inl h
    · exact .inr (hsc.none q fun x hx e => h ⟨x, hx, e⟩)
  have hrange : ∀ x ∈ l, ∃ r : Nat, x.r = (r : Int) ∧ 1 ≤ r ∧ r < n ∧ OccP f nb r := fun x hx => by
    obtain ⟨r, h1, h2, h3, h4, _⟩ := hrp.el x hx
    exact ⟨r, h1, h2, h3, (pt_occ hok h2 h3).1 ⟨_, h4⟩⟩
  have hone : ∀ q : Int, (s.R q = -1 ∨ (1 ≤ s.R q ∧ s.R q ≤ k)) ∧ (-1 ≤ s.S q ∧ s.S q < s.sl.length ∨ s.S q = -1) ∧ ¬ (0 < s.R q ∧ 0 ≤ s.S q) := fun q => by
    rcases hcases q with ⟨x, hx, rfl⟩ | ⟨h1, h2⟩
    · rcases hsc.place x hx with h1 | h1 <;> omega
    · omega
  have hlen : ∀ r, 1 ≤ r → r < n → plc 100 a r ≠ 0 → ∃ x ∈ l, x.r = (r : Int) := fun r h1 h2 hp => by
    rcases hcases (r : Int) with h | ⟨h3, h4⟩
    · exact h
    · rw [hplc r h1 h2, h3, h4, if_neg (by omega), if_neg (by omega)] at hp
      exact absurd rfl hp
  have hnz : ∀ x ∈ l, ∀ r : Nat, x.r = (r : Int) → 1 ≤ r → r < n → plc 100 a r ≠ 0 := fun x hx r h1 h2 h3 => by
    rw [hplc r h2 h3, ← h1]
    rcases hsc.place x hx with h4 | h4
    · rw [if_pos (by omega)]; omega
    · rw [if_neg (by omega), if_pos (by omega)]; omega
  refine ⟨?_, fun r hr => ⟨fun hp => ?_, fun ⟨h1, h2⟩ => ?_⟩, fun r hr => ?_, fun r h1 hr hkp => ?_, fun x y hx hy hxy hcls hp => ?_⟩
  · unfold allocE
    have hregs := hok.regs
    rw [if_neg (by simp [hfe]), if_neg (by omega), if_neg (by omega)]
    refine pairsE_okC _ _ fun i hi hi' => ?_
    have hin : i < n := by rw [hreg] at hi; simpa using hi
    have e1 : a.reg[i] = s.R (i : Int) := by
      have := (hg i hin).1
      rw [List.getD_eq_getElem?_getD, List.getElem?_eq_getElem hi] at this
      exact this
    have e2 : a.slot[i] = s.S (i : Int) := by
      have := (hg i hin).2
      rw [List.getD_eq_getElem?_getD, List.getElem?_eq_getElem hi'] at this
      exact this
    have h9 := hone (i : Int)
    rw [e1, e2, hak]
    omega
  · have hr1 : 1 ≤ r := by
      rcases Nat.eq_zero_or_pos r with h0 | h0
      · subst h0; exact absurd (by unfold plc; rw [if_pos rfl]) hp
      · exact h0
    obtain ⟨x, hx, hxr⟩ := hlen r hr1 hr hp
    obtain ⟨q, h1, h2, h3, h4⟩ := hrange x hx
    obtain rfl : q = r := by omega
    exact ⟨h2, h4⟩
  · obtain ⟨t, ht⟩ := (pt_occ hok h1 hr).2 h2
    obtain ⟨x, hx, hxr⟩ := hrp.all r t h1 hr ht
    exact hnz x hx r hxr h1 hr
  · rw [(hg r hr).1]
    have := (hone (r : Int)).1
    omega
  · obtain ⟨t, b9, e9, hc, hb9, he9, h2, h3⟩ := kept_mark (by omega) hkp
    obtain ⟨x, hx, hxr⟩ := hrp.all r b9 h1 hr hb9
    obtain ⟨q, g1, _, _, _, _, g6, g7⟩ := hrp.el x hx
    obtain rfl : q = r := by omega
    have k1 := g6 _ hb9
    have k2 := g6 _ he9
    have hs := hsc.kept x hx (g7.2 ⟨t, hc, by omega, by omega⟩)
    rw [(hg q hr).2, ← hxr]
    exact hs
  · obtain ⟨t, hca, hcb⟩ := clash_cover hok.nb2.1 (by omega) (by omega) hxy hcls
    obtain ⟨u, hu, hur⟩ := hlen x hx.1 hx.2 hp
    have hcb2 := hcb
    obtain ⟨⟨sv, hsv, _⟩, _⟩ := hcb2
    obtain ⟨v, hv, hvr⟩ := hrp.all y sv hy.1 hy.2 hsv
    have c1 := cover_range hrp hu hur hca
    have c2 := cover_range hrp hv hvr hcb
    have hap := hsc.apart u hu v hv (by rw [hur, hvr]; omega) (by omega) (by omega)
    have o1 := hone (x : Int)
    have o2 := hone (y : Int)
    rw [hur, hvr] at hap
    rw [hplc x hx.1 hx.2] at hp ⊢
    rw [hplc y hy.1 hy.2]
    intro e
    by_cases h1 : 0 < s.R (x : Int)
    · rw [if_pos h1] at e
      by_cases h2 : 0 < s.R (y : Int)
      · rw [if_pos h2] at e
        exact hap.1 ⟨e, by omega⟩
      · rw [if_neg h2] at e
        split at e <;> omega
    · rw [if_neg h1] at e hp
      by_cases h3 : 0 ≤ s.S (x : Int)
      · rw [if_pos h3] at e
        by_cases h2 : 0 < s.R (y : Int)
        · rw [if_pos h2] at e; omega
        · rw [if_neg h2] at e
          split at e
          · exact hap.2 ⟨by omega, h3⟩
          · omega
      · rw [if_neg h3] at hp
        exact absurd rfl hp
/-- ranges that meet have different places -/
theorem lin_apart {f : VF} {n nb k : Nat} (hok : FnOk f n nb) (hk : 1 ≤ k ∧ k ≤ 10) {a : AL} (h : LinLaw f n nb k a) {l' : List RG} (hl' : RangesP f n nb l') {x y : RG} (hx : x ∈ l') (hy : y ∈ l') {p q : Nat} (hp : x.r = (p : Int)) (hq : y.r = (q : Int)) (hpq : p ≠ q) (h1 : x.b ≤ y.e) (h2 : y.b ≤ x.e) : plc 100 a p ≠ plc 100 a q := by
  obtain ⟨l, s, b, hrp, hsc, hreg, hslot, hak, hsl⟩ := h.sci
  obtain ⟨p', g1, g2, g3, g4, _⟩ := hl'.el x hx
  obtain rfl : p' = p := by omega
  obtain ⟨q', k1, k2, k3, k4, _⟩ := hl'.el y hy
  obtain rfl : q' = q := by omega
  obtain ⟨u, hu, hur⟩ := hrp.all p' x.b g2 g3 g4
  obtain ⟨v, hv, hvr⟩ := hrp.all q' y.b k2 k3 k4
  have e1 := ranges_same hrp hl' hu hx (by omega)
  have e2 := ranges_same hrp hl' hv hy (by omega)
  have hap := hsc.apart u hu v hv (by omega) (by omega) (by omega)
  have pu := hsc.place u hu
  have pv := hsc.place v hv
  rw [hur] at hap pu
  rw [hvr] at hap pv
  have hg : ∀ r, r < n → a.reg.getD r 0 = s.R (r : Int) ∧ a.slot.getD r (-1) = s.S (r : Int) := fun r hr => ⟨by rw [hreg]; exact map_getD n (fun (r : Nat) => s.R (r : Int)) 0 hr, by rw [hslot]; exact map_getD n (fun (r : Nat) => s.S (r : Int)) (-1) hr⟩
  unfold plc
  rw [if_neg (show ¬ p' = 0 by omega), if_neg (show ¬ q' = 0 by omega), (hg p' g3).1, (hg p' g3).2, (hg q' k3).1, (hg q' k3).2]
  intro e
  rcases pu with h3 | h3
  · rw [if_pos (by omega)] at e
    rcases pv with h4 | h4
    · rw [if_pos (by omega)] at e
      exact hap.1 ⟨e, h3.1⟩
    · rw [if_neg (by omega), if_pos (by omega)] at e; omega
  · rw [if_neg (by omega), if_pos (by omega)] at e
    rcases pv with h4 | h4
    · rw [if_pos (by omega)] at e; omega
    · rw [if_neg (by omega), if_pos (by omega)] at e
      exact hap.2 ⟨by omega, by omega⟩
end Go.Proofs.Ytlaogkbdjkofaaa
