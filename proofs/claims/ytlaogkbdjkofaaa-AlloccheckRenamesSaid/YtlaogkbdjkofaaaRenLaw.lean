/- An allocation with its places permuted is accepted where it is accepted: the plain law. No program. -/
import Derived.Test.YtlaogkbdjkofaaaAccPl
namespace Go.Proofs.Ytlaogkbdjkofaaa
open Go.RowKit
set_option linter.unusedVariables false
set_option linter.unusedSimpArgs false

/-- the same allocation with its places renamed -/
structure RenA (p : Nat → Nat) (a b : AL) (n : Nat) : Prop where
  inj : ∀ i j, p i = p j → i = j
  zero : p 0 = 0
  ten : ∀ i, (1 ≤ p i ∧ p i ≤ 10) ↔ (1 ≤ i ∧ i ≤ 10)
  at_ : ∀ r, r < n → 0 ≤ plc 11 a r ∧ 0 ≤ plc 11 b r ∧ (plc 11 b r).toNat = p (plc 11 a r).toNat
def RelX (p : Nat → Nat) (X Y : Nat → Nat → Bool) : Prop := ∀ i q, Y (p i) q = X i q
section
variable {p : Nat → Nat} {a b : AL} {n nb : Nat} {f : VF}
theorem RenA.nz (h : RenA p a b n) {r : Nat} (hr : r < n) : plc 11 b r = 0 ↔ plc 11 a r = 0 := by
  obtain ⟨h1, h2, h3⟩ := h.at_ r hr
  constructor
  · intro e
    have : p (plc 11 a r).toNat = p 0 := by rw [← h3, h.zero, e]; rfl
    have := h.inj _ _ this
    omega
  · intro e
    rw [e] at h3
    have : (plc 11 b r).toNat = 0 := by rw [h3]; exact h.zero
    omega
theorem useB_ren (h : RenA p a b n) {X Y : Nat → Nat → Bool} (hx : RelX p X Y) {r : Nat} (hr : r < n) : useB b Y r = useB a X r := by
  unfold useB
  rw [(h.at_ r hr).2.2, hx]
  congr 1
  exact decide_eq_decide.2 (not_congr (h.nz hr))
theorem usedB_ren (h : RenA p a b n) {X Y : Nat → Nat → Bool} (hx : RelX p X Y) : ∀ l : List Nat, (∀ r ∈ l, r < n) → usedB b Y l = usedB a X l
  | [], _ => rfl
  | r :: l, hl => by
    have := usedB_ren h hx l fun r hr => hl r (List.mem_cons_of_mem _ hr)
    unfold usedB at this ⊢
    rw [List.all_cons, List.all_cons, this, useB_ren h hx (hl r List.mem_cons_self)]
theorem defX_ren (h : RenA p a b n) {X Y : Nat → Nat → Bool} (hx : RelX p X Y) {r d : Nat} (hr : r < n) {A B : Nat → Bool} (hA : ∀ q, B q = A q) : RelX p (defX X (plc 11 a r).toNat d A) (defX Y (plc 11 b r).toNat d B) := by
  intro i q
  unfold defX
  obtain ⟨h1, h2, h3⟩ := h.at_ r hr
  have hz := h.nz hr
  have hi : p i = (plc 11 b r).toNat ↔ i = (plc 11 a r).toNat := by
    rw [h3]
    exact ⟨fun e => h.inj _ _ e, fun e => by rw [e]⟩
  rw [hA q, hx i q]
  by_cases e1 : (plc 11 a r).toNat ≠ 0 ∧ i = (plc 11 a r).toNat
  · rw [if_pos e1, if_pos ⟨by omega, hi.2 e1.2⟩]
  · rw [if_neg e1, if_neg (fun e2 => e1 ⟨by omega, hi.1 e2.2⟩)]
theorem callX_ren (h : RenA p a b n) {X Y : Nat → Nat → Bool} (hx : RelX p X Y) (x : VI) : RelX p (callX x X) (callX x Y) := by
  intro i q
  unfold callX
  rw [hx i q]
  have := h.ten i
  by_cases e : callB x.op = true ∧ 1 ≤ i ∧ i ≤ 10
  · rw [if_pos e, if_pos ⟨e.1, this.2 e.2⟩]
  · rw [if_neg e, if_neg fun e2 => e ⟨e2.1, this.1 e2.2⟩]
theorem insX_ren (h : RenA p a b n) {X Y : Nat → Nat → Bool} (hx : RelX p X Y) {x : VI} (fx : x.Fits n) : RelX p (insX a x X) (insX b x Y) := by
  have hc := callX_ren h hx x
  intro i q
  unfold insX
  by_cases e : defV x = 0
  · rw [if_pos e, if_pos e]; exact hc i q
  · rw [if_neg e, if_neg e]
    have hd := fx.d
    have ha := fx.a
    refine defX_ren h hc (by omega) (fun q => ?_) i q
    unfold alsoA
    by_cases e2 : x.op = 100 ∧ x.a ≠ 0
    · rw [if_pos e2, if_pos e2, (h.at_ x.a.toNat (by omega)).2.2, hc]
    · rw [if_neg e2, if_neg e2]
def RelO' (p : Nat → Nat) : Option (Nat → Nat → Bool) → Option (Nat → Nat → Bool) → Prop
  | none, none => True
  | some X, some Y => RelX p X Y
  | _, _ => False
theorem inssT_ren (h : RenA p a b n) : ∀ {l : List VI}, (∀ x ∈ l, x.Fits n) → ∀ {X Y : Nat → Nat → Bool}, RelX p X Y → RelO' p (inssT a l X) (inssT b l Y)
  | [], _, X, Y, hx => hx
  | x :: l, hl, X, Y, hx => by
    have fx := hl x List.mem_cons_self
    have hu : usedB b Y (usesN x) = usedB a X (usesN x) := usedB_ren h hx _ fun r hr => by
      unfold usesN at hr
      obtain ⟨z, hz, rfl⟩ := List.mem_map.1 hr
      have := fx.uses z hz
      omega
    unfold inssT insT
    rw [hu]
    by_cases e : usedB a X (usesN x) = true
    · rw [if_pos e, if_pos e]
      exact inssT_ren h (fun y hy => hl y (List.mem_cons_of_mem _ hy)) (insX_ren h hx fx)
    · rw [if_neg e, if_neg e]
      exact True.intro
theorem blkT_ren (h : RenA p a b n) {c : VB} (hb : ∀ x ∈ c.ins, x.Fits n) (he : ∀ z ∈ endV c.e, 1 ≤ z ∧ z < n) {X Y : Nat → Nat → Bool} (hx : RelX p X Y) : RelO' p (blkT a c X) (blkT b c Y) := by
  have h1 := inssT_ren h hb hx
  unfold blkT
  cases e1 : inssT a c.ins X with
  | none =>
    rw [e1] at h1
    cases e2 : inssT b c.ins Y with
    | none => exact True.intro
    | some _ => rw [e2] at h1; exact h1.elim
  | some X' =>
    rw [e1] at h1
    cases e2 : inssT b c.ins Y with
    | none => rw [e2] at h1; exact h1.elim
    | some Y' =>
      rw [e2] at h1
      have hu : usedB b Y' ((endV c.e).map Int.toNat) = usedB a X' ((endV c.e).map Int.toNat) := usedB_ren h h1 _ fun r hr => by
        obtain ⟨z, hz, rfl⟩ := List.mem_map.1 hr
        have := he z hz
        omega
      show RelO' p (if _ then _ else _) (if _ then _ else _)
      rw [hu]
      by_cases e : usedB a X' ((endV c.e).map Int.toNat) = true
      · rw [if_pos e, if_pos e]; exact h1
      · rw [if_neg e, if_neg e]; exact True.intro
theorem startX_ren (h : RenA p a b n) : ∀ (ps : List Nat) (X Y : Nat → Nat → Bool), (∀ r ∈ ps, r < n) → RelX p X Y → RelX p (ps.foldl (fun X r => defX X (plc 11 a r).toNat r (fun _ => false)) X) (ps.foldl (fun X r => defX X (plc 11 b r).toNat r (fun _ => false)) Y)
  | [], _, _, _, hx => hx
  | r :: ps, X, Y, hp, hx => startX_ren h ps _ _ (fun q hq => hp q (List.mem_cons_of_mem _ hq)) (defX_ren h hx (hp r List.mem_cons_self) fun _ => rfl)
theorem good_ren (hok : FnOk f n nb) (h : RenA p a b n) : GoodS f a (startX a (f.params.map Int.toNat)) ↔ GoodS f b (startX b (f.params.map Int.toNat)) := by
  have h0 : RelX p (startX a (f.params.map Int.toNat)) (startX b (f.params.map Int.toNat)) := startX_ren h _ _ _ (fun r hr => by
    obtain ⟨z, hz, rfl⟩ := List.mem_map.1 hr
    have := hok.par z hz
    omega) fun _ _ => rfl
  have hblk : ∀ {i : Nat} {c : VB}, f.blocks[i]? = some c → ∀ {X Y}, RelX p X Y → RelO' p (blkT a c X) (blkT b c Y) := fun {i c} hc {X Y} hx => by
    obtain ⟨h9, h8⟩ := List.getElem?_eq_some_iff.1 hc
    rw [f.blk_get h9] at h8
    subst h8
    exact blkT_ren h (hok.fits.ins i h9) (hok.fits.ends i h9) hx
  have k1 : ∀ i X, ReachS f a (startX a (f.params.map Int.toNat)) i X → ∃ Y, ReachS f b (startX b (f.params.map Int.toNat)) i Y ∧ RelX p X Y := by
    intro i X hr
    induction hr with
    | start => exact ⟨_, .start, h0⟩
    | @step i X X' c t hr hc hX ht ih =>
      obtain ⟨Y, hY, hx⟩ := ih
      have h1 := hblk hc hx
      rw [hX] at h1
      cases e : blkT b c Y with
      | none => rw [e] at h1; exact h1.elim
      | some Y' => rw [e] at h1; exact ⟨Y', .step hY hc e ht, h1⟩
  have k2 : ∀ i Y, ReachS f b (startX b (f.params.map Int.toNat)) i Y → ∃ X, ReachS f a (startX a (f.params.map Int.toNat)) i X ∧ RelX p X Y := by
    intro i Y hr
    induction hr with
    | start => exact ⟨_, .start, h0⟩
    | @step i Y Y' c t hr hc hY ht ih =>
      obtain ⟨X, hX, hx⟩ := ih
      have h1 := hblk hc hx
      rw [hY] at h1
      cases e : blkT a c X with
      | none => rw [e] at h1; exact h1.elim
      | some X' => rw [e] at h1; exact ⟨X', .step hX hc e ht, h1⟩
  constructor
  · intro hg i Y c hr hc hn
    obtain ⟨X, hX, hx⟩ := k2 i Y hr
    have h1 := hblk hc hx
    rw [hn] at h1
    cases e : blkT a c X with
    | none => exact hg i X c hX hc e
    | some _ => rw [e] at h1; exact h1
  · intro hg i X c hr hc hn
    obtain ⟨Y, hY, hx⟩ := k1 i X hr
    have h1 := hblk hc hx
    rw [hn] at h1
    cases e : blkT b c Y with
    | none => exact hg i Y c hY hc e
    | some _ => rw [e] at h1; exact h1
/-- a place turned -/
def g1 (c z : Int) : Int := if 0 < z then 1 + (z - 1 + c) % 10 else z
def g2 (K s z : Int) : Int := if 0 ≤ z then (z + s) % K else z
theorem mod_two {x K : Int} (h0 : 0 ≤ x) (h : x < 2 * K) : x % K = if x < K then x else x - K := by
  split
  · exact Int.emod_eq_of_lt h0 (by assumption)
  · rw [← Int.sub_emod_right, Int.emod_eq_of_lt (by omega) (by omega)]
def turnP (c K s : Int) (i : Nat) : Nat := if i = 0 then 0 else if i ≤ 10 then (g1 c i).toNat else if (i : Int) < 11 + K then (11 + g2 K s (i - 11)).toNat else i
theorem g2_at {K s z : Int} (hs : 0 ≤ s ∧ s < K) (hz : 0 ≤ z ∧ z < K) : g2 K s z = if z + s < K then z + s else z + s - K := by
  unfold g2
  rw [if_pos hz.1, mod_two (by omega) (by omega)]
theorem g1_at {c z : Int} (hc : 0 ≤ c ∧ c < 10) (hz : 1 ≤ z ∧ z ≤ 10) : g1 c z = if z - 1 + c < 10 then z + c else z + c - 10 := by
  unfold g1
  rw [if_pos (by omega), mod_two (by omega) (by omega)]
  split <;> omega
theorem pairsE_ren {c K s : Int} (hc : 0 ≤ c ∧ c < 10) (hs : 0 ≤ s ∧ (0 < K → s < K)) : ∀ {rs ss : List Int}, pairsE K rs ss = 0 → pairsE K (rs.map (g1 c)) (ss.map (g2 K s)) = 0
  | r :: rs, z :: ss, h => by
    unfold pairsE at h
    split at h
    · cases h
    · rename_i q1
      split at h
      · cases h
      · rename_i q2
        rw [List.map_cons, List.map_cons]
        unfold pairsE
        have hr : (g1 c r = r ∧ r ≤ 0) ∨ (1 ≤ r ∧ 1 ≤ g1 c r ∧ g1 c r ≤ 10) := by
          by_cases h9 : 0 < r
          · right
            rw [g1_at hc (by omega)]
            split <;> omega
          · left; unfold g1; rw [if_neg h9]; omega
        have hz : (g2 K s z = z ∧ z < 0) ∨ (0 ≤ z ∧ 0 ≤ g2 K s z ∧ g2 K s z < K) := by
          by_cases h9 : 0 ≤ z
          · right
            rw [g2_at ⟨hs.1, hs.2 (by omega)⟩ (by omega)]
            split <;> omega
          · left; unfold g2; rw [if_neg h9]; omega
        rw [if_neg (by omega), if_neg (by omega)]
        exact pairsE_ren hc hs h
  | [], _, _ => by simp [pairsE]
  | r :: rs, [], _ => by simp [pairsE]
/-- an allocation turned -/
structure TurnA (c s : Int) (a b : AL) : Prop where
  reg : b.reg = a.reg.map (g1 c)
  slot : b.slot = a.slot.map (g2 a.k s)
  k : b.k = a.k
  rn : b.rn = a.rn
  sn : b.sn = a.sn
theorem TurnA.err {c s : Int} (hc : 0 ≤ c ∧ c < 10) (hs : 0 ≤ s ∧ (0 < a.k → s < a.k)) (h : TurnA c s a b) (he : allocE f a = 0) : allocE f b = 0 := by
  unfold allocE at he ⊢
  rw [h.rn, h.sn, h.k, h.reg, h.slot]
  split at he
  · contradiction
  rename_i q0
  split at he
  · cases he
  rename_i q1
  split at he
  · cases he
  rename_i q2
  rw [if_neg q0, if_neg q1, if_neg q2]
  exact pairsE_ren hc hs he
theorem TurnA.ren {w : World} {c s : Int} (hc : 0 ≤ c ∧ c < 10) (hs : 0 ≤ s ∧ (0 < a.k → s < a.k)) (ha : a.Ok w) (hn : f.regs = (n : Int)) (h : TurnA c s a b) (he : allocE f a = 0) : RenA (turnP c a.k s) a b n := by
  have hp : ∀ r, r < n → -1 ≤ a.reg.getD r 0 ∧ a.reg.getD r 0 ≤ 10 ∧ -1 ≤ a.slot.getD r (-1) ∧ a.slot.getD r (-1) < a.k := by
    unfold allocE at he
    split at he
    · contradiction
    split at he
    · cases he
    rename_i h1
    split at he
    · cases he
    have hrl : a.reg.length = a.rn := by simpa using ha.rcame.count
    have hsl : a.slot.length = a.sn := by simpa using ha.scame.count
    exact fun r hr => pairsE_ok he r (by omega) (by omega)
  have hval : ∀ i, turnP c a.k s i = if i = 0 then 0 else if i ≤ 10 then (if (i : Int) - 1 + c < 10 then i + c else i + c - 10 : Int).toNat else if (i : Int) < 11 + a.k then (11 + (if (i : Int) - 11 + s < a.k then (i : Int) - 11 + s else (i : Int) - 11 + s - a.k)).toNat else i := fun i => by
    unfold turnP
    split
    · rfl
    · split
      · rw [g1_at hc (by omega)]
      · split
        · rw [g2_at ⟨hs.1, hs.2 (by omega)⟩ (by omega)]
        · rfl
  refine ⟨fun i j e => ?_, rfl, fun i => ?_, fun r hr => ?_⟩
  · rw [hval i, hval j] at e
    have hs1 := hs.1
    have hs2 := hs.2
    (repeat' split at e) <;> omega
  · rw [hval i]
    have hs1 := hs.1
    have hs2 := hs.2
    split
    · omega
    · split
      · split <;> omega
      · split
        · split <;> omega
        · omega
  · obtain ⟨q1, q2, q3, q4⟩ := hp r hr
    have e1 : b.reg.getD r 0 = g1 c (a.reg.getD r 0) := by
      rw [h.reg, List.getD_eq_getElem?_getD, List.getD_eq_getElem?_getD, List.getElem?_map]
      cases a.reg[r]? <;> simp [g1]
    have e2 : b.slot.getD r (-1) = g2 a.k s (a.slot.getD r (-1)) := by
      rw [h.slot, List.getD_eq_getElem?_getD, List.getD_eq_getElem?_getD, List.getElem?_map]
      cases a.slot[r]? <;> simp [g2]
    have hs1 := hs.1
    have hs2 := hs.2
    unfold plc
    rw [e1, e2]
    by_cases h0 : r = 0
    · rw [if_pos h0, if_pos h0]; exact ⟨by omega, by omega, rfl⟩
    rw [if_neg h0, if_neg h0]
    generalize a.reg.getD r 0 = x at *
    generalize a.slot.getD r (-1) = z at *
    by_cases hx : 0 < x
    · rw [if_pos hx]
      have h9 := g1_at hc (z := x) (by omega)
      have h8 : 0 < g1 c x := by rw [h9]; split <;> omega
      rw [if_pos h8]
      refine ⟨by omega, by omega, ?_⟩
      unfold turnP
      rw [if_neg (by omega), if_pos (by omega)]
      rw [show ((x.toNat : Nat) : Int) = x by omega]
    · rw [if_neg hx, show g1 c x = x by unfold g1; rw [if_neg hx], if_neg hx]
      by_cases hz : 0 ≤ z
      · have h9 := g2_at (K := a.k) (s := s) (z := z) ⟨hs1, hs2 (by omega)⟩ (by omega)
        have h8 : 0 ≤ g2 a.k s z := by rw [h9]; split <;> omega
        rw [if_pos hz, if_pos h8]
        refine ⟨by omega, by omega, ?_⟩
        unfold turnP
        rw [if_neg (by omega), if_neg (by omega), if_pos (by omega)]
        rw [show (((11 + z).toNat : Nat) : Int) - 11 = z by omega]
      · rw [if_neg hz, show g2 a.k s z = z by unfold g2; rw [if_neg hz], if_neg hz]
        exact ⟨by omega, by omega, rfl⟩
end
end Go.Proofs.Ytlaogkbdjkofaaa
