/- FrameMaps: what its walk reads. No function of the program is walked. -/
import Derived.Test.YtdnpoomagjcpfaaGreatMapP
import Derived.Test.YtdnpoomagjcpfaaGreatRetAl
import Derived.Test.YtdnpoomagjcpfaaGreatVAlive
namespace Go.Proofs.YtdnpoomagjcpfaaGreat
open Go.RowKit
set_option linter.unusedVariables false
set_option linter.unusedSimpArgs false

theorem and_bits {b c : Nat} (hc : c < 65536) : bits .and .i64 (b : Int) (c : Int) = ((b &&& c : Nat) : Int) := by
 have h2 : b &&& c ≤ c := Nat.and_le_right
 have e1 : (BitVec.ofInt 64 (b : Int)).toNat = b % 2 ^ 64 := by rw [ofInt_i64]; omega
 have e2 : (BitVec.ofInt 64 (c : Int)).toNat = c := by rw [ofInt_i64]; omega
 have e3 : b % 2 ^ 64 &&& c = b &&& c := by
  apply Nat.eq_of_testBit_eq
  intro i
  rw [Nat.testBit_and, Nat.testBit_and, Nat.testBit_mod_two_pow]
  by_cases h : i < 64
  ·simp [h]
  ·rw [Nat.testBit_lt_two_pow (show c < 2 ^ i from Nat.lt_of_lt_of_le hc (Nat.le_trans (by decide : 65536 ≤ 2 ^ 16) (Nat.pow_le_pow_right (by decide) (by omega))))]
   simp
 show IntKind.i64.wrap ((BitVec.ofInt 64 (b : Int) &&& BitVec.ofInt 64 (c : Int)).toNat : Nat) = _
 rw [BitVec.toNat_and, e1, e2, e3, IntKind.wrap_i64]
 omega
theorem op_not {o k : Int} (h : (o == 101 || o == 102) = true) (hk : k ≠ 101 ∧ k ≠ 102) : (o == k) = false := by
 have h1 : o = 101 ∨ o = 102 := by simpa using h
 simp only [beq_eq_false_iff_ne, ne_eq]
 omega
theorem blk_tyM {w : World} {a b : Nat} {t u : TypeId} {cs ds : List Value} (h : Blk w a t cs) (k : Blk w b u ds) (ht : t ≠ u) : a ≠ b := fun e => by
 have h1 : w.heap[a]? = _ := h
 have h2 : w.heap[b]? = _ := k
 rw [e, h2] at h1
 injection h1 with h1
 injection h1 with _ h1 _
 exact ht h1.symm
theorem setF_skip {a : AL} {A : Nat → Bool} {m : Nat} (h : A m = false) : setF a A (m + 1) = setF a A m ∧ ∀ t, sloF a A (m + 1) t = sloF a A m t := by
 refine ⟨?_, fun t => ?_⟩
 ·rw [setF_succ, if_neg (by rw [h]; simp)]
 ·rw [sloF_succ, h]; simp
theorem setF_reg {a : AL} {A : Nat → Bool} {m q : Nat} (h : A m = true) (h0 : m ≠ 0) (hp : ofP a m = ((q : Int), -1)) : setF a A (m + 1) = setF a A m ||| 1 <<< q ∧ ∀ t, sloF a A (m + 1) t = sloF a A m t := by
 refine ⟨?_, fun t => ?_⟩
 ·rw [setF_succ, if_pos ⟨h, h0, by rw [hp]; dsimp only; omega⟩, hp]; rfl
 ·rw [sloF_succ, hp]
  have : decide ((-1 : Int) = (t : Int)) = false := decide_eq_false (by omega)
  rw [this]; simp
theorem setF_slot {a : AL} {A : Nat → Bool} {m q : Nat} (h : A m = true) (h0 : m ≠ 0) (hp : ofP a m = (-1, (q : Int))) : setF a A (m + 1) = setF a A m ∧ ∀ t, sloF a A (m + 1) t = if t = q then true else sloF a A m t := by
 refine ⟨?_, fun t => ?_⟩
 ·rw [setF_succ, if_neg (by rw [hp]; dsimp only; omega)]
 ·rw [sloF_succ, hp, h]
  by_cases e : t = q
  ·subst e; simp [h0]
  ·have : decide ((q : Int) = (t : Int)) = false := decide_eq_false (by omega)
   rw [if_neg e, this]; simp
/-- where a register lies that occurs -/
theorem place_live {f : VF} {n nb : Nat} {k : Int} {a : AL} {w : World} (hP : PlacedA f n nb k a) (ha : a.Ok w) (hrn : a.rn = n) (hsn : a.sn = n) {r : Nat} (hr : r < n) (h0 : r ≠ 0) (ho : OccP f nb r) :
 (a.slot.getD r (-1) < 0 ∧ 0 < a.reg.getD r 0 ∧ a.reg.getD r 0 ≤ 10 ∧ ofP a r = (a.reg.getD r 0, -1)) ∨ (0 ≤ a.slot.getD r (-1) ∧ a.slot.getD r (-1) < a.k ∧ ofP a r = (-1, a.slot.getD r (-1))) := by
 have h1 : a.reg.length = n := by rw [← hrn]; simpa using ha.rcame.count
 have h2 : a.slot.length = n := by rw [← hsn]; simpa using ha.scame.count
 have hz : (r : Int) ≠ 0 := by omega
 have herr := hP.err
 have hfe := allocE_fn herr
 unfold allocE at herr
 rw [if_neg (by simp [hfe])] at herr
 split at herr
 ·cases herr
 split at herr
 ·cases herr
 obtain ⟨k1, k2, k3⟩ := pairsE_inv a.reg a.slot herr r (by omega) (by omega)
 have hp := (hP.spot r hr).2 ⟨by omega, ho⟩
 unfold plc at hp
 rw [if_neg h0] at hp
 unfold ofP
 rw [if_neg hz, Int.toNat_natCast]
 by_cases hg : 0 < a.reg.getD r 0
 ·rw [if_pos hg]
  exact .inl ⟨by omega, hg, by omega, rfl⟩
 ·rw [if_neg hg] at hp ⊢
  by_cases hs : 0 ≤ a.slot.getD r (-1)
  ·rw [if_pos hs]
   exact .inr ⟨hs, by omega, rfl⟩
  ·rw [if_neg hs] at hp
   exact absurd rfl hp
theorem alive_occ {f : VF} {nb i q r : Nat} (ht : TosV f nb) (hi : i < nb) (h : AliveP f i q r) : OccP f nb r := by
 rcases h with h | ⟨_, t, h1, h2⟩
 ·exact .inr (gen_occ hi h)
 ·have := ht i hi _ h1
  exact .inr (live_occ ht h2 (by omega))
/-- what the law asks of a register at an instruction -/
noncomputable def alF (f : VF) (i j : Nat) (d : Int) (r : Nat) : Bool := @decide ((r : Int) ≠ d ∧ AliveP f i (j + 1) r) (Classical.propDecidable _)
theorem alF_iff (f : VF) (i j : Nat) (d : Int) (r : Nat) : alF f i j d r = true ↔ (r : Int) ≠ d ∧ AliveP f i (j + 1) r := by unfold alF; exact @decide_eq_true_iff _ (Classical.propDecidable _)
theorem alF_ok {f : VF} {n nb : Nat} {k : Int} {a : AL} {w : World} (hP : PlacedA f n nb k a) (ha : a.Ok w) (hrn : a.rn = n) (hsn : a.sn = n) (ht : TosV f nb) {i : Nat} (hi : i < nb) (j : Nat) (d : Int) : PlaceOk a n (alF f i j d) := ⟨fun r hr h0 hA => by
 rcases place_live hP ha hrn hsn hr h0 (alive_occ ht hi ((alF_iff _ _ _ _ _).1 hA).2) with ⟨h1, h2, h3, h4⟩ | ⟨h1, h2, h4⟩
 ·rw [h4]; exact .inr ⟨h2, h3, by dsimp only; omega⟩
 ·rw [h4]; exact .inl ⟨by dsimp only; omega, h1⟩⟩
/-- no slot lies beyond the last -/
theorem sloF_lt {f : VF} {n nb : Nat} {k : Int} {a : AL} {w : World} (hP : PlacedA f n nb k a) (ha : a.Ok w) (hrn : a.rn = n) (hsn : a.sn = n) (ht : TosV f nb) {i : Nat} (hi : i < nb) (j : Nat) (d : Int) {t : Nat} (h : sloF a (alF f i j d) n t = true) : (t : Int) < a.k := by
 unfold sloF at h
 rw [List.any_eq_true] at h
 obtain ⟨r, h1, h2⟩ := h
 simp only [Bool.and_eq_true, bne_iff_ne, ne_eq, decide_eq_true_eq] at h2
 have hr := List.mem_range.1 h1
 rcases place_live hP ha hrn hsn hr h2.1.2 (alive_occ ht hi ((alF_iff _ _ _ _ _).1 h2.1.1).2) with ⟨g1, g2, g3, g4⟩ | ⟨g1, g2, g4⟩
 ·rw [g4] at h2; have := h2.2; dsimp only at this; omega
 ·rw [g4] at h2; have := h2.2; dsimp only at this; omega
theorem slots_full {p : Nat → Bool} {k : Nat} (h : ∀ t, p t = true → t < k) : (List.range k).filter p = (List.range (k + 1)).filter p := by
 have hk : p k = false := Bool.eq_false_iff.2 fun e => Nat.lt_irrefl _ (h k e)
 rw [List.range_succ, List.filter_append]
 simp [hk]
/-- how many of the slots below s are in use -/
def cntS (p : Nat → Bool) (s : Nat) : Nat := ((List.range s).filter p).length
theorem cntS_succ (p : Nat → Bool) (s : Nat) : cntS p (s + 1) = cntS p s + (if p s = true then 1 else 0) := by
 unfold cntS
 rw [List.range_succ, List.filter_append, List.length_append]
 by_cases h : p s = true <;> simp [h]
theorem slots_drop {p : Nat → Bool} {K s : Nat} (hs : s < K) (hp : p s = true) : ((List.range K).filter p).drop (cntS p s) = s :: ((List.range K).filter p).drop (cntS p (s + 1)) := by
 have h0 : (List.range K)[s]? = some s := by rw [List.getElem?_range hs]
 have h1 : (List.range K).filter p = (List.range s).filter p ++ s :: ((List.range K).drop (s + 1)).filter p := by
  have h2 := congrArg (List.filter p) (split_at h0)
  rw [List.filter_append, List.filter_cons, if_pos hp, List.take_range, Nat.min_eq_left (by omega)] at h2
  exact h2
 rw [cntS_succ, if_pos hp, h1]
 have h3 : ((List.range s).filter p).length = cntS p s := rfl
 rw [← h3, List.drop_left, List.drop_append, Nat.add_sub_cancel_left]
 simp
theorem slots_end (p : Nat → Bool) (K : Nat) : ((List.range K).filter p).drop (cntS p K) = [] := List.drop_of_length_le (Nat.le_refl _)
theorem mc_at : ∀ (l : List MC) (k : Nat) (hk : k < l.length), (l.flatMap mcC)[k * 4]? = some (.int .i64 (l[k].mp.item : Int)) ∧ (l.flatMap mcC)[k * 4 + 1]? = some (.bool l[k].mp.after) ∧ (l.flatMap mcC)[k * 4 + 2]? = some l[k].sv ∧ (l.flatMap mcC)[k * 4 + 3]? = some (.int .i64 (l[k].mp.regs : Int)) := fun l k hk =>
 ⟨flatN_get mcC_len l k 0 hk (by omega), flatN_get mcC_len l k 1 hk (by omega), flatN_get mcC_len l k 2 hk (by omega), flatN_get mcC_len l k 3 hk (by omega)⟩
theorem mc_cells {w : World} {B gm mm cm : Nat} {ms : List MC} (ho : w.ownsRow B 50 4 (.slice (some ⟨gm, 0, none⟩) mm cm) mm (ms.flatMap mcC)) (hmm : mm = ms.length) {k : Nat} {x : MC} (hx : ms[k]? = some x) :
  k < mm ∧ w.cell? ⟨gm, k * 4, none⟩ = some (.int .i64 (x.mp.item : Int)) ∧ w.cell? ⟨gm, k * 4 + 1, none⟩ = some (.bool x.mp.after) ∧ w.cell? ⟨gm, k * 4 + 2, none⟩ = some x.sv ∧ w.cell? ⟨gm, k * 4 + 3, none⟩ = some (.int .i64 (x.mp.regs : Int)) := by
 obtain ⟨hi, he⟩ := List.getElem?_eq_some_iff.mp hx
 obtain ⟨h0, h1, h2, h3⟩ := mc_at ms k hi
 rw [he] at h0 h1 h2 h3
 exact ⟨by omega, (ownE_cellAt ho (by omega)).1.trans h0, (ownE_cellAt ho (by omega)).1.trans h1, (ownE_cellAt ho (by omega)).1.trans h2, (ownE_cellAt ho (by omega)).1.trans h3⟩
/-- the rest of a slice behind its first value -/
theorem came_tail {w : World} {b off n c : Nat} {z : Int} {zs : List Int} (h : Came w (some ⟨b, off, none⟩) (n + 1) c 1 ((z :: zs).map intCells)) : Came w (if c = 1 then some ⟨b, off, none⟩ else some ⟨b, off + 1, none⟩) n (c - 1) 1 (zs.map intCells) := by
 have hl : zs.length = n := by have := h.count; simpa using this
 have h1 := h.le
 have h2 := h.max
 refine ⟨by simp; omega, by omega, by omega, fun e => (by split at e <;> cases e), fun v hv => ?_, fun h0 _ => ?_⟩
 ·obtain ⟨z, _, rfl⟩ := List.mem_map.1 hv; rfl
 ·obtain ⟨b', off', e, hb, hc⟩ := h.cells (by omega) (by omega)
  injection e with e
  injection e with e1 e2 _
  subst e1 e2
  refine ⟨b, off + 1, by rw [if_neg (by omega)], hb, fun i v hv j hj => ?_⟩
  have := hc (i + 1) v (by simpa using hv) j hj
  rw [← this, show off + 1 + (i * 1 + j) = off + ((i + 1) * 1 + j) by omega]
end Go.Proofs.YtdnpoomagjcpfaaGreat
