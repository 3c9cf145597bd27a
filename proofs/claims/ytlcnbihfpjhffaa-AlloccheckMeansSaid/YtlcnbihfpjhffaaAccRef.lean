/- AlloccheckSays: the reference's pairs stand for a state, in plain Lean. No function of the program is walked. AlloccheckSays: what the reference's Accepted follows, in plain Lean. No function of the program is walked. What Check says of a function, for AlloccheckSays. No function of the program is walked. -/
import Derived.Test.YtlcnbihfpjhffaaWAll
import Derived.Test.YtlcnbihfpjhffaaAccLaw
namespace Go.Proofs.Ytlcnbihfpjhffaa
open Go.RowKit
set_option linter.unusedVariables false
set_option linter.unusedSimpArgs false

/-- the place that the reference names for a row -/
def spotOf (i : Nat) : Int := if i ≤ 10 then (i : Int) else (i : Int) + 89


theorem pairsE_ok {k : Int} : ∀ {rs ss : List Int}, pairsE k rs ss = 0 → ∀ i, i < rs.length → i < ss.length → -1 ≤ rs.getD i 0 ∧ rs.getD i 0 ≤ 10 ∧ -1 ≤ ss.getD i (-1) ∧ ss.getD i (-1) < k
 | r :: rs, s :: ss, h, i, h1, h2 => by
  unfold pairsE at h
  split at h
  ·cases h
  ·split at h
   ·cases h
   ·cases i with
    | zero => simp; omega
    | succ i => simpa using pairsE_ok h i (by simpa using h1) (by simpa using h2)
 | [], _, _, i, h1, _ => absurd h1 (Nat.not_lt_zero _)
 | _ :: _, [], _, i, _, h2 => absurd h2 (Nat.not_lt_zero _)
/-- what Check says of an allocation -/
structure AL.Good (a : AL) (n m : Nat) : Prop where
 fit : a.Fit n m
 hm : 11 ≤ m ∧ m ≤ 9000
 k : a.k = ((m - 11 : Nat) : Int)
 spot : ∀ r, r < n → plc 100 a r = spotOf (plc 11 a r).toNat
theorem AL.good {f : VF} {a : AL} {w : World} (ha : a.Ok w) {n : Nat} (hn : f.regs = (n : Int)) (h : allocE f a = 0) : a.Good n (11 + a.k.toNat) := by
 unfold allocE at h
 split at h
 ·contradiction
 split at h
 ·cases h
 rename_i h1
 split at h
 ·cases h
 rename_i h2
 have hrl : a.reg.length = a.rn := by simpa using ha.rcame.count
 have hsl : a.slot.length = a.sn := by simpa using ha.scame.count
 have hrn : a.rn = n := by omega
 have hsn : a.sn = n := by omega
 have hp := fun r (hr : r < n) => pairsE_ok h r (by omega) (by omega)
 have hpl : ∀ r, r < n → (plc 11 a r = 0 ∧ plc 100 a r = 0) ∨ (1 ≤ plc 11 a r ∧ plc 11 a r ≤ 10 ∧ plc 100 a r = plc 11 a r) ∨ (11 ≤ plc 11 a r ∧ plc 11 a r < 11 + a.k ∧ plc 100 a r = plc 11 a r + 89) := fun r hr => by
  obtain ⟨q1, q2, q3, q4⟩ := hp r hr
  unfold plc
  split
  ·exact .inl ⟨rfl, rfl⟩
  split
  ·exact .inr (.inl ⟨by omega, by omega, rfl⟩)
  split
  ·exact .inr (.inr ⟨by omega, by omega, by omega⟩)
  ·exact .inl ⟨rfl, rfl⟩
 refine ⟨⟨hrn, hsn, fun z hz => ?_, fun r hr => ?_⟩, by omega, by omega, fun r hr => ?_⟩
 ·obtain ⟨i, hi, rfl⟩ := List.getElem_of_mem hz
  obtain ⟨_, _, _, q4⟩ := hp i (by omega)
  have : a.slot.getD i (-1) = a.slot[i] := by simp [List.getD, hi]
  rw [this] at q4
  omega
 ·rcases hpl r hr with ⟨h3, _⟩ | ⟨h3, h4, _⟩ | ⟨h3, h4, _⟩ <;> omega
 ·unfold spotOf
  rcases hpl r hr with ⟨h3, h4⟩ | ⟨h3, h4, h5⟩ | ⟨h3, h4, h5⟩ <;> split <;> omega


/-- an instruction whose registers are below n -/
structure VI.Fits (n : Nat) (x : VI) : Prop where
 uses : ∀ z ∈ usesV x, 1 ≤ z ∧ z < n
 a : 0 ≤ x.a ∧ x.a < n
 d : 0 ≤ defV x ∧ defV x < n
 dx : x.op = 100 → defV x = x.d

/-- the function's instructions and ends name registers below n -/
structure VF.Fits (f : VF) (n : Nat) : Prop where
 ins : ∀ i, i < f.blocks.length → ∀ x ∈ (f.blk i).ins, x.Fits n
 ends : ∀ i, i < f.blocks.length → ∀ z ∈ endV (f.blk i).e, 1 ≤ z ∧ z < n
 tos : TosV f f.blocks.length

structure FnOk (f : VF) (n nb : Nat) : Prop where
 regs : f.regs = (n : Int)
 n2 : 0 < n ∧ n ≤ 8192
 nbl : nb = f.blocks.length
 sn : f.sn = nb
 nb2 : 0 < nb ∧ nb ≤ 4096
 fits : f.Fits n
 par : ∀ r ∈ f.params, 1 ≤ r ∧ r < n
 pn : f.pn ≤ 6
 ins : ∀ i, i < nb → (f.blk i).ins.length ≤ 4096
 tos : ∀ i, i < nb → (f.blk i).e.to.length ≤ 2
 ab : ∀ i, i < nb → (0 ≤ (f.blk i).e.a ∧ (f.blk i).e.a < n) ∧ 0 ≤ (f.blk i).e.b ∧ (f.blk i).e.b < n
theorem parE_ok {regs : Int} : ∀ {l pre : List Int}, parE regs pre l = 0 → ∀ r ∈ l, 1 ≤ r ∧ r < regs
 | [], _, _, r, hr => by cases hr
 | q :: l, pre, h, r, hr => by
  unfold parE at h
  split at h
  ·cases h
  ·rename_i h1
   split at h
   ·cases h
   ·rcases List.mem_cons.1 hr with rfl | hr
    ·have h2 : inB r 1 (regs - 1) = true := by simpa using h1
     have := inB_true.1 h2
     omega
    ·exact parE_ok h r hr
theorem endMany_le (k : Int) : endMany k ≤ 2 := by unfold endMany; split <;> (try split) <;> omega
theorem fnOk {f : VF} {w : World} (hf : f.Ok w) (h : fnE f = 0) : ∃ n, FnOk f n f.blocks.length := by
 unfold fnE at h
 split at h
 ·cases h
 rename_i hbig
 split at h
 ·cases h
 rename_i hsn
 split at h
 ·contradiction
 rename_i hpar
 split at h
 ·contradiction
 rename_i hblk
 have hpar : parE f.regs [] f.params = 0 := Classical.not_not.1 hpar
 have hblk : blkE f.regs f.sn 0 f.blocks = 0 := Classical.not_not.1 hblk
 have hlen := hf.len
 unfold bigV at hbig
 simp only [Bool.or_eq_true, decide_eq_true_eq, Bool.not_eq_true', not_or, Bool.not_eq_false] at hbig
 obtain ⟨⟨hb1, hb2⟩, hb3⟩ := hbig
 have hr := inB_true.1 hb3
 obtain ⟨n, hn⟩ : ∃ n : Nat, f.regs = (n : Int) := ⟨f.regs.toNat, by omega⟩
 have hn0 : 0 < n := by omega
 obtain ⟨hfit, htos, hins⟩ := fits_of (m := f.blocks.length) rfl hlen.symm hn hn0 hblk
 have hin : ∀ i, i < f.blocks.length → f.blk i ∈ f.blocks := fun i hi => by rw [← VF.blk_get f hi]; exact List.getElem_mem _
 refine ⟨n, hn, ⟨hn0, by omega⟩, rfl, hlen.symm, ⟨by omega, by omega⟩, ⟨fun i hi x hx => ⟨fun z hz => (hfit i hi).u x hx z hz, ?_, (hfit i hi).d x hx, fun e => by unfold defV; rw [e]; simp⟩, fun i hi z hz => (hfit i hi).e z hz, htos⟩, fun r hr => ?_, by omega, hins, fun i hi => ?_, fun i hi => ?_⟩
 ·have h1 := (blkE_ok hblk _ (hin i hi)).1
  have h2 := badI_names (insE_ok h1 x hx)
  have := inB_true.1 (List.all_eq_true.1 h2 x.a (by simp))
  omega
 ·have := parE_ok hpar r hr
  omega
 ·have h1 := (blkE_ok hblk _ (hin i hi)).2.1
  have hsnl := ((hf.blocks _ (hin i hi)).e).len
  unfold badE at h1
  split at h1
  ·cases h1
  split at h1
  ·cases h1
  rename_i h2
  have := endMany_le (f.blk i).e.kind
  have h3 : ((f.blk i).e.sn : Int) = endMany (f.blk i).e.kind := by
   rcases Classical.em (((f.blk i).e.sn : Int) = endMany (f.blk i).e.kind) with h | h
   ·exact h
   ·exact absurd (.inr h) h2
  omega
 ·have h1 := (blkE_ok hblk _ (hin i hi)).2.1
  have := badE_ok h1
  rw [hn] at this
  omega
theorem allocE_fn {f : VF} {a : AL} (h : allocE f a = 0) : fnE f = 0 := by
 unfold allocE at h
 split at h
 ·contradiction
 ·rename_i h1; exact Classical.not_not.1 h1
end Go.Proofs.Ytlcnbihfpjhffaa
