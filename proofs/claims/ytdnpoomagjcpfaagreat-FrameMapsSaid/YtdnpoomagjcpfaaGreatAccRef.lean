/- AlloccheckSays: the reference's pairs stand for a state, in plain Lean. No function of the program is walked. AlloccheckSays: what the reference's Accepted follows, in plain Lean. No function of the program is walked. What Check says of a function, for AlloccheckSays. No function of the program is walked. -/
import Derived.Test.YtdnpoomagjcpfaaGreatWAll
import Derived.Test.YtdnpoomagjcpfaaGreatAccLaw
namespace Go.Proofs.YtdnpoomagjcpfaaGreat
open Go.RowKit
set_option linter.unusedVariables false
set_option linter.unusedSimpArgs false

/-- the place that the reference names for a row -/
def spotOf (i : Nat) : Int := if i ≤ 10 then (i : Int) else (i : Int) + 89
theorem spotOf_inj {i j : Nat} (h : spotOf i = spotOf j) : i = j := by
 unfold spotOf at h
 split at h <;> split at h <;> omega
theorem spotOf_zero {i : Nat} : spotOf i = 0 ↔ i = 0 := by
 unfold spotOf
 split <;> omega
/-- what the reference's pairs say of a state -/
structure RelW (m n : Nat) (zs : List (Int × Int)) (X : Nat → Nat → Bool) : Prop where
 nodup : zs.Nodup
 of : ∀ z ∈ zs, ∃ i r : Nat, 1 ≤ i ∧ i < m ∧ r < n ∧ z = (spotOf i, (r : Int))
 iff : ∀ i r, X i r = true ↔ 1 ≤ i ∧ (spotOf i, (r : Int)) ∈ zs
theorem RelW.sup {m n : Nat} {zs : List (Int × Int)} {X : Nat → Nat → Bool} (h : RelW m n zs X) {i r : Nat} (hx : X i r = true) : 1 ≤ i ∧ i < m ∧ r < n := by
 obtain ⟨h1, h2⟩ := (h.iff i r).1 hx
 obtain ⟨j, q, h3, h4, h5, h6⟩ := h.of _ h2
 injection h6 with h6 h7
 have := spotOf_inj h6
 omega
theorem RelW.det {m n : Nat} {zs zs' : List (Int × Int)} {X Y : Nat → Nat → Bool} (h : RelW m n zs X) (k : RelW m n zs' Y) (e : ∀ z, z ∈ zs ↔ z ∈ zs') : X = Y := by
 funext i r
 have h1 := h.iff i r
 have h2 := k.iff i r
 rw [e] at h1
 cases hx : X i r <;> cases hy : Y i r
 ·rfl
 ·have := h1.2 (h2.1 hy); rw [hx] at this; cases this
 ·have := h2.2 (h1.1 hx); rw [hy] at this; cases this
 ·rfl
theorem RelW.same {m n : Nat} {zs zs' : List (Int × Int)} {X : Nat → Nat → Bool} (h : RelW m n zs X) (k : RelW m n zs' X) (z : Int × Int) : z ∈ zs ↔ z ∈ zs' := by
 constructor
 ·intro hz
  obtain ⟨i, r, h1, _, _, rfl⟩ := h.of z hz
  exact ((k.iff i r).1 ((h.iff i r).2 ⟨h1, hz⟩)).2
 ·intro hz
  obtain ⟨i, r, h1, _, _, rfl⟩ := k.of z hz
  exact ((h.iff i r).1 ((k.iff i r).2 ⟨h1, hz⟩)).2
theorem RelW.nil (m n : Nat) : RelW m n [] (fun _ _ => false) := ⟨List.nodup_nil, fun z hz => (by cases hz), fun i r => by simp⟩

theorem mem_addW {p : Int} : ∀ {ss : List Int} {out : List (Int × Int)} {z : Int × Int}, z ∈ addW p out ss ↔ z ∈ out ∨ (z.1 = p ∧ z.2 ∈ ss)
 | [], out, z => by simp [addW]
 | s :: ss, out, z => by
  show z ∈ addW p (if (p, s) ∈ out then out else out ++ [(p, s)]) ss ↔ _
  rw [mem_addW]
  by_cases h : (p, s) ∈ out
  ·rw [if_pos h]
   constructor
   ·rintro (h1 | ⟨h1, h2⟩)
    ·exact .inl h1
    ·exact .inr ⟨h1, List.mem_cons_of_mem _ h2⟩
   ·rintro (h1 | ⟨h1, h2⟩)
    ·exact .inl h1
    ·rcases List.mem_cons.1 h2 with h3 | h3
     ·obtain ⟨z1, z2⟩ := z
      simp only at h1 h3
      subst h1 h3
      exact .inl h
     ·exact .inr ⟨h1, h3⟩
  ·rw [if_neg h]
   constructor
   ·rintro (h1 | ⟨h1, h2⟩)
    ·rcases List.mem_append.1 h1 with h1 | h1
     ·exact .inl h1
     ·simp at h1; subst h1; exact .inr ⟨rfl, by simp⟩
    ·exact .inr ⟨h1, List.mem_cons_of_mem _ h2⟩
   ·rintro (h1 | ⟨h1, h2⟩)
    ·exact .inl (List.mem_append_left _ h1)
    ·rcases List.mem_cons.1 h2 with h3 | h3
     ·obtain ⟨z1, z2⟩ := z
      simp only at h1 h3
      subst h1 h3
      exact .inl (by simp)
     ·exact .inr ⟨h1, h3⟩
theorem nodup_addW {p : Int} : ∀ {ss : List Int} {out : List (Int × Int)}, out.Nodup → (addW p out ss).Nodup
 | [], out, h => h
 | s :: ss, out, h => by
  show (addW p (if (p, s) ∈ out then out else out ++ [(p, s)]) ss).Nodup
  by_cases hm : (p, s) ∈ out
  ·rw [if_pos hm]; exact nodup_addW h
  ·rw [if_neg hm]
   refine nodup_addW (List.nodup_append.2 ⟨h, by simp, ?_⟩)
   intro x hx y hy e
   simp at hy
   subst e hy
   exact hm hx
theorem mem_keepW {p r : Int} {zs : List (Int × Int)} {z : Int × Int} : z ∈ keepW p r zs ↔ z ∈ zs ∧ z.1 ≠ p ∧ z.2 ≠ r := by
 unfold keepW
 rw [List.mem_filter]
 simp
theorem mem_outW {lo hi : Int} {zs : List (Int × Int)} {z : Int × Int} : z ∈ outW lo hi zs ↔ z ∈ zs ∧ (z.1 < lo ∨ hi < z.1) := by
 unfold outW
 rw [List.mem_filter]
 simp
/-- a pair put in -/
theorem RelW.put {m n : Nat} {zs : List (Int × Int)} {X : Nat → Nat → Bool} (h : RelW m n zs X) {i r : Nat} (hi : i < m) (hr : r < n) {also : List Int} {A : Nat → Bool} (ha : ∀ z ∈ also, ∃ q : Nat, q < n ∧ z = (q : Int)) (hA : ∀ q, A q = true ↔ (q : Int) ∈ also) (hn : i = 0 → also = [] ∨ True) :
  RelW m n (putW (spotOf i) r also zs) (defX X i r A) := by
 have hkeep : RelW m n (keepW (spotOf i) r zs) (fun j q => if j = i then false else if q = r then false else X j q) := by
  refine ⟨List.Nodup.sublist List.filter_sublist h.nodup, fun z hz => ?_, fun j q => ?_⟩
  ·exact h.of z (mem_keepW.1 hz).1
  ·rw [mem_keepW]
   simp only
   by_cases e1 : j = i
   ·subst e1; simp
   ·rw [if_neg e1]
    have e2 : spotOf j ≠ spotOf i := fun e => e1 (spotOf_inj e)
    by_cases e3 : q = r
    ·subst e3; simp
    ·rw [if_neg e3, h.iff j q]
     have e4 : (q : Int) ≠ (r : Int) := by omega
     simp [e2, e4]
 by_cases h0 : i = 0
 ·have e : spotOf i = 0 := spotOf_zero.2 h0
  unfold putW
  rw [if_pos e]
  refine ⟨hkeep.nodup, hkeep.of, fun j q => ?_⟩
  rw [← hkeep.iff j q]
  unfold defX
  rw [if_neg (by rintro ⟨h1, _⟩; exact h1 h0)]
  by_cases e1 : j = i
  ·rw [if_pos e1]
   have : X j q = false := by
    cases hx : X j q
    ·rfl
    ·have := (h.sup hx).1; omega
   rw [this]; simp
  ·rw [if_neg e1]
 ·have e : spotOf i ≠ 0 := fun e => h0 (spotOf_zero.1 e)
  unfold putW
  rw [if_neg e]
  refine ⟨nodup_addW hkeep.nodup, fun z hz => ?_, fun j q => ?_⟩
  ·rcases mem_addW.1 hz with h1 | ⟨h1, h2⟩
   ·exact hkeep.of z h1
   ·obtain ⟨z1, z2⟩ := z
    simp only at h1 h2
    rcases List.mem_append.1 h2 with h2 | h2
    ·obtain ⟨q, hq, rfl⟩ := ha _ h2
     exact ⟨i, q, by omega, hi, hq, by rw [h1]⟩
    ·simp at h2
     exact ⟨i, r, by omega, hi, hr, by rw [h1, h2]⟩
  ·rw [mem_addW]
   simp only
   unfold defX
   by_cases e1 : j = i
   ·subst e1
    rw [if_pos ⟨h0, rfl⟩]
    have hk : (spotOf j, (q : Int)) ∉ keepW (spotOf j) r zs := by rw [mem_keepW]; simp
    by_cases e2 : q = r
    ·subst e2; simp; omega
    ·rw [if_neg e2, hA q]
     have e4 : (q : Int) ≠ (r : Int) := by omega
     simp [hk, e4]
     omega
   ·rw [if_neg (by rintro ⟨_, h1⟩; exact e1 h1)]
    have e2 : spotOf j ≠ spotOf i := fun e => e1 (spotOf_inj e)
    have := hkeep.iff j q
    rw [if_neg e1] at this
    rw [this]
    simp [e2]
theorem RelW.call {m n : Nat} {zs : List (Int × Int)} {X : Nat → Nat → Bool} (h : RelW m n zs X) : RelW m n (outW 1 10 zs) (fun i q => if 1 ≤ i ∧ i ≤ 10 then false else X i q) := by
 refine ⟨List.Nodup.sublist List.filter_sublist h.nodup, fun z hz => h.of z (mem_outW.1 hz).1, fun j q => ?_⟩
 rw [mem_outW]
 by_cases e : 1 ≤ j ∧ j ≤ 10
 ·rw [if_pos e]
  have : spotOf j = (j : Int) := by unfold spotOf; rw [if_pos e.2]
  rw [this]
  simp
  intro h1 _
  omega
 ·rw [if_neg e, h.iff j q]
  have : 1 ≤ j → 10 < spotOf j := fun hj => by unfold spotOf; split <;> omega
  constructor
  ·rintro ⟨h1, h2⟩; exact ⟨h1, h2, .inr (this h1)⟩
  ·rintro ⟨h1, h2, _⟩; exact ⟨h1, h2⟩

theorem pairsE_ok {k : Int} : ∀ {rs ss : List Int}, pairsE k rs ss = 0 → ∀ i, i < rs.length → i < ss.length → -1 ≤ rs.getD i 0 ∧ rs.getD i 0 ≤ 10 ∧ -1 ≤ ss.getD i (-1) ∧ ss.getD i (-1) < k
 | r :: rs, s :: ss, h, i, h1, h2 => by
  unfold pairsE at h
  split at h
  ·cases h
  ·split at h
   ·cases h
   ·cases i with
    | zero => simp; omega
    | succ i => simpa using pairsE_ok h i (by simpa using h1) (by simpa using h2)
 | [], _, _, i, h1, _ => absurd h1 (Nat.not_lt_zero _)
 | _ :: _, [], _, i, _, h2 => absurd h2 (Nat.not_lt_zero _)
/-- what Check says of an allocation -/
structure AL.Good (a : AL) (n m : Nat) : Prop where
 fit : a.Fit n m
 hm : 11 ≤ m ∧ m ≤ 9000
 k : a.k = ((m - 11 : Nat) : Int)
 spot : ∀ r, r < n → plc 100 a r = spotOf (plc 11 a r).toNat
theorem AL.good {f : VF} {a : AL} {w : World} (ha : a.Ok w) {n : Nat} (hn : f.regs = (n : Int)) (h : allocE f a = 0) : a.Good n (11 + a.k.toNat) := by
 unfold allocE at h
 split at h
 ·contradiction
 split at h
 ·cases h
 rename_i h1
 split at h
 ·cases h
 rename_i h2
 have hrl : a.reg.length = a.rn := by simpa using ha.rcame.count
 have hsl : a.slot.length = a.sn := by simpa using ha.scame.count
 have hrn : a.rn = n := by omega
 have hsn : a.sn = n := by omega
 have hp := fun r (hr : r < n) => pairsE_ok h r (by omega) (by omega)
 have hpl : ∀ r, r < n → (plc 11 a r = 0 ∧ plc 100 a r = 0) ∨ (1 ≤ plc 11 a r ∧ plc 11 a r ≤ 10 ∧ plc 100 a r = plc 11 a r) ∨ (11 ≤ plc 11 a r ∧ plc 11 a r < 11 + a.k ∧ plc 100 a r = plc 11 a r + 89) := fun r hr => by
  obtain ⟨q1, q2, q3, q4⟩ := hp r hr
  unfold plc
  split
  ·exact .inl ⟨rfl, rfl⟩
  split
  ·exact .inr (.inl ⟨by omega, by omega, rfl⟩)
  split
  ·exact .inr (.inr ⟨by omega, by omega, by omega⟩)
  ·exact .inl ⟨rfl, rfl⟩
 refine ⟨⟨hrn, hsn, fun z hz => ?_, fun r hr => ?_⟩, by omega, by omega, fun r hr => ?_⟩
 ·obtain ⟨i, hi, rfl⟩ := List.getElem_of_mem hz
  obtain ⟨_, _, _, q4⟩ := hp i (by omega)
  have : a.slot.getD i (-1) = a.slot[i] := by simp [List.getD, hi]
  rw [this] at q4
  omega
 ·rcases hpl r hr with ⟨h3, _⟩ | ⟨h3, h4, _⟩ | ⟨h3, h4, _⟩ <;> omega
 ·unfold spotOf
  rcases hpl r hr with ⟨h3, h4⟩ | ⟨h3, h4, h5⟩ | ⟨h3, h4, h5⟩ <;> split <;> omega

def goodW (a : AL) (zs : List (Int × Int)) (l : List Int) : Bool := l.all fun r => r == 0 || decide ((plc 100 a r.toNat, r) ∈ zs)
def alsoW (a : AL) (x : VI) (zs : List (Int × Int)) : List Int := if x.op = 100 ∧ x.a ≠ 0 then (zs.filter (fun z => decide (z.1 = plc 100 a x.a.toNat) && decide (z.2 ≠ x.d))).map (·.2) else []
def callW (x : VI) (zs : List (Int × Int)) : List (Int × Int) := if callB x.op = true then outW 1 10 zs else zs
def insW (a : AL) (x : VI) (zs : List (Int × Int)) : List (Int × Int) := if defV x = 0 then callW x zs else putW (plc 100 a (defV x).toNat) (defV x) (alsoW a x zs) (callW x zs)
def inssW (a : AL) : List VI → List (Int × Int) → Option (List (Int × Int))
 | [], zs => some zs
 | x :: l, zs => if goodW a zs (usesV x) = true then inssW a l (insW a x zs) else none
def blkW (a : AL) (b : VB) (zs : List (Int × Int)) : Option (List (Int × Int)) := (inssW a b.ins zs).bind fun zs' => if goodW a zs' [b.e.a, b.e.b] = true then some zs' else none

/-- an instruction whose registers are below n -/
structure VI.Fits (n : Nat) (x : VI) : Prop where
 uses : ∀ z ∈ usesV x, 1 ≤ z ∧ z < n
 a : 0 ≤ x.a ∧ x.a < n
 d : 0 ≤ defV x ∧ defV x < n
 dx : x.op = 100 → defV x = x.d
theorem useB_rel {a : AL} {n m : Nat} (ga : a.Good n m) {zs : List (Int × Int)} {X : Nat → Nat → Bool} (h : RelW m n zs X) {r : Nat} (hr : r < n) : useB a X r = decide ((plc 100 a r, (r : Int)) ∈ zs) := by
 have h1 := ga.spot r hr
 have h2 := (ga.fit.pl r hr).1
 unfold useB
 rw [h1]
 obtain ⟨p, hp⟩ : ∃ p : Nat, plc 11 a r = (p : Int) := ⟨(plc 11 a r).toNat, by omega⟩
 rw [hp]
 simp only [Int.toNat_natCast]
 have h3 := h.iff p r
 by_cases hm : (spotOf p, (r : Int)) ∈ zs
 ·obtain ⟨i, q, h4, _, _, h5⟩ := h.of _ hm
  injection h5 with h5 _
  have h6 := spotOf_inj h5
  have h7 : X p r = true := h3.2 ⟨by omega, hm⟩
  rw [h7, decide_eq_true hm, decide_eq_true (by omega)]
  rfl
 ·rw [decide_eq_false hm]
  cases hx : X p r
  ·simp
  ·exact absurd (h3.1 hx).2 hm
theorem goodW_rel {a : AL} {n m : Nat} (ga : a.Good n m) {zs : List (Int × Int)} {X : Nat → Nat → Bool} (h : RelW m n zs X) : ∀ {l : List Int}, (∀ z ∈ l, 1 ≤ z ∧ z < n) → goodW a zs l = usedB a X (l.map Int.toNat)
 | [], _ => rfl
 | r :: l, hl => by
  have ih := goodW_rel ga h (l := l) (fun z hz => hl z (List.mem_cons_of_mem _ hz))
  have hr := hl r (by simp)
  obtain ⟨q, rfl⟩ : ∃ q : Nat, r = (q : Int) := ⟨r.toNat, by omega⟩
  have hu := useB_rel ga h (r := q) (by omega)
  unfold goodW usedB at ih ⊢
  simp only [List.all_cons, List.map_cons, ih, Int.toNat_natCast, hu]
  have : ((q : Int) == 0) = false := by simp; omega
  rw [this]; simp
theorem goodW_nz {a : AL} {zs : List (Int × Int)} (l : List Int) : goodW a zs (nz l) = goodW a zs l := by
 unfold goodW nz
 induction l with
 | nil => rfl
 | cons r l ih =>
  by_cases h : r = 0
  ·subst h; simpa using ih
  ·simp [h] at ih ⊢
   rw [ih]
theorem insW_rel {a : AL} {n m : Nat} (ga : a.Good n m) {x : VI} (fx : x.Fits n) {zs : List (Int × Int)} {X : Nat → Nat → Bool} (h : RelW m n zs X) : RelW m n (insW a x zs) (insX a x X) := by
 have hc : RelW m n (callW x zs) (callX x X) := by
  unfold callW callX
  by_cases hb : callB x.op = true
  ·rw [if_pos hb]
   simp only [hb, true_and]
   exact h.call
  ·rw [if_neg hb]
   simp only [hb, false_and, if_false]
   exact h
 unfold insW
 have hi : insX a x X = fun i q => if defV x = 0 then callX x X i q else defX (callX x X) (plc 11 a (defV x).toNat).toNat (defV x).toNat (alsoA a x (callX x X)) i q := rfl
 rw [hi]
 by_cases hd : defV x = 0
 ·simp only [hd, if_true]; exact hc
 ·simp only [hd, if_false]
  obtain ⟨d, hdn⟩ : ∃ d : Nat, defV x = (d : Int) := ⟨(defV x).toNat, by have := fx.d; omega⟩
  have hdl : d < n := by have := fx.d; omega
  have hp := (ga.fit.pl d hdl)
  have hs := ga.spot d hdl
  rw [hdn] at hd ⊢
  simp only [Int.toNat_natCast]
  rw [hs]
  refine hc.put (by omega) hdl ?_ ?_ (fun _ => .inr trivial)
  ·intro z hz
   unfold alsoW at hz
   by_cases hm : x.op = 100 ∧ x.a ≠ 0
   ·rw [if_pos hm] at hz
    obtain ⟨y, hy, rfl⟩ := List.mem_map.1 hz
    obtain ⟨i, q, _, _, hq, rfl⟩ := h.of y (List.mem_filter.1 hy).1
    exact ⟨q, hq, rfl⟩
   ·rw [if_neg hm] at hz; cases hz
  ·intro q
   unfold alsoA alsoW
   by_cases hm : x.op = 100 ∧ x.a ≠ 0
   ·rw [if_pos hm, if_pos hm]
    have hcb : callB x.op = false := by rw [hm.1]; rfl
    have hcx : callX x X = X := by funext i q; unfold callX; rw [hcb]; simp
    rw [hcx, hdn]
    simp only [Int.toNat_natCast]
    obtain ⟨an, han⟩ : ∃ an : Nat, x.a = (an : Int) := ⟨x.a.toNat, by have := fx.a; omega⟩
    have hanl : an < n := by have := fx.a; omega
    have hsa := ga.spot an hanl
    have hpa := ga.fit.pl an hanl
    obtain ⟨p, hp⟩ : ∃ p : Nat, plc 11 a an = (p : Int) := ⟨(plc 11 a an).toNat, by omega⟩
    have hxd : x.d = (d : Int) := by rw [← fx.dx hm.1]; exact hdn
    simp only [han, Int.toNat_natCast, hsa, hp, hxd]
    by_cases e : q = d
    ·subst e
     simp
    ·rw [if_neg e, h.iff p q]
     have e2 : (q : Int) ≠ (d : Int) := by omega
     simp only [List.mem_map, List.mem_filter]
     constructor
     ·rintro ⟨_, h2⟩
      exact ⟨(spotOf p, (q : Int)), ⟨h2, by simp [e2]⟩, rfl⟩
     ·rintro ⟨y, ⟨h2, h3⟩, h4⟩
      obtain ⟨y1, y2⟩ := y
      simp only at h4
      subst h4
      simp at h3
      obtain ⟨h5, _⟩ := h3
      subst h5
      obtain ⟨i, r, h6, _, _, h7⟩ := h.of _ h2
      injection h7 with h7 _
      have := spotOf_inj h7
      exact ⟨by omega, h2⟩
   ·rw [if_neg hm, if_neg hm]; simp
def RelO (m n : Nat) : Option (List (Int × Int)) → Option (Nat → Nat → Bool) → Prop
 | some zs, some X => RelW m n zs X
 | none, none => True
 | _, _ => False
theorem inssW_rel {a : AL} {n m : Nat} (ga : a.Good n m) : ∀ {l : List VI}, (∀ x ∈ l, x.Fits n) → ∀ {zs : List (Int × Int)} {X : Nat → Nat → Bool}, RelW m n zs X → RelO m n (inssW a l zs) (inssT a l X)
 | [], _, zs, X, h => h
 | x :: l, hl, zs, X, h => by
  have hx := hl x (by simp)
  have hg := goodW_rel ga h hx.uses
  unfold inssW inssT insT
  rw [hg]
  show RelO m n _ (Option.bind (if usedB a X (usesN x) = true then _ else none) _)
  unfold usesN
  cases hb : usedB a X ((usesV x).map Int.toNat) with
  | false => simp [RelO]
  | true =>
   simp only [if_true, Option.bind_some]
   exact inssW_rel ga (fun y hy => hl y (List.mem_cons_of_mem _ hy)) (insW_rel ga hx h)
theorem blkW_rel {a : AL} {n m : Nat} (ga : a.Good n m) {b : VB} (hb : ∀ x ∈ b.ins, x.Fits n) (he : ∀ z ∈ endV b.e, 1 ≤ z ∧ z < n) {zs : List (Int × Int)} {X : Nat → Nat → Bool} (h : RelW m n zs X) : RelO m n (blkW a b zs) (blkT a b X) := by
 have h1 := inssW_rel ga hb h
 unfold blkW blkT
 cases hw : inssW a b.ins zs with
 | none =>
  cases hx : inssT a b.ins X with
  | none => exact trivial
  | some X' => rw [hw, hx] at h1; exact absurd h1 id
 | some zs' =>
  cases hx : inssT a b.ins X with
  | none => rw [hw, hx] at h1; exact absurd h1 id
  | some X' =>
   rw [hw, hx] at h1
   simp only [Option.bind_some]
   have hg := goodW_rel ga h1 he
   unfold endV at hg
   rw [goodW_nz] at hg
   rw [hg]
   show RelO m n _ (if usedB a X' ((endV b.e).map Int.toNat) = true then _ else _)
   unfold endV
   cases usedB a X' ((nz [b.e.a, b.e.b]).map Int.toNat)
   ·simp [RelO]
   ·simpa [RelO] using h1

/-- what Accepted has seen: all that is listed is reached -/
def SeenW (f : VF) (a : AL) (m n : Nat) (X0 : Nat → Nat → Bool) (all : List (Nat × List (Int × Int))) : Prop := ∀ s ∈ all, s.1 < f.blocks.length ∧ ∃ X, RelW m n s.2 X ∧ ReachS f a X0 s.1 X
/-- a listed state's successors are listed -/
def ClosedW (f : VF) (a : AL) (all : List (Nat × List (Int × Int))) (s : Nat × List (Int × Int)) : Prop := ∃ zs', blkW a (f.blk s.1) s.2 = some zs' ∧ ∀ t ∈ (f.blk s.1).e.to, ∃ s' ∈ all, s'.1 = t.toNat ∧ ∀ z, z ∈ s'.2 ↔ z ∈ zs'
theorem ClosedW.more {f : VF} {a : AL} {all more : List (Nat × List (Int × Int))} {s : Nat × List (Int × Int)} (h : ClosedW f a all s) : ClosedW f a (all ++ more) s := by
 obtain ⟨zs', h1, h2⟩ := h
 exact ⟨zs', h1, fun t ht => by obtain ⟨s', h3, h4⟩ := h2 t ht; exact ⟨s', List.mem_append_left _ h3, h4⟩⟩
/-- the function's instructions and ends name registers below n -/
structure VF.Fits (f : VF) (n : Nat) : Prop where
 ins : ∀ i, i < f.blocks.length → ∀ x ∈ (f.blk i).ins, x.Fits n
 ends : ∀ i, i < f.blocks.length → ∀ z ∈ endV (f.blk i).e, 1 ≤ z ∧ z < n
 tos : TosV f f.blocks.length
theorem good_of_closed {f : VF} {a : AL} {n m : Nat} (ga : a.Good n m) (hf : f.Fits n) {X0 : Nat → Nat → Bool} {all : List (Nat × List (Int × Int))} (h0 : 0 < f.blocks.length)
  (hseen : SeenW f a m n X0 all) (hs : ∃ zs, (0, zs) ∈ all ∧ RelW m n zs X0) (hc : ∀ s ∈ all, ClosedW f a all s) : GoodS f a X0 := by
 have hlisted : ∀ i X, ReachS f a X0 i X → i < f.blocks.length ∧ ∃ zs, (i, zs) ∈ all ∧ RelW m n zs X := by
  intro i X hr
  induction hr with
  | start => exact ⟨h0, hs⟩
  | @step i X X' b t _ hb hx ht ih =>
   obtain ⟨hi, zs, hzs, hrel⟩ := ih
   have hbe : b = f.blk i := by
    have := VF.blk_get f hi
    rw [List.getElem?_eq_getElem hi] at hb
    injection hb with hb
    rw [← hb, this]
   subst hbe
   obtain ⟨zs', h1, h2⟩ := hc _ hzs
   have hrb := blkW_rel ga (hf.ins i hi) (hf.ends i hi) hrel
   simp only at h1
   rw [h1, hx] at hrb
   obtain ⟨s', h3, h4, h5⟩ := h2 t ht
   have htt := hf.tos i hi t ht
   obtain ⟨j, zj⟩ := s'
   simp only at h4 h5
   subst h4
   obtain ⟨_, X2, hX2, _⟩ := hseen _ h3
   have hx2 : X2 = X' := RelW.det hX2 (show RelW m n zs' X' from hrb) h5
   subst hx2
   exact ⟨by omega, zj, h3, hX2⟩
 intro i X b hr hb hn
 obtain ⟨hi, zs, hzs, hrel⟩ := hlisted i X hr
 have hbe : b = f.blk i := by
  have := VF.blk_get f hi
  rw [List.getElem?_eq_getElem hi] at hb
  injection hb with hb
  rw [← hb, this]
 subst hbe
 obtain ⟨zs', h1, _⟩ := hc _ hzs
 have hrb := blkW_rel ga (hf.ins i hi) (hf.ends i hi) hrel
 simp only at h1
 rw [h1, hn] at hrb
 exact hrb

structure FnOk (f : VF) (n nb : Nat) : Prop where
 regs : f.regs = (n : Int)
 n2 : 0 < n ∧ n ≤ 8192
 nbl : nb = f.blocks.length
 sn : f.sn = nb
 nb2 : 0 < nb ∧ nb ≤ 4096
 fits : f.Fits n
 par : ∀ r ∈ f.params, 1 ≤ r ∧ r < n
 pn : f.pn ≤ 6
 ins : ∀ i, i < nb → (f.blk i).ins.length ≤ 4096
 tos : ∀ i, i < nb → (f.blk i).e.to.length ≤ 2
 ab : ∀ i, i < nb → (0 ≤ (f.blk i).e.a ∧ (f.blk i).e.a < n) ∧ 0 ≤ (f.blk i).e.b ∧ (f.blk i).e.b < n
theorem parE_ok {regs : Int} : ∀ {l pre : List Int}, parE regs pre l = 0 → ∀ r ∈ l, 1 ≤ r ∧ r < regs
 | [], _, _, r, hr => by cases hr
 | q :: l, pre, h, r, hr => by
  unfold parE at h
  split at h
  ·cases h
  ·rename_i h1
   split at h
   ·cases h
   ·rcases List.mem_cons.1 hr with rfl | hr
    ·have h2 : inB r 1 (regs - 1) = true := by simpa using h1
     have := inB_true.1 h2
     omega
    ·exact parE_ok h r hr
theorem endMany_le (k : Int) : endMany k ≤ 2 := by unfold endMany; split <;> (try split) <;> omega
theorem fnOk {f : VF} {w : World} (hf : f.Ok w) (h : fnE f = 0) : ∃ n, FnOk f n f.blocks.length := by
 unfold fnE at h
 split at h
 ·cases h
 rename_i hbig
 split at h
 ·cases h
 rename_i hsn
 split at h
 ·contradiction
 rename_i hpar
 split at h
 ·contradiction
 rename_i hblk
 have hpar : parE f.regs [] f.params = 0 := Classical.not_not.1 hpar
 have hblk : blkE f.regs f.sn 0 f.blocks = 0 := Classical.not_not.1 hblk
 have hlen := hf.len
 unfold bigV at hbig
 simp only [Bool.or_eq_true, decide_eq_true_eq, Bool.not_eq_true', not_or, Bool.not_eq_false] at hbig
 obtain ⟨⟨hb1, hb2⟩, hb3⟩ := hbig
 have hr := inB_true.1 hb3
 obtain ⟨n, hn⟩ : ∃ n : Nat, f.regs = (n : Int) := ⟨f.regs.toNat, by omega⟩
 have hn0 : 0 < n := by omega
 obtain ⟨hfit, htos, hins⟩ := fits_of (m := f.blocks.length) rfl hlen.symm hn hn0 hblk
 have hin : ∀ i, i < f.blocks.length → f.blk i ∈ f.blocks := fun i hi => by rw [← VF.blk_get f hi]; exact List.getElem_mem _
 refine ⟨n, hn, ⟨hn0, by omega⟩, rfl, hlen.symm, ⟨by omega, by omega⟩, ⟨fun i hi x hx => ⟨fun z hz => (hfit i hi).u x hx z hz, ?_, (hfit i hi).d x hx, fun e => by unfold defV; rw [e]; simp⟩, fun i hi z hz => (hfit i hi).e z hz, htos⟩, fun r hr => ?_, by omega, hins, fun i hi => ?_, fun i hi => ?_⟩
 ·have h1 := (blkE_ok hblk _ (hin i hi)).1
  have h2 := badI_names (insE_ok h1 x hx)
  have := inB_true.1 (List.all_eq_true.1 h2 x.a (by simp))
  omega
 ·have := parE_ok hpar r hr
  omega
 ·have h1 := (blkE_ok hblk _ (hin i hi)).2.1
  have hsnl := ((hf.blocks _ (hin i hi)).e).len
  unfold badE at h1
  split at h1
  ·cases h1
  split at h1
  ·cases h1
  rename_i h2
  have := endMany_le (f.blk i).e.kind
  have h3 : ((f.blk i).e.sn : Int) = endMany (f.blk i).e.kind := by
   rcases Classical.em (((f.blk i).e.sn : Int) = endMany (f.blk i).e.kind) with h | h
   ·exact h
   ·exact absurd (.inr h) h2
  omega
 ·have h1 := (blkE_ok hblk _ (hin i hi)).2.1
  have := badE_ok h1
  rw [hn] at this
  omega
theorem allocE_fn {f : VF} {a : AL} (h : allocE f a = 0) : fnE f = 0 := by
 unfold allocE at h
 split at h
 ·contradiction
 ·rename_i h1; exact Classical.not_not.1 h1
/-- the reference's beginning -/
def startW (a : AL) (ps : List Nat) : List (Int × Int) := ps.foldl (fun zs r => putW (plc 100 a r) (r : Int) [] zs) []
theorem startW_snoc (a : AL) (ps : List Nat) (r : Nat) : startW a (ps ++ [r]) = putW (plc 100 a r) (r : Int) [] (startW a ps) := by unfold startW; rw [List.foldl_append]; rfl
theorem foldW_rel {a : AL} {n m : Nat} (ga : a.Good n m) : ∀ (ps : List Nat) (zs : List (Int × Int)) (X : Nat → Nat → Bool), (∀ r ∈ ps, r < n) → RelW m n zs X → RelW m n (ps.foldl (fun zs r => putW (plc 100 a r) (r : Int) [] zs) zs) (ps.foldl (fun X r => defX X (plc 11 a r).toNat r (fun _ => false)) X)
 | [], _, _, _, h => h
 | r :: ps, zs, X, hps, h => by
  have hr := hps r (by simp)
  have hp := ga.fit.pl r hr
  refine foldW_rel ga ps _ _ (fun x hx => hps x (List.mem_cons_of_mem _ hx)) ?_
  show RelW m n (putW (plc 100 a r) (r : Int) [] zs) (defX X (plc 11 a r).toNat r (fun _ => false))
  rw [ga.spot r hr]
  exact h.put (by omega) hr (fun z hz => by cases hz) (fun q => by simp) (fun _ => .inr trivial)
theorem startW_rel {a : AL} {n m : Nat} (ga : a.Good n m) {ps : List Nat} (h : ∀ r ∈ ps, r < n) : RelW m n (startW a ps) (startX a ps) := foldW_rel ga ps _ _ h (RelW.nil m n)
/-- how many pairs there can be -/
theorem RelW.len {m n : Nat} {zs : List (Int × Int)} {X : Nat → Nat → Bool} (h : RelW m n zs X) : zs.length ≤ m * n := by
 have h1 : zs.length ≤ ((List.range m).flatMap fun i => (List.range n).map fun (r : Nat) => (spotOf i, (r : Int))).length := by
  refine List.Nodup.length_le_of_subset h.nodup fun z hz => ?_
  obtain ⟨i, r, _, hi, hr, rfl⟩ := h.of z hz
  exact List.mem_flatMap.2 ⟨i, List.mem_range.2 hi, List.mem_map.2 ⟨r, List.mem_range.2 hr, rfl⟩⟩
 have h2 : ∀ k, ((List.range k).flatMap fun i => (List.range n).map fun (r : Nat) => (spotOf i, (r : Int))).length = k * n := by
  intro k
  induction k with
  | zero => simp
  | succ k ih => rw [List.range_succ, List.flatMap_append, List.length_append, ih, Nat.succ_mul]; simp
 rw [h2] at h1
 exact h1
end Go.Proofs.YtdnpoomagjcpfaaGreat
