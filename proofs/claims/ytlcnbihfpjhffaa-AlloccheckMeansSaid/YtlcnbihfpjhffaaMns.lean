/- The reference's virtual machine, in plain Lean: a function without calls does the same with places instead of registers. No function of the program is walked. AlloccheckMeans: the closure 'place'; the function with places in memory. AlloccheckMeans: what lies in memory while the function with places is built. AlloccheckMeans: what Check says of a function, as the runs ask for it. No program. AlloccheckMeans: the function with places as the run asks for it, and the plain law. No program. AlloccheckMeans: a run as it is made. -/
import Derived.Test.YtlcnbihfpjhffaaAccRef
import Derived.Test.YtlcnbihfpjhffaaVmP
import Derived.Test.YtlcnbihfpjhffaaVmE
import Derived.Test.YtlcnbihfpjhffaaWAll
namespace Go.Proofs.Ytlcnbihfpjhffaa
open Go.RowKit
set_option linter.unusedVariables false
set_option linter.unusedSimpArgs false

section
/-- the place of a register, one for those without a place too -/
def plL (a : AL) (r : Int) : Int := if r ≠ 0 ∧ plc 11 a r.toNat = 0 then 11 + a.k else plc 11 a r.toNat
def renI (a : AL) (x : VI) : VI := { x with d := plL a x.d, a := plL a x.a, b := plL a x.b }
def renE (a : AL) (x : VE) : VE := { x with a := plL a x.a, b := plL a x.b }
/-- all but the registers -/
structure EqV (s t : VS) : Prop where
 m : t.m = s.m
 p : t.p = s.p
 fu : t.fu = s.fu
 en : t.en = s.en
 st : t.st = s.st
 bad : t.bad = s.bad
structure SimR (X : Nat → Nat → Bool) (s t : VS) : Prop where
 z : s.rg 0 = 0
 z' : t.rg 0 = 0
 h : ∀ p r, X p r = true → t.rg p = s.rg r
theorem EqV.tick {s t : VS} (h : EqV s t) : EqV s.tick t.tick := ⟨h.m, h.p, by show t.fu - 1 = s.fu - 1; rw [h.fu], h.en, h.st, h.bad⟩
theorem EqV.fail {s t : VS} (h : EqV s t) : EqV s.fail t.fail := ⟨h.m, h.p, h.fu, h.en, rfl, rfl⟩
theorem EqV.trap {s t : VS} (h : EqV s t) (n : Int) : EqV (s.trap n) (t.trap n) := ⟨h.m, h.p, h.fu, rfl, rfl, h.bad⟩
theorem EqV.put {s t : VS} (h : EqV s t) (d d' v : Int) : EqV (s.put d v) (t.put d' v) := ⟨h.m, h.p, h.fu, h.en, h.st, h.bad⟩
theorem EqV.mem {s t : VS} (h : EqV s t) (m p : List Int) : EqV (s.mem m p) (t.mem m p) := ⟨rfl, rfl, h.fu, h.en, h.st, h.bad⟩
theorem EqV.endS {s t : VS} (h : EqV s t) (e : EV) (d d' : Int) : EqV (endS e d s) (endS e d' t) := by
 unfold Go.Proofs.Ytlcnbihfpjhffaa.endS
 split
 ·exact (h.mem _ _).put _ _ _
 ·split
  ·exact (h.mem _ _).fail
  ·exact (h.mem _ _).trap _
section
variable {a : AL} {n m : Nat}
theorem plL_zero : plL a 0 = 0 := by
 unfold plL
 rw [if_neg (fun h => h.1 rfl)]
 rfl
theorem plL_pos (ga : a.Good n m) {r : Int} (h0 : 0 ≤ r ∧ r < n) (h : r ≠ 0) : 1 ≤ plL a r ∧ plL a r < (m : Int) + 1 := by
 have h1 := ga.fit.pl r.toNat (by omega)
 have h2 := ga.k
 have h3 := ga.hm
 unfold plL
 split
 ·omega
 ·rename_i h4
  have : plc 11 a r.toNat ≠ 0 := fun e => h4 ⟨h, e⟩
  omega
theorem plL_of {r : Int} (h : plc 11 a r.toNat ≠ 0) : plL a r = plc 11 a r.toNat := by
 unfold plL
 rw [if_neg (fun e => h e.2)]
/-- what is read is the same -/
theorem SimR.read (ga : a.Good n m) {X : Nat → Nat → Bool} {s t : VS} (h : SimR X s t) {z : Int} {l : List Nat} (hz : 0 ≤ z ∧ z < n) (hu : usedB a X l = true) (hl : z ≠ 0 → z.toNat ∈ l) : t.rg (plL a z).toNat = s.rg z.toNat := by
 by_cases e : z = 0
 ·subst e
  rw [plL_zero]
  show t.rg 0 = s.rg 0
  rw [h.z, h.z']
 ·have h1 := List.all_eq_true.1 hu _ (hl e)
  unfold useB at h1
  simp only [Bool.and_eq_true, decide_eq_true_iff] at h1
  rw [plL_of h1.1]
  exact h.h _ _ h1.2
theorem mem_nz {z : Int} {l : List Int} (h : z ∈ l) (h0 : z ≠ 0) : z.toNat ∈ (nz l).map Int.toNat := by
 refine List.mem_map.2 ⟨z, ?_, rfl⟩
 unfold nz
 exact List.mem_filter.2 ⟨h, by simpa using h0⟩
/-- an instruction that defines keeps the relation -/
theorem SimR.put (ga : a.Good n m) {X : Nat → Nat → Bool} {s t : VS} (hs : SupS m n X) (hX0 : ∀ q, X 0 q = false) (h : SimR X s t) {x : VI} (hc : callB x.op = false) (hd : 0 ≤ defV x ∧ defV x < n) {v : Int} (hv : x.op = 100 ∧ x.a ≠ 0 → ∀ q, X (plc 11 a x.a.toNat).toNat q = true → s.rg q = v) :
  SimR (insX a x X) (s.put (defV x) v) (t.put (plL a (defV x)) v) ∧ ∀ q, insX a x X 0 q = false := by
 have hcx : callX x X = X := by
  funext i q
  unfold callX
  rw [if_neg (by rw [hc]; simp)]
 have hin : insX a x X = if defV x = 0 then X else defX X (plc 11 a (defV x).toNat).toNat (defV x).toNat (alsoA a x X) := by
  funext i q
  unfold insX
  rw [hcx]
  split <;> rfl
 rw [hin]
 by_cases e : defV x = 0
 ·rw [if_pos e, e, plL_zero]
  exact ⟨h, hX0⟩
 ·rw [if_neg e]
  have hp := plL_pos ga hd e
  have hpl := ga.fit.pl (defV x).toNat (by omega)
  have hk := ga.k
  have hm := ga.hm
  obtain ⟨d, hde⟩ : ∃ d : Nat, defV x = (d : Int) := ⟨(defV x).toNat, by omega⟩
  rw [hde] at hd e hp hpl ⊢
  simp only [Int.toNat_natCast] at hpl ⊢
  have hs1 : ∀ q, (s.put (d : Int) v).rg q = if q = d then v else s.rg q := fun q => by
   show updV s.rg (d : Int) v q = _
   unfold updV
   rw [if_neg e]
   simp
  have ht1 : ∀ q, (t.put (plL a (d : Int)) v).rg q = if q = (plL a (d : Int)).toNat then v else t.rg q := fun q => by
   show updV t.rg _ v q = _
   unfold updV
   rw [if_neg (by omega)]
  refine ⟨⟨?_, ?_, fun p r hx => ?_⟩, fun q => ?_⟩
  ·rw [hs1, if_neg (by omega)]; exact h.z
  ·rw [ht1, if_neg (by omega)]; exact h.z'
  ·rw [hs1, ht1]
   unfold defX at hx
   by_cases h1 : (plc 11 a d).toNat ≠ 0 ∧ p = (plc 11 a d).toNat
   ·rw [if_pos h1] at hx
    have h2 : plL a (d : Int) = plc 11 a d := plL_of (by simp; omega)
    rw [if_pos (by rw [h2]; exact h1.2)]
    by_cases h3 : r = d
    ·rw [if_pos h3]
    ·rw [if_neg h3] at hx ⊢
     unfold alsoA at hx
     split at hx
     ·rename_i h4
      rw [hde] at hx
      simp only [Int.toNat_natCast] at hx
      rw [if_neg h3] at hx
      exact (hv h4 _ hx).symm
     ·cases hx
   ·rw [if_neg h1] at hx
    split at hx
    ·cases hx
    ·rename_i h3
     have hsp := hs _ _ hx
     have hp0 : p ≠ 0 := fun e => by rw [e, hX0] at hx; cases hx
     have hne : p ≠ (plL a (d : Int)).toNat := fun e2 => by
      unfold plL at e2
      simp only [Int.toNat_natCast] at e2
      split at e2
      ·omega
      ·exact h1 ⟨by omega, e2⟩
     rw [if_neg h3, if_neg hne]
     exact h.h _ _ hx
  ·unfold defX
   rw [if_neg (fun h9 => h9.1 h9.2.symm)]
   split
   ·rfl
   ·exact hX0 q
/-- a step -/
theorem SimR.step (ga : a.Good n m) {X X' : Nat → Nat → Bool} {s t : VS} (hs : SupS m n X) (hX0 : ∀ q, X 0 q = false) (h : SimR X s t) (he : EqV s t) (h0 : s.st = false) {x : VI} (hf : x.Fits n) (hb : 0 ≤ x.b ∧ x.b < n) (hd0 : defV x = 0 ∨ defV x = x.d) (hc : callB x.op = false) (hx : insT a x X = some X') :
  EqV (stepM x s) (stepM (renI a x) t) ∧ ((stepM x s).st = false → SimR X' (stepM x s) (stepM (renI a x) t) ∧ ∀ q, X' 0 q = false) := by
 unfold insT at hx
 split at hx
 ·rename_i hu
  injection hx with hx
  subst hx
  have ha := h.read ga hf.a hu (z := x.a) (fun h9 => mem_nz (by simp) h9)
  have hbb := h.read ga hb hu (z := x.b) (fun h9 => mem_nz (by simp) h9)
  have hdr : defV (renI a x) = plL a (defV x) := by
   unfold defV renI
   show (if x.op = 13 ∨ x.op = 23 then 0 else plL a x.d) = plL a (if x.op = 13 ∨ x.op = 23 then 0 else x.d)
   split
   ·rw [plL_zero]
   ·rfl
  have hst : stepM (renI a x) t = if s.fu - 1 < 0 then t.tick.fail else endS (effV x.op x.n (s.rg x.a.toNat) (s.rg x.b.toNat) s.m s.p) (plL a (defV x)) t.tick := by
   unfold stepM
   rw [he.fu, hdr]
   show (if _ then _ else endS (effV x.op x.n (t.rg (plL a x.a).toNat) (t.rg (plL a x.b).toNat) t.m t.p) _ _) = _
   rw [ha, hbb, he.m, he.p]
  rw [hst]
  unfold stepM
  by_cases h1 : s.fu - 1 < 0
  ·rw [if_pos h1, if_pos h1]
   exact ⟨he.tick.fail, fun h9 => by cases h9⟩
  ·rw [if_neg h1, if_neg h1]
   obtain ⟨ev, hev⟩ : ∃ ev, ev = effV x.op x.n (s.rg x.a.toNat) (s.rg x.b.toNat) s.m s.p := ⟨_, rfl⟩
   have hv : x.op = 100 ∧ x.a ≠ 0 → ∀ q, X (plc 11 a x.a.toNat).toNat q = true → s.rg q = ev.v := fun h9 q hq => by
    have h8 : ev.v = s.rg x.a.toNat := by rw [hev, h9.1]; rfl
    rw [h8, ← ha]
    have h7 := List.all_eq_true.1 hu _ (mem_nz (z := x.a) (l := x.a :: x.b :: x.args) (by simp) h9.2)
    unfold useB at h7
    simp only [Bool.and_eq_true, decide_eq_true_iff] at h7
    rw [plL_of h7.1]
    exact (h.h _ _ hq).symm
   rw [← hev]
   refine ⟨he.tick.endS _ _ _, fun h9 => ?_⟩
   unfold endS at h9 ⊢
   split at h9
   ·rename_i hk
    rw [if_pos hk, if_pos hk]
    have hr : SimR X (s.tick.mem ev.m ev.p) (t.tick.mem ev.m ev.p) := ⟨h.z, h.z', h.h⟩
    exact hr.put ga hs hX0 hc hf.d hv
   ·split at h9 <;> cases h9
 ·cases hx
/-- the instructions of a block -/
theorem SimR.inss (ga : a.Good n m) : ∀ {l : List VI} {X X' : Nat → Nat → Bool} {s t : VS}, SupS m n X → (∀ q, X 0 q = false) → SimR X s t → EqV s t → s.st = false → (∀ x ∈ l, x.Fits n ∧ (0 ≤ x.b ∧ x.b < n) ∧ callB x.op = false) → inssT a l X = some X' →
  EqV (inssV l s) (inssV (l.map (renI a)) t) ∧ ((inssV l s).st = false → SimR X' (inssV l s) (inssV (l.map (renI a)) t) ∧ ∀ q, X' 0 q = false)
 | [], X, X', s, t, hs, hX0, h, he, h0, hl, hx => by
  injection hx with hx
  subst hx
  exact ⟨he, fun _ => ⟨h, hX0⟩⟩
 | x :: l, X, X', s, t, hs, hX0, h, he, h0, hl, hx => by
  obtain ⟨hf, hb, hc⟩ := hl x (by simp)
  simp only [inssT] at hx
  cases hi : insT a x X with
  | none => rw [hi] at hx; cases hx
  | some Y =>
   rw [hi] at hx
   simp only [Option.bind_some] at hx
   obtain ⟨h1, h2⟩ := h.step ga hs hX0 he h0 hf hb (by unfold defV; split; exact .inl rfl; exact .inr rfl) hc hi
   simp only [List.map_cons, inssV]
   rw [h1.st]
   by_cases h3 : (stepM x s).st = true
   ·rw [if_pos h3, if_pos h3]
    exact ⟨h1, fun h9 => by rw [h3] at h9; cases h9⟩
   ·rw [if_neg h3, if_neg h3]
    have h3' : (stepM x s).st = false := by simpa using h3
    obtain ⟨h4, h5⟩ := h2 h3'
    have hYs : SupS m n Y := by
     unfold insT at hi
     split at hi
     ·injection hi with hi; rw [← hi]; exact insX_sup ga.fit hf.d hs
     ·cases hi
    exact h4.inss ga hYs h5 h1 h3' (fun y hy => hl y (List.mem_cons_of_mem _ hy)) hx
theorem EqV.tickV {s t : VS} (h : EqV s t) : EqV (tickV s) (tickV t) := by
 unfold Go.Proofs.Ytlcnbihfpjhffaa.tickV
 rw [h.fu]
 split
 ·exact h.tick.fail
 ·exact h.tick
/-- the function with places -/
structure RenF (a : AL) (f g : VF) (nb : Nat) : Prop where
 ins : ∀ i, i < nb → (g.blk i).ins = (f.blk i).ins.map (renI a)
 e : ∀ i, i < nb → (g.blk i).e = renE a (f.blk i).e
/-- what the run asks of a function -/
structure RunOk (f : VF) (n nb : Nat) : Prop where
 nbl : nb = f.blocks.length
 ins : ∀ i, i < nb → ∀ x ∈ (f.blk i).ins, x.Fits n ∧ (0 ≤ x.b ∧ x.b < n) ∧ callB x.op = false
 ends : ∀ i, i < nb → ((0 ≤ (f.blk i).e.a ∧ (f.blk i).e.a < n) ∧ 0 ≤ (f.blk i).e.b ∧ (f.blk i).e.b < n)
 kind : ∀ i, i < nb → (f.blk i).e.kind = 1 → 1 ≤ (f.blk i).e.to.length
 kind2 : ∀ i, i < nb → (f.blk i).e.kind = 2 → 2 ≤ (f.blk i).e.to.length
 tos : ∀ i, i < nb → ∀ t ∈ (f.blk i).e.to, 1 ≤ t ∧ t < nb
theorem run_same {f g : VF} {nb : Nat} (ga : a.Good n m) (hf : RunOk f n nb) (hg : RenF a f g nb) {X0 : Nat → Nat → Bool} (hgood : GoodS f a X0) {i : Nat} {s s' : VS} {v : Int} (h : RunV f i s s' v) : ∀ {X : Nat → Nat → Bool} {t t' : VS} {v' : Int}, ReachS f a X0 i X → i < nb → SupS m n X → (∀ q, X 0 q = false) → SimR X s t → EqV s t → s.st = false → RunV g i t t' v' → v = v' ∧ EqV s' t' := by
 have key : ∀ {i : Nat} {s : VS} {X : Nat → Nat → Bool} {t : VS}, ReachS f a X0 i X → i < nb → SupS m n X → (∀ q, X 0 q = false) → SimR X s t → EqV s t → s.st = false →
   ∃ X', blkT a (f.blk i) X = some X' ∧ EqV (blkV (f.blk i) s) (blkV (g.blk i) t) ∧ ((blkV (f.blk i) s).st = false → SimR X' (blkV (f.blk i) s) (blkV (g.blk i) t) ∧ (∀ q, X' 0 q = false) ∧ SupS m n X' ∧ (blkV (g.blk i) t).rg (plL a (f.blk i).e.a).toNat = (blkV (f.blk i) s).rg (f.blk i).e.a.toNat ∧ (blkV (g.blk i) t).rg (plL a (f.blk i).e.b).toNat = (blkV (f.blk i) s).rg (f.blk i).e.b.toNat) ∧ f.blocks[i]? = some (f.blk i) := fun {i s X t} hr hi hs hX0 h he h0 => by
  have hib : i < f.blocks.length := by rw [← hf.nbl]; exact hi
  have hbl : f.blocks[i]? = some (f.blk i) := by rw [List.getElem?_eq_getElem hib, VF.blk_get f hib]
  have hne := hgood i X _ hr hbl
  cases hb : blkT a (f.blk i) X with
  | none => exact absurd hb hne
  | some X' =>
   have hb2 := hb
   unfold blkT at hb
   cases hz : inssT a (f.blk i).ins X with
   | none => rw [hz] at hb; cases hb
   | some Z =>
    rw [hz] at hb
    simp only [Option.bind_some] at hb
    split at hb
    ·rename_i hu
     injection hb with hb
     subst hb
     obtain ⟨h1, h2⟩ := h.inss ga hs hX0 he h0 (hf.ins i hi) hz
     have hgi : blkV (g.blk i) t = tickV (inssV ((f.blk i).ins.map (renI a)) t) := by unfold blkV; rw [hg.ins i hi]
     refine ⟨Z, rfl, by rw [hgi]; exact h1.tickV, fun h9 => ?_, hbl⟩
     have h3 : (inssV (f.blk i).ins s).st = false := by
      unfold blkV tickV at h9
      split at h9
      ·cases h9
      ·exact h9
     obtain ⟨h4, h5⟩ := h2 h3
     have hr1 : (blkV (f.blk i) s).rg = (inssV (f.blk i).ins s).rg := by unfold blkV tickV; split <;> rfl
     have hr2 : (blkV (g.blk i) t).rg = (inssV ((f.blk i).ins.map (renI a)) t).rg := by rw [hgi]; unfold tickV; split <;> rfl
     have h6 : SimR Z (blkV (f.blk i) s) (blkV (g.blk i) t) := ⟨by rw [hr1]; exact h4.z, by rw [hr2]; exact h4.z', fun p r hx => by rw [hr1, hr2]; exact h4.h p r hx⟩
     refine ⟨h6, h5, blkT_sup ga.fit (fun x hx => (hf.ins i hi x hx).1.d) hs hb2, ?_, ?_⟩
     ·exact h6.read ga (hf.ends i hi).1 hu fun h9 => mem_nz (by simp) h9
     ·exact h6.read ga (hf.ends i hi).2 hu fun h9 => mem_nz (by simp) h9
    ·cases hb
 induction h with
 | @stop i s h1 =>
  intro X t t' v' hr hi hs hX0 h he h0 hR
  obtain ⟨X', _, h2, _, _⟩ := key hr hi hs hX0 h he h0
  have h3 : (blkV (g.blk i) t).st = true := by rw [h2.st]; exact h1
  cases hR with
  | stop => exact ⟨rfl, h2⟩
  | ret h4 => rw [h3] at h4; cases h4
  | trap h4 => rw [h3] at h4; cases h4
  | go h4 => rw [h3] at h4; cases h4
 | @ret i s h1 hk =>
  intro X t t' v' hr hi hs hX0 h he h0 hR
  obtain ⟨X', _, h2, h5, _⟩ := key hr hi hs hX0 h he h0
  obtain ⟨_, _, _, h6, _⟩ := h5 h1
  have h3 : (blkV (g.blk i) t).st = false := by rw [h2.st]; exact h1
  have hk' : (g.blk i).e.kind = 0 := by rw [hg.e i hi]; exact hk
  cases hR with
  | stop h4 => rw [h3] at h4; cases h4
  | ret h4 => exact ⟨by rw [hg.e i hi]; exact h6.symm, h2⟩
  | trap h4 h7 => omega
  | go h4 h7 => omega
 | @trap i s h1 hk =>
  intro X t t' v' hr hi hs hX0 h he h0 hR
  obtain ⟨X', _, h2, h5, _⟩ := key hr hi hs hX0 h he h0
  have h3 : (blkV (g.blk i) t).st = false := by rw [h2.st]; exact h1
  have hk' : (g.blk i).e.kind = 3 := by rw [hg.e i hi]; exact hk
  cases hR with
  | stop h4 => rw [h3] at h4; cases h4
  | ret h4 h7 => omega
  | trap h4 h7 => exact ⟨rfl, by rw [hg.e i hi]; exact h2.trap _⟩
  | go h4 h7 => omega
 | @go i s s' v h1 hk hrun ih =>
  intro X t t' v' hr hi hs hX0 h he h0 hR
  obtain ⟨X', hX', h2, h5, hbl⟩ := key hr hi hs hX0 h he h0
  obtain ⟨h6, h7, h8, ha, hb⟩ := h5 h1
  have h3 : (blkV (g.blk i) t).st = false := by rw [h2.st]; exact h1
  have hk' : (g.blk i).e.kind = (f.blk i).e.kind := by rw [hg.e i hi]; rfl
  have hgo : goV (g.blk i).e (blkV (g.blk i) t) = goV (f.blk i).e (blkV (f.blk i) s) := by
   unfold goV
   rw [hg.e i hi]
   show (if (f.blk i).e.kind = 1 then _ else if yesV (f.blk i).e.op ((blkV (g.blk i) t).rg (plL a (f.blk i).e.a).toNat) ((blkV (g.blk i) t).rg (plL a (f.blk i).e.b).toNat) = true then _ else _) = _
   rw [ha, hb]
   rfl
  have hto : ∃ z ∈ (f.blk i).e.to, goV (f.blk i).e (blkV (f.blk i) s) = z.toNat := by
   have k1 := hf.kind i hi
   have k2 := hf.kind2 i hi
   have g0 : 1 ≤ (f.blk i).e.to.length → (f.blk i).e.to.getD 0 0 ∈ (f.blk i).e.to := fun h9 => by
    rw [List.getD_eq_getElem?_getD, List.getElem?_eq_getElem (by omega)]
    exact List.getElem_mem _
   have g1 : 2 ≤ (f.blk i).e.to.length → (f.blk i).e.to.getD 1 0 ∈ (f.blk i).e.to := fun h9 => by
    rw [List.getD_eq_getElem?_getD, List.getElem?_eq_getElem (by omega)]
    exact List.getElem_mem _
   unfold goV
   by_cases hk1 : (f.blk i).e.kind = 1
   ·rw [if_pos hk1]; exact ⟨_, g0 (k1 hk1), rfl⟩
   ·rw [if_neg hk1]
    have h9 := k2 (by omega)
    split
    ·exact ⟨_, g0 (by omega), rfl⟩
    ·exact ⟨_, g1 h9, rfl⟩
  obtain ⟨z, hz, hgz⟩ := hto
  have hzr := hf.tos i hi z hz
  cases hR with
  | stop h4 => rw [h3] at h4; cases h4
  | ret h4 h7 => omega
  | trap h4 h7 => omega
  | go h4 h9 h10 =>
   rw [hgo] at h10
   refine ih ?_ (by omega) h8 h7 h6 h2 h1 h10
   rw [hgz]
   exact .step hr hbl hX' hz
/-- at the start the places hold what the parameters hold -/
theorem start_sim (ga : a.Good n m) {ps : List Int} (args : List Int) (hps : ∀ z ∈ ps, 1 ≤ z ∧ z < n) : ∀ i, i ≤ ps.length →
  (∀ p r, startX a ((ps.take i).map Int.toNat) p r = true → startR (ps.map (plL a)) args i p = startR ps args i r) ∧ startR ps args i 0 = 0 ∧ startR (ps.map (plL a)) args i 0 = 0 ∧ (∀ q, startX a ((ps.take i).map Int.toNat) 0 q = false) ∧ SupS m n (startX a ((ps.take i).map Int.toNat))
 | 0, _ => ⟨fun p r h => by simp [startX] at h, rfl, rfl, fun q => rfl, fun p r h => by simp [startX] at h⟩
 | i + 1, hi => by
  obtain ⟨h1, h2, h3, h4, h5⟩ := start_sim ga args hps i (by omega)
  have hz := hps (ps[i]) (List.getElem_mem _)
  obtain ⟨d, hd⟩ : ∃ d : Nat, ps[i] = (d : Int) := ⟨(ps[i]).toNat, by omega⟩
  rw [hd] at hz
  have hg1 : ps.getD i 0 = (d : Int) := by rw [List.getD_eq_getElem?_getD, List.getElem?_eq_getElem (by omega)]; exact hd
  have hg2 : (ps.map (plL a)).getD i 0 = plL a (d : Int) := by rw [List.getD_eq_getElem?_getD, List.getElem?_map, List.getElem?_eq_getElem (by omega), hd]; rfl
  have hp := plL_pos ga (r := (d : Int)) (by omega) (by omega)
  have hpl := ga.fit.pl d (by omega)
  have hk := ga.k
  have hm := ga.hm
  have hs : startX a ((ps.take (i + 1)).map Int.toNat) = defX (startX a ((ps.take i).map Int.toNat)) (plc 11 a d).toNat d (fun _ => false) := by
   rw [List.take_add_one, List.getElem?_eq_getElem (by omega), hd]
   simp only [Option.toList_some, List.map_append, List.map_cons, List.map_nil, Int.toNat_natCast]
   rw [startX_snoc]
  refine ⟨fun p r hx => ?_, ?_, ?_, fun q => ?_, ?_⟩
  ·simp only [startR]
   rw [hg1, hg2]
   rw [hs] at hx
   simp only [Int.toNat_natCast]
   unfold defX at hx
   by_cases e1 : (plc 11 a d).toNat ≠ 0 ∧ p = (plc 11 a d).toNat
   ·rw [if_pos e1] at hx
    split at hx
    ·rename_i e2
     rw [if_pos e2, if_pos]
     rw [plL_of (by simp; omega)]
     simpa using e1.2
    ·cases hx
   ·rw [if_neg e1] at hx
    split at hx
    ·cases hx
    ·rename_i e2
     have hsp := h5 _ _ hx
     have hp0 : p ≠ 0 := fun e => by rw [e, h4] at hx; cases hx
     have hne : p ≠ (plL a (d : Int)).toNat := fun e3 => by
      unfold plL at e3
      simp only [Int.toNat_natCast] at e3
      split at e3
      ·omega
      ·exact e1 ⟨by omega, e3⟩
     rw [if_neg e2, if_neg hne]
     exact h1 _ _ hx
  ·simp only [startR]
   rw [hg1, if_neg (by simp; omega)]
   exact h2
  ·simp only [startR]
   rw [hg2, if_neg (by omega)]
   exact h3
  ·rw [hs]
   unfold defX
   rw [if_neg (fun h9 => h9.1 h9.2.symm)]
   split
   ·rfl
   ·exact h4 q
  ·exact startX_sup ga.fit fun r hr => by
    obtain ⟨z, hz2, rfl⟩ := List.mem_map.1 hr
    have := hps z (List.mem_of_mem_take hz2)
    omega
end
end

section
def aCV (a : AL) : List Value := [.slice a.ra a.rn a.rc, .slice a.sa a.sn a.sc, .int .i64 a.k]
set_option maxRecDepth 100000 in
set_option maxHeartbeats 4000000 in
theorem mplace_any {w0 w : World} {a : AL} (ha : a.Ok w0) (hbe : Below w0.heap.size w0 w) {pb n m : Nat} (hb : Blk w pb 34 (aCV a)) (ga : a.Good n m) (hn : n ≤ 10000) (z : Int) (hr : 0 ≤ z ∧ z < n) :
  Calls Try.prog 11 #[.int .i64 z, .pointer (some ⟨pb, 0, none⟩)] w fun e w' => e = .returned (.int .i64 (plL a z)) ∧ w' = w := by
 obtain ⟨r, rfl⟩ : ∃ r : Nat, z = (r : Int) := ⟨z.toNat, by omega⟩
 have hr : r < n := by omega
 have hrl : a.reg.length = a.rn := by simpa using ha.rcame.count
 have hsl : a.slot.length = a.sn := by simpa using ha.scame.count
 have hrn := ga.fit.rn
 have hsn := ga.fit.sn
 have hk := ga.k
 have hm := ga.hm
 obtain ⟨g1, o1, h1, h2, h3⟩ := ha.rcame.ints (by omega)
 obtain ⟨g2, o2, h4, h5, h6⟩ := ha.scame.ints (by omega)
 have hc1 := ha.rcame.max
 have hc2 := ha.scame.max
 have hl1 := ha.rcame.le
 have hl2 := ha.scame.le
 rw [hrn] at hl1
 rw [hsn] at hl2
 have k1 := (hbe.cell (p := ⟨g1, o1 + r, none⟩) h2).trans (h3 r (by omega))
 have k2 := (hbe.cell (p := ⟨g2, o2 + r, none⟩) h5).trans (h6 r (by omega))
 have hw1 := Nat.lt_of_lt_of_le h2 hbe.size
 have hw2 := Nat.lt_of_lt_of_le h5 hbe.size
 have b0 := hb.cell 0
 have b1 := hb.cell 1
 have b2 := hb.cell 2
 simp only [aCV, List.getElem?_cons_zero, List.getElem?_cons_succ] at b0 b1 b2
 rw [h1, hrn] at b0
 rw [h4, hsn] at b1
 have hsb := ga.fit.sl (a.slot[r]'(by omega)) (List.getElem_mem _)
 have hpl := ga.fit.pl r hr
 have hv : plL a (r : Int) = if r = 0 then 0 else if 0 < a.reg[r]'(by omega) then a.reg[r]'(by omega) else if 0 ≤ a.slot[r]'(by omega) then 11 + a.slot[r]'(by omega) else 11 + a.k := by
  unfold plL plc
  simp only [Int.toNat_natCast]
  have q1 : a.reg.getD r 0 = a.reg[r]'(by omega) := by rw [List.getD_eq_getElem?_getD, List.getElem?_eq_getElem (by omega)]; rfl
  have q2 : a.slot.getD r (-1) = a.slot[r]'(by omega) := by rw [List.getD_eq_getElem?_getD, List.getElem?_eq_getElem (by omega)]; rfl
  rw [q1, q2]
  by_cases e : r = 0
  ·subst e; simp
  ·have e' : ¬ ((r : Int) = 0) := by omega
   simp only [if_neg e]
   by_cases c1 : 0 < a.reg[r]'(by omega)
   ·simp only [if_pos c1]
    rw [if_neg (by rintro ⟨_, h9⟩; omega)]
   ·simp only [if_neg c1]
    by_cases c2 : 0 ≤ a.slot[r]'(by omega)
    ·simp only [if_pos c2]
     rw [if_neg (by rintro ⟨_, h9⟩; omega)]
    ·simp only [if_neg c2]
     rw [if_pos ⟨e', trivial⟩]
 have hri : I64 (a.reg[r]'(by omega)) := ha.reg _ (List.getElem_mem _)
 have hsi : I64 (a.slot[r]'(by omega)) := ha.slot _ (List.getElem_mem _)
 obtain ⟨x, hx⟩ : ∃ x, x = a.reg[r]'(by omega) := ⟨_, rfl⟩
 obtain ⟨y, hy⟩ : ∃ y, y = a.slot[r]'(by omega) := ⟨_, rfl⟩
 obtain ⟨k, hkk⟩ : ∃ k, k = a.k := ⟨_, rfl⟩
 rw [← hx] at k1 hv hri
 rw [← hy] at k2 hv hsb hsi
 rw [← hkk] at b2 hv hk
 rw [hv]
 have HV : Hid (k ≤ 9000 ∧ 0 ≤ k) := by show k ≤ 9000 ∧ 0 ≤ k; omega
 obtain ⟨hk1, hk2⟩ := HV.out
 obtain ⟨ca, hca⟩ : ∃ z, z = a.rc := ⟨_, rfl⟩
 obtain ⟨cs, hcs⟩ : ∃ z, z = a.sc := ⟨_, rfl⟩
 rw [← hca] at b0 hl1 hc1
 rw [← hcs] at b1 hl2 hc2
 unfold I64 at hri hsi
 clear hv hx hy hkk h3 h6 h1 h4 hrl hsl hrn hsn hpl hk hm ga ha hbe hb hca hcs HV h2 h5
 by_cases e : r = 0
 ·subst e
  go_enter Try.func11, Try.ntmps11
  go_wp2
  go_ret
  exact ⟨by simp, rfl⟩
 ·have er : ((r : Int) == 0) = false := by simp; omega
  have er2 : (r == 0) = false := by simp; omega
  rw [if_neg e]
  by_cases c1 : 0 < x
  ·rw [if_pos c1]
   go_enter Try.func11, Try.ntmps11
   go_wp2
   go_ret
   exact ⟨rfl, rfl⟩
  ·rw [if_neg c1]
   by_cases c2 : 0 ≤ y
   ·rw [if_pos c2]
    go_enter Try.func11, Try.ntmps11
    go_wp2
    go_ret
    exact ⟨rfl, rfl⟩
   ·rw [if_neg c2]
    go_enter Try.func11, Try.ntmps11
    go_wp2
    go_ret
    exact ⟨rfl, rfl⟩
end

section
def gCV (k12 : Int) (pa : Option Addr) (pn pc : Nat) (ba : Option Addr) (bn bc : Nat) : List Value := [.int .i64 0, .slice pa pn pc, .int .i64 k12, .slice ba bn bc]
/-- the function with places, as far as it is built -/
structure GenI (f : VF) (a : AL) (w wx : World) (pf pb gb : Nat) (ps : List Int) (pa : Option Addr) (pc : Nat) (gl : List VB) (ba : Option Addr) (bc : Nat) : Prop where
 be : Below w.heap.size w wx
 fb : Blk wx pf 25 (fCV f)
 ab : Blk wx pb 34 (aCV a)
 gx : Blk wx gb 25 (gCV (12 + a.k) pa ps.length pc ba gl.length bc)
 lo : w.heap.size ≤ gb ∧ pf ≠ gb
 po : wx.ownsRow w.heap.size 3 1 (.slice pa ps.length pc) ps.length (ps.map (Value.int .i64))
 bo : wx.ownsRow w.heap.size 45 7 (.slice ba gl.length bc) gl.length (gl.flatMap vbC)
 io : ∀ b ∈ gl, wx.ownsRow w.heap.size 47 6 (.slice b.sa b.ins.length b.sc) b.ins.length (b.ins.flatMap viC) ∧ b.sn = b.ins.length
section
variable {f : VF} {a : AL} {w wx wy : World} {pf pb gb : Nat} {ps : List Int} {pa : Option Addr} {pc : Nat} {gl : List VB} {ba : Option Addr} {bc : Nat}
theorem GenI.below (h : GenI f a w wx pf pb gb ps pa pc gl ba bc) (hb : Below wx.heap.size wx wy) : GenI f a w wy pf pb gb ps pa pc gl ba bc :=
 ⟨h.be.trans (hb.mono h.be.size), h.fb.below hb h.fb.lt, h.ab.below hb h.ab.lt, h.gx.below hb h.gx.lt, h.lo, ownG_below h.po hb, ownG_below h.bo hb, fun b hbb => ⟨ownG_below (h.io b hbb).1 hb, (h.io b hbb).2⟩⟩
/-- a parameter more -/
theorem GenI.pushP (h : GenI f a w wx pf pb gb ps pa pc gl ba bc) {w1 : World} {g cap : Nat} {v : Int} (ho : w1.ownsRow w.heap.size 3 1 (.slice (some ⟨g, 0, none⟩) (ps.length + 1) cap) (ps.length + 1) (ps.map (Value.int .i64) ++ [.int .i64 v])) (hg : wx.grownBy w1 (Value.slice pa ps.length pc).ownBlock) :
  GenI f a w (w1.setCell ⟨gb, 1, none⟩ (.slice (some ⟨g, 0, none⟩) (ps.length + 1) cap)) pf pb gb (ps ++ [v]) (some ⟨g, 0, none⟩) cap gl ba bc := by
 have hlo := h.lo
 have hfb := h.fb.of_heap (hg.block pf h.fb.lt fun e => own_tyV h.po h.fb (by decide) e.symm)
 have hab := h.ab.of_heap (hg.block pb h.ab.lt fun e => own_tyV h.po h.ab (by decide) e.symm)
 have hgx := h.gx.of_heap (hg.block gb h.gx.lt fun e => own_tyV h.po h.gx (by decide) e.symm)
 have hbo : w1.ownsRow w.heap.size 45 7 (.slice ba gl.length bc) gl.length (gl.flatMap vbC) := ownG_kept h.bo fun k hk => hg.block k (h.bo.lt k hk).2 fun e => own_tyN h.bo h.po (by decide) k hk e.symm
 have hlen : (ps ++ [v]).length = ps.length + 1 := by simp
 refine ⟨(h.be.grown hg h.be.size fun k hk => (h.po.lt k hk).1).setCell (p := ⟨gb, 1, none⟩) hlo.1 _, hfb.setOther (a := ⟨gb, 1, none⟩) hlo.2 _, hab.setOther (a := ⟨gb, 1, none⟩) (blk_tyV hab hgx (by decide)) _, ?_, hlo, ?_, ownG_other hbo (own_tyV hbo hgx (by decide)) _, fun b hb => ?_⟩
 ·have := hgx.set 1 (.slice (some ⟨g, 0, none⟩) (ps.length + 1) cap)
  rw [hlen]
  exact this
 ·rw [hlen, List.map_append]
  exact ownG_other ho (own_tyV ho hgx (by decide)) _
 ·obtain ⟨h1, h2⟩ := h.io b hb
  have h3 := ownG_kept (w' := w1) h1 fun k hk => hg.block k (h1.lt k hk).2 fun e => own_tyN h1 h.po (by decide) k hk e.symm
  exact ⟨ownG_other h3 (own_tyV h3 hgx (by decide)) _, h2⟩
/-- a block more -/
theorem GenI.pushB (h : GenI f a w wx pf pb gb ps pa pc gl ba bc) {w1 : World} {g cap : Nat} {b : VB} (hin : wx.ownsRow w.heap.size 47 6 (.slice b.sa b.ins.length b.sc) b.ins.length (b.ins.flatMap viC) ∧ b.sn = b.ins.length) (ho : w1.ownsRow w.heap.size 45 7 (.slice (some ⟨g, 0, none⟩) (gl.length + 1) cap) (gl.length + 1) (gl.flatMap vbC ++ vbC b)) (hg : wx.grownBy w1 (Value.slice ba gl.length bc).ownBlock) :
  GenI f a w (w1.setCell ⟨gb, 3, none⟩ (.slice (some ⟨g, 0, none⟩) (gl.length + 1) cap)) pf pb gb ps pa pc (gl ++ [b]) (some ⟨g, 0, none⟩) cap := by
 have hlo := h.lo
 have hfb := h.fb.of_heap (hg.block pf h.fb.lt fun e => own_tyV h.bo h.fb (by decide) e.symm)
 have hab := h.ab.of_heap (hg.block pb h.ab.lt fun e => own_tyV h.bo h.ab (by decide) e.symm)
 have hgx := h.gx.of_heap (hg.block gb h.gx.lt fun e => own_tyV h.bo h.gx (by decide) e.symm)
 have hpo : w1.ownsRow w.heap.size 3 1 (.slice pa ps.length pc) ps.length (ps.map (Value.int .i64)) := ownG_kept h.po fun k hk => hg.block k (h.po.lt k hk).2 fun e => own_tyN h.po h.bo (by decide) k hk e.symm
 have hlen : (gl ++ [b]).length = gl.length + 1 := by simp
 have hone : ∀ b' : VB, wx.ownsRow w.heap.size 47 6 (.slice b'.sa b'.ins.length b'.sc) b'.ins.length (b'.ins.flatMap viC) ∧ b'.sn = b'.ins.length → (w1.setCell ⟨gb, 3, none⟩ (.slice (some ⟨g, 0, none⟩) (gl.length + 1) cap)).ownsRow w.heap.size 47 6 (.slice b'.sa b'.ins.length b'.sc) b'.ins.length (b'.ins.flatMap viC) ∧ b'.sn = b'.ins.length := fun b' ⟨h1, h2⟩ => by
  have h3 := ownG_kept (w' := w1) h1 fun k hk => hg.block k (h1.lt k hk).2 fun e => own_tyN h1 h.bo (by decide) k hk e.symm
  exact ⟨ownG_other h3 (own_tyV h3 hgx (by decide)) _, h2⟩
 refine ⟨(h.be.grown hg h.be.size fun k hk => (h.bo.lt k hk).1).setCell (p := ⟨gb, 3, none⟩) hlo.1 _, hfb.setOther (a := ⟨gb, 3, none⟩) hlo.2 _, hab.setOther (a := ⟨gb, 3, none⟩) (blk_tyV hab hgx (by decide)) _, ?_, hlo, ownG_other hpo (own_tyV hpo hgx (by decide)) _, ?_, fun b' hb => ?_⟩
 ·have := hgx.set 3 (.slice (some ⟨g, 0, none⟩) (gl.length + 1) cap)
  rw [hlen]
  exact this
 ·rw [hlen, List.flatMap_append]
  have := ownG_other (a := ⟨gb, 3, none⟩) ho (own_tyV ho hgx (by decide)) (.slice (some ⟨g, 0, none⟩) (gl.length + 1) cap)
  simpa using this
 ·rcases List.mem_append.1 hb with h1 | h1
  ·exact hone b' (h.io b' h1)
  ·rw [List.mem_singleton.1 h1]; exact hone b hin
end
def zBC : List Value := [.slice none 0 0, .int .i64 0, .int .i64 0, .int .i64 0, .int .i64 0, .int .i64 0, .slice none 0 0]
/-- the block with places, as far as it is built: bb the block's box, cb the new one's -/
structure BlkG (ws wx : World) (bb cb : Nat) (bk : VB) (ec : List Value) (cl : List VI) (ca : Option Addr) (cc : Nat) : Prop where
 be : Below ws.heap.size ws wx
 bx : Blk wx bb 45 (vbC bk)
 cx : Blk wx cb 45 (.slice ca cl.length cc :: ec)
 co : wx.ownsRow ws.heap.size 47 6 (.slice ca cl.length cc) cl.length (cl.flatMap viC)
 lo : ws.heap.size ≤ cb ∧ bb ≠ cb
section
variable {ws wx wy : World} {bb cb : Nat} {bk : VB} {ec : List Value} {cl : List VI} {ca : Option Addr} {cc : Nat}
theorem BlkG.below (h : BlkG ws wx bb cb bk ec cl ca cc) (hb : Below wx.heap.size wx wy) : BlkG ws wy bb cb bk ec cl ca cc :=
 ⟨h.be.trans (hb.mono h.be.size), h.bx.below hb h.bx.lt, h.cx.below hb h.cx.lt, ownG_below h.co hb, h.lo⟩
theorem BlkG.push (h : BlkG ws wx bb cb bk ec cl ca cc) {w1 : World} {g cap : Nat} {x : VI} (ho : w1.ownsRow ws.heap.size 47 6 (.slice (some ⟨g, 0, none⟩) (cl.length + 1) cap) (cl.length + 1) (cl.flatMap viC ++ viC x)) (hg : wx.grownBy w1 (Value.slice ca cl.length cc).ownBlock) :
  BlkG ws (w1.setCell ⟨cb, 0, none⟩ (.slice (some ⟨g, 0, none⟩) (cl.length + 1) cap)) bb cb bk ec (cl ++ [x]) (some ⟨g, 0, none⟩) cap := by
 have hlo := h.lo
 have hbx := h.bx.of_heap (hg.block bb h.bx.lt fun e => own_tyV h.co h.bx (by decide) e.symm)
 have hcx := h.cx.of_heap (hg.block cb h.cx.lt fun e => own_tyV h.co h.cx (by decide) e.symm)
 have hlen : (cl ++ [x]).length = cl.length + 1 := by simp
 refine ⟨(h.be.grown hg h.be.size fun k hk => (h.co.lt k hk).1).setCell (p := ⟨cb, 0, none⟩) hlo.1 _, hbx.setOther (a := ⟨cb, 0, none⟩) hlo.2 _, ?_, ?_, hlo⟩
 ·have := hcx.set 0 (.slice (some ⟨g, 0, none⟩) (cl.length + 1) cap)
  rw [hlen]
  exact this
 ·rw [hlen, List.flatMap_append]
  have := ownG_other (a := ⟨cb, 0, none⟩) ho (own_tyV ho hcx (by decide)) (.slice (some ⟨g, 0, none⟩) (cl.length + 1) cap)
  simpa using this
end
/-- what is built of the blocks -/
def GenR (f : VF) (a : AL) (i : Nat) (gl : List VB) : Prop := gl.length = i ∧ ∀ j (hj : j < gl.length), gl[j].ins = (f.blk j).ins.map (renI a) ∧ gl[j].e = renE a (f.blk j).e
theorem GenR.snoc {f : VF} {a : AL} {i : Nat} {gl : List VB} {b : VB} (h : GenR f a i gl) (h1 : b.ins = (f.blk i).ins.map (renI a)) (h2 : b.e = renE a (f.blk i).e) : GenR f a (i + 1) (gl ++ [b]) := by
 obtain ⟨hl, hr⟩ := h
 refine ⟨by simp [hl], fun j hj => ?_⟩
 by_cases e : j < gl.length
 ·rw [List.getElem_append_left e]; exact hr j e
 ·have : j = gl.length := by simp at hj; omega
  subst this
  rw [List.getElem_append_right (Nat.le_refl _)]
  simp only [Nat.sub_self, List.getElem_cons_zero]
  rw [hl]
  exact ⟨h1, h2⟩
end

section
theorem fn_blkE {f : VF} (h : fnE f = 0) : blkE f.regs f.sn 0 f.blocks = 0 := by
 unfold fnE at h
 split at h
 ·cases h
 split at h
 ·cases h
 split at h
 ·contradiction
 split at h
 ·contradiction
 rename_i h9
 exact Classical.not_not.1 h9
theorem fn_badI {f : VF} {n nb : Nat} (hok : FnOk f n nb) (h : fnE f = 0) {i : Nat} (hi : i < nb) : (∀ x ∈ (f.blk i).ins, badI x f.regs = 0) ∧ badE (f.blk i).e f.regs f.sn = 0 := by
 have hib : i < f.blocks.length := by have := hok.nbl; omega
 obtain ⟨h1, h2, _⟩ := blkE_ok (fn_blkE h) f.blocks[i] (List.getElem_mem hib)
 rw [VF.blk_get f hib] at h1 h2
 exact ⟨fun x hx => insE_ok h1 x hx, h2⟩
theorem badI_dab {x : VI} {regs : Int} {n : Nat} (hr : regs = (n : Int)) (h : badI x regs = 0) : (0 ≤ x.d ∧ x.d < n) ∧ (0 ≤ x.a ∧ x.a < n) ∧ 0 ≤ x.b ∧ x.b < n := by
 have h1 := badI_names h
 unfold namesV at h1
 have g := fun z hz => inB_true.1 (List.all_eq_true.1 h1 z hz)
 have q1 := g x.d (by simp)
 have q2 := g x.a (by simp)
 have q3 := g x.b (by simp)
 omega
theorem badI_opV {x : VI} {regs : Int} {n : Nat} (hr : regs = (n : Int)) (h : badI x regs = 0) (hc : callB x.op = false) : OpV n x := by
 obtain ⟨hd, ha, hb⟩ := badI_dab hr h
 unfold badI at h
 split at h
 ·cases h
 rename_i h1
 split at h
 ·cases h
 split at h
 ·cases h
 rename_i h3
 have hop := sh_ops (by simpa using h1 : shIs x.op = true)
 unfold callB at hc
 simp only [Bool.or_eq_false_iff, beq_eq_false_iff_ne] at hc
 unfold limV at h3
 simp only [Bool.or_eq_true, Bool.and_eq_true, not_or, Bool.not_eq_true, Bool.or_eq_false_iff, Bool.and_eq_false_iff, Bool.not_eq_false', decide_eq_false_iff_not, beq_eq_false_iff_ne] at h3
 obtain ⟨⟨⟨⟨q1, q2⟩, q3⟩, q4⟩, q5⟩ := h3
 have q2' := inB_true.1 q2
 refine ⟨ha, hb, hd, ?_, q2', fun e => ?_, fun e => ?_⟩
 ·omega
 ·cases hb9 : inB x.n 0 4095
  ·exact absurd ⟨by simp [e], by rw [hb9]; rfl⟩ q5
  ·have := inB_true.1 hb9; omega
 ·cases hb9 : inB x.n 0 255
  ·exact absurd ⟨.inr (by simp [e]), by rw [hb9]; rfl⟩ q3
  ·have := inB_true.1 hb9; omega
theorem badE_run {x : VE} {w : World} (hx : x.Ok w) {regs nb : Int} {n m : Nat} (hr : regs = (n : Int)) (hm : nb = (m : Int)) (h : badE x regs nb = 0) : ((0 ≤ x.a ∧ x.a < n) ∧ 0 ≤ x.b ∧ x.b < n) ∧ (x.kind = 0 ∨ x.kind = 3 ∨ (x.kind = 1 ∧ 1 ≤ x.to.length) ∨ (x.kind = 2 ∧ 2 ≤ x.to.length ∧ (x.op = 16 ∨ x.op = 17 ∨ x.op = 18))) ∧ ∀ t ∈ x.to, 1 ≤ t ∧ t < m := by
 obtain ⟨h1, h2, h3⟩ := badE_ok h
 have hl := hx.len
 refine ⟨by omega, ?_, fun t ht => by have := h3 t ht; omega⟩
 unfold badE at h
 split at h
 ·cases h
 rename_i k1
 split at h
 ·cases h
 rename_i k2
 have hk : 0 ≤ x.kind ∧ x.kind ≤ 3 := Classical.not_not.1 k1
 have k3 : endOk x = true := by
  cases he : endOk x
  ·exact absurd (.inl he) k2
  ·rfl
 have k4 : (x.sn : Int) = endMany x.kind := by
  by_cases e : (x.sn : Int) = endMany x.kind
  ·exact e
  ·exact absurd (.inr e) k2
 have hs : x.kind = 0 ∨ x.kind = 1 ∨ x.kind = 2 ∨ x.kind = 3 := by omega
 rcases hs with e | e | e | e
 ·exact .inl e
 ·right; right; left
  rw [e] at k4
  have : endMany 1 = 1 := rfl
  exact ⟨e, by omega⟩
 ·right; right; right
  rw [e] at k4
  have h9 : endMany 2 = 2 := rfl
  refine ⟨e, by omega, ?_⟩
  unfold endOk at k3
  rw [e] at k3
  simp at k3
  omega
 ·exact .inr (.inl e)
end

section
def genF (k12 : Int) (pa : Option Addr) (pc : Nat) (ps : List Int) (ba : Option Addr) (bc : Nat) (gl : List VB) : VF := ⟨0, k12, pa, ps.length, pc, ps, ba, gl.length, bc, gl⟩
theorem genF_blk {k12 : Int} {pa : Option Addr} {pc : Nat} {ps : List Int} {ba : Option Addr} {bc : Nat} {gl : List VB} {i : Nat} (hi : i < gl.length) : (genF k12 pa pc ps ba bc gl).blk i = gl[i] := by
 unfold VF.blk genF
 rw [List.getD_eq_getElem?_getD, List.getElem?_eq_getElem hi]; rfl
theorem came_insV {w : World} {B : Nat} {p : Option Addr} {c n : Nat} {zs : List VI} (hn : n = zs.length) (h : w.ownsRow B 47 6 (.slice p zs.length c) zs.length (zs.flatMap viC)) : Came w p n c 6 (zs.map viC) := by
 obtain ⟨a', c', e, hc⟩ := came_ofN (E := viC) (zs := zs) (by decide : 0 < 6) (fun _ => rfl) rfl h
 injection e with e1 _ e3
 subst e1 e3
 rw [hn]
 exact hc
theorem came_blkV {w : World} {B : Nat} {p : Option Addr} {c : Nat} {zs : List VB} (h : w.ownsRow B 45 7 (.slice p zs.length c) zs.length (zs.flatMap vbC)) : Came w p zs.length c 7 (zs.map vbC) := by
 obtain ⟨a', c', e, hc⟩ := came_ofN (E := vbC) (zs := zs) (by decide : 0 < 7) (fun _ => rfl) rfl h
 injection e with e1 _ e3
 subst e1 e3
 exact hc
theorem flat_intV : ∀ zs : List Int, zs.flatMap intCells = zs.map (Value.int .i64)
 | [] => rfl
 | z :: l => by rw [List.flatMap_cons, flat_intV l]; rfl
theorem came_ownI {w : World} {B : Nat} {p : Option Addr} {c : Nat} {zs : List Int} (h : w.ownsRow B 3 1 (.slice p zs.length c) zs.length (zs.map (Value.int .i64))) : Came w p zs.length c 1 (zs.map intCells) := by
 obtain ⟨a', c', e, hc⟩ := came_ofN (E := intCells) (zs := zs) (by decide : 0 < 1) (fun _ => rfl) rfl (by rw [flat_intV]; exact h)
 injection e with e1 _ e3
 subst e1 e3
 exact hc
section
variable {f : VF} {a : AL} {w wx : World} {n m nb : Nat} {pf pb gb : Nat} {pa : Option Addr} {pc : Nat} {gl : List VB} {ba : Option Addr} {bc : Nat}
theorem plL_bd (ga : a.Good n m) {z : Int} (hz : 0 ≤ z ∧ z < n) : 0 ≤ plL a z ∧ plL a z < 12 + a.k := by
 have hk := ga.k
 have hm := ga.hm
 by_cases e : z = 0
 ·subst e; rw [plL_zero]; omega
 ·have := plL_pos ga hz e; omega
theorem fn_in (hok : FnOk f n nb) {i : Nat} (hi : i < nb) : f.blk i ∈ f.blocks := by
 have hib : i < f.blocks.length := by have := hok.nbl; omega
 rw [← VF.blk_get f hib]
 exact List.getElem_mem _
theorem GenI.ok (hok : FnOk f n nb) (hfe : fnE f = 0) (hf : f.Ok w) (ga : a.Good n m) (h : GenI f a w wx pf pb gb (f.params.map (plL a)) pa pc gl ba bc) (hr : GenR f a nb gl) : (genF (12 + a.k) pa pc (f.params.map (plL a)) ba bc gl).Ok wx := by
 have hk := ga.k
 have hm := ga.hm
 have hpl : (f.params.map (plL a)).length = f.pn := by rw [List.length_map]; exact hf.plen
 have hpn := hok.pn
 have hnb := hok.nb2
 have hgl := hr.1
 refine ⟨came_ownI h.po, ?_, fun z hz => ?_, by show I64 0; unfold I64; omega, by show I64 (12 + a.k); unfold I64; omega, came_blkV h.bo, ?_, fun b hb => ?_⟩
 ·show (f.params.map (plL a)).length * 8 ≤ _; omega
 ·obtain ⟨r, hr2, rfl⟩ := List.mem_map.1 hz
  have := hok.par r hr2
  have := plL_bd ga (z := r) (by omega)
  unfold I64; omega
 ·show gl.length * 56 ≤ _; omega
 ·have hb : b ∈ gl := hb
  obtain ⟨i, hi, rfl⟩ := List.getElem_of_mem hb
  obtain ⟨h1, h2⟩ := hr.2 i hi
  obtain ⟨h3, h4⟩ := h.io _ (List.getElem_mem hi)
  have hbo := hf.blocks _ (fn_in hok (by omega : i < nb))
  have hlen := hok.ins i (by omega)
  have hbad := fn_badI hok hfe (by omega : i < nb)
  have hab := hok.ab i (by omega)
  refine ⟨came_insV h4 h3, ?_, fun z hz => ?_, ?_⟩
  ·have : gl[i].ins.length = (f.blk i).ins.length := by rw [h1, List.length_map]
   omega
  ·rw [h1] at hz
   obtain ⟨x, hx, rfl⟩ := List.mem_map.1 hz
   have hxo := (hbo.ins x hx).below h.be
   obtain ⟨d1, d2, d3⟩ := badI_dab hok.regs (hbad.1 x hx)
   have e1 := plL_bd ga d1
   have e2 := plL_bd ga d2
   have e3 := plL_bd ga d3
   exact ⟨hxo.came, hxo.reach, hxo.op, by show I64 (plL a x.d); unfold I64; omega, by show I64 (plL a x.a); unfold I64; omega, by show I64 (plL a x.b); unfold I64; omega, hxo.n, hxo.args⟩
  ·rw [h2]
   have heo := hbo.e.below h.be
   have e2 := plL_bd ga hab.1
   have e3 := plL_bd ga hab.2
   exact ⟨heo.came, heo.reach, heo.kind, heo.op, by show I64 (plL a _); unfold I64; omega, by show I64 (plL a _); unfold I64; omega, heo.n, heo.to⟩
theorem fn_vmF (hok : FnOk f n nb) (hfe : fnE f = 0) (hf : f.Ok w) (hn : n ≤ 10000) (hnc : ∀ j, j < nb → ∀ x ∈ (f.blk j).ins, callB x.op = false) : VmF f n nb := by
 have hrun := fun i (hi : i < nb) => badE_run (hf.blocks _ (fn_in hok hi)).e hok.regs (by rw [hok.sn] : (f.sn : Int) = (nb : Int)) (fn_badI hok hfe hi).2
 exact ⟨hok.regs, ⟨hok.n2.1, hn⟩, hok.nbl, hok.sn, hok.nb2, hok.pn, fun z hz => by have := hok.par z hz; omega, fun i hi x hx => badI_opV hok.regs ((fn_badI hok hfe hi).1 x hx) (hnc i hi x hx), hok.ins, hok.ab, fun i hi => (hrun i hi).2.1, fun i hi t ht => by have := (hrun i hi).2.2 t ht; omega⟩
theorem gen_vmF (hok : FnOk f n nb) (hfe : fnE f = 0) (hf : f.Ok w) (ga : a.Good n m) (hv : VmF f n nb) (hr : GenR f a nb gl) {k : Nat} (hk : a.k = (k : Int)) (hkb : k ≤ 9000) : VmF (genF (12 + a.k) pa pc (f.params.map (plL a)) ba bc gl) (12 + k) nb := by
 have hgl := hr.1
 have hpl : (f.params.map (plL a)).length = f.pn := by rw [List.length_map]; exact hf.plen
 have hbl := fun i (hi : i < nb) => genF_blk (k12 := 12 + a.k) (pa := pa) (pc := pc) (ps := f.params.map (plL a)) (ba := ba) (bc := bc) (gl := gl) (i := i) (by omega)
 have hre := fun i (hi : i < nb) => hr.2 i (by omega)
 refine ⟨by show 12 + a.k = _; rw [hk]; omega, by omega, hgl.symm, hgl, hv.nb2, by show (f.params.map (plL a)).length ≤ 6; have := hv.pn; omega, fun z hz => ?_, fun i hi x hx => ?_, fun i hi => ?_, fun i hi => ?_, fun i hi => ?_, fun i hi t ht => ?_⟩
 ·obtain ⟨r, hr2, rfl⟩ := List.mem_map.1 (show z ∈ f.params.map (plL a) from hz)
  have := hok.par r hr2
  have := plL_bd ga (z := r) (by omega)
  omega
 ·rw [hbl i hi, (hre i hi).1] at hx
  obtain ⟨y, hy, rfl⟩ := List.mem_map.1 hx
  have h1 := hv.ops i hi y hy
  have e1 := plL_bd ga h1.d
  have e2 := plL_bd ga h1.a
  have e3 := plL_bd ga h1.b
  exact ⟨by show 0 ≤ plL a y.a ∧ plL a y.a < ((12 + k : Nat) : Int); omega, by show 0 ≤ plL a y.b ∧ plL a y.b < ((12 + k : Nat) : Int); omega, by show 0 ≤ plL a y.d ∧ plL a y.d < ((12 + k : Nat) : Int); omega, h1.op, h1.n, h1.al, h1.ad⟩
 ·rw [hbl i hi, (hre i hi).1, List.length_map]; exact hv.len i hi
 ·rw [hbl i hi, (hre i hi).2]
  have h1 := hv.ab i hi
  have e2 := plL_bd ga h1.1
  have e3 := plL_bd ga h1.2
  exact ⟨by show 0 ≤ plL a (f.blk i).e.a ∧ plL a (f.blk i).e.a < ((12 + k : Nat) : Int); omega, by show 0 ≤ plL a (f.blk i).e.b ∧ plL a (f.blk i).e.b < ((12 + k : Nat) : Int); omega⟩
 ·rw [hbl i hi, (hre i hi).2]; exact hv.kind i hi
 ·rw [hbl i hi, (hre i hi).2] at ht; exact hv.tos i hi t ht
/-- the two runs end alike -/
theorem means_law (hok : FnOk f n nb) (hfe : fnE f = 0) (hf : f.Ok w) (ga : a.Good n m) (hv : VmF f n nb) (hnc : ∀ j, j < nb → ∀ x ∈ (f.blk j).ins, callB x.op = false) (hr : GenR f a nb gl) (hgood : GoodS f a (startX a (f.params.map Int.toNat))) {l m0 : List Int} {s' t' : VS} {v v' : Int}
  (h1 : RunV f 0 ⟨startR f.params l f.pn, m0, [], 500, 0, false, false⟩ s' v) (h2 : RunV (genF (12 + a.k) pa pc (f.params.map (plL a)) ba bc gl) 0 ⟨startR (f.params.map (plL a)) l f.pn, m0, [], 500, 0, false, false⟩ t' v') : v = v' ∧ EqV s' t' := by
 have hgl := hr.1
 have hpl : f.params.length = f.pn := hf.plen
 have hbl := fun i (hi : i < nb) => genF_blk (k12 := 12 + a.k) (pa := pa) (pc := pc) (ps := f.params.map (plL a)) (ba := ba) (bc := bc) (gl := gl) (i := i) (by omega)
 have hrun : RunOk f n nb := ⟨hok.nbl, fun i hi x hx => ⟨hok.fits.ins i (by rw [← hok.nbl]; exact hi) x hx, (badI_dab hok.regs ((fn_badI hok hfe hi).1 x hx)).2.2, hnc i hi x hx⟩, hok.ab, fun i hi e => by rcases hv.kind i hi with h9 | h9 | ⟨_, h9⟩ | ⟨h9, _⟩ <;> first | omega | exact h9, fun i hi e => by rcases hv.kind i hi with h9 | h9 | ⟨h9, _⟩ | ⟨_, h9, _⟩ <;> first | omega | exact h9, fun i hi t ht => by
   have := (badE_run (hf.blocks _ (fn_in hok hi)).e hok.regs (by rw [hok.sn] : (f.sn : Int) = (nb : Int)) (fn_badI hok hfe hi).2).2.2 t ht
   exact this⟩
 have hren : RenF a f (genF (12 + a.k) pa pc (f.params.map (plL a)) ba bc gl) nb := ⟨fun i hi => by rw [hbl i hi]; exact (hr.2 i (by omega)).1, fun i hi => by rw [hbl i hi]; exact (hr.2 i (by omega)).2⟩
 obtain ⟨g1, g2, g3, g4, g5⟩ := start_sim ga l (ps := f.params) (fun z hz => hok.par z hz) f.params.length (Nat.le_refl _)
 rw [List.take_length, hpl] at g1
 rw [hpl] at g2 g3
 rw [List.take_length] at g4 g5
 have hs : SimR (startX a (f.params.map Int.toNat)) (⟨startR f.params l f.pn, m0, [], 500, 0, false, false⟩ : VS) (⟨startR (f.params.map (plL a)) l f.pn, m0, [], 500, 0, false, false⟩ : VS) := ⟨g2, g3, fun p r hx => g1 p r hx⟩
 have he : EqV (⟨startR f.params l f.pn, m0, [], 500, 0, false, false⟩ : VS) (⟨startR (f.params.map (plL a)) l f.pn, m0, [], 500, 0, false, false⟩ : VS) := ⟨rfl, rfl, rfl, rfl, rfl, rfl⟩
 exact run_same ga hrun hren hgood h1 .start hok.nb2.1 g5 g4 hs he rfl h2
end
end

section
def s500 : VS := ⟨fun _ => 0, List.replicate 64 0, [], 500, 0, false, false⟩
def vmZ (fb gm : Nat) : List Value := [.slice (some ⟨fb, 0, none⟩) 1 1, .slice (some ⟨gm, 0, none⟩) 64 64, .int .i64 400, .int .i64 500, .slice none 0 0, .int .i64 0, .bool false, .bool false, .int .i64 0]
theorem vm_start {w0 wx : World} {f : VF} {q fb gm : Nat} (hbe : Below w0.heap.size w0 wx) (hq : w0.heap.size ≤ q) (hg : w0.heap.size ≤ gm) (hb : Blk wx q 54 (vmZ fb gm)) (hm : Blk wx gm 3 (rowL 64 fun _ => .int .i64 0)) (hf : Blk wx fb 25 (fCV f)) : VmAt w0 wx q fb f gm 64 none 0 0 s500 := by
 refine ⟨hbe, hq, hb, ⟨by simp [s500], .inr ⟨gm, 64, (rowL 64 fun _ => .int .i64 0).toArray, rfl, hg, hm, Nat.le_refl _, by unfold maxLen; omega, by simp [rowL_length], ?_⟩⟩, World.ownsRow_nil _ _ _ _, by simp [Value.ownBlock], hf, ⟨by simp [s500], by simp [s500]⟩, by simp [s500], fun x hx => ?_, (fun x hx => (by cases hx)), by show -2 ≤ (500 : Int) ∧ (500 : Int) ≤ 500; omega⟩
 ·have h1 : (rowL 64 fun _ => Value.int .i64 0).toArray.toList = List.replicate 64 (.int .i64 0) := by
   simp [rowL, List.map_const']
  rw [h1]
  simp [s500]
 ·have : x = 0 := List.eq_of_mem_replicate hx
  rw [this]; unfold S32; omega
end
end Go.Proofs.Ytlcnbihfpjhffaa
