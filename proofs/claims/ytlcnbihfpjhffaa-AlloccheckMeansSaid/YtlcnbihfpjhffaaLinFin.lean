/- What the ranges are: the plain law. No function of the program. The memory of linear's Ranges. linear's finish. -/
import Derived.Test.YtlcnbihfpjhffaaLinDel
import Derived.Test.YtlcnbihfpjhffaaOcc
import Derived.Test.YtlcnbihfpjhffaaColMem
import Derived.Laws.MakeOwn
namespace Go.Proofs.Ytlcnbihfpjhffaa
open Go.RowKit
set_option linter.unusedVariables false
set_option linter.unusedSimpArgs false

section
/-! ## points added to a row of ranges -/
def zR : RG := ⟨0, 0, 0, false⟩
def extS (xs : List RG) (p : Nat × Int) : List RG := xs.set p.1 (extR (xs.getD p.1 zR) p.2)
def extL (xs : List RG) (l : List (Nat × Int)) : List RG := l.foldl extS xs
theorem extL_append (xs : List RG) (l m : List (Nat × Int)) : extL xs (l ++ m) = extL (extL xs l) m := List.foldl_append ..
theorem extL_snoc (xs : List RG) (l : List (Nat × Int)) (p : Nat × Int) : extL xs (l ++ [p]) = extS (extL xs l) p := by rw [extL_append]; rfl
structure RgB (n : Nat) (xs : List RG) : Prop where
 len : xs.length = n
 ok : ∀ (r : Nat) (x : RG), xs[r]? = some x → -1 ≤ x.b ∧ x.b ≤ 1000000000 ∧ 0 ≤ x.e ∧ x.e ≤ 1000000000
theorem extR_b (x : RG) (t : Int) : (extR x t).r = x.r ∧ (extR x t).s = x.s := by unfold extR; split <;> exact ⟨rfl, rfl⟩
theorem extS_get {xs : List RG} {p : Nat × Int} {r : Nat} {x : RG} (h : (extS xs p)[r]? = some x) : (r = p.1 ∧ ∃ y, xs[r]? = some y ∧ x = extR y p.2) ∨ (r ≠ p.1 ∧ xs[r]? = some x) := by
 unfold extS at h
 by_cases e : r = p.1
 ·subst e
  obtain ⟨h1, h2⟩ := List.getElem?_eq_some_iff.1 h
  rw [List.length_set] at h1
  rw [List.getElem_set_self] at h2
  refine .inl ⟨rfl, xs[p.1], List.getElem?_eq_getElem h1, ?_⟩
  rw [← h2, List.getD_eq_getElem?_getD, List.getElem?_eq_getElem h1]
  rfl
 ·rw [List.getElem?_set_ne (fun h => e h.symm)] at h
  exact .inr ⟨e, h⟩
theorem RgB.ext {n : Nat} {xs : List RG} (h : RgB n xs) (p : Nat × Int) (ht : 0 ≤ p.2 ∧ p.2 ≤ 1000000000) : RgB n (extS xs p) := by
 refine ⟨by unfold extS; rw [List.length_set]; exact h.len, fun r x hx => ?_⟩
 rcases extS_get hx with ⟨e, y, hy, rfl⟩ | ⟨_, hy⟩
 ·have := h.ok r y hy
  unfold extR
  split
  ·simp only; omega
  ·simp only; omega
 ·exact h.ok r x hy
theorem RgB.extL {n : Nat} {xs : List RG} (h : RgB n xs) : ∀ {l : List (Nat × Int)}, (∀ p ∈ l, 0 ≤ p.2 ∧ p.2 ≤ 1000000000) → RgB n (extL xs l) := by
 intro l
 induction l generalizing xs with
 | nil => intro _; exact h
 | cons p l ih => intro hl; exact ih (h.ext p (hl p (List.mem_cons_self ..))) fun q hq => hl q (List.mem_cons_of_mem _ hq)
/-- each range is the least that holds the points so far -/
structure Hull (xs : List RG) (P : Nat → Int → Prop) : Prop where
 reg : ∀ (r : Nat) (x : RG), xs[r]? = some x → x.r = (r : Int) ∧ x.s = false
 no : ∀ (r : Nat) (x : RG), xs[r]? = some x → x.b < 0 → x.b = -1 ∧ x.e = 0 ∧ ∀ t, ¬ P r t
 yes : ∀ (r : Nat) (x : RG), xs[r]? = some x → 0 ≤ x.b → P r x.b ∧ P r x.e ∧ ∀ t, P r t → x.b ≤ t ∧ t ≤ x.e
theorem Hull.congr {xs : List RG} {P Q : Nat → Int → Prop} (h : Hull xs P) (e : ∀ r t, r < xs.length → (P r t ↔ Q r t)) : Hull xs Q := by
 refine ⟨h.reg, fun r x hx hb => ?_, fun r x hx hb => ?_⟩
 ·have hl := (List.getElem?_eq_some_iff.1 hx).1
  obtain ⟨h1, h2, h3⟩ := h.no r x hx hb
  exact ⟨h1, h2, fun t ht => h3 t ((e r t hl).2 ht)⟩
 ·have hl := (List.getElem?_eq_some_iff.1 hx).1
  obtain ⟨h1, h2, h3⟩ := h.yes r x hx hb
  exact ⟨(e _ _ hl).1 h1, (e _ _ hl).1 h2, fun t ht => h3 t ((e r t hl).2 ht)⟩
theorem Hull.ext {xs : List RG} {P : Nat → Int → Prop} (h : Hull xs P) (p : Nat × Int) (ht : 0 ≤ p.2) : Hull (extS xs p) (fun r t => P r t ∨ (r, t) = p) := by
 obtain ⟨pr, pt⟩ := p
 simp only at ht
 refine ⟨fun r x hx => ?_, fun r x hx hb => ?_, fun r x hx hb => ?_⟩
 ·rcases extS_get hx with ⟨e, y, hy, rfl⟩ | ⟨_, hy⟩
  ·have h1 := extR_b y pt
   rw [h1.1, h1.2]
   exact h.reg r y hy
  ·exact h.reg r x hy
 ·rcases extS_get hx with ⟨e, y, hy, rfl⟩ | ⟨e, hy⟩
  ·exfalso
   simp only at hb
   unfold extR at hb
   split at hb
   ·simp only at hb; omega
   ·simp only at hb; omega
  ·obtain ⟨h1, h2, h3⟩ := h.no r x hy hb
   refine ⟨h1, h2, fun t ht => ?_⟩
   rcases ht with ht | ht
   ·exact h3 t ht
   ·injection ht with e1 e2
    exact e e1
 ·rcases extS_get hx with ⟨e, y, hy, rfl⟩ | ⟨e, hy⟩
  ·simp only at e
   subst e
   simp only at hb ⊢
   by_cases hneg : y.b < 0
   ·obtain ⟨h1, h2, h3⟩ := h.no r y hy hneg
    have e1 : extR y pt = { y with b := pt, e := pt } := if_pos hneg
    rw [e1]
    refine ⟨.inr rfl, .inr rfl, fun t ht => ?_⟩
    rcases ht with ht | ht
    ·exact absurd ht (h3 t)
    ·injection ht with _ e2
     subst e2
     exact ⟨Int.le_refl _, Int.le_refl _⟩
   ·obtain ⟨h1, h2, h3⟩ := h.yes r y hy (by omega)
    have e1 : extR y pt = { y with b := min y.b pt, e := max y.e pt } := if_neg hneg
    rw [e1]
    simp only
    refine ⟨?_, ?_, fun t ht => ?_⟩
    ·rcases Int.le_total y.b pt with h4 | h4
     ·rw [Int.min_eq_left h4]; exact .inl h1
     ·rw [Int.min_eq_right h4]; exact .inr rfl
    ·rcases Int.le_total y.e pt with h4 | h4
     ·rw [Int.max_eq_right h4]; exact .inr rfl
     ·rw [Int.max_eq_left h4]; exact .inl h2
    ·rcases ht with ht | ht
     ·have := h3 t ht; omega
     ·injection ht with _ e2
      omega
  ·obtain ⟨h1, h2, h3⟩ := h.yes r x hy hb
   refine ⟨.inl h1, .inl h2, fun t ht => ?_⟩
   rcases ht with ht | ht
   ·exact h3 t ht
   ·injection ht with e1 e2
    exact absurd e1 e
theorem extS_len (xs : List RG) (p : Nat × Int) : (extS xs p).length = xs.length := by unfold extS; rw [List.length_set]
theorem extL_len (xs : List RG) : ∀ l : List (Nat × Int), (extL xs l).length = xs.length := by
 intro l
 induction l generalizing xs with
 | nil => rfl
 | cons p l ih => exact (ih (extS xs p)).trans (extS_len xs p)
theorem Hull.extL {xs : List RG} {P : Nat → Int → Prop} (h : Hull xs P) {l : List (Nat × Int)} (hl : ∀ p ∈ l, 0 ≤ p.2) : Hull (extL xs l) (fun r t => P r t ∨ (r, t) ∈ l) := by
 induction l generalizing xs P with
 | nil => exact h.congr fun r t _ => ⟨.inl, fun h => h.elim id fun h => (by cases h)⟩
 | cons p l ih =>
  have h2 := ih (h.ext p (hl p (List.mem_cons_self ..))) fun q hq => hl q (List.mem_cons_of_mem _ hq)
  refine Hull.congr h2 fun r t _ => ?_
  rw [List.mem_cons, or_assoc]
def row0 (n : Nat) : List RG := (List.range n).map fun (r : Nat) => ⟨(r : Int), -1, 0, false⟩
theorem row0_len (n : Nat) : (row0 n).length = n := by simp [row0]
theorem row0_get {n r : Nat} {x : RG} (h : (row0 n)[r]? = some x) : r < n ∧ x = ⟨(r : Int), -1, 0, false⟩ := by
 have hl := (List.getElem?_eq_some_iff.1 h).1
 rw [row0_len] at hl
 unfold row0 at h
 rw [List.getElem?_map, List.getElem?_range hl] at h
 injection h with h
 exact ⟨hl, h.symm⟩
theorem row0_B (n : Nat) : RgB n (row0 n) := ⟨row0_len n, fun r x h => by obtain ⟨_, rfl⟩ := row0_get h; simp⟩
theorem row0_H (n : Nat) : Hull (row0 n) (fun _ _ => False) :=
 ⟨fun r x h => by obtain ⟨_, rfl⟩ := row0_get h; exact ⟨rfl, rfl⟩, fun r x h _ => by obtain ⟨_, rfl⟩ := row0_get h; exact ⟨rfl, rfl, fun _ => id⟩, fun r x h hb => by obtain ⟨_, rfl⟩ := row0_get h; simp at hb⟩

/-! ## the points of a function, in the order of the code -/
def evR (L : Nat → Bool) (k : Nat) (t : Int) : List (Nat × Int) := ((List.range k).filter L).map fun r => (r, t)
theorem evR_snoc (L : Nat → Bool) (k : Nat) (t : Int) : evR L (k + 1) t = if L k = true then evR L k t ++ [(k, t)] else evR L k t := by
 unfold evR
 rw [List.range_succ, List.filter_append]
 cases h : L k <;> simp [h]
theorem evR_mem {L : Nat → Bool} {k : Nat} {t : Int} {r : Nat} {s : Int} : (r, s) ∈ evR L k t ↔ r < k ∧ L r = true ∧ s = t := by
 unfold evR
 simp only [List.mem_map, List.mem_filter, List.mem_range]
 constructor
 ·rintro ⟨a, ⟨h1, h2⟩, h3⟩
  injection h3 with e1 e2
  subst e1 e2
  exact ⟨h1, h2, rfl⟩
 ·rintro ⟨h1, h2, rfl⟩
  exact ⟨r, ⟨h1, h2⟩, rfl⟩
def evU (l : List Int) (t : Int) : List (Nat × Int) := l.map fun z => (z.toNat, t)
theorem evU_snoc (l : List Int) (z t : Int) : evU (l ++ [z]) t = evU l t ++ [(z.toNat, t)] := by simp [evU]
theorem evU_mem {l : List Int} (hl : ∀ z ∈ l, 0 ≤ z) {t : Int} {r : Nat} {s : Int} : (r, s) ∈ evU l t ↔ (r : Int) ∈ l ∧ s = t := by
 unfold evU
 simp only [List.mem_map]
 constructor
 ·rintro ⟨z, h1, h2⟩
  injection h2 with e1 e2
  have := hl z h1
  refine ⟨?_, e2.symm⟩
  rw [show (r : Int) = z by omega]
  exact h1
 ·rintro ⟨h1, rfl⟩
  exact ⟨(r : Int), h1, by simp⟩
def evX (x : VI) (t : Int) : List (Nat × Int) := evU (usesV x) t ++ [((defV x).toNat, t + 1)]
def evI : List VI → Int → List (Nat × Int)
 | [], _ => []
 | x :: l, t => evX x t ++ evI l (t + 2)
theorem evI_snoc : ∀ (l : List VI) (x : VI) (t : Int), evI (l ++ [x]) t = evI l t ++ evX x (t + 2 * l.length)
 | [], x, t => by simp [evI]
 | y :: l, x, t => by
  rw [List.cons_append, evI, evI, evI_snoc l x, List.append_assoc]
  rw [show t + 2 + 2 * (l.length : Int) = t + 2 * ((y :: l).length : Int) by rw [List.length_cons]; omega]
def atI (f : VF) : Nat → Int
 | 0 => 0
 | i + 1 => atI f i + 2 * (f.blk i).ins.length + 2
def evB (f : VF) (n : Nat) (X E : Nat → Nat → Bool) (i : Nat) : List (Nat × Int) :=
 evR (X i) n (atI f i) ++ evI (f.blk i).ins (atI f i) ++ evU (endV (f.blk i).e) (atI f i + 2 * (f.blk i).ins.length) ++ evR (E i) n (atI f i + 2 * (f.blk i).ins.length + 1)
def evF (f : VF) (n : Nat) (X E : Nat → Nat → Bool) : Nat → List (Nat × Int)
 | 0 => []
 | i + 1 => evF f n X E i ++ evB f n X E i
def evP (ps : List Int) : List (Nat × Int) := evU ps 0
/-! ## the same points as a relation -/
def PtB (f : VF) (i r : Nat) (t : Int) : Prop :=
 (LiveI f i r ∧ t = atI f i) ∨ (∃ (q : Nat) (x : VI), (f.blk i).ins[q]? = some x ∧ (((r : Int) ∈ usesV x ∧ t = atI f i + 2 * q) ∨ ((r : Int) = defV x ∧ t = atI f i + 2 * q + 1)))
  ∨ ((r : Int) ∈ endV (f.blk i).e ∧ t = atI f i + 2 * (f.blk i).ins.length) ∨ ((∃ s : Nat, (s : Int) ∈ (f.blk i).e.to ∧ LiveI f s r) ∧ t = atI f i + 2 * (f.blk i).ins.length + 1)
def PtP (f : VF) (nb r : Nat) (t : Int) : Prop := ((r : Int) ∈ f.params ∧ t = 0) ∨ ∃ i, i < nb ∧ PtB f i r t
def CallPt (f : VF) (nb : Nat) (t : Int) : Prop := ∃ i, i < nb ∧ ∃ (q : Nat) (x : VI), (f.blk i).ins[q]? = some x ∧ callB x.op = true ∧ t = atI f i + 2 * q
theorem evI_mem {r : Nat} {s : Int} : ∀ {l : List VI}, (∀ x ∈ l, 0 ≤ defV x ∧ ∀ z ∈ usesV x, 0 ≤ z) → ∀ {t : Int}, ((r, s) ∈ evI l t ↔ ∃ (q : Nat) (x : VI), l[q]? = some x ∧ (((r : Int) ∈ usesV x ∧ s = t + 2 * q) ∨ ((r : Int) = defV x ∧ s = t + 2 * q + 1)))
 | [], _, t => by simp [evI]
 | y :: l, hl, t => by
  have hy := hl y (List.mem_cons_self ..)
  rw [evI, List.mem_append, evI_mem (fun x hx => hl x (List.mem_cons_of_mem _ hx)), evX, List.mem_append, evU_mem hy.2, List.mem_singleton]
  constructor
  ·rintro ((⟨h1, h2⟩ | h1) | ⟨q, x, h1, h2⟩)
   ·exact ⟨0, y, rfl, .inl ⟨h1, by omega⟩⟩
   ·injection h1 with e1 e2
    exact ⟨0, y, rfl, .inr ⟨by omega, by omega⟩⟩
   ·exact ⟨q + 1, x, h1, h2.imp (fun ⟨a, b⟩ => ⟨a, by omega⟩) (fun ⟨a, b⟩ => ⟨a, by omega⟩)⟩
  ·rintro ⟨q, x, h1, h2⟩
   match q, h1 with
   | 0, h1 =>
    injection h1 with h1
    subst h1
    rcases h2 with ⟨h2, h3⟩ | ⟨h2, h3⟩
    ·exact .inl (.inl ⟨h2, by omega⟩)
    ·refine .inl (.inr ?_)
     rw [show r = (defV y).toNat by omega, show s = t + 1 by omega]
   | q + 1, h1 => exact .inr ⟨q, x, h1, h2.imp (fun ⟨a, b⟩ => ⟨a, by omega⟩) (fun ⟨a, b⟩ => ⟨a, by omega⟩)⟩
theorem atI_pos (f : VF) : ∀ i, 0 ≤ atI f i
 | 0 => by simp [atI]
 | i + 1 => by have := atI_pos f i; rw [atI]; omega
theorem atI_le {f : VF} {nb : Nat} (h : ∀ i, i < nb → (f.blk i).ins.length ≤ 4096) : ∀ i, i ≤ nb → atI f i ≤ 8194 * i
 | 0, _ => by simp [atI]
 | i + 1, hi => by have := atI_le h i (by omega); have := h i (by omega); rw [atI]; omega
theorem nz_mem {l : List Int} {z : Int} : z ∈ nz l ↔ z ∈ l ∧ z ≠ 0 := by
 unfold nz; simp
theorem evB_mem {f : VF} {n nb : Nat} (hok : FnOk f n nb) {X E : Nat → Nat → Bool} (hX : ∀ i, i < nb → ∀ r, r < n → (X i r = true ↔ LiveI f i r)) (hE : ∀ i, i < nb → ∀ r, r < n → (E i r = true ↔ ∃ s : Nat, (s : Int) ∈ (f.blk i).e.to ∧ LiveI f s r)) {i : Nat} (hi : i < nb) {r : Nat} (hr : r < n) {s : Int} :
  (r, s) ∈ evB f n X E i ↔ PtB f i r s := by
 have hib : i < f.blocks.length := by rw [← hok.nbl]; exact hi
 have hpos : ∀ x ∈ (f.blk i).ins, 0 ≤ defV x ∧ ∀ z ∈ usesV x, 0 ≤ z := fun x hx => by
  have h1 := hok.fits.ins i hib x hx
  exact ⟨h1.d.1, fun z hz => by have := (h1.uses z hz).1; omega⟩
 have hend : ∀ z ∈ endV (f.blk i).e, 0 ≤ z := fun z hz => by
  have h1 := hok.ab i hi
  have h2 := (nz_mem.1 hz).1
  simp at h2
  rcases h2 with rfl | rfl
  ·exact h1.1.1
  ·exact h1.2.1
 unfold evB PtB
 rw [List.mem_append, List.mem_append, List.mem_append, evR_mem, evR_mem, evI_mem hpos, evU_mem hend, hX i hi r hr, hE i hi r hr]
 constructor
 ·rintro (((⟨_, h⟩ | h) | h) | ⟨_, h⟩)
  ·exact .inl h
  ·exact .inr (.inl h)
  ·exact .inr (.inr (.inl h))
  ·exact .inr (.inr (.inr h))
 ·rintro (h | h | h | h)
  ·exact .inl (.inl (.inl ⟨hr, h⟩))
  ·exact .inl (.inl (.inr h))
  ·exact .inl (.inr h)
  ·exact .inr ⟨hr, h⟩
theorem evF_mem {f : VF} {n : Nat} {X E : Nat → Nat → Bool} {p : Nat × Int} : ∀ {k : Nat}, p ∈ evF f n X E k ↔ ∃ i, i < k ∧ p ∈ evB f n X E i
 | 0 => by simp [evF]
 | k + 1 => by
  rw [evF, List.mem_append, evF_mem]
  constructor
  ·rintro (⟨i, h1, h2⟩ | h)
   ·exact ⟨i, by omega, h2⟩
   ·exact ⟨k, by omega, h⟩
  ·rintro ⟨i, h1, h2⟩
   by_cases e : i = k
   ·subst e; exact .inr h2
   ·exact .inl ⟨i, by omega, h2⟩
/-! ## what finish makes of it -/
def markR (t : Int) (x : RG) : RG := if 0 ≤ x.b ∧ x.b ≤ t ∧ t < x.e then { x with s := true } else x
theorem markR_ok (t : Int) (x : RG) : (markR t x).r = x.r ∧ (markR t x).b = x.b ∧ (markR t x).e = x.e ∧ ((markR t x).s = true ↔ x.s = true ∨ (0 ≤ x.b ∧ x.b ≤ t ∧ t < x.e)) := by
 unfold markR
 split
 ·rename_i h; exact ⟨rfl, rfl, rfl, by simp [h]⟩
 ·rename_i h; exact ⟨rfl, rfl, rfl, by simp [h]⟩
def callL (xs : List RG) (ts : List Int) : List RG := ts.foldl (fun xs t => xs.map (markR t)) xs
theorem callL_append (xs : List RG) (l m : List Int) : callL xs (l ++ m) = callL (callL xs l) m := List.foldl_append ..
theorem callL_snoc (xs : List RG) (ts : List Int) (t : Int) : callL xs (ts ++ [t]) = (callL xs ts).map (markR t) := by rw [callL_append]; rfl
theorem callL_len (xs : List RG) : ∀ ts : List Int, (callL xs ts).length = xs.length := by
 intro ts
 induction ts generalizing xs with
 | nil => rfl
 | cons t ts ih => exact (ih (xs.map (markR t))).trans (List.length_map ..)
theorem callL_get : ∀ {ts : List Int} {xs : List RG} {r : Nat} {x : RG}, (callL xs ts)[r]? = some x → ∃ y, xs[r]? = some y ∧ x.r = y.r ∧ x.b = y.b ∧ x.e = y.e ∧ (x.s = true ↔ y.s = true ∨ ∃ t, t ∈ ts ∧ 0 ≤ y.b ∧ y.b ≤ t ∧ t < y.e)
 | [], xs, r, x, h => ⟨x, h, rfl, rfl, rfl, by simp⟩
 | t :: ts, xs, r, x, h => by
  obtain ⟨y, h1, h2, h3, h4, h5⟩ := callL_get (ts := ts) (xs := xs.map (markR t)) h
  rw [List.getElem?_map] at h1
  cases hz : xs[r]? with
  | none => rw [hz] at h1; cases h1
  | some z =>
   rw [hz] at h1
   injection h1 with h1
   obtain ⟨m1, m2, m3, m4⟩ := markR_ok t z
   rw [h1] at m1 m2 m3 m4
   refine ⟨z, rfl, h2.trans m1, h3.trans m2, h4.trans m3, ?_⟩
   rw [h5, m4, m2, m3]
   constructor
   ·rintro ((h | h) | ⟨s, h, h'⟩)
    ·exact .inl h
    ·exact .inr ⟨t, List.mem_cons_self .., h⟩
    ·exact .inr ⟨s, List.mem_cons_of_mem _ h, h'⟩
   ·rintro (h | ⟨s, h, h'⟩)
    ·exact .inl (.inl h)
    ·rcases List.mem_cons.1 h with rfl | h
     ·exact .inl (.inr h')
     ·exact .inr ⟨s, h, h'⟩
def clI : List VI → Int → List Int
 | [], _ => []
 | x :: l, t => (if callB x.op = true then [t] else []) ++ clI l (t + 2)
theorem clI_snoc : ∀ (l : List VI) (x : VI) (t : Int), clI (l ++ [x]) t = clI l t ++ (if callB x.op = true then [t + 2 * (l.length : Int)] else [])
 | [], x, t => by simp [clI]
 | y :: l, x, t => by
  rw [List.cons_append, clI, clI, clI_snoc l x, List.append_assoc]
  rw [show t + 2 + 2 * (l.length : Int) = t + 2 * ((y :: l).length : Int) by rw [List.length_cons]; omega]
def clF (f : VF) : Nat → List Int
 | 0 => []
 | i + 1 => clF f i ++ clI (f.blk i).ins (atI f i)
theorem clI_mem {s : Int} : ∀ {l : List VI} {t : Int}, (s ∈ clI l t ↔ ∃ (q : Nat) (x : VI), l[q]? = some x ∧ callB x.op = true ∧ s = t + 2 * q)
 | [], t => by simp [clI]
 | y :: l, t => by
  rw [clI, List.mem_append, clI_mem]
  constructor
  ·rintro (h | ⟨q, x, h1, h2, h3⟩)
   ·split at h
    ·rename_i hc; exact ⟨0, y, rfl, hc, by simpa using h⟩
    ·cases h
   ·exact ⟨q + 1, x, h1, h2, by omega⟩
  ·rintro ⟨q, x, h1, h2, h3⟩
   match q, h1 with
   | 0, h1 =>
    injection h1 with h1
    subst h1
    left; rw [if_pos h2]; simpa using h3
   | q + 1, h1 => exact .inr ⟨q, x, h1, h2, by omega⟩
theorem clF_mem {f : VF} {t : Int} : ∀ {k : Nat}, t ∈ clF f k ↔ CallPt f k t
 | 0 => ⟨fun h => (by cases h), fun ⟨i, hi, _⟩ => absurd hi (Nat.not_lt_zero _)⟩
 | k + 1 => by
  rw [clF, List.mem_append, clF_mem, clI_mem]
  constructor
  ·rintro (⟨i, h1, h2⟩ | h)
   ·exact ⟨i, by omega, h2⟩
   ·exact ⟨k, by omega, h⟩
  ·rintro ⟨i, h1, h2⟩
   by_cases e : i = k
   ·subst e; exact .inr h2
   ·exact .inl ⟨i, by omega, h2⟩
/-- the row of all ranges, before the empty ones are dropped -/
def allR (f : VF) (n nb : Nat) (X E : Nat → Nat → Bool) : List RG := callL (extL (extL (row0 n) (evF f n X E nb)) (evP f.params)) (clF f nb)
structure RangesP (f : VF) (n nb : Nat) (l : List RG) : Prop where
 ord : l.Pairwise LexR
 el : ∀ x ∈ l, ∃ r : Nat, x.r = (r : Int) ∧ 1 ≤ r ∧ r < n ∧ PtP f nb r x.b ∧ PtP f nb r x.e ∧ (∀ t, PtP f nb r t → x.b ≤ t ∧ t ≤ x.e) ∧ (x.s = true ↔ ∃ t, CallPt f nb t ∧ x.b ≤ t ∧ t < x.e)
 all : ∀ (r : Nat) (t : Int), 1 ≤ r → r < n → PtP f nb r t → ∃ x ∈ l, x.r = (r : Int)
 once : l.Pairwise fun x y => x.r ≠ y.r
theorem PtB.range {f : VF} {nb n : Nat} (hok : FnOk f n nb) {i r : Nat} (hi : i < nb) {t : Int} (h : PtB f i r t) : 0 ≤ t ∧ t ≤ 1000000000 := by
 have h1 := atI_pos f i
 have h2 := atI_le hok.ins i (by omega)
 have h3 := hok.ins i hi
 have h4 := hok.nb2
 rcases h with ⟨_, rfl⟩ | ⟨q, x, hq, ⟨_, rfl⟩ | ⟨_, rfl⟩⟩ | ⟨_, rfl⟩ | ⟨_, rfl⟩
 ·omega
 ·have := (List.getElem?_eq_some_iff.1 hq).1; omega
 ·have := (List.getElem?_eq_some_iff.1 hq).1; omega
 ·omega
 ·omega
theorem PtP.range {f : VF} {nb n : Nat} (hok : FnOk f n nb) {r : Nat} {t : Int} (h : PtP f nb r t) : 0 ≤ t ∧ t ≤ 1000000000 := by
 rcases h with ⟨_, rfl⟩ | ⟨i, hi, h⟩
 ·omega
 ·exact h.range hok hi
section
variable {f : VF} {n nb : Nat} {X E : Nat → Nat → Bool}
theorem evB_range (hok : FnOk f n nb) {i : Nat} (hi : i < nb) : ∀ p ∈ evB f n X E i, 0 ≤ p.2 ∧ p.2 ≤ 1000000000 := by
 have h1 := atI_pos f i
 have h2 := atI_le hok.ins i (by omega)
 have h3 := hok.ins i hi
 have h4 := hok.nb2
 have key : ∀ (l : List VI) (t : Int), 0 ≤ t → t + 2 * (l.length : Int) ≤ 900000000 → ∀ p ∈ evI l t, 0 ≤ p.2 ∧ p.2 ≤ 1000000000 := by
  intro l
  induction l with
  | nil => intro t _ _ p hp; cases hp
  | cons x l ih =>
   intro t h0 h9 p hp
   rw [List.length_cons] at h9
   rw [evI, List.mem_append] at hp
   rcases hp with hp | hp
   ·unfold evX at hp
    rcases List.mem_append.1 hp with hp | hp
    ·obtain ⟨z, _, rfl⟩ := List.mem_map.1 hp
     exact ⟨h0, by simp only; omega⟩
    ·rw [List.mem_singleton.1 hp]
     exact ⟨by simp only; omega, by simp only; omega⟩
   ·exact ih (t + 2) (by omega) (by omega) p hp
 intro p hp
 unfold evB at hp
 rw [List.mem_append, List.mem_append, List.mem_append] at hp
 obtain ⟨r, t⟩ := p
 simp only
 rcases hp with ((hp | hp) | hp) | hp
 ·have := (evR_mem.1 hp).2.2; omega
 ·exact key _ _ h1 (by omega) _ hp
 ·obtain ⟨z, _, hz⟩ := List.mem_map.1 hp
  injection hz with _ e2
  omega
 ·have := (evR_mem.1 hp).2.2; omega
theorem evF_range (hok : FnOk f n nb) : ∀ {k : Nat}, k ≤ nb → ∀ p ∈ evF f n X E k, 0 ≤ p.2 ∧ p.2 ≤ 1000000000 := fun hk p hp => by
 obtain ⟨i, hi, h⟩ := evF_mem.1 hp
 exact evB_range hok (by omega) p h
theorem allR_hull (hok : FnOk f n nb) (hX : ∀ i, i < nb → ∀ r, r < n → (X i r = true ↔ LiveI f i r)) (hE : ∀ i, i < nb → ∀ r, r < n → (E i r = true ↔ ∃ s : Nat, (s : Int) ∈ (f.blk i).e.to ∧ LiveI f s r)) :
  Hull (extL (extL (row0 n) (evF f n X E nb)) (evP f.params)) (fun r t => PtP f nb r t) := by
 have h1 := (row0_H n).extL (l := evF f n X E nb) (fun p hp => (evF_range hok (Nat.le_refl _) p hp).1)
 have h2 := h1.extL (l := evP f.params) (fun p hp => by obtain ⟨z, _, rfl⟩ := List.mem_map.1 hp; exact Int.le_refl _)
 refine h2.congr fun r t hr => ?_
 rw [extL_len, extL_len, row0_len] at hr
 unfold PtP evP
 rw [evU_mem (fun z hz => by have := hok.par z hz; omega), evF_mem]
 constructor
 ·rintro ((h | ⟨i, hi, h⟩) | h)
  ·exact h.elim
  ·exact .inr ⟨i, hi, (evB_mem hok hX hE hi hr).1 h⟩
  ·exact .inl h
 ·rintro (h | ⟨i, hi, h⟩)
  ·exact .inr h
  ·exact .inl (.inr ⟨i, hi, (evB_mem hok hX hE hi hr).2 h⟩)
theorem allR_len : (allR f n nb X E).length = n := by unfold allR; rw [callL_len, extL_len, extL_len, row0_len]
theorem allR_get (hok : FnOk f n nb) (hX : ∀ i, i < nb → ∀ r, r < n → (X i r = true ↔ LiveI f i r)) (hE : ∀ i, i < nb → ∀ r, r < n → (E i r = true ↔ ∃ s : Nat, (s : Int) ∈ (f.blk i).e.to ∧ LiveI f s r)) {r : Nat} {x : RG} (h : (allR f n nb X E)[r]? = some x) :
  r < n ∧ x.r = (r : Int) ∧ (x.b < 0 → ∀ t, ¬ PtP f nb r t) ∧ (0 ≤ x.b → PtP f nb r x.b ∧ PtP f nb r x.e ∧ (∀ t, PtP f nb r t → x.b ≤ t ∧ t ≤ x.e) ∧ (x.s = true ↔ ∃ t, CallPt f nb t ∧ x.b ≤ t ∧ t < x.e)) := by
 have hl := (List.getElem?_eq_some_iff.1 h).1
 rw [allR_len] at hl
 unfold allR at h
 obtain ⟨y, h1, h2, h3, h4, h5⟩ := callL_get h
 have H := allR_hull hok hX hE
 obtain ⟨g1, g2⟩ := H.reg r y h1
 refine ⟨hl, h2.trans g1, fun hb => (H.no r y h1 (by omega)).2.2, fun hb => ?_⟩
 obtain ⟨k1, k2, k3⟩ := H.yes r y h1 (by omega)
 rw [h3, h4, h5, g2]
 refine ⟨k1, k2, k3, ?_⟩
 constructor
 ·rintro (h | ⟨t, ht, h⟩)
  ·cases h
  ·exact ⟨t, clF_mem.1 ht, h.2⟩
 ·rintro ⟨t, ht, h⟩
  exact .inr ⟨t, clF_mem.2 ht, by omega, h⟩
theorem allR_asc (hok : FnOk f n nb) (hX : ∀ i, i < nb → ∀ r, r < n → (X i r = true ↔ LiveI f i r)) (hE : ∀ i, i < nb → ∀ r, r < n → (E i r = true ↔ ∃ s : Nat, (s : Int) ∈ (f.blk i).e.to ∧ LiveI f s r)) :
  (allR f n nb X E).Pairwise fun x y => x.r < y.r := by
 rw [List.pairwise_iff_getElem]
 intro i j hi hj hij
 have h1 := (allR_get hok hX hE (List.getElem?_eq_getElem hi)).2.1
 have h2 := (allR_get hok hX hE (List.getElem?_eq_getElem hj)).2.1
 omega
theorem ranges_law (hok : FnOk f n nb) (hX : ∀ i, i < nb → ∀ r, r < n → (X i r = true ↔ LiveI f i r)) (hE : ∀ i, i < nb → ∀ r, r < n → (E i r = true ↔ ∃ s : Nat, (s : Int) ∈ (f.blk i).e.to ∧ LiveI f s r))
  {l : List RG} (hp : l.Perm ((allR f n nb X E).filter fun x => !gone x)) (hs : l.Pairwise LexR) : RangesP f n nb l := by
 refine ⟨hs, fun x hx => ?_, fun r t h1 h2 ht => ?_, ?_⟩
 ·have hx2 := hp.subset hx
  rw [List.mem_filter] at hx2
  obtain ⟨hx3, hx4⟩ := hx2
  obtain ⟨r, hr, rfl⟩ := List.getElem_of_mem hx3
  have h9 := allR_get hok hX hE (List.getElem?_eq_getElem hr)
  simp only [gone, Bool.not_eq_true', Bool.or_eq_false_iff, decide_eq_false_iff_not] at hx4
  refine ⟨r, h9.2.1, by have := h9.2.1; omega, h9.1, h9.2.2.2 (by omega)⟩
 ·have hr : r < (allR f n nb X E).length := by rw [allR_len]; exact h2
  have h9 := allR_get hok hX hE (List.getElem?_eq_getElem hr)
  refine ⟨(allR f n nb X E)[r], hp.symm.subset (List.mem_filter.2 ⟨List.getElem_mem _, ?_⟩), h9.2.1⟩
  simp only [gone, Bool.not_eq_true', Bool.or_eq_false_iff, decide_eq_false_iff_not]
  exact ⟨fun hb => h9.2.2.1 hb t ht, by have := h9.2.1; omega⟩
 ·have h1 := ((allR_asc hok hX hE).filter (p := fun x => !gone x)).imp (S := fun x y => x.r ≠ y.r) fun h => by omega
  exact (hp.pairwise_iff (fun h => fun e => h e.symm)).2 h1
/-- how many ranges there are -/
theorem ranges_count (hok : FnOk f n nb) (hX : ∀ i, i < nb → ∀ r, r < n → (X i r = true ↔ LiveI f i r)) (hE : ∀ i, i < nb → ∀ r, r < n → (E i r = true ↔ ∃ s : Nat, (s : Int) ∈ (f.blk i).e.to ∧ LiveI f s r))
  {l : List RG} (hp : l.Perm ((allR f n nb X E).filter fun x => !gone x)) {p : Nat → Bool} (hq : ∀ r, 1 ≤ r → r < n → (p r = true ↔ ∃ t, PtP f nb r t)) : l.length = ((List.range n).filter fun r => decide (1 ≤ r) && p r).length := by
 rw [hp.length_eq]
 have e : allR f n nb X E = (List.range n).map fun r => (allR f n nb X E).getD r zR := by
  apply List.ext_getElem?
  intro i
  by_cases hi : i < n
  ·rw [List.getElem?_map, List.getElem?_range hi, List.getElem?_eq_getElem (by rw [allR_len]; exact hi)]
   simp [List.getD_eq_getElem?_getD, show i < (allR f n nb X E).length by rw [allR_len]; exact hi]
  ·rw [List.getElem?_eq_none (by rw [allR_len]; omega), List.getElem?_eq_none (by simp; omega)]
 rw [e, List.filter_map, List.length_map]
 congr 1
 apply List.filter_congr
 intro r hr
 have hr := List.mem_range.1 hr
 have hr2 : r < (allR f n nb X E).length := by rw [allR_len]; exact hr
 have h9 := allR_get hok hX hE (List.getElem?_eq_getElem hr2)
 simp only [Function.comp]
 rw [List.getD_eq_getElem?_getD, List.getElem?_eq_getElem hr2]
 simp only [Option.getD_some]
 rw [Bool.eq_iff_iff]
 simp only [gone, Bool.not_eq_true', Bool.or_eq_false_iff, decide_eq_false_iff_not, Bool.and_eq_true, decide_eq_true_eq]
 constructor
 ·rintro ⟨h1, h2⟩
  have hr1 : 1 ≤ r := by have := h9.2.1; omega
  exact ⟨hr1, (hq r hr1 hr).2 ⟨_, (h9.2.2.2 (by omega)).1⟩⟩
 ·rintro ⟨h1, h2⟩
  obtain ⟨t, ht⟩ := (hq r h1 hr).1 h2
  exact ⟨fun hb => h9.2.2.1 hb t ht, by have := h9.2.1; omega⟩
theorem pt_occ (hok : FnOk f n nb) {r : Nat} (h1 : 1 ≤ r) (h2 : r < n) : (∃ t, PtP f nb r t) ↔ OccP f nb r := by
 have htos : TosV f nb := by rw [hok.nbl]; exact hok.fits.tos
 constructor
 ·rintro ⟨t, ⟨h, _⟩ | ⟨i, hi, h⟩⟩
  ·exact .inl h
  ·right
   rcases h with ⟨h, _⟩ | ⟨q, x, hq, ⟨h, _⟩ | ⟨h, _⟩⟩ | ⟨h, _⟩ | ⟨⟨s, h, h'⟩, _⟩
   ·exact live_occ htos h hi
   ·exact ⟨i, hi, .inl ⟨q, x, hq, .inr h⟩⟩
   ·exact ⟨i, hi, .inl ⟨q, x, hq, .inl h⟩⟩
   ·exact ⟨i, hi, .inr h⟩
   ·exact live_occ htos h' (by have := htos i hi _ h; omega)
 ·rintro (h | ⟨i, hi, ⟨q, x, hq, h | h⟩ | h⟩)
  ·exact ⟨0, .inl ⟨h, rfl⟩⟩
  ·exact ⟨_, .inr ⟨i, hi, .inr (.inl ⟨q, x, hq, .inr ⟨h, rfl⟩⟩)⟩⟩
  ·exact ⟨_, .inr ⟨i, hi, .inr (.inl ⟨q, x, hq, .inl ⟨h, rfl⟩⟩)⟩⟩
  ·exact ⟨_, .inr ⟨i, hi, .inr (.inr (.inl ⟨h, rfl⟩))⟩⟩
end
end

section
theorem Try.infoRg : (Try.prog.info? 97).map (fun i => (i.zero, i.size, i.bytes)) = some (some zRG, 4, 32) := by kernel_rfl
theorem made_rgs (n : Nat) : (madeCells zRG.cells (n * 4)).toList = (List.replicate n zR).flatMap rgC := by
 apply List.ext_getElem?
 intro i
 have hl : ((List.replicate n zR).flatMap rgC).length = n * 4 := by rw [rgs_len, List.length_replicate]
 by_cases hi : i < n * 4
 ·have h1 := flatN_get rgC_len (List.replicate n zR) (i / 4) (i % 4) (by rw [List.length_replicate]; omega) (by omega)
  rw [show i / 4 * 4 + i % 4 = i by omega] at h1
  rw [h1, List.getElem_replicate, zRG_cells]
  have h4 : i % 4 = 0 ∨ i % 4 = 1 ∨ i % 4 = 2 ∨ i % 4 = 3 := by omega
  have hs : (madeCells #[Value.int .i64 0, .int .i64 0, .int .i64 0, .bool false] (n * 4)).size = n * 4 := size_madeCells _ _
  rw [Array.getElem?_toList, Array.getElem?_eq_getElem (by rw [hs]; exact hi)]
  rcases h4 with e | e | e | e <;> (simp [madeCells, e, rgC, zR])
 ·rw [List.getElem?_eq_none (by rw [Array.length_toList, size_madeCells]; omega), List.getElem?_eq_none (by omega)]
def rgZ (n : Nat) : Array Value := madeCells zRG.cells (n * 4)
theorem make_rg (n : Nat) (hn : n ≤ 100000) (w : World) : (Instr.makeSlice 90 (.int .i64 (n : Int)) (.int .i64 (n : Int))).run Try.prog w = .ok (.slice (some ⟨w.heap.size, 0, none⟩) n n) (w.alloc (.cells (rgZ n) 97)) := by
 unfold rgZ
 obtain ⟨i, hi, hz, hs, hb⟩ := info_partsV Try.infoRg
 have h := run_make (P := Try.prog) w 90 97 i zRG Try.underlying90 hi hz .i64 .i64 (n : Int) (n : Int) (by omega) (Int.le_refl _) (by rw [hb]; omega) (by omega)
 rw [hs] at h
 simpa using h
theorem made_row (w : World) (base n : Nat) (hb : base ≤ w.heap.size) (hn : n ≤ 100000) : RgRow (w.alloc (.cells (rgZ n) 97)) base (some ⟨w.heap.size, 0, none⟩) n (List.replicate n zR) := by
 unfold RgRow rgZ
 rw [List.length_replicate]
 refine ⟨by rw [rgs_len, List.length_replicate], .inr ⟨w.heap.size, n, madeCells zRG.cells (n * 4), rfl, hb, heap_alloc_new w _, Nat.le_refl _, by unfold maxLen; omega, size_madeCells _ _, ?_⟩⟩
 rw [made_rgs, List.take_of_length_le (by rw [rgs_len, List.length_replicate]; omega)]
/-- what Ranges holds before it asks what is live -/
structure Rg0 (w0 w : World) (f : VF) (n pf ab g c : Nat) (xs : List RG) : Prop where
 be : Below w0.heap.size w0 w
 bf : Blk w pf 25 (fC f)
 box : Blk w ab 90 [.slice (some ⟨g, 0, none⟩) n c]
 row : RgRow w w0.heap.size (some ⟨g, 0, none⟩) c xs
 len : xs.length = n
 lo : w0.heap.size ≤ ab
theorem Rg0.ty {w0 w : World} {f : VF} {n pf ab g c : Nat} {xs : List RG} (h : Rg0 w0 w f n pf ab g c xs) : TyB 97 w (fun k => k = g) := fun k e => by
 subst e
 exact own_blkTy h.row rfl
theorem Rg0.below {w0 w w' : World} {f : VF} {n pf ab g c : Nat} {xs : List RG} (h : Rg0 w0 w f n pf ab g c xs) (hb : Below w.heap.size w w') : Rg0 w0 w' f n pf ab g c xs :=
 ⟨h.be.trans (hb.mono h.be.size), h.bf.below hb h.bf.lt, h.box.below hb h.box.lt, h.row.below hb, h.len, h.lo⟩
theorem Rg0.upd {w0 w w' : World} {f : VF} {n pf ab g c : Nat} {xs xs' : List RG} (h : Rg0 w0 w f n pf ab g c xs) (hr : RestS (fun k => k = g) w w') (hrow : RgRow w' w0.heap.size (some ⟨g, 0, none⟩) c xs') (hl : xs'.length = n) : Rg0 w0 w' f n pf ab g c xs' :=
 ⟨h.be.trans (hr.toBelow (fun k e => e ▸ (h.row.lt g rfl).1) h.be.size), Blk.of_heap h.bf (hr.block _ (Blk.lt h.bf) (h.ty.noBlk h.bf (by decide))), Blk.of_heap h.box (hr.block _ (Blk.lt h.box) (h.ty.noBlk h.box (by decide))), hrow, hl, h.lo⟩
/-- what Ranges holds in its loops -/
structure RgI (w0 w : World) (f : VF) (n nb pf ab g c : Nat) (bl es : Nat → Nat) (Gl : Nat) (XL EL : Nat → Nat → Bool) (ev : Value) (xs : List RG) : Prop where
 r0 : Rg0 w0 w f n pf ab g c xs
 bd : RgB n xs
 beg : BRows w Gl nb n XL bl
 eown : w.ownsRow w0.heap.size 63 1 ev nb (rowL nb fun i => .slice (some ⟨es i, 0, none⟩) n n)
 erow : ∀ i, i < nb → BRow w (es i) n (EL i)
section
variable {w0 w w' : World} {f : VF} {n nb pf ab g c : Nat} {bl es : Nat → Nat} {Gl : Nat} {XL EL : Nat → Nat → Bool} {ev : Value} {xs xs' : List RG}
theorem RgI.below (h : RgI w0 w f n nb pf ab g c bl es Gl XL EL ev xs) (hb : Below w.heap.size w w') : RgI w0 w' f n nb pf ab g c bl es Gl XL EL ev xs :=
 ⟨h.r0.below hb, h.bd, h.beg.below hb, ownG_below h.eown hb, fun i hi => Blk.below (h.erow i hi) hb (Blk.lt (h.erow i hi))⟩
theorem RgI.upd (h : RgI w0 w f n nb pf ab g c bl es Gl XL EL ev xs) (hr : RestS (fun k => k = g) w w') (hrow : RgRow w' w0.heap.size (some ⟨g, 0, none⟩) c xs') (hb : RgB n xs') : RgI w0 w' f n nb pf ab g c bl es Gl XL EL ev xs' :=
 ⟨h.r0.upd hr hrow hb.len, hb,
  ⟨Blk.of_heap h.beg.blk (hr.block _ (Blk.lt h.beg.blk) (h.r0.ty.noBlk h.beg.blk (by decide))), fun i hi => Blk.of_heap (h.beg.row i hi) (hr.block _ (Blk.lt (h.beg.row i hi)) (h.r0.ty.noBlk (show Blk w (bl i) 4 _ from h.beg.row i hi) (by decide)))⟩,
  ownG_kept h.eown fun q hq => hr.block q (h.eown.lt q hq).2 (h.r0.ty.noOwn h.eown (by decide) q hq),
  fun i hi => Blk.of_heap (h.erow i hi) (hr.block _ (Blk.lt (h.erow i hi)) (h.r0.ty.noBlk (show Blk w (es i) 4 _ from h.erow i hi) (by decide)))⟩
def ExtPostI (w : World) (w0 : World) (f : VF) (n nb pf ab g c : Nat) (bl es : Nat → Nat) (Gl : Nat) (XL EL : Nat → Nat → Bool) (ev : Value) (xs : List RG) (e : Ending) (w' : World) : Prop :=
 e = .returned (.tuple #[]) ∧ RgI w0 w' f n nb pf ab g c bl es Gl XL EL ev xs ∧ RestS (fun k => k = g) w w'
theorem RgI.keep (h : RgI w0 w f n nb pf ab g c bl es Gl XL EL ev xs) (hr : RestS (fun k => k = g) w w') {b : Nat} {t : TypeId} {cs : List Value} (hb : Blk w b t cs) (ht : t ≠ 97) : Blk w' b t cs :=
 Blk.of_heap hb (hr.block _ (Blk.lt hb) (h.r0.ty.noBlk hb ht))
theorem RgI.keepO (h : RgI w0 w f n nb pf ab g c bl es Gl XL EL ev xs) (hr : RestS (fun k => k = g) w w') {base size k : Nat} {e : TypeId} {v : Value} {l : List Value} (ho : w.ownsRow base e size v k l) (he : e ≠ 97) : w'.ownsRow base e size v k l :=
 ownG_kept ho fun q hq => hr.block q (ho.lt q hq).2 (h.r0.ty.noOwn ho he q hq)
theorem RgI.extend (h : RgI w0 w f n nb pf ab g c bl es Gl XL EL ev xs) (r : Nat) (t : Int) (hr : r < n) (ht : 0 ≤ t ∧ t ≤ 1000000000) :
  Calls Try.prog 69 #[.int .i64 (r : Int), .int .i64 t, .pointer (some ⟨ab, 0, none⟩)] w (ExtPostI w w0 f n nb pf ab g c bl es Gl XL EL ev (extS xs (r, t))) := by
 have hrx : r < xs.length := by rw [h.r0.len]; exact hr
 have hx := h.bd.ok r xs[r] (List.getElem?_eq_getElem hrx)
 have hbox := h.r0.box
 rw [← h.r0.len] at hbox
 refine (extend_any w w0.heap.size ab _ c xs hbox h.r0.row r t hrx ht hx).mono ?_
 rintro e w' ⟨rfl, h1, h2⟩
 have e1 : xs.set r (extR xs[r] t) = extS xs (r, t) := by
  unfold extS
  rw [List.getD_eq_getElem?_getD, List.getElem?_eq_getElem hrx]
  rfl
 have h3 := h.bd.ext (r, t) ht
 have h4 : RestS (fun k => k = g) w w' := h2.mono fun k e => by injection e with e; exact e.symm
 refine ⟨rfl, h.upd h4 ?_ h3, h4⟩
 rw [← e1]
 exact h1
end
end

section
theorem mark_get {ys : List RG} {r : Nat} (hr : r < ys.length) (t : Int) : ((ys.take r).map (markR t) ++ ys.drop r)[r]? = some ys[r] := by
 rw [List.getElem?_append_right (by simp; omega)]
 simp [show min r ys.length = r by omega, hr]
theorem mark_len {ys : List RG} {r : Nat} (t : Int) : ((ys.take r).map (markR t) ++ ys.drop r).length = ys.length := by simp; omega
theorem mark_next {ys : List RG} {r : Nat} (hr : r < ys.length) (t : Int) : ((ys.take r).map (markR t) ++ ys.drop r).set r (markR t ys[r]) = (ys.take (r + 1)).map (markR t) ++ ys.drop (r + 1) := by
 rw [List.set_append_right _ _ (by simp; omega), List.take_succ_eq_append_getElem hr, List.map_append, List.append_assoc]
 congr 1
 rw [List.length_map, List.length_take, show r - min r ys.length = 0 by omega, List.drop_eq_getElem_cons hr]
 rfl
theorem set_same {ys : List RG} {r : Nat} {y : RG} (h : ys[r]? = some y) : ys.set r y = ys := by
 obtain ⟨h1, h2⟩ := List.getElem?_eq_some_iff.1 h
 rw [← h2, List.set_getElem_self]
/-- finish's memory -/
structure FinI (w0 w : World) (f : VF) (n pf g c : Nat) (xs : List RG) : Prop where
 be : Below w0.heap.size w0 w
 bf : Blk w pf 25 (fC f)
 row : RgRow w w0.heap.size (some ⟨g, 0, none⟩) c xs
 len : xs.length = n
section
variable {w0 w w' : World} {f : VF} {n pf g c : Nat} {xs xs' : List RG}
theorem FinI.ty (h : FinI w0 w f n pf g c xs) : TyB 97 w (fun k => k = g) := fun k e => by
 subst e
 exact own_blkTy h.row rfl
theorem FinI.below (h : FinI w0 w f n pf g c xs) (hb : Below w.heap.size w w') : FinI w0 w' f n pf g c xs := ⟨h.be.trans (hb.mono h.be.size), h.bf.below hb h.bf.lt, h.row.below hb, h.len⟩
theorem FinI.upd (h : FinI w0 w f n pf g c xs) (hr : RestS (fun k => k = g) w w') (hrow : RgRow w' w0.heap.size (some ⟨g, 0, none⟩) c xs') (hl : xs'.length = n) : FinI w0 w' f n pf g c xs' :=
 ⟨h.be.trans (hr.toBelow (fun k e => e ▸ (h.row.lt g rfl).1) h.be.size), Blk.of_heap h.bf (hr.block _ (Blk.lt h.bf) (h.ty.noBlk h.bf (by decide))), hrow, hl⟩
/-- a range is marked -/
theorem FinI.mark {ys : List RG} {r : Nat} {t : Int} (h : FinI w0 w f n pf g c ((ys.take r).map (markR t) ++ ys.drop r)) (hr : r < ys.length) (hy : 0 ≤ ys[r].b ∧ ys[r].b ≤ t ∧ t < ys[r].e) : FinI w0 (w.setCell ⟨g, r * 4 + 3, none⟩ (.bool true)) f n pf g c ((ys.take (r + 1)).map (markR t) ++ ys.drop (r + 1)) := by
 have hl : r < ((ys.take r).map (markR t) ++ ys.drop r).length := by rw [mark_len]; exact hr
 have hg : ((ys.take r).map (markR t) ++ ys.drop r)[r] = ys[r] := by
  have := mark_get hr t
  rw [List.getElem?_eq_getElem hl] at this
  injection this
 have h1 := h.row.set hl 3 (by omega) (.bool true) (markR t ys[r]) (by rw [hg, markR, if_pos hy]; rfl)
 rw [mark_next hr] at h1
 exact h.upd ((RestS.refl (fun k => k = g) w).set (p := ⟨g, r * 4 + 3, none⟩) rfl _) h1 (by rw [mark_len, ← h.len, mark_len])
theorem FinI.skip {ys : List RG} {r : Nat} {t : Int} (h : FinI w0 w f n pf g c ((ys.take r).map (markR t) ++ ys.drop r)) (hr : r < ys.length) (hy : ¬ (0 ≤ ys[r].b ∧ ys[r].b ≤ t ∧ t < ys[r].e)) : FinI w0 w f n pf g c ((ys.take (r + 1)).map (markR t) ++ ys.drop (r + 1)) := by
 have e : (ys.take (r + 1)).map (markR t) ++ ys.drop (r + 1) = (ys.take r).map (markR t) ++ ys.drop r := by
  rw [← mark_next hr, show markR t ys[r] = ys[r] from if_neg hy]
  exact set_same (mark_get hr t)
 rw [e]; exact h
end
theorem clF_step (f : VF) (i : Nat) : clF f i ++ clI ((f.blk i).ins.take (f.blk i).ins.length) (atI f i) = clF f (i + 1) := by rw [List.take_length]; rfl
def FinPost (w0 : World) (g c : Nat) (ys : List RG) (w : World) (e : Ending) (w' : World) : Prop :=
 ∃ l : List RG, e = .returned (.slice (some ⟨g, 0, none⟩) l.length c) ∧ l.Perm (ys.filter fun x => !gone x) ∧ l.Pairwise LexR ∧ RgRow w' w0.heap.size (some ⟨g, 0, none⟩) c l ∧ RestS (fun k => k = g) w w'
set_option maxRecDepth 100000 in
set_option maxHeartbeats 8000000 in
theorem finish_any (w0 w : World) (f : VF) (hf : f.Ok w0) (n nb : Nat) (hok : FnOk f n nb) (hbe : Below w0.heap.size w0 w) (g c : Nat) (xs : List RG) (hrow : RgRow w w0.heap.size (some ⟨g, 0, none⟩) c xs) (hn : n = xs.length) (hasc : (callL xs (clF f nb)).Pairwise fun x y => x.r < y.r) :
  Calls Try.prog 70 #[f.v, .slice (some ⟨g, 0, none⟩) n c] w (FinPost w0 g c (callL xs (clF f nb)) w) := by
 have hb0 : Below w.heap.size w (w.alloc (.cells (fC f).toArray 25)) := (Below.refl _ _).alloc (Nat.le_refl _) _
 have hi0 : FinI w0 (w.alloc (.cells (fC f).toArray 25)) f n w.heap.size g c xs := ⟨hbe.trans (hb0.mono hbe.size), Blk.new w (fC f) _, hrow.below hb0, hn.symm⟩
 have hr0 : RestS (fun k => k = g) w (w.alloc (.cells (fC f).toArray 25)) := below_refl_of hb0 _
 have hn2 := hok.n2
 have hnb2 := hok.nb2
 have HF := Lib.hid hf
 have HOK := Lib.hid hok
 have HASC := Lib.hid hasc
 have HI0 := Lib.hid hi0
 have HR0 := Lib.hid hr0
 have hsn := hok.sn
 unfold VF.v
 obtain ⟨pa, hpa⟩ : ∃ s, s = f.pa := ⟨_, rfl⟩
 obtain ⟨sa, hsa⟩ : ∃ s, s = f.sa := ⟨_, rfl⟩
 rw [← hpa, ← hsa, hsn]
 have HSA := Lib.hid hsa
 have HPA := Lib.hid hpa
 have HSN := Lib.hid hsn
 clear hf hok hasc hi0 hr0 hb0 hbe hrow hn hsn hpa hsa
 go_enter Try.func70, Try.ntmps70
 go_upto_region 1 with fail
 change Code.wp _ _ _ _ (w.alloc (.cells #[.int .i64 f.name, .slice pa f.pn f.pc, .int .i64 f.regs, .slice sa nb f.sc] 25))
 have e1 : w.alloc (.cells #[.int .i64 f.name, .slice pa f.pn f.pc, .int .i64 f.regs, .slice sa nb f.sc] 25) = w.alloc (.cells (fC f).toArray 25) := by
  rw [HPA.out, HSA.out, ← HSN.out]; rfl
 rw [e1]
 obtain ⟨pf, hpf⟩ : ∃ pf, pf = w.heap.size := ⟨_, rfl⟩
 rw [← hpf] at HI0 ⊢
 clear e1 hpf
 generalize w.alloc (.cells (fC f).toArray 25) = w1 at HI0 HR0 ⊢
 have c3 := HI0.out.bf.cell 3
 simp only [fC, List.getElem?_cons_zero, List.getElem?_cons_succ] at c3
 rw [HSN.out, ← HSA.out] at c3
 go_wp2_with fail
 clear c3
 go_loopw [5, 15] (fun u5 u15 wr => ∃ i : Nat, i ≤ nb ∧ u15 = .int .i64 (i : Int) ∧ u5 = .int .i64 (atI f i) ∧ FinI w0 wr f n pf g c (callL xs (clF f i)) ∧ RestS (fun k => k = g) w wr) (fun _ u _ => nb - (intOf u).toNat)
 case atStart => exact ⟨0, Nat.zero_le _, rfl, rfl, HI0.out, HR0.out⟩
 case round =>
  clear HI0 HR0
  obtain ⟨i, hi, rfl, rfl, hfi, hrs⟩ := hrel
  have HFI := Lib.hid hfi
  have HRS := Lib.hid hrs
  clear hfi hrs
  by_cases hlt : i < nb
  ·
   have hib : i < f.blocks.length := by have := HOK.out.nbl; omega
   obtain ⟨gb, ob, hsa, hgb, d0, d1, d2, d3, d4, d5, d6⟩ := HF.out.cells HFI.out.be hib
   have hbo : f.blocks[i].Ok w0 := HF.out.blocks _ (List.getElem_mem _)
   rw [VF.blk_get f hib] at d0 d1 d2 d3 d4 d5 d6 hbo
   have hins := HOK.out.ins i hlt
   have ha1 := atI_pos f i
   have ha2 := atI_le HOK.out.ins i (by omega)
   have HAT : Hid (atI f (i + 1) = atI f i + 2 * (f.blk i).ins.length + 2) := rfl
   have HCS := Lib.hid (clF_step f i)
   obtain ⟨bk, hbk⟩ : ∃ b, b = f.blk i := ⟨_, rfl⟩
   rw [← hbk] at d0 d1 d2 d3 d4 d5 d6 hbo hins HAT HCS
   rw [← HSA.out] at hsa
   subst hsa
   have hbl := hbo.len
   have HBO := Lib.hid hbo
   obtain ⟨sb, hsb⟩ : ∃ s, s = bk.sa := ⟨_, rfl⟩
   rw [← hsb] at d0
   have HSB := Lib.hid hsb
   obtain ⟨a0, ha0⟩ : ∃ a, a = atI f i := ⟨_, rfl⟩
   rw [← ha0] at ha1 ha2 HAT HCS ⊢
   have HA0 := Lib.hid ha0
   obtain ⟨ts, hts⟩ : ∃ ts, ts = clF f i := ⟨_, rfl⟩
   rw [← hts] at HFI HCS
   have hb4 : Below wr.heap.size wr (wr.alloc (.cells #[.slice sb bk.sn bk.sc, .int .i64 bk.e.kind, .int .i64 bk.e.op, .int .i64 bk.e.a, .int .i64 bk.e.b, .int .i64 bk.e.n, .slice bk.e.sa bk.e.sn bk.e.sc] 45)) := (Below.refl _ _).alloc (Nat.le_refl _) _
   have hbv : Blk (wr.alloc (.cells #[.slice sb bk.sn bk.sc, .int .i64 bk.e.kind, .int .i64 bk.e.op, .int .i64 bk.e.a, .int .i64 bk.e.b, .int .i64 bk.e.n, .slice bk.e.sa bk.e.sn bk.e.sc] 45)) wr.heap.size 45 [.slice sb bk.sn bk.sc, .int .i64 bk.e.kind, .int .i64 bk.e.op, .int .i64 bk.e.a, .int .i64 bk.e.b, .int .i64 bk.e.n, .slice bk.e.sa bk.e.sn bk.e.sc] := Blk.new wr _ _
   have HFI4 := Lib.hid (HFI.out.below hb4)
   have HRS4 := Lib.hid (HRS.out.trans (below_refl_of hb4 _))
   have HBV := Lib.hid hbv
   clear hbk hsb hb4 hbv hbo ha0 hts
   go_upto_region 5 with fail
   obtain ⟨vb, hvb⟩ : ∃ x, x = wr.heap.size := ⟨_, rfl⟩
   rw [← hvb] at HBV ⊢
   clear hvb d0 d1 d2 d3 d4 d5 d6 HFI HRS
   generalize wr.alloc (.cells #[.slice sb bk.sn bk.sc, .int .i64 bk.e.kind, .int .i64 bk.e.op, .int .i64 bk.e.a, .int .i64 bk.e.b, .int .i64 bk.e.n, .slice bk.e.sa bk.e.sn bk.e.sc] 45) = w4 at HFI4 HRS4 HBV ⊢
   have v0 := HBV.out.cell 0
   simp only [List.getElem?_cons_zero] at v0
   go_wp2_with fail
   clear v0 HBV
   go_loopw [5, 22] (fun u5 u22 wr => ∃ q : Nat, q ≤ bk.sn ∧ u22 = .int .i64 (q : Int) ∧ u5 = .int .i64 (a0 + 2 * (q : Int)) ∧ FinI w0 wr f n pf g c (callL xs (ts ++ clI (bk.ins.take q) a0)) ∧ RestS (fun k => k = g) w wr) (fun _ u _ => bk.sn - (intOf u).toNat)
   case atStart => exact ⟨0, Nat.zero_le _, rfl, by simp, by simpa [clI] using HFI4.out, HRS4.out⟩
   case round =>
    clear HFI4 HRS4
    obtain ⟨q, hq, rfl, rfl, hfi, hrs⟩ := hrel
    have HFI := Lib.hid hfi
    have HRS := Lib.hid hrs
    clear hfi hrs
    by_cases hql : q < bk.sn
    ·
     have hqb : q < bk.ins.length := by omega
     obtain ⟨z, hz⟩ : ∃ z, z = bk.ins[q] := ⟨_, rfl⟩
     obtain ⟨gi, oi, hsb2, hgi, d0, d1, d2, d3, d4, d5⟩ := HBO.out.cells HFI.out.be hqb
     rw [← hz] at d0 d1 d2 d3 d4 d5
     rw [← HSB.out] at hsb2
     subst hsb2
     have HSN2 : Hid (clI (bk.ins.take (q + 1)) a0 = clI (bk.ins.take q) a0 ++ (if callB z.op = true then [a0 + 2 * (q : Int)] else [])) := by
      show _ = _
      rw [List.take_succ_eq_append_getElem hqb, clI_snoc, ← hz, List.length_take, show min q bk.ins.length = q by omega]
     obtain ⟨t, ht⟩ : ∃ t, t = a0 + 2 * (q : Int) := ⟨_, rfl⟩
     rw [← ht] at HSN2 ⊢
     have HT := Lib.hid ht
     have ht1 : 0 ≤ t ∧ t ≤ 1000000000 := by omega
     obtain ⟨ys, hys⟩ : ∃ ys, ys = callL xs (ts ++ clI (bk.ins.take q) a0) := ⟨_, rfl⟩
     rw [← hys] at HFI
     have HYS := Lib.hid hys
     have hb5 : Below wr.heap.size wr (wr.alloc (.cells #[.int .i64 z.op, .int .i64 z.d, .int .i64 z.a, .int .i64 z.b, .int .i64 z.n, .slice z.sa z.sn z.sc] 47)) := (Below.refl _ _).alloc (Nat.le_refl _) _
     have HFI5 := Lib.hid (HFI.out.below hb5)
     have HRS5 := Lib.hid (HRS.out.trans (below_refl_of hb5 _))
     have HCA := Lib.hid fun wx => calls_any z.op wx
     clear hz ht hys hb5
     cases hc : callB z.op
     ·have HSN3 : Hid (clI (bk.ins.take (q + 1)) a0 = clI (bk.ins.take q) a0) := by
       have h9 := HSN2.out
       rw [hc, if_neg (by decide), List.append_nil] at h9
       exact h9
      rw [hc] at HCA
      clear hc HSN2
      go_wp2_with fail
      refine (HCA.out _).mono ?_
      rintro e wx ⟨rfl, hwx⟩
      rw [← hwx]
      clear hwx wx HCA d0 d1 d2 d3 d4 d5
      go_wp2_with fail
      go_roundw
      case rel => exact ⟨q + 1, by omega, by go_num, by rw [HT.out]; go_num, by rw [HSN3.out, ← HYS.out]; exact HFI5.out, HRS5.out⟩
      case measure => simp [intOf]; omega
     ·have HSN3 : Hid (clI (bk.ins.take (q + 1)) a0 = clI (bk.ins.take q) a0 ++ [t]) := by
       have h9 := HSN2.out
       rw [hc, if_pos rfl] at h9
       exact h9
      rw [hc] at HCA
      clear hc HSN2
      go_wp2_with fail
      refine (HCA.out _).mono ?_
      rintro e wx ⟨rfl, hwx⟩
      rw [← hwx]
      clear hwx wx HCA d0 d1 d2 d3 d4 d5
      generalize wr.alloc (.cells #[.int .i64 z.op, .int .i64 z.d, .int .i64 z.a, .int .i64 z.b, .int .i64 z.n, .slice z.sa z.sn z.sc] 47) = w5 at HFI5 HRS5 ⊢
      have hyl : ys.length = n := HFI5.out.len
      go_wp2_with fail
      go_loopw [31] (fun u wr => ∃ r : Nat, r ≤ n ∧ u = .int .i64 (r : Int) ∧ FinI w0 wr f n pf g c ((ys.take r).map (markR t) ++ ys.drop r) ∧ RestS (fun k => k = g) w wr) (fun u _ => n - (intOf u).toNat)
      case atStart => exact ⟨0, Nat.zero_le _, rfl, by simpa using HFI5.out, HRS5.out⟩
      case round =>
       clear HFI5 HRS5 HFI HRS
       obtain ⟨r, hr, rfl, hfi, hrs⟩ := hrel
       have HFI := Lib.hid hfi
       have HRS := Lib.hid hrs
       by_cases hrl : r < n
       ·
        have hry : r < ys.length := by omega
        have hrz : r < ((ys.take r).map (markR t) ++ ys.drop r).length := by rw [mark_len]; exact hry
        obtain ⟨y, hy⟩ : ∃ y, y = ys[r] := ⟨_, rfl⟩
        have hgy : ((ys.take r).map (markR t) ++ ys.drop r)[r] = y := by
         have := mark_get hry t
         rw [List.getElem?_eq_getElem hrz] at this
         injection this with this
         rw [this, hy]
        obtain ⟨c0, c1, c2, c3⟩ := hfi.row.cells hrz
        have f3 := hfi.row.frees hrz 3 (by omega)
        rw [hgy] at c0 c1 c2 c3
        have hgw := (hfi.row.lt g rfl).2
        have hcap : ((ys.take r).map (markR t) ++ ys.drop r).length ≤ c ∧ c ≤ maxLen := by
         obtain ⟨g9, hgg9, _, _, hcap1, hcap2⟩ := hfi.row.has (by omega)
         exact ⟨hcap1, hcap2⟩
        obtain ⟨hcap1, hcap2⟩ := hcap
        rw [mark_len, hyl] at hcap1
        have HMK : Hid (0 ≤ y.b ∧ y.b ≤ t ∧ t < y.e → FinI w0 (wr.setCell ⟨g, r * 4 + 3, none⟩ (.bool true)) f n pf g c ((ys.take (r + 1)).map (markR t) ++ ys.drop (r + 1))) := fun h => HFI.out.mark hry (by rw [← hy]; exact h)
        have HSK : Hid (¬ (0 ≤ y.b ∧ y.b ≤ t ∧ t < y.e) → FinI w0 wr f n pf g c ((ys.take (r + 1)).map (markR t) ++ ys.drop (r + 1))) := fun h => HFI.out.skip hry (by rw [← hy]; exact h)
        have HRM := Lib.hid (hrs.set (p := ⟨g, r * 4 + 3, none⟩) rfl (.bool true))
        have hri : (r : Int) < (n : Int) := by omega
        clear hgy hfi hrs hy
        by_cases h1 : 0 ≤ y.b
        ·by_cases h2 : y.b ≤ t
         ·by_cases h3 : t < y.e
          ·go_wp2_with fail
           go_roundw
           case rel => exact ⟨r + 1, by omega, by go_num, HMK.out ⟨h1, h2, h3⟩, HRM.out⟩
           case measure => simp [intOf]; omega
          ·have HSK2 := Lib.hid (HSK.out (fun h => h3 h.2.2))
           have q3 : decide (t < y.e) = false := by simp; omega
           have q4 : y.e ≤ t := by omega
           clear h3
           go_wp2_with fail
           go_roundw
           case rel => exact ⟨r + 1, by omega, by go_num, HSK2.out, HRS.out⟩
           case measure => simp [intOf]; omega
         ·have HSK2 := Lib.hid (HSK.out (fun h => h2 h.2.1))
          have q3 : decide (y.b ≤ t) = false := by simp; omega
          have q4 : t < y.b := by omega
          clear h2
          go_wp2_with fail
          go_roundw
          case rel => exact ⟨r + 1, by omega, by go_num, HSK2.out, HRS.out⟩
          case measure => simp [intOf]; omega
        ·have HSK2 := Lib.hid (HSK.out (fun h => h1 h.1))
         have q3 : decide (0 ≤ y.b) = false := by simp; omega
         have q4 : y.b < 0 := by omega
         clear h1
         go_wp2_with fail
         go_roundw
         case rel => exact ⟨r + 1, by omega, by go_num, HSK2.out, HRS.out⟩
         case measure => simp [intOf]; omega
       ·
        have er : r = n := by omega
        subst er
        have hfin : FinI w0 wr f r pf g c (callL xs (ts ++ clI (bk.ins.take (q + 1)) a0)) := by
         rw [HSN3.out, ← List.append_assoc, callL_snoc, ← HYS.out]
         have := HFI.out
         rwa [List.take_of_length_le (by omega), List.drop_of_length_le (by omega), List.append_nil] at this
        have HFIN := Lib.hid hfin
        clear hfin hfi hrs
        go_wp2_with fail
        go_roundw
        case rel => exact ⟨q + 1, by omega, by go_num, by rw [HT.out]; go_num, HFIN.out, HRS.out⟩
        case measure => simp [intOf]; omega
    ·
     have eq : q = bk.sn := by omega
     have HFIN : Hid (FinI w0 wr f n pf g c (callL xs (clF f (i + 1)))) := by
      have h9 := HFI.out
      rw [eq, ← hbl, HCS.out] at h9
      exact h9
     go_wp2_with fail
     go_roundw
     case rel => exact ⟨i + 1, by omega, by go_num, by rw [HAT.out, hbl], HFIN.out, HRS.out⟩
     case measure => simp [intOf]; omega
  ·
   have ei : i = nb := by omega
   subst ei
   have hfl : n = (callL xs (clF f i)).length := HFI.out.len.symm
   have HD := Lib.hid (del_any wr w0.heap.size (some ⟨g, 0, none⟩) c n _ HFI.out.row hfl (by omega))
   have HLO := Lib.hid (HFI.out.row.lt g rfl).1
   clear hfl
   go_wp2_with fail
   refine HD.out.mono ?_
   rintro e w7 ⟨rfl, hr7, hs7⟩
   have HSO := Lib.hid (sortStable_any w7 w0.heap.size g c _ _ hr7 (HASC.out.filter _) rfl (Nat.le_trans (List.length_filter_le ..) (by have := HFI.out.len; omega)))
   have HS7 := Lib.hid hs7
   obtain ⟨m, hm⟩ : ∃ m, m = (keepR (callL xs (clF f i))).length := ⟨_, rfl⟩
   have HM := Lib.hid hm
   change Hid (Calls _ _ #[.slice (some ⟨g, 0, none⟩) (keepR (callL xs (clF f i))).length c, _] _ _) at HSO
   rw [← hm] at HSO ⊢
   clear hr7 hs7 HD hm
   go_wp2_with fail
   refine HSO.out.mono ?_
   rintro e w8 ⟨S, rfl, hS1, hS2, hS3, hS4⟩
   have HFIN : Hid (m = S.length) := by rw [hS1.length_eq]; exact HM.out
   have H1 := Lib.hid hS1
   have H2 := Lib.hid hS2
   have H3 := Lib.hid hS3
   have H4 := Lib.hid hS4
   clear hS1 hS2 hS3 hS4 HSO HM
   go_wp2_with fail
   go_ret
   refine ⟨S, by rw [HFIN.out]; rfl, H1.out, H2.out, ?_, (HRS.out.trans (HS7.out.mono fun k e => by injection e with e; exact e.symm)).trans H4.out⟩
   have := H3.out
   simpa using this
end
end Go.Proofs.Ytlcnbihfpjhffaa
