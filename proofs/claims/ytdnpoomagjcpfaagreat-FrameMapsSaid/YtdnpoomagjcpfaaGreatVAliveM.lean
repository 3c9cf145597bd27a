/- The reference's search for a use: the law. And its 'among'. -/
import Derived.Test.YtdnpoomagjcpfaaGreatVLv
namespace Go.Proofs.YtdnpoomagjcpfaaGreat
open Go.RowKit
set_option linter.unusedVariables false
set_option linter.unusedSimpArgs false

def genAt (b : VB) (q r : Nat) : Bool := (b.ins.drop q).foldr insF (fun r => if (r : Int) ∈ endV b.e then true else false) r
def thruAt (b : VB) (q r : Nat) : Bool := (b.ins.drop q).foldr insF (fun r => if (r : Int) ∈ endV b.e then true else true) r
theorem genAt_zero {b : VB} {r : Nat} (hr : r ≠ 0) : genAt b 0 r = genV b r := by
 unfold genAt genV blkF
 rw [if_neg hr, List.drop_zero]
theorem thruAt_zero {b : VB} {r : Nat} (hr : r ≠ 0) : thruAt b 0 r = thruV b r := by
 unfold thruAt thruV blkF
 rw [if_neg hr, List.drop_zero]
theorem genAt_step {b : VB} {q r : Nat} (h : q < b.ins.length) : genAt b q r = if (r : Int) ∈ usesV b.ins[q] then true else if (r : Int) = defV b.ins[q] then false else genAt b (q + 1) r := by
 unfold genAt
 rw [List.drop_eq_getElem_cons h]
 rfl
theorem thruAt_step {b : VB} {q r : Nat} (h : q < b.ins.length) : thruAt b q r = if (r : Int) ∈ usesV b.ins[q] then true else if (r : Int) = defV b.ins[q] then false else thruAt b (q + 1) r := by
 unfold thruAt
 rw [List.drop_eq_getElem_cons h]
 rfl
theorem genAt_end {b : VB} {q r : Nat} (h : b.ins.length ≤ q) : genAt b q r = decide ((r : Int) ∈ endV b.e) := by
 unfold genAt
 rw [List.drop_of_length_le h]
 show (if (r : Int) ∈ endV b.e then true else false) = _
 by_cases hh : (r : Int) ∈ endV b.e <;> simp [hh]
theorem thruAt_end {b : VB} {q r : Nat} (h : b.ins.length ≤ q) : thruAt b q r = true := by
 unfold thruAt
 rw [List.drop_of_length_le h]
 show (if (r : Int) ∈ endV b.e then true else true) = _
 by_cases hh : (r : Int) ∈ endV b.e <;> simp [hh]
theorem end_mem {e : VE} {r : Nat} (hr : r ≠ 0) : ((r : Int) ∈ endV e) ↔ e.a = (r : Int) ∨ e.b = (r : Int) := by
 unfold endV nz
 rw [List.mem_filter]
 simp only [List.mem_cons, List.not_mem_nil, or_false]
 constructor
 ·rintro ⟨h | h, _⟩
  ·exact .inl h.symm
  ·exact .inr h.symm
 ·rintro (h | h)
  ·exact ⟨.inl h.symm, by simp; omega⟩
  ·exact ⟨.inr h.symm, by simp; omega⟩
/-- live at a place of a block -/
def AliveP (f : VF) (i q r : Nat) : Prop := genAt (f.blk i) q r = true ∨ (thruAt (f.blk i) q r = true ∧ ∃ t : Nat, (t : Int) ∈ (f.blk i).e.to ∧ LiveI f t r)
theorem aliveP_zero {f : VF} {i r : Nat} (hr : r ≠ 0) : AliveP f i 0 r ↔ LiveI f i r := by
 unfold AliveP
 rw [genAt_zero hr, thruAt_zero hr]
 constructor
 ·rintro (h | ⟨h, t, ht, hl⟩)
  ·exact .here _ _ h
  ·exact .step _ t _ h ht hl
 ·intro h
  cases h with
  | here _ _ h => exact .inl h
  | step _ t _ h ht hl => exact .inr ⟨h, t, ht, hl⟩

/-- a place that has been looked at -/
def DoneV (f : VF) (r : Nat) (seen : Nat → Bool) (p : Nat × Nat) : Prop :=
 genAt (f.blk p.1) p.2 r = false ∧ (thruAt (f.blk p.1) p.2 r = true → ∀ t ∈ (f.blk p.1).e.to, seen t.toNat = true)
structure DfsV (f : VF) (m r : Nat) (s0 : Nat × Nat) (seen : Nat → Bool) (todo : List (Nat × Nat)) : Prop where
 lt : ∀ p ∈ todo, p.1 < m
 sound : ∀ p ∈ todo, AliveP f p.1 p.2 r → AliveP f s0.1 s0.2 r
 start : s0 ∈ todo ∨ DoneV f r seen s0
 all : ∀ t, t < m → seen t = true → (t, 0) ∈ todo ∨ DoneV f r seen (t, 0)
theorem DfsV.init (f : VF) (m r : Nat) (s0 : Nat × Nat) (h : s0.1 < m) : DfsV f m r s0 (fun _ => false) [s0] :=
 ⟨fun p hp => by rw [List.mem_singleton.1 hp]; exact h, fun p hp ha => by rw [List.mem_singleton.1 hp] at ha; exact ha, .inl (List.mem_singleton.2 rfl), fun t _ h => by cases h⟩
/-- nothing is left -/
theorem DfsV.no {f : VF} {m r : Nat} {s0 : Nat × Nat} {seen : Nat → Bool} (h : DfsV f m r s0 seen []) (ht : TosV f m) (hr : r ≠ 0) (hs : s0.1 < m) : ¬ AliveP f s0.1 s0.2 r := by
 have key : ∀ t q, LiveI f t q → q = r → t < m → seen t = true → False := by
  intro t q hl
  induction hl with
  | here t q hg =>
   rintro rfl htm hst
   rcases h.all t htm hst with h1 | h1
   ·cases h1
   ·have := h1.1
    simp only at this
    rw [genAt_zero hr, hg] at this
    cases this
  | step t u q h1 h2 _ ih =>
   rintro rfl htm hst
   rcases h.all t htm hst with h3 | h3
   ·cases h3
   ·have h4 := h3.2 (by simp only; rw [thruAt_zero hr]; exact h1) _ h2
    have := ht t htm _ h2
    exact ih rfl (by omega) (by simpa using h4)
 rcases h.start with h1 | h1
 ·cases h1
 ·rintro (h2 | ⟨h2, t, h3, h4⟩)
  ·rw [h1.1] at h2; cases h2
  ·have h5 := h1.2 h2 _ h3
   have := ht s0.1 hs _ h3
   exact key t r h4 rfl (by omega) (by simpa using h5)
theorem DoneV.mono {f : VF} {r : Nat} {seen seen' : Nat → Bool} {p : Nat × Nat} (h : DoneV f r seen p) (hs : ∀ t, seen t = true → seen' t = true) : DoneV f r seen' p := ⟨h.1, fun h1 t ht => hs _ (h.2 h1 t ht)⟩
/-- what has been put behind while a block's jumps are looked at: all of the first jumps are seen -/
structure PushV (f : VF) (m r : Nat) (s0 p : Nat × Nat) (seen : Nat → Bool) (todo : List (Nat × Nat)) (to : List Int) : Prop where
 lt : ∀ q ∈ todo, q.1 < m
 sound : ∀ q ∈ todo, AliveP f q.1 q.2 r → AliveP f s0.1 s0.2 r
 start : s0 = p ∨ s0 ∈ todo ∨ DoneV f r seen s0
 all : ∀ t, t < m → seen t = true → (t, 0) = p ∨ (t, 0) ∈ todo ∨ DoneV f r seen (t, 0)
 to : ∀ t ∈ to, seen t.toNat = true
theorem DfsV.pop {f : VF} {m r : Nat} {s0 p : Nat × Nat} {seen : Nat → Bool} {todo : List (Nat × Nat)} (h : DfsV f m r s0 seen (todo ++ [p])) : PushV f m r s0 p seen todo [] :=
 ⟨fun q hq => h.lt q (List.mem_append_left _ hq), fun q hq => h.sound q (List.mem_append_left _ hq),
  (h.start.elim (fun h1 => (List.mem_append.1 h1).elim (fun h2 => .inr (.inl h2)) fun h2 => .inl (List.mem_singleton.1 h2)) fun h1 => .inr (.inr h1)),
  fun t ht hs => (h.all t ht hs).elim (fun h1 => (List.mem_append.1 h1).elim (fun h2 => .inr (.inl h2)) fun h2 => .inl (List.mem_singleton.1 h2)) fun h1 => .inr (.inr h1), fun t ht => by cases ht⟩
/-- the place is done -/
theorem PushV.done {f : VF} {m r : Nat} {s0 p : Nat × Nat} {seen : Nat → Bool} {todo : List (Nat × Nat)} {to : List Int} (h : PushV f m r s0 p seen todo to) (hd : DoneV f r seen p) : DfsV f m r s0 seen todo :=
 ⟨h.lt, h.sound, h.start.elim (fun e => .inr (by rw [e]; exact hd)) id, fun t ht hs => (h.all t ht hs).elim (fun e => .inr (by rw [e]; exact hd)) id⟩
theorem PushV.skip {f : VF} {m r : Nat} {s0 p : Nat × Nat} {seen : Nat → Bool} {todo : List (Nat × Nat)} {to : List Int} (h : PushV f m r s0 p seen todo to) {t : Nat} (ht : seen t = true) : PushV f m r s0 p seen todo (to ++ [(t : Int)]) :=
 ⟨h.lt, h.sound, h.start, h.all, fun u hu => by
  rcases List.mem_append.1 hu with h1 | h1
  ·exact h.to u h1
  ·rw [List.mem_singleton.1 h1]; exact ht⟩
theorem PushV.push {f : VF} {m r : Nat} {s0 p : Nat × Nat} {seen : Nat → Bool} {todo : List (Nat × Nat)} {to : List Int} (h : PushV f m r s0 p seen todo to) {t : Nat} (htm : t < m) (hs : AliveP f t 0 r → AliveP f s0.1 s0.2 r) :
  PushV f m r s0 p (fun k => if k = t then true else seen k) (todo ++ [(t, 0)]) (to ++ [(t : Int)]) := by
 have hm : ∀ k, seen k = true → (fun k => if k = t then true else seen k) k = true := fun k hk => by
  by_cases e : k = t <;> simp [e, hk]
 refine ⟨fun q hq => ?_, fun q hq => ?_, ?_, fun k hk hsk => ?_, fun u hu => ?_⟩
 ·rcases List.mem_append.1 hq with h1 | h1
  ·exact h.lt q h1
  ·rw [List.mem_singleton.1 h1]; exact htm
 ·rcases List.mem_append.1 hq with h1 | h1
  ·exact h.sound q h1
  ·rw [List.mem_singleton.1 h1]; exact hs
 ·rcases h.start with h1 | h1 | h1
  ·exact .inl h1
  ·exact .inr (.inl (List.mem_append_left _ h1))
  ·exact .inr (.inr (h1.mono hm))
 ·by_cases e : k = t
  ·subst e
   exact .inr (.inl (List.mem_append_right _ (List.mem_singleton.2 rfl)))
  ·simp only [e, if_false] at hsk
   rcases h.all k hk hsk with h1 | h1 | h1
   ·exact .inl h1
   ·exact .inr (.inl (List.mem_append_left _ h1))
   ·exact .inr (.inr (h1.mono hm))
 ·rcases List.mem_append.1 hu with h1 | h1
  ·exact hm _ (h.to u h1)
  ·rw [List.mem_singleton.1 h1]; simp
theorem cntR_set {m t : Nat} {seen : Nat → Bool} (ht : t < m) (hs : seen t = false) : cntR m (fun k => if k = t then true else seen k) + 1 ≤ cntR m seen :=
 cntR_lt (fun k _ hk => by by_cases e : k = t <;> simp [e, hk]) ⟨t, ht, by simp [hs]⟩

set_option maxHeartbeats 1000000 in
theorem among_any (w : World) (a : Option Addr) (n c : Nat) (zs : List Int) (h : Came w a n c 1 (zs.map intCells)) (r : Int) :
  Calls Tryz.prog 20 #[.slice a n c, .int .i64 r] w (fun e w' => e = .returned (.bool (decide (r ∈ zs))) ∧ w = w') := by
 have hl : zs.length = n := by simpa using h.count
 have hn := h.le
 have hm := h.max
 have HC := Lib.hid h
 have HL := Lib.hid hl
 clear h hl
 go_enter Tryz.func20, Tryz.ntmps20
 go_wp2
 go_loopw [4, 6, 9] (fun _ _ u wr => ∃ k : Nat, k ≤ n ∧ u = .int .i64 (k : Int) ∧ wr = w ∧ r ∉ zs.take k) (fun _ _ u _ => n - (intOf u).toNat)
 case atStart => exact ⟨0, Nat.zero_le _, rfl, rfl, by simp⟩
 case round =>
  obtain ⟨k, hk, rfl, rfl, hno⟩ := hrel
  have HNO := Lib.hid hno
  clear hno
  by_cases hlt : k < n
  ·obtain ⟨g, off, rfl, hg, hcc⟩ := HC.out.ints (by omega)
   have ck := hcc k (by have := HL.out; omega)
   obtain ⟨x, hx⟩ : ∃ x, x = zs[k]'(by have := HL.out; omega) := ⟨_, rfl⟩
   rw [← hx] at ck
   have HT : Hid (zs.take (k + 1) = zs.take k ++ [x]) := by rw [hx]; exact List.take_succ_eq_append_getElem _
   have HME : Hid (x ∈ zs) := by rw [hx]; exact List.getElem_mem _
   clear hx hcc
   by_cases hq : x = r
   ·have hq9 : (x == r) = true := by simpa using hq
    have HF : Hid (decide (r ∈ zs) = true) := decide_eq_true (by rw [← hq]; exact HME.out)
    clear hq
    go_wp2
    go_ret
    exact ⟨by rw [HF.out]; rfl, rfl⟩
   ·have hq9 : (x == r) = false := by simpa using hq
    have HQ := Lib.hid hq
    clear hq
    go_wp2
    go_roundw
    case rel => exact ⟨k + 1, by omega, by go_num, trivial, by rw [HT.out, List.mem_append, List.mem_singleton]; exact fun h => h.elim HNO.out fun e => HQ.out e.symm⟩
    case measure => simp [intOf]; omega
  ·have HF : Hid (decide (r ∈ zs) = false) := decide_eq_false (by have := HNO.out; rwa [List.take_of_length_le (by have := HL.out; omega)] at this)
   go_wp2
   go_ret
   exact ⟨by rw [HF.out]; rfl, rfl⟩
end Go.Proofs.YtdnpoomagjcpfaaGreat
