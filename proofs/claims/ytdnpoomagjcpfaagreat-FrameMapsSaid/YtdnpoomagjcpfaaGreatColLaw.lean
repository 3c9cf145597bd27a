/- color's of, count, degree and least. color's coalesce: what it computes and its memory. No function of the program is walked. slices.Reverse of an own row of integers; what color's order computes. What color's build computes says: edges, slots, occurrences. No function of the program is walked. What color's build makes is symmetric; its moves; what Allocate computes. No function of the program is walked. -/
import Derived.Test.YtdnpoomagjcpfaaGreatColMem
import Derived.Test.YtdnpoomagjcpfaaGreatVAliveM
namespace Go.Proofs.YtdnpoomagjcpfaaGreat
open Go.RowKit
set_option linter.unusedVariables false
set_option linter.unusedSimpArgs false

/-- a row of integers -/
def NRow (w : World) (g n : Nat) (c : Nat → Int) : Prop := Blk w g 3 (rowL n fun r => .int .i64 (c r))
theorem NRow.cell {w : World} {g n : Nat} {c : Nat → Int} (h : NRow w g n c) {i : Nat} (hi : i < n) : w.cell? ⟨g, i, none⟩ = some (.int .i64 (c i)) := Blk.row h hi
theorem NRow.set {w : World} {g n : Nat} {c : Nat → Int} (h : NRow w g n c) (j : Nat) (z : Int) : NRow (w.setCell ⟨g, j, none⟩ (.int .i64 z)) g n (fun r => if r = j then z else c r) := by
 have := Blk.rowSet h j (.int .i64 z)
 refine Blk.rowCongr this fun i hi => ?_
 by_cases e : i = j <;> simp [e]
theorem NRow.congr {w : World} {g n : Nat} {c c' : Nat → Int} (h : NRow w g n c) (e : ∀ r, r < n → c r = c' r) : NRow w g n c' := Blk.rowCongr h fun i hi => by rw [e i hi]
/-- how many of the first n -/
def cntY (n : Nat) (l : Nat → Bool) : Nat := ((List.range n).filter l).length
theorem cntY_succ (n : Nat) (l : Nat → Bool) : cntY (n + 1) l = cntY n l + if l n = true then 1 else 0 := by
 unfold cntY
 rw [List.range_succ, List.filter_append, List.length_append]
 cases h : l n <;> simp [h]
theorem cntY_le (n : Nat) (l : Nat → Bool) : cntY n l ≤ n := by
 unfold cntY
 have := List.length_filter_le l (List.range n)
 simpa using this
theorem cntY_mono {n : Nat} {l l' : Nat → Bool} (h : ∀ r, r < n → l r = true → l' r = true) : cntY n l ≤ cntY n l' := by
 induction n with
 | zero => exact Nat.le_refl _
 | succ n ih =>
  have h1 := ih fun r hr => h r (by omega)
  rw [cntY_succ, cntY_succ]
  by_cases e : l n = true
  ·rw [if_pos e, if_pos (h n (by omega) e)]; omega
  ·rw [if_neg e]; omega
theorem cntY_congr {n : Nat} {l l' : Nat → Bool} (h : ∀ r, r < n → l r = l' r) : cntY n l = cntY n l' :=
 Nat.le_antisymm (cntY_mono fun r hr e => by rw [← h r hr]; exact e) (cntY_mono fun r hr e => by rw [h r hr]; exact e)
theorem cntY_lt {n : Nat} {l l' : Nat → Bool} (h : ∀ r, r < n → l r = true → l' r = true) {q : Nat} (hq : q < n) (h1 : l q = false) (h2 : l' q = true) : cntY n l + 1 ≤ cntY n l' := by
 induction n with
 | zero => omega
 | succ n ih =>
  rw [cntY_succ, cntY_succ]
  by_cases e : q = n
  ·subst e
   have := cntY_mono (n := q) (l := l) (l' := l') fun r hr => h r (by omega)
   rw [if_neg (by simp [h1]), if_pos h2]
   omega
  ·have := ih (fun r hr => h r (by omega)) (by omega)
   by_cases e2 : l n = true
   ·rw [if_pos e2, if_pos (h n (by omega) e2)]; omega
   ·rw [if_neg e2]; omega
set_option maxRecDepth 100000 in
set_option maxHeartbeats 4000000 in
theorem count_any (w : World) (g n : Nat) (l : Nat → Bool) (h : BRow w g n l) (hn : n ≤ 8192) :
  Calls Tryz.prog 78 #[.slice (some ⟨g, 0, none⟩) n n] w (fun e w' => e = .returned (.int .i64 (cntY n l : Nat)) ∧ w' = w) := by
 have H := Lib.hid h
 clear h
 go_enter Tryz.func78, Tryz.ntmps78
 go_wp2_with fail
 go_loopw [3, 8] (fun u3 u wr => ∃ k : Nat, k ≤ n ∧ u = .int .i64 (k : Int) ∧ u3 = .int .i64 ((cntY k l : Nat) : Int) ∧ wr = w) (fun _ u _ => n - (intOf u).toNat)
 case atStart => exact ⟨0, Nat.zero_le _, rfl, rfl, rfl⟩
 case round =>
  obtain ⟨k, hk, rfl, rfl, rfl⟩ := hrel
  by_cases hlt : k < n
  ·have cl := H.out.cell hlt
   have hcs := cntY_succ k l
   have hcl := cntY_le k l
   obtain ⟨b, hb⟩ : ∃ b, b = l k := ⟨_, rfl⟩
   rw [← hb] at cl hcs
   obtain ⟨c, hc⟩ : ∃ c, c = cntY k l := ⟨_, rfl⟩
   rw [← hc] at hcs hcl ⊢
   have HC := Lib.hid hcs
   clear hcs hc hb
   cases b with
   | false =>
    go_wp2_with fail
    go_roundw
    case rel => exact ⟨k + 1, by omega, by go_num, by rw [HC.out]; go_num, (by trivial)⟩
    case measure => simp [intOf]; omega
   | true =>
    go_wp2_with fail
    go_roundw
    case rel => exact ⟨k + 1, by omega, by go_num, by rw [HC.out]; go_num, (by trivial)⟩
    case measure => simp [intOf]; omega
  ·have ek : k = n := by omega
   subst ek
   go_wp2_with fail
   go_ret
   exact ⟨rfl, rfl⟩
/-- a forest: c leads to rep -/
structure CR (n : Nat) (c rep rank : Nat → Nat) : Prop where
 lt : ∀ r, r < n → c r < n
 rl : ∀ r, r < n → rep r < n
 rp : ∀ r, r < n → rep (c r) = rep r
 top : ∀ r, r < n → (c r = r ↔ rep r = r)
 idem : ∀ r, r < n → rep (rep r) = rep r
 rk : ∀ r, r < n → c r ≠ r → rank (c r) < rank r
set_option maxRecDepth 100000 in
set_option maxHeartbeats 4000000 in
theorem cof_any (w : World) (cb n : Nat) (c rep rank : Nat → Nat) (h : NRow w cb n fun r => (c r : Int)) (hc : CR n c rep rank) (hn : n ≤ 8192) (r : Nat) (hr : r < n) :
  Calls Tryz.prog 26 #[.slice (some ⟨cb, 0, none⟩) n n, .int .i64 (r : Int)] w (fun e w' => e = .returned (.int .i64 (rep r : Nat)) ∧ w' = w) := by
 have H := Lib.hid h
 have HC := Lib.hid hc
 clear h hc
 go_enter Tryz.func26, Tryz.ntmps26
 go_wp2_with fail
 go_loopw [1] (fun u wr => ∃ q : Nat, q < n ∧ u = .int .i64 (q : Int) ∧ rep q = rep r ∧ wr = w) (fun u _ => rank (intOf u).toNat)
 case atStart => exact ⟨r, hr, rfl, rfl, rfl⟩
 case round =>
  obtain ⟨q, hq, rfl, hre, rfl⟩ := hrel
  have HRE := Lib.hid hre
  have cl := H.out.cell hq
  have hlt2 := HC.out.lt q hq
  clear hre
  by_cases he : c q = q
  ·have h1 := (HC.out.top q hq).1 he
   have HRR : Hid (rep r = q) := HRE.out.symm.trans h1
   have q1 : ((q : Int) != (q : Int)) = false := by simp
   rw [he] at cl
   clear he h1 hlt2
   go_wp2_with fail
   go_ret
   exact ⟨by rw [HRR.out]; rfl, rfl⟩
  ·have h2 := HC.out.rk q hq he
   have h3 := HC.out.rp q hq
   have HX := Lib.hid (And.intro h2 (h3.trans HRE.out))
   obtain ⟨p, hp⟩ : ∃ p, p = c q := ⟨_, rfl⟩
   rw [← hp] at cl he hlt2
   have HP := Lib.hid hp
   have q1 : ((p : Int) != (q : Int)) = true := by simp; omega
   clear h2 h3 hp he
   go_wp2_with fail
   go_roundw
   case rel => exact ⟨p, hlt2, rfl, by rw [HP.out]; exact HX.out.2, (by trivial)⟩
   case measure => simp [intOf]; rw [HP.out]; exact HX.out.1
/-- how many neighbours have at least k neighbours -/
def highN (n : Nat) (X : Nat → Nat → Bool) (r k : Nat) : Nat := cntY n fun m => X r m && decide (k ≤ cntY n (X m))
set_option maxRecDepth 100000 in
set_option maxHeartbeats 8000000 in
theorem degree_any (w : World) (B n : Nat) (g : GP) (X : Nat → Nat → Bool) (SL TH : Nat → Bool) (mv : Value) (h : GrM w B n g X SL TH mv) (r k : Nat) (hr : r < n) (hk : k ≤ 8192) (hn : n ≤ 8192) :
  Calls Tryz.prog 49 #[.pointer (some ⟨g.gb, 0, none⟩), .int .i64 (r : Int), .int .i64 (k : Int)] w (fun e w' => e = .returned (.tuple #[.int .i64 (cntY n (X r) : Nat), .int .i64 (highN n X r k : Nat)]) ∧ w' = w) := by
 have H := Lib.hid h
 have hcap := h.cap
 have hcm := hcap.2
 unfold maxLen at hcm
 have hc1 := hcap.1
 have k0 := h.box.cell 0
 simp only [List.getElem?_cons_zero] at k0
 have cr := h.rowCell hr
 obtain ⟨gb, hgb⟩ : ∃ x, x = g.gb := ⟨_, rfl⟩
 obtain ⟨G, hG⟩ : ∃ x, x = g.G := ⟨_, rfl⟩
 obtain ⟨rc, hrc⟩ : ∃ x, x = g.rc := ⟨_, rfl⟩
 obtain ⟨br, hbr⟩ : ∃ x, x = g.bs r := ⟨_, rfl⟩
 rw [← hgb, ← hG, ← hrc] at k0
 rw [← hG, ← hbr] at cr
 rw [← hrc] at hcm hc1
 rw [← hgb]
 have HBR := Lib.hid hbr
 have HG := Lib.hid hG
 clear h hcap hgb hG hrc hbr
 go_enter Tryz.func49, Tryz.ntmps49
 go_wp2_with fail
 go_loopw [6, 7, 18] (fun u6 u7 u wr => ∃ q : Nat, q ≤ n ∧ u = .int .i64 (q : Int) ∧ u6 = .int .i64 ((cntY q (X r) : Nat) : Int) ∧ u7 = .int .i64 ((cntY q (fun m => X r m && decide (k ≤ cntY n (X m))) : Nat) : Int) ∧ wr = w) (fun _ _ u _ => n - (intOf u).toNat)
 case atStart => exact ⟨0, Nat.zero_le _, rfl, rfl, rfl, rfl⟩
 case round =>
  obtain ⟨q, hq, rfl, rfl, rfl, rfl⟩ := hrel
  by_cases hlt : q < n
  ·have cl := (H.out.row r hr).cell hlt
   rw [← HBR.out] at cl
   have hcs := cntY_succ q (X r)
   have hcl := cntY_le q (X r)
   have hds := cntY_succ q (fun m => X r m && decide (k ≤ cntY n (X m)))
   have hdl := cntY_le q (fun m => X r m && decide (k ≤ cntY n (X m)))
   have cq := H.out.rowCell hlt
   have HCT := Lib.hid (count_any wr (g.bs q) n (X q) (H.out.row q hlt) hn)
   have hml := cntY_le n (X q)
   obtain ⟨bq, hbq⟩ : ∃ b, b = g.bs q := ⟨_, rfl⟩
   rw [← HG.out, ← hbq] at cq
   rw [← hbq] at HCT
   obtain ⟨m, hm⟩ : ∃ m, m = cntY n (X q) := ⟨_, rfl⟩
   rw [← hm] at HCT hds hml
   obtain ⟨b, hb⟩ : ∃ b, b = X r q := ⟨_, rfl⟩
   rw [← hb] at cl hcs hds
   obtain ⟨c, hc⟩ : ∃ c, c = cntY q (X r) := ⟨_, rfl⟩
   obtain ⟨d, hd⟩ : ∃ d, d = cntY q (fun m => X r m && decide (k ≤ cntY n (X m))) := ⟨_, rfl⟩
   rw [← hc] at hcs hcl ⊢
   rw [← hd] at hds hdl ⊢
   have HCS := Lib.hid hcs
   have HDS := Lib.hid hds
   clear hcs hds hc hd hb hm hbq
   cases b with
   | false =>
    go_wp2_with fail
    go_roundw
    case rel => exact ⟨q + 1, by omega, by go_num, by rw [HCS.out]; go_num, by rw [HDS.out]; go_num, (by trivial)⟩
    case measure => simp [intOf]; omega
   | true =>
    go_wp2_with fail
    refine HCT.out.mono ?_
    rintro e w2 ⟨rfl, hw2⟩
    rw [hw2]
    clear hw2 w2
    by_cases hkm : k ≤ m
    ·have q1 : decide ((k : Int) ≤ (m : Int)) = true := by simp; omega
     go_wp2_with fail
     go_roundw
     case rel => exact ⟨q + 1, by omega, by go_num, by rw [HCS.out]; go_num, by rw [HDS.out]; simp only [hkm]; go_num, (by trivial)⟩
     case measure => simp [intOf]; omega
    ·have q1 : decide ((k : Int) ≤ (m : Int)) = false := by simp; omega
     go_wp2_with fail
     go_roundw
     case rel => exact ⟨q + 1, by omega, by go_num, by rw [HCS.out]; go_num, by rw [HDS.out]; simp only [hkm]; go_num, (by trivial)⟩
     case measure => simp [intOf]; omega
  ·have ek : q = n := by omega
   subst ek
   go_wp2_with fail
   exact bodyPost_ret (v := .tuple #[_, _]) (by simp [results, Tryz.results49, go_sem]; rfl) rfl ⟨rfl, rfl⟩
/-- the least number from low on that no neighbour has -/
def IsLeast (n : Nat) (L : Nat → Bool) (low : Nat) (has : Nat → Int) (m : Nat) : Prop := low ≤ m ∧ (∀ s, s < n → L s = true → has s ≠ (m : Int)) ∧ ∀ v : Nat, low ≤ v → v < m → ∃ s, s < n ∧ L s = true ∧ has s = (v : Int)
theorem IsLeast.same {n low : Nat} {L : Nat → Bool} {has : Nat → Int} {m m' : Nat} (h : IsLeast n L low has m) (h' : IsLeast n L low has m') : m = m' := by
 rcases Nat.lt_trichotomy m m' with h1 | h1 | h1
 ·obtain ⟨s, h2, h3, h4⟩ := h'.2.2 m h.1 h1
  exact absurd h4 (h.2.1 s h2 h3)
 ·exact h1
 ·obtain ⟨s, h2, h3, h4⟩ := h.2.2 m' h'.1 h1
  exact absurd h4 (h'.2.1 s h2 h3)
theorem held_few {n low : Nat} {L : Nat → Bool} {has : Nat → Int} : ∀ d, (∀ v : Nat, low ≤ v → v < low + d → ∃ s, s < n ∧ L s = true ∧ has s = (v : Int)) → d ≤ cntY n fun s => L s && (decide ((low : Int) ≤ has s) && decide (has s < (low : Int) + d))
 | 0, _ => Nat.zero_le _
 | d + 1, h => by
  have ih := held_few d fun v h1 h2 => h v h1 (by omega)
  obtain ⟨s, h1, h2, h3⟩ := h (low + d) (by omega) (by omega)
  have := cntY_lt (l := fun s => L s && (decide ((low : Int) ≤ has s) && decide (has s < (low : Int) + d))) (l' := fun s => L s && (decide ((low : Int) ≤ has s) && decide (has s < (low : Int) + (d + 1 : Nat)))) (fun r hr e => by
   simp only [Bool.and_eq_true, decide_eq_true_eq] at e ⊢
   exact ⟨e.1, e.2.1, by omega⟩) h1 (by simp only [h2, Bool.true_and, Bool.and_eq_false_iff, decide_eq_false_iff_not]; right; omega) (by simp only [h2, Bool.true_and, Bool.and_eq_true, decide_eq_true_eq]; omega)
  omega
theorem held_le {n low m : Nat} {L : Nat → Bool} {has : Nat → Int} (h : ∀ v : Nat, low ≤ v → v < m → ∃ s, s < n ∧ L s = true ∧ has s = (v : Int)) : m ≤ low + cntY n L := by
 rcases Nat.lt_or_ge m low with h1 | h1
 ·omega
 ·have h2 := held_few (n := n) (low := low) (L := L) (has := has) (m - low) fun v h3 h4 => h v h3 (by omega)
  have h3 := cntY_mono (n := n) (l := fun s => L s && (decide ((low : Int) ≤ has s) && decide (has s < (low : Int) + (m - low : Nat)))) (l' := L) (fun r _ e => by
   simp only [Bool.and_eq_true] at e
   exact e.1)
  omega
theorem held_step {n low m q : Nat} {L : Nat → Bool} {has : Nat → Int} (h : ∀ v : Nat, low ≤ v → v < m → ∃ s, s < n ∧ L s = true ∧ has s = (v : Int)) (hq : q < n) (hl : L q = true) (hh : has q = (m : Int)) : ∀ v : Nat, low ≤ v → v < m + 1 → ∃ s, s < n ∧ L s = true ∧ has s = (v : Int) := fun v h1 h2 => by
 by_cases e : v = m
 ·subst e; exact ⟨q, hq, hl, hh⟩
 ·exact h v h1 (by omega)
set_option maxRecDepth 100000 in
set_option maxHeartbeats 8000000 in
theorem least_any (w : World) (B n : Nat) (g : GP) (X : Nat → Nat → Bool) (SL TH : Nat → Bool) (mv : Value) (h : GrM w B n g X SL TH mv) (r low : Nat) (hr : r < n) (hlow : low ≤ 8192) (hn : n ≤ 8192) (hb : Nat) (has : Nat → Int) (hrow : NRow w hb n has) :
  Calls Tryz.prog 25 #[.pointer (some ⟨g.gb, 0, none⟩), .int .i64 (r : Int), .int .i64 (low : Int), .slice (some ⟨hb, 0, none⟩) n n] w (fun e w' => (∃ m : Nat, e = .returned (.int .i64 (m : Int)) ∧ IsLeast n (X r) low has m) ∧ w' = w) := by
 have H := Lib.hid h
 have HH := Lib.hid hrow
 have hcap := h.cap
 have hcm := hcap.2
 unfold maxLen at hcm
 have hc1 := hcap.1
 have k0 := h.box.cell 0
 simp only [List.getElem?_cons_zero] at k0
 have cr := h.rowCell hr
 obtain ⟨gb, hgb⟩ : ∃ x, x = g.gb := ⟨_, rfl⟩
 obtain ⟨G, hG⟩ : ∃ x, x = g.G := ⟨_, rfl⟩
 obtain ⟨rc, hrc⟩ : ∃ x, x = g.rc := ⟨_, rfl⟩
 obtain ⟨br, hbr⟩ : ∃ x, x = g.bs r := ⟨_, rfl⟩
 rw [← hgb, ← hG, ← hrc] at k0
 rw [← hG, ← hbr] at cr
 rw [← hrc] at hcm hc1
 rw [← hgb]
 have HBR := Lib.hid hbr
 have HCN := Lib.hid (cntY_le n (X r))
 clear h hcap hgb hG hrc hbr hrow
 go_enter Tryz.func25, Tryz.ntmps25
 go_wp2_with fail
 go_loopw [9, 10] (fun u9 u10 wr => ∃ (m : Nat) (b : Bool), u9 = .int .i64 (m : Int) ∧ u10 = .bool b ∧ low ≤ m ∧ (∀ v : Nat, low ≤ v → v < m → ∃ s, s < n ∧ X r s = true ∧ has s = (v : Int)) ∧ (b = false → ∀ s, s < n → X r s = true → has s ≠ (m : Int)) ∧ wr = w) (fun u9 u10 _ => (n + low - (intOf u9).toNat) + (match u10 with | .bool true => 1 | _ => 0))
 case atStart => exact ⟨low, true, rfl, rfl, Nat.le_refl _, fun v h1 h2 => (by omega), fun h => (by cases h), (by trivial)⟩
 case round =>
  obtain ⟨m, b, rfl, rfl, hm1, hm2, hm3, rfl⟩ := hrel
  have HM2 := Lib.hid hm2
  have HM3 := Lib.hid hm3
  have hml : m ≤ low + n := by have := held_le hm2; have := HCN.out; omega
  clear hm2 hm3
  cases b with
  | false =>
   go_wp2_with fail
   go_ret
   exact ⟨⟨m, rfl, hm1, HM3.out (by simp), HM2.out⟩, (by trivial)⟩
  | true =>
   obtain ⟨w0, rfl⟩ : ∃ x, x = wr := ⟨_, rfl⟩
   go_wp2_with fail
   go_loopw [9, 10, 23] (fun u9 u10 u wr => ∃ (q p : Nat) (b : Bool), q ≤ n ∧ u = .int .i64 (q : Int) ∧ u9 = .int .i64 (p : Int) ∧ u10 = .bool b ∧ low ≤ p ∧ (∀ v : Nat, low ≤ v → v < p → ∃ s, s < n ∧ X r s = true ∧ has s = (v : Int)) ∧ (b = false → p = m ∧ ∀ s, s < q → X r s = true → has s ≠ (m : Int)) ∧ (b = true → m < p) ∧ wr = w0) (fun _ _ u _ => n - (intOf u).toNat)
   case atStart => exact ⟨0, m, false, Nat.zero_le _, rfl, rfl, rfl, hm1, HM2.out, fun _ => ⟨rfl, fun s hs => absurd hs (Nat.not_lt_zero _)⟩, fun h => (by cases h), (by trivial)⟩
   case round =>
    obtain ⟨q, p, b, hq, rfl, rfl, rfl, hp1, hp2, hp3, hp4, rfl⟩ := hrel
    have hpl : p ≤ low + n := by have := held_le hp2; have := HCN.out; omega
    have HP2 := Lib.hid hp2
    have HP3 := Lib.hid hp3
    have HP4 := Lib.hid hp4
    clear hp2 hp3 hp4
    by_cases hlt : q < n
    ·have cl := (H.out.row r hr).cell hlt
     have ch := HH.out.cell hlt
     rw [← HBR.out] at cl
     obtain ⟨x, hx⟩ : ∃ x, x = X r q := ⟨_, rfl⟩
     obtain ⟨z, hz⟩ : ∃ z, z = has q := ⟨_, rfl⟩
     rw [← hx] at cl
     rw [← hz] at ch
     cases x with
     | false =>
      have HX := Lib.hid hx
      clear hx hz
      go_wp2_with fail
      go_roundw
      case rel => exact ⟨q + 1, p, b, by omega, by go_num, rfl, rfl, hp1, HP2.out, fun hb => ⟨(HP3.out hb).1, fun s hs hxs => by
       by_cases e : s = q
       ·subst e; rw [← HX.out] at hxs; cases hxs
       ·exact (HP3.out hb).2 s (by omega) hxs⟩, HP4.out, (by trivial)⟩
      case measure => simp [intOf]; omega
     | true =>
      by_cases hzp : z = (p : Int)
      ·have q1 : (z == (p : Int)) = true := by simp [hzp]
       have HN := Lib.hid (held_step HP2.out hlt hx.symm (hz.symm.trans hzp))
       have hmp : m < p + 1 := by
        cases b
        ·have := (HP3.out rfl).1; omega
        ·have := HP4.out rfl; omega
       clear hx hz hzp
       go_wp2_with fail
       go_roundw
       case rel => exact ⟨q + 1, p + 1, true, by omega, by go_num, by go_num, rfl, by omega, HN.out, fun h => (by cases h), fun _ => hmp, (by trivial)⟩
       case measure => simp [intOf]; omega
      ·have q1 : (z == (p : Int)) = false := by simp [hzp]
       have HZ : Hid (has q ≠ (p : Int)) := by rw [← hz]; exact hzp
       clear hx hz hzp
       go_wp2_with fail
       go_roundw
       case rel => exact ⟨q + 1, p, b, by omega, by go_num, rfl, rfl, hp1, HP2.out, fun hb => ⟨(HP3.out hb).1, fun s hs hxs => by
        by_cases e : s = q
        ·subst e; have := HZ.out; rw [(HP3.out hb).1] at this; exact this
        ·exact (HP3.out hb).2 s (by omega) hxs⟩, HP4.out, (by trivial)⟩
       case measure => simp [intOf]; omega
    ·have ek : q = n := by omega
     subst ek
     go_wp2_with fail
     go_roundw
     case rel => exact ⟨p, b, rfl, rfl, hp1, HP2.out, fun hb => by rw [(HP3.out hb).1]; exact (HP3.out hb).2, (by trivial)⟩
     case measure =>
      cases b
      ·have := (HP3.out rfl).1; simp [intOf]; omega
      ·have := HP4.out rfl; simp [intOf]; omega

/-- b's neighbours become a's; the first k of them -/
def joinK (a b : Nat) : Nat → (Nat → Nat → Bool) → Nat → Nat → Bool
 | 0, X => X
 | k + 1, X => if joinK a b k X b k = true then addE (joinK a b k X) a k else joinK a b k X
def cutK (X : Nat → Nat → Bool) (a k i j : Nat) : Bool := if (i = a ∧ j = k) ∨ (i = k ∧ j = a) then false else X i j
def undoK (was : Nat → Bool) (a : Nat) : Nat → (Nat → Nat → Bool) → Nat → Nat → Bool
 | 0, X => X
 | k + 1, X => if undoK was a k X a k = true ∧ was k = false then cutK (undoK was a k X) a k else undoK was a k X
def dropK (b : Nat) : Nat → (Nat → Nat → Bool) → Nat → Nat → Bool
 | 0, X => X
 | k + 1, X => cutK (dropK b k X) b k
/-- what coalesce knows -/
structure KS where
 (X : Nat → Nat → Bool) (TH : Nat → Bool) (c rep : Nat → Nat)
def KS.a (s : KS) (m : Int × Int) : Nat := s.rep (min m.1 m.2).toNat
def KS.b (s : KS) (m : Int × Int) : Nat := s.rep (max m.1 m.2).toNat
/-- a and b become one -/
def KS.join (n : Nat) (s : KS) (a b : Nat) : KS :=
 ⟨dropK b n (joinK a b n s.X), fun r => if r = b then false else s.TH r, fun r => if r = b then a else s.c r, fun r => if s.rep r = b then a else s.rep r⟩
def KS.skip (SL : Nat → Bool) (s : KS) (a b : Nat) : Prop := a = b ∨ s.X a b = true ∨ SL a ≠ SL b
instance (SL : Nat → Bool) (s : KS) (a b : Nat) : Decidable (s.skip SL a b) := by unfold KS.skip; infer_instance
/-- the joined register has too many neighbours -/
def KS.many (k n : Nat) (SL : Nat → Bool) (s : KS) (a b : Nat) : Prop := k ≤ highN n (joinK a b n s.X) a k ∧ SL a = false
instance (k n : Nat) (SL : Nat → Bool) (s : KS) (a b : Nat) : Decidable (s.many k n SL a b) := by unfold KS.many; infer_instance
def stepK (k n : Nat) (SL : Nat → Bool) (s : KS) (m : Int × Int) : KS := if s.skip SL (s.a m) (s.b m) then s else if s.many k n SL (s.a m) (s.b m) then s else s.join n (s.a m) (s.b m)

theorem cutK_iff (X : Nat → Nat → Bool) (a k i j : Nat) : cutK X a k i j = true ↔ X i j = true ∧ ¬ ((i = a ∧ j = k) ∨ (i = k ∧ j = a)) := by
 unfold cutK
 by_cases h : (i = a ∧ j = k) ∨ (i = k ∧ j = a)
 ·rw [if_pos h]; exact ⟨fun h => (by cases h), fun h2 => absurd h h2.2⟩
 ·rw [if_neg h]; exact ⟨fun h2 => ⟨h2, h⟩, fun h2 => h2.1⟩
theorem addE_iffK (X : Nat → Nat → Bool) (p q a b : Nat) : addE X p q a b = true ↔ X a b = true ∨ (p ≠ q ∧ p ≠ 0 ∧ q ≠ 0 ∧ ((a = p ∧ b = q) ∨ (a = q ∧ b = p))) := by
 unfold addE
 by_cases h : p ≠ q ∧ p ≠ 0 ∧ q ≠ 0
 ·rw [if_pos h]
  by_cases h2 : (a = p ∧ b = q) ∨ (a = q ∧ b = p)
  ·rw [if_pos h2]; simp only [true_iff]; exact .inr ⟨h.1, h.2.1, h.2.2, h2⟩
  ·rw [if_neg h2]; exact ⟨.inl, fun h3 => h3.elim id fun h4 => absurd h4.2.2.2 h2⟩
 ·rw [if_neg h]; exact ⟨.inl, fun h3 => h3.elim id fun h4 => absurd ⟨h4.1, h4.2.1, h4.2.2.1⟩ h⟩
theorem joinK_iff {a b : Nat} {X : Nat → Nat → Bool} (hab : a ≠ b) (hd : X b b = false) (i j : Nat) : ∀ k, joinK a b k X i j = true ↔ X i j = true ∨ ∃ q, q < k ∧ X b q = true ∧ a ≠ q ∧ a ≠ 0 ∧ q ≠ 0 ∧ ((i = a ∧ j = q) ∨ (i = q ∧ j = a))
 | 0 => ⟨.inl, fun h => h.elim id fun ⟨q, h, _⟩ => absurd h (Nat.not_lt_zero _)⟩
 | k + 1 => by
  have ih := joinK_iff hab hd i j k
  have hb : joinK a b k X b k = true ↔ X b k = true := by
   rw [joinK_iff hab hd b k k]
   constructor
   ·rintro (h | ⟨q, hq, h1, h2, h3, h4, ⟨h5, h6⟩ | ⟨h5, h6⟩⟩)
    ·exact h
    ·exact absurd h5.symm hab
    ·rw [← h5, hd] at h1; cases h1
   ·exact .inl
  unfold joinK
  by_cases h : joinK a b k X b k = true
  ·rw [if_pos h, addE_iffK, ih]
   constructor
   ·rintro ((h1 | ⟨q, h1, h2⟩) | h1)
    ·exact .inl h1
    ·exact .inr ⟨q, by omega, h2⟩
    ·exact .inr ⟨k, by omega, hb.1 h, h1⟩
   ·rintro (h1 | ⟨q, h1, h2⟩)
    ·exact .inl (.inl h1)
    ·by_cases e : q = k
     ·subst e; exact .inr h2.2
     ·exact .inl (.inr ⟨q, by omega, h2⟩)
  ·rw [if_neg h, ih]
   constructor
   ·rintro (h1 | ⟨q, h1, h2⟩)
    ·exact .inl h1
    ·exact .inr ⟨q, by omega, h2⟩
   ·rintro (h1 | ⟨q, h1, h2⟩)
    ·exact .inl h1
    ·by_cases e : q = k
     ·subst e; exact absurd (hb.2 h2.1) h
     ·exact .inr ⟨q, by omega, h2⟩
theorem undoK_iff {a : Nat} {was : Nat → Bool} {Y : Nat → Nat → Bool} (i j : Nat) : ∀ k, undoK was a k Y i j = true ↔ Y i j = true ∧ ¬ ∃ q, q < k ∧ Y a q = true ∧ was q = false ∧ ((i = a ∧ j = q) ∨ (i = q ∧ j = a))
 | 0 => ⟨fun h => ⟨h, fun ⟨q, h, _⟩ => absurd h (Nat.not_lt_zero _)⟩, fun h => h.1⟩
 | k + 1 => by
  have ih := undoK_iff (a := a) (was := was) (Y := Y) i j k
  have hb : undoK was a k Y a k = true ↔ Y a k = true := by
   rw [undoK_iff a k k]
   constructor
   ·exact fun h => h.1
   ·refine fun h => ⟨h, ?_⟩
    rintro ⟨q, hq, _, _, ⟨_, h6⟩ | ⟨h5, h6⟩⟩
    ·omega
    ·omega
  unfold undoK
  by_cases h : undoK was a k Y a k = true ∧ was k = false
  ·rw [if_pos h, cutK_iff, ih]
   constructor
   ·rintro ⟨⟨h1, h2⟩, h3⟩
    refine ⟨h1, ?_⟩
    rintro ⟨q, h4, h5⟩
    by_cases e : q = k
    ·subst e; exact h3 h5.2.2
    ·exact h2 ⟨q, by omega, h5⟩
   ·rintro ⟨h1, h2⟩
    exact ⟨⟨h1, fun ⟨q, h4, h5⟩ => h2 ⟨q, by omega, h5⟩⟩, fun h3 => h2 ⟨k, by omega, hb.1 h.1, h.2, h3⟩⟩
  ·rw [if_neg h, ih]
   constructor
   ·rintro ⟨h1, h2⟩
    refine ⟨h1, ?_⟩
    rintro ⟨q, h4, h5⟩
    by_cases e : q = k
    ·subst e; exact h ⟨hb.2 h5.1, h5.2.1⟩
    ·exact h2 ⟨q, by omega, h5⟩
   ·rintro ⟨h1, h2⟩
    exact ⟨h1, fun ⟨q, h4, h5⟩ => h2 ⟨q, by omega, h5⟩⟩
theorem dropK_iff {b : Nat} {Y : Nat → Nat → Bool} (i j : Nat) : ∀ k, dropK b k Y i j = true ↔ Y i j = true ∧ ¬ ((i = b ∧ j < k) ∨ (i < k ∧ j = b))
 | 0 => ⟨fun h => ⟨h, fun h => by omega⟩, fun h => h.1⟩
 | k + 1 => by
  unfold dropK
  rw [cutK_iff, dropK_iff i j k]
  constructor
  ·rintro ⟨⟨h1, h2⟩, h3⟩
   exact ⟨h1, by omega⟩
  ·rintro ⟨h1, h2⟩
   exact ⟨⟨h1, by omega⟩, by omega⟩
/-- what stands between the moves -/
structure KInv (n : Nat) (s : KS) : Prop where
 sym : ∀ i j, i < n → j < n → s.X i j = s.X j i
 diag : ∀ i, i < n → s.X i i = false
 zero : ∀ i, i < n → s.X i 0 = false
 pos : ∀ r, r < n → r ≠ 0 → s.rep r ≠ 0
 cr : ∃ rank, CR n s.c s.rep rank
theorem undo_join {n : Nat} {s : KS} (h : KInv n s) {a b : Nat} (ha : a < n) (hb : b < n) (hab : a ≠ b) {i j : Nat} (hi : i < n) (hj : j < n) : undoK (s.X a) a n (joinK a b n s.X) i j = s.X i j := by
 have hd := h.diag b hb
 refine Bool.eq_iff_iff.2 ?_
 rw [undoK_iff]
 have hJ := fun p q => joinK_iff (X := s.X) hab hd p q n
 constructor
 ·rintro ⟨h1, h2⟩
  rcases (hJ i j).1 h1 with h3 | ⟨q, hq, h4, h5, h6, h7, h8⟩
  ·exact h3
  ·have h9 : joinK a b n s.X a q = true := (hJ a q).2 (.inr ⟨q, hq, h4, h5, h6, h7, .inl ⟨rfl, rfl⟩⟩)
   cases hw : s.X a q
   ·exact absurd ⟨q, hq, h9, hw, h8⟩ h2
   ·rcases h8 with ⟨rfl, rfl⟩ | ⟨rfl, rfl⟩
    ·exact hw
    ·rw [h.sym _ _ hi hj]; exact hw
 ·intro h1
  refine ⟨(hJ i j).2 (.inl h1), ?_⟩
  rintro ⟨q, hq, _, hw, ⟨rfl, rfl⟩ | ⟨rfl, rfl⟩⟩
  ·rw [h1] at hw; cases hw
  ·rw [h.sym _ _ hi hj, hw] at h1; cases h1
theorem CR.join {n : Nat} {c rep rank : Nat → Nat} (h : CR n c rep rank) {a b : Nat} (ha : a < n) (hb : b < n) (hab : a ≠ b) (ra : rep a = a) (rb : rep b = b) :
  CR n (fun r => if r = b then a else c r) (fun r => if rep r = b then a else rep r) (fun r => rank r + if rep r = b then rank a + 1 else 0) := by
 refine ⟨fun r hr => ?_, fun r hr => ?_, fun r hr => ?_, fun r hr => ?_, fun r hr => ?_, fun r hr hc => ?_⟩
 ·split
  ·exact ha
  ·exact h.lt r hr
 ·split
  ·exact ha
  ·exact h.rl r hr
 ·by_cases e : r = b
  ·subst e; rw [if_pos rfl, ra, rb, if_pos rfl, if_neg hab]
  ·rw [if_neg e, h.rp r hr]
 ·by_cases e : r = b
  ·subst e; rw [if_pos rfl, rb, if_pos rfl]
  ·rw [if_neg e]
   by_cases e2 : rep r = b
   ·rw [if_pos e2]
    constructor
    ·intro h3; have := (h.top r hr).1 h3; omega
    ·intro h3; rw [← h3, ra] at e2; exact absurd e2 hab
   ·rw [if_neg e2]; exact h.top r hr
 ·by_cases e : rep r = b
  ·rw [if_pos e, ra, if_neg hab]
  ·rw [if_neg e, h.idem r hr, if_neg e]
 ·by_cases e : r = b
  ·subst e; rw [if_pos rfl, ra, rb, if_neg hab, if_pos rfl]; omega
  ·rw [if_neg e] at hc ⊢
   rw [h.rp r hr]
   have := h.rk r hr hc
   omega
theorem KInv.join {n : Nat} {s : KS} (h : KInv n s) {a b : Nat} (ha : a < n) (hb : b < n) (hab : a ≠ b) (ra : s.rep a = a) (rb : s.rep b = b) (ha0 : a ≠ 0) (hx : s.X a b = false) : KInv n (s.join n a b) := by
 have hd := h.diag b hb
 have hJ := fun p q => joinK_iff (X := s.X) hab hd p q n
 have hX : ∀ i j, (s.join n a b).X i j = true ↔ joinK a b n s.X i j = true ∧ ¬ ((i = b ∧ j < n) ∨ (i < n ∧ j = b)) := fun i j => dropK_iff i j n
 refine ⟨fun i j hi hj => ?_, fun i hi => ?_, fun i hi => ?_, fun r hr h0 => ?_, ?_⟩
 ·have hs : joinK a b n s.X i j = true ↔ joinK a b n s.X j i = true := by
   rw [hJ, hJ, h.sym i j hi hj]
   constructor
   ·rintro (h1 | ⟨q, h1, h2, h3, h4, h5, h6⟩)
    ·exact .inl h1
    ·exact .inr ⟨q, h1, h2, h3, h4, h5, by omega⟩
   ·rintro (h1 | ⟨q, h1, h2, h3, h4, h5, h6⟩)
    ·exact .inl h1
    ·exact .inr ⟨q, h1, h2, h3, h4, h5, by omega⟩
  refine Bool.eq_iff_iff.2 ?_
  rw [hX, hX, hs]
  exact ⟨fun h => ⟨h.1, by omega⟩, fun h => ⟨h.1, by omega⟩⟩
 ·refine Bool.eq_false_iff.2 fun h1 => ?_
  rcases (hJ i i).1 ((hX i i).1 h1).1 with h2 | ⟨q, h3, h4, h5, h6, h7, h8⟩
  ·rw [h.diag i hi] at h2; cases h2
  ·omega
 ·refine Bool.eq_false_iff.2 fun h1 => ?_
  rcases (hJ i 0).1 ((hX i 0).1 h1).1 with h2 | ⟨q, h3, h4, h5, h6, h7, h8⟩
  ·rw [h.zero i hi] at h2; cases h2
  ·omega
 ·show (if s.rep r = b then a else s.rep r) ≠ 0
  split
  ·exact ha0
  ·exact h.pos r hr h0
 ·obtain ⟨rank, hr⟩ := h.cr
  exact ⟨_, hr.join ha hb hab ra rb⟩
/-- a move's registers -/
def MvOk (n : Nat) (m : Int × Int) : Prop := (1 ≤ m.1 ∧ m.1 < n) ∧ 1 ≤ m.2 ∧ m.2 < n
theorem KInv.ab {n : Nat} {s : KS} (h : KInv n s) {m : Int × Int} (hm : MvOk n m) : (s.a m < n ∧ s.a m ≠ 0 ∧ s.rep (s.a m) = s.a m) ∧ s.b m < n ∧ s.b m ≠ 0 ∧ s.rep (s.b m) = s.b m := by
 obtain ⟨rank, hr⟩ := h.cr
 obtain ⟨⟨h1, h2⟩, h3, h4⟩ := hm
 have e1 : (min m.1 m.2).toNat < n ∧ (min m.1 m.2).toNat ≠ 0 := by omega
 have e2 : (max m.1 m.2).toNat < n ∧ (max m.1 m.2).toNat ≠ 0 := by omega
 exact ⟨⟨hr.rl _ e1.1, h.pos _ e1.1 e1.2, hr.idem _ e1.1⟩, hr.rl _ e2.1, h.pos _ e2.1 e2.2, hr.idem _ e2.1⟩
theorem KInv.step {n : Nat} {s : KS} (h : KInv n s) (k : Nat) (SL : Nat → Bool) {m : Int × Int} (hm : MvOk n m) : KInv n (stepK k n SL s m) := by
 obtain ⟨⟨h1, h2, h3⟩, h4, h5, h6⟩ := h.ab hm
 unfold stepK
 split
 ·exact h
 ·rename_i hs
  split
  ·exact h
  ·refine h.join h1 h4 (fun e => hs (.inl e)) h3 h6 h2 ?_
   cases hx : s.X (s.a m) (s.b m)
   ·rfl
   ·exact absurd (.inr (.inl hx)) hs
def coalK (k n : Nat) (SL : Nat → Bool) (ms : List (Int × Int)) (s : KS) : KS := ms.foldl (stepK k n SL) s
theorem KInv.coal {n : Nat} (k : Nat) (SL : Nat → Bool) : ∀ {ms : List (Int × Int)}, (∀ m ∈ ms, MvOk n m) → ∀ {s : KS}, KInv n s → KInv n (coalK k n SL ms s)
 | [], _, s, h => h
 | m :: ms, hm, s, h => KInv.coal k SL (fun x hx => hm x (List.mem_cons_of_mem _ hx)) (h.step k SL (hm m List.mem_cons_self))
def startK (X : Nat → Nat → Bool) (TH : Nat → Bool) : KS := ⟨X, TH, fun r => r, fun r => r⟩
theorem CR.id (n : Nat) : CR n (fun r => r) (fun r => r) (fun _ => 0) := ⟨fun r h => h, fun r h => h, fun r _ => rfl, fun r _ => Iff.rfl, fun r _ => rfl, fun r _ h => absurd rfl h⟩
/-- coalesce's memory -/
structure CoI (w0 w : World) (B n : Nat) (g : GP) (SL : Nat → Bool) (mv : Value) (mvs : List (Int × Int)) (cb : Nat) (s : KS) : Prop where
 gr : GrM w B n g s.X SL s.TH mv
 mo : w.ownsRow B 85 2 mv mvs.length (mvs.flatMap wpC)
 cls : NRow w cb n (fun r => (s.c r : Int))
 lo : w0.heap.size ≤ cb
 rs : RestS (fun k => inB' n g.bs k ∨ k = g.tb) w0 w
section
variable {w0 w w' : World} {B n : Nat} {g : GP} {SL : Nat → Bool} {mv : Value} {mvs : List (Int × Int)} {cb : Nat} {s : KS}
theorem CoI.below (h : CoI w0 w B n g SL mv mvs cb s) (hb : Below w.heap.size w w') : CoI w0 w' B n g SL mv mvs cb s :=
 ⟨h.gr.below hb, ownG_below h.mo hb, Blk.below h.cls hb (Blk.lt h.cls), h.lo, h.rs.trans (below_refl_of hb _)⟩
theorem CoI.edges (h : CoI w0 w B n g SL mv mvs cb s) (hr : RestS (inB' n g.bs) w w') {X' : Nat → Nat → Bool} (hg : GrM w' B n g X' SL s.TH mv) : CoI w0 w' B n g SL mv mvs cb { s with X := X' } :=
 ⟨hg, ownG_kept h.mo fun q hq => hr.block q (h.mo.lt q hq).2 (h.gr.tyBs.noOwn h.mo (by decide) q hq), Blk.of_heap h.cls (hr.block _ (Blk.lt h.cls) (h.gr.tyBs.noBlk h.cls (by decide))), h.lo, h.rs.trans (hr.mono fun k hk => .inl hk)⟩
theorem GrM.ints (h : GrM w B n g s.X SL s.TH mv) {q m : Nat} {c : Nat → Int} (hq : NRow w q m c) : g.gb ≠ q ∧ g.G ≠ q ∧ g.sb ≠ q ∧ g.tb ≠ q ∧ ∀ i, i < n → g.bs i ≠ q := by
 have key : ∀ {p : Nat} {t : TypeId} {cur : Array Value}, w.heap[p]? = some (.cells cur t (0, 0)) → t ≠ 3 → p ≠ q := fun h1 h2 e => by
  subst e
  have h3 : w.heap[_]? = _ := hq
  rw [h1] at h3
  injection h3 with h3
  injection h3 with _ h3 _
  exact h2 h3
 obtain ⟨cur, hc⟩ := own_blkTy h.rows (g := g.G) rfl
 exact ⟨key h.box (by decide), key hc (by decide), key h.slot (by decide), key h.there (by decide), fun i hi => key (h.row i hi) (by decide)⟩
/-- the class of b is set -/
theorem CoI.setC (h : CoI w0 w B n g SL mv mvs cb s) (b a : Nat) : CoI w0 (w.setCell ⟨cb, b, none⟩ (.int .i64 (a : Int))) B n g SL mv mvs cb { s with c := fun r => if r = b then a else s.c r } := by
 obtain ⟨h1, h2, h3, h4, h5⟩ := h.gr.ints h.cls
 have hr : RestS (fun k => k = cb) w (w.setCell ⟨cb, b, none⟩ (.int .i64 (a : Int))) := RestS.set (S := fun k => k = cb) (RestS.refl _ w) (p := ⟨cb, b, none⟩) rfl _
 refine ⟨h.gr.rest hr h1 h2 h3 h4 h5, ownG_kept h.mo fun q hq => hr.block q (h.mo.lt q hq).2 fun e => ?_, (h.cls.set b (a : Int)).congr fun r _ => ?_, h.lo, ⟨h.rs.os, h.rs.tape, h.rs.output, by have := h.rs.size; simpa [World.setCell] using this, fun k hk hs => ?_⟩⟩
 ·subst e; exact blk_noOwn h.cls h.mo (by decide) hq
 ·by_cases e : r = b <;> simp [e]
 ·rw [hr.block k (Nat.lt_of_lt_of_le hk h.rs.size) (fun e => by have := h.lo; omega)]
  exact h.rs.block k hk hs
/-- b is there no more -/
theorem CoI.setT (h : CoI w0 w B n g SL mv mvs cb s) (b : Nat) : CoI w0 (w.setCell ⟨g.tb, b, none⟩ (.bool false)) B n g SL mv mvs cb { s with TH := fun r => if r = b then false else s.TH r } := by
 have hr : RestS (fun k => k = g.tb) w (w.setCell ⟨g.tb, b, none⟩ (.bool false)) := RestS.set (S := fun k => k = g.tb) (RestS.refl _ w) (p := ⟨g.tb, b, none⟩) rfl _
 have ht : TyB 4 w (fun k => k = g.tb) := fun k e => e ▸ brow_ty h.gr.there
 exact ⟨h.gr.setT b false, ownG_kept h.mo fun q hq => hr.block q (h.mo.lt q hq).2 (ht.noOwn h.mo (by decide) q hq), Blk.of_heap h.cls (hr.block _ (Blk.lt h.cls) (ht.noBlk h.cls (by decide))), h.lo, h.rs.trans (hr.mono fun k hk => .inr hk)⟩
end
theorem GrM.cut {w : World} {B n : Nat} {g : GP} {X : Nat → Nat → Bool} {SL TH : Nat → Bool} {mv : Value} (h : GrM w B n g X SL TH mv) {a k : Nat} (ha : a < n) (hk : k < n) :
  GrM ((w.setCell ⟨g.bs a, k, none⟩ (.bool false)).setCell ⟨g.bs k, a, none⟩ (.bool false)) B n g (cutK X a k) SL TH mv :=
 ((h.set ha k false).set hk a false).congr (fun i hi r hr => by
  unfold cutK
  by_cases e1 : i = a <;> by_cases e2 : i = k <;> by_cases e3 : r = a <;> by_cases e4 : r = k <;> simp [e1, e2, e3, e4] <;> omega) (fun _ _ => rfl) (fun _ _ => rfl)
def CoalPost (B n : Nat) (g : GP) (SL : Nat → Bool) (mv : Value) (mvs : List (Int × Int)) (s : KS) (w : World) (e : Ending) (w' : World) : Prop :=
 ∃ cb, e = .returned (.slice (some ⟨cb, 0, none⟩) n n) ∧ CoI w w' B n g SL mv mvs cb s

theorem ownR_set {w : World} {base : Nat} {e : TypeId} {size n cap g : Nat} {l : List Value} (h : w.ownsRow base e size (.slice (some ⟨g, 0, none⟩) n cap) n l) (j : Nat) (u : Value) (hj : j < n * size) : (w.setCell ⟨g, j, none⟩ u).ownsRow base e size (.slice (some ⟨g, 0, none⟩) n cap) n (l.set j u) := by
 refine ⟨by simpa using h.1, ?_⟩
 rcases h.2 with ⟨hx, _⟩ | ⟨g1, c, cur, hv, h1, h2, h3, h4, h5, h6⟩
 ·cases hx
 ·injection hv with e1 e2 e3
  injection e1 with e1
  injection e1 with e1 _ _
  subst e1 e3
  refine .inr ⟨g, cap, cur.setIfInBounds j u, rfl, h1, ?_, h3, h4, by simpa using h5, ?_⟩
  ·simp [World.setCell, Array.getElem?_modify, h2]
  ·rw [Array.toList_setIfInBounds, List.take_set, h6]
theorem ownR_cellAt {w : World} {base : Nat} {e : TypeId} {size n cap g : Nat} {l : List Value} (h : w.ownsRow base e size (.slice (some ⟨g, 0, none⟩) n cap) n l) {j : Nat} (hj : j < n * size) : w.cell? ⟨g, j, none⟩ = l[j]? ∧ w.frozen? ⟨g, j, none⟩ = false := by
 rcases h.2 with ⟨hx, _⟩ | ⟨g1, c, cur, hv, h1, h2, h3, h4, h5, h6⟩
 ·cases hx
 ·injection hv with e1 e2 e3
  injection e1 with e1
  injection e1 with e1 _ _
  subst e1 e3
  have h7 : l[j]? = cur[j]? := by
   rw [← h6, List.getElem?_take, if_pos hj]
   simp
  refine ⟨?_, ?_⟩
  ·simp only [World.cell?, h2]
   rw [h7]
   rfl
  ·simp [World.frozen?, h2]
/-- a row of which i at each end are turned -/
def turnL (zs : List Int) (i : Nat) : Nat → Int := fun p => if p < i ∨ zs.length ≤ p + i then zs.getD (zs.length - 1 - p) 0 else zs.getD p 0
theorem turnL_zero (zs : List Int) : (List.range zs.length).map (fun p => Value.int .i64 (turnL zs 0 p)) = zs.map (Value.int .i64) := by
 refine List.ext_getElem (by simp) fun p h1 h2 => ?_
 have hp : p < zs.length := by simpa using h1
 rw [List.getElem_map, List.getElem_range, List.getElem_map]
 unfold turnL
 rw [if_neg (by omega), List.getD_eq_getElem?_getD, List.getElem?_eq_getElem hp]
 rfl
theorem turnL_end (zs : List Int) (i : Nat) (h : zs.length ≤ i + i + 1) : (List.range zs.length).map (fun p => Value.int .i64 (turnL zs i p)) = zs.reverse.map (Value.int .i64) := by
 refine List.ext_getElem (by simp) fun p h1 h2 => ?_
 have hp : p < zs.length := by simpa using h1
 rw [List.getElem_map, List.getElem_range, List.getElem_map, List.getElem_reverse]
 unfold turnL
 by_cases e : p < i ∨ zs.length ≤ p + i
 ·rw [if_pos e, List.getD_eq_getElem?_getD, List.getElem?_eq_getElem (by omega)]
  rfl
 ·rw [if_neg e, List.getD_eq_getElem?_getD, List.getElem?_eq_getElem hp]
  simp only [show zs.length - 1 - p = p by omega]
  rfl
theorem turnL_step (zs : List Int) {i : Nat} (h : i + i + 1 < zs.length) : (((List.range zs.length).map fun p => Value.int .i64 (turnL zs i p)).set i (.int .i64 (turnL zs i (zs.length - 1 - i)))).set (zs.length - 1 - i) (.int .i64 (turnL zs i i)) = (List.range zs.length).map fun p => Value.int .i64 (turnL zs (i + 1) p) := by
 refine List.ext_getElem (by simp) fun p h1 h2 => ?_
 have hp : p < zs.length := by simpa using h1
 rw [List.getElem_set, List.getElem_set, List.getElem_map, List.getElem_map, List.getElem_range]
 unfold turnL
 by_cases e1 : zs.length - 1 - i = p
 ·rw [if_pos e1, if_neg (by omega), if_pos (by omega)]
  congr 2; omega
 ·rw [if_neg e1]
  by_cases e2 : i = p
  ·rw [if_pos e2, if_neg (by omega), if_pos (by omega)]
   congr 2; omega
  ·rw [if_neg e2]
   by_cases e3 : p < i ∨ zs.length ≤ p + i
   ·rw [if_pos e3, if_pos (by omega)]
   ·rw [if_neg e3, if_neg (by omega)]
def RevPost (base : Nat) (a : Option Addr) (c : Nat) (zs : List Int) (w : World) (e : Ending) (w' : World) : Prop :=
 e = .returned (.tuple #[]) ∧ w'.ownsRow base 3 1 (.slice a zs.length c) zs.length (zs.reverse.map (Value.int .i64)) ∧ RestS (fun k => (Value.slice a zs.length c).ownBlock = some k) w w'
set_option maxRecDepth 100000 in
set_option maxHeartbeats 4000000 in
theorem reverse_any (w : World) (base : Nat) (a : Option Addr) (c : Nat) (zs : List Int) (h : w.ownsRow base 3 1 (.slice a zs.length c) zs.length (zs.map (Value.int .i64))) (hn : zs.length ≤ 100000) :
  Calls Tryz.prog 50 #[.slice a zs.length c] w (RevPost base a c zs w) := by
 obtain ⟨n, hnl⟩ : ∃ n, n = zs.length := ⟨_, rfl⟩
 rw [← turnL_zero, ← hnl] at h
 unfold RevPost
 rw [← hnl] at hn ⊢
 have HL := Lib.hid hnl
 have H := Lib.hid h
 clear h hnl
 go_enter Tryz.func50, Tryz.ntmps50
 go_wp2_with fail
 go_loopw [2, 3] (fun u2 u3 wr => ∃ i : Nat, i ≤ n ∧ u2 = .int .i64 (i : Int) ∧ u3 = .int .i64 ((n : Int) - 1 - i) ∧ wr.ownsRow base 3 1 (.slice a n c) n ((List.range n).map fun p => .int .i64 (turnL zs i p)) ∧ RestS (fun k => (Value.slice a n c).ownBlock = some k) w wr) (fun u _ _ => n - (intOf u).toNat)
 case atStart => exact ⟨0, Nat.zero_le _, rfl, by simp, H.out, RestS.refl _ _⟩
 case round =>
  clear H
  obtain ⟨i, hi, rfl, rfl, ho, hr⟩ := hrel
  have HR := Lib.hid hr
  have HO := Lib.hid ho
  clear ho hr
  by_cases hlt : i + i + 1 < n
  ·have hltI : (i : Int) < (n : Int) - 1 - i := by omega
   obtain ⟨g, cap, hv, _, hgl, hc1, hc2⟩ := ownG_has HO.out (by omega)
   injection hv with e1 e2 e3
   subst e1 e3
   unfold maxLen at hc2
   obtain ⟨j, hj⟩ : ∃ j : Nat, j = n - 1 - i := ⟨_, rfl⟩
   have hjI : (n : Int) - 1 - i = (j : Int) := by omega
   have hjn : j < n := by omega
   have hin : i < n := by omega
   rw [hjI] at hltI ⊢
   obtain ⟨wd, hwd⟩ : ∃ wd, wd = wr.drew := ⟨_, rfl⟩
   have hde : Below wr.heap.size wr wd := by rw [hwd]; exact (Below.refl _ _).drew
   have HO2 := Lib.hid (ownG_below HO.out hde)
   have HRD : Hid (RestS (fun k => (Value.slice (some ⟨g, 0, none⟩) n c).ownBlock = some k) w wd) := HR.out.trans (below_refl_of hde _)
   have c1 := ownR_cellAt HO2.out (j := i) (by omega)
   have c2 := ownR_cellAt HO2.out (j := j) (by omega)
   have s1 := ownR_set HO2.out i (.int .i64 (turnL zs i j)) (by omega)
   have c3 := ownR_cellAt s1 (j := j) (by omega)
   have s2 := ownR_set s1 j (.int .i64 (turnL zs i i)) (by omega)
   rw [List.getElem?_map, List.getElem?_range hin] at c1
   rw [List.getElem?_map, List.getElem?_range hjn] at c2
   have hjz : j = zs.length - 1 - i := by rw [hj, HL.out]
   have e9 := turnL_step zs (i := i) (by rw [← HL.out]; exact hlt)
   rw [← hjz, ← HL.out] at e9
   rw [e9] at s2
   have HS2 := Lib.hid s2
   have HR2 : Hid (RestS (fun k => (Value.slice (some ⟨g, 0, none⟩) n c).ownBlock = some k) w ((wd.setCell ⟨g, i, none⟩ (.int .i64 (turnL zs i j))).setCell ⟨g, j, none⟩ (.int .i64 (turnL zs i i)))) := (HRD.out.set (p := ⟨g, i, none⟩) rfl _).set (p := ⟨g, j, none⟩) rfl _
   have x1 : wd.cell? ⟨g, i, none⟩ = some (.int .i64 (turnL zs i i)) := c1.1
   have x2 : wd.cell? ⟨g, j, none⟩ = some (.int .i64 (turnL zs i j)) := c2.1
   have x3 : (wd.setCell ⟨g, i, none⟩ (.int .i64 (turnL zs i j))).cell? ⟨g, j, none⟩ = some (.int .i64 (turnL zs i j)) := by
    rw [c3.1, List.getElem?_set, if_neg (by omega), List.getElem?_map, List.getElem?_range hjn]; rfl
   have f1 := c1.2
   have f2 := c3.2
   obtain ⟨y1, hy1⟩ : ∃ y, y = turnL zs i i := ⟨_, rfl⟩
   obtain ⟨y2, hy2⟩ : ∃ y, y = turnL zs i j := ⟨_, rfl⟩
   rw [← hy1] at x1 HS2 HR2
   rw [← hy2] at x2 x3 HS2 HR2 f2
   have HJ := Lib.hid hj
   clear c1 c2 c3 s1 s2 e9 hy1 hy2 hjz hj hjI HO HO2 HRD HR
   have r1 := fun z : AfterR (Keep2C g g) wd => (World.cell?_of_block (a := ⟨g, i, none⟩) z.rel.1).trans x1
   have r2 := fun z : AfterR (Keep2C g g) wd => (World.cell?_of_block (a := ⟨g, j, none⟩) z.rel.1).trans x2
   go_upto_region 3 with fail
   refine wp_region_eagerRT (Keep2C g g) [(0, true), (1, true), (2, true), (3, true), (4, true), (5, true), (6, true), (7, true), (8, true), (9, true), (10, true), (11, true), (12, true), (13, false), (14, true), (15, false)] (by kernel_rfl) (by kernel_rfl) ?_
   rw [← hwd]
   clear hwd
   repeat (refine eagR_readT rfl ?_; go_big_quiet_step (fail); refine wpQuiet_nil ?_)
   clear r1 r2 hde
   refine eagR_freeT rfl rfl (by kernel_rfl) ?_
   intro K hK
   go_simp
   refine hK _ _ ?_
   clear hK K x1 x2 f1
   go_simp
   generalize wd.setCell ⟨g, i, none⟩ (.int .i64 y2) = w2 at HS2 HR2 x3 f2 ⊢
   repeat (refine eagR_readT rfl ?_; go_big_quiet_step (fail); refine wpQuiet_nil ?_)
   refine eagR_freeT rfl rfl (by kernel_rfl) ?_
   intro K hK
   go_simp
   refine hK _ _ ?_
   clear hK K x3 f2
   go_simp
   refine eagR_endT ?_
   generalize w2.setCell ⟨g, j, none⟩ (.int .i64 y1) = w3 at HS2 HR2 ⊢
   go_wp2_with fail
   go_roundw
   case rel => exact ⟨i + 1, by omega, by go_num, by have := HJ.out; go_num, HS2.out, HR2.out⟩
   case measure => simp [intOf]; omega
  ·have HE : Hid (wr.ownsRow base 3 1 (.slice a n c) n (zs.map (Value.int .i64)).reverse) := by
    have h1 := HO.out
    have h2 := turnL_end zs i (by rw [← HL.out]; omega)
    rw [← HL.out] at h2
    rw [h2, List.map_reverse] at h1
    exact h1
   have hltI : ¬ ((i : Int) < (n : Int) - 1 - i) := by omega
   clear HO
   go_wp2_with fail
   refine bodyPost_end (results_none rfl _ _ _) rfl ?_
   exact ⟨rfl, HE.out, HR.out⟩
/-- neighbours that are left -/
def dgN (n : Nat) (X : Nat → Nat → Bool) (left : Nat → Bool) (r : Nat) : Nat := cntY n fun s => X r s && left s
/-- which were taken, in order, and what is left -/
inductive ElimP (n : Nat) (X : Nat → Nat → Bool) (k : Nat) (left0 : Nat → Bool) : List Nat → (Nat → Bool) → Prop
 | nil : ElimP n X k left0 [] left0
 | snoc (l : List Nat) (left : Nat → Bool) (b : Nat) : ElimP n X k left0 l left → b < n → left b = true → ((∃ r, r < n ∧ left r = true ∧ dgN n X left r < k) → dgN n X left b < k) → ElimP n X k left0 (l ++ [b]) (fun q => if q = b then false else left q)
/-- all were taken -/
def ElimA (n : Nat) (X : Nat → Nat → Bool) (k : Nat) (left0 : Nat → Bool) (l : List Nat) : Prop := ∃ left, ElimP n X k left0 l left ∧ ∀ r, r < n → left r = false
theorem dgN_drop {n : Nat} {X : Nat → Nat → Bool} {left : Nat → Bool} (r : Nat) {b : Nat} (hb : b < n) (hl : left b = true) : dgN n X left r = dgN n X (fun q => if q = b then false else left q) r + if X r b = true then 1 else 0 := by
 have key : ∀ m, cntY m (fun s => X r s && left s) = cntY m (fun s => X r s && (if s = b then false else left s)) + if b < m ∧ X r b = true then 1 else 0 := by
  intro m
  induction m with
  | zero => rw [if_neg (by omega)]; rfl
  | succ m ih =>
   rw [cntY_succ, cntY_succ, ih]
   by_cases e : m = b
   ·subst e
    rw [if_neg (show ¬ (m < m ∧ X r m = true) by omega)]
    cases hx : X r m
    ·simp [hx]
    ·simp [hx, hl]
   ·have e2 : (b < m + 1 ∧ X r b = true) ↔ (b < m ∧ X r b = true) := by constructor <;> (rintro ⟨h1, h2⟩; exact ⟨by omega, h2⟩)
    simp only [e2, e, if_false]
    omega
 have := key n
 unfold dgN
 rw [this]
 by_cases e : X r b = true
 ·rw [if_pos ⟨hb, e⟩, if_pos e]
 ·rw [if_neg (fun h => e h.2), if_neg e]

theorem addE_iff (X : Nat → Nat → Bool) (p q a b : Nat) : addE X p q a b = true ↔ X a b = true ∨ (p ≠ q ∧ p ≠ 0 ∧ q ≠ 0 ∧ ((a = p ∧ b = q) ∨ (a = q ∧ b = p))) := by
 unfold addE
 by_cases h : p ≠ q ∧ p ≠ 0 ∧ q ≠ 0
 ·rw [if_pos h]
  by_cases h2 : (a = p ∧ b = q) ∨ (a = q ∧ b = p)
  ·rw [if_pos h2]; simp only [true_iff]; exact .inr ⟨h.1, h.2.1, h.2.2, h2⟩
  ·rw [if_neg h2]; exact ⟨.inl, fun h3 => h3.elim id fun h4 => absurd h4.2.2.2 h2⟩
 ·rw [if_neg h]; exact ⟨.inl, fun h3 => h3.elim id fun h4 => absurd ⟨h4.1, h4.2.1, h4.2.2.1⟩ h⟩
/-- d is defined where L is live -/
def EdgeD (d exc : Nat) (L : Nat → Bool) (n a b : Nat) : Prop := a ≠ b ∧ a ≠ 0 ∧ b ≠ 0 ∧ ((a = d ∧ b < n ∧ L b = true ∧ b ≠ exc) ∨ (b = d ∧ a < n ∧ L a = true ∧ a ≠ exc))
theorem defE_iff (X : Nat → Nat → Bool) (d exc : Nat) (L : Nat → Bool) (a b : Nat) : ∀ n, defE X d exc L n a b = true ↔ X a b = true ∨ EdgeD d exc L n a b
 | 0 => by
  unfold defE EdgeD
  constructor
  ·exact .inl
  ·rintro (h | ⟨_, _, _, ⟨_, h, _⟩ | ⟨_, h, _⟩⟩)
   ·exact h
   ·omega
   ·omega
 | n + 1 => by
  have ih := defE_iff X d exc L a b n
  unfold defE
  by_cases h : L n = true ∧ n ≠ exc
  ·rw [if_pos h, addE_iff, ih]
   unfold EdgeD
   constructor
   ·rintro ((h1 | ⟨h1, h2, h3, h4⟩) | ⟨h1, h2, h3, ⟨rfl, rfl⟩ | ⟨rfl, rfl⟩⟩)
    ·exact .inl h1
    ·exact .inr ⟨h1, h2, h3, h4.imp (fun h => ⟨h.1, by omega, h.2.2⟩) fun h => ⟨h.1, by omega, h.2.2⟩⟩
    ·exact .inr ⟨h1, h2, h3, .inl ⟨rfl, by omega, h⟩⟩
    ·exact .inr ⟨fun e => h1 e.symm, h3, h2, .inr ⟨rfl, by omega, h⟩⟩
   ·rintro (h1 | ⟨h1, h2, h3, ⟨rfl, h5, h6⟩ | ⟨rfl, h5, h6⟩⟩)
    ·exact .inl (.inl h1)
    ·by_cases e : b = n
     ·subst e; exact .inr ⟨h1, h2, h3, .inl ⟨rfl, rfl⟩⟩
     ·exact .inl (.inr ⟨h1, h2, h3, .inl ⟨rfl, by omega, h6⟩⟩)
    ·by_cases e : a = n
     ·subst e; exact .inr ⟨fun e => h1 e.symm, h3, h2, .inr ⟨rfl, rfl⟩⟩
     ·exact .inl (.inr ⟨h1, h2, h3, .inr ⟨rfl, by omega, h6⟩⟩)
  ·rw [if_neg h, ih]
   unfold EdgeD
   constructor
   ·rintro (h1 | ⟨h1, h2, h3, h4⟩)
    ·exact .inl h1
    ·exact .inr ⟨h1, h2, h3, h4.imp (fun h => ⟨h.1, by omega, h.2.2⟩) fun h => ⟨h.1, by omega, h.2.2⟩⟩
   ·rintro (h1 | ⟨h1, h2, h3, ⟨rfl, h5, h6⟩ | ⟨rfl, h5, h6⟩⟩)
    ·exact .inl h1
    ·exact .inr ⟨h1, h2, h3, .inl ⟨rfl, by rcases Nat.lt_or_ge b n with h7 | h7; exact h7; exact absurd (show b = n by omega) (fun e => h (e ▸ h6)), h6⟩⟩
    ·exact .inr ⟨h1, h2, h3, .inr ⟨rfl, by rcases Nat.lt_or_ge a n with h7 | h7; exact h7; exact absurd (show a = n by omega) (fun e => h (e ▸ h6)), h6⟩⟩
def excN (x : VI) : Nat := if x.op = 100 then x.a.toNat else 0
/-- what is known behind instruction k -/
abbrev atC (n : Nat) (s : CS) (l : List VI) (k : Nat) : CS := (l.drop k).foldr (insC n) s
theorem fold_X (n : Nat) (s : CS) (a b : Nat) : ∀ l : List VI, (l.foldr (insC n) s).X a b = true ↔ s.X a b = true ∨ ∃ (k : Nat) (x : VI), l[k]? = some x ∧ EdgeD (defV x).toNat (excN x) (atC n s l (k + 1)).L n a b
 | [] => ⟨.inl, fun h => h.elim id fun ⟨k, x, h, _⟩ => by simp at h⟩
 | y :: l => by
  have ih := fold_X n s a b l
  show defE (l.foldr (insC n) s).X (defV y).toNat (excN y) (l.foldr (insC n) s).L n a b = true ↔ _
  rw [defE_iff, ih]
  constructor
  ·rintro ((h | ⟨k, x, h1, h2⟩) | h)
   ·exact .inl h
   ·exact .inr ⟨k + 1, x, h1, h2⟩
   ·exact .inr ⟨0, y, rfl, h⟩
  ·rintro (h | ⟨k, x, h1, h2⟩)
   ·exact .inl (.inl h)
   ·cases k with
    | zero => injection h1 with h1; subst h1; exact .inr h2
    | succ k => exact .inl (.inr ⟨k, x, h1, h2⟩)
theorem fold_SL (n : Nat) (s : CS) (r : Nat) : ∀ l : List VI, (l.foldr (insC n) s).SL r = true ↔ s.SL r = true ∨ ∃ (k : Nat) (x : VI), l[k]? = some x ∧ callB x.op = true ∧ r ≠ (defV x).toNat ∧ (atC n s l (k + 1)).L r = true
 | [] => ⟨.inl, fun h => h.elim id fun ⟨k, x, h, _⟩ => by simp at h⟩
 | y :: l => by
  have ih := fold_SL n s r l
  have e : ((y :: l).foldr (insC n) s).SL r = true ↔ (l.foldr (insC n) s).SL r = true ∨ (callB y.op = true ∧ r ≠ (defV y).toNat ∧ (l.foldr (insC n) s).L r = true) := by
   show (insC n y (l.foldr (insC n) s)).SL r = true ↔ _
   unfold insC
   cases hc : callB y.op
   ·simp
   ·by_cases e : r = (defV y).toNat <;> simp [e]
  rw [e, ih]
  constructor
  ·rintro ((h | ⟨k, x, h1, h2⟩) | h)
   ·exact .inl h
   ·exact .inr ⟨k + 1, x, h1, h2⟩
   ·exact .inr ⟨0, y, rfl, h⟩
  ·rintro (h | ⟨k, x, h1, h2⟩)
   ·exact .inl (.inl h)
   ·cases k with
    | zero => injection h1 with h1; subst h1; exact .inr h2
    | succ k => exact .inl (.inr ⟨k, x, h1, h2⟩)
theorem fold_TH (n : Nat) (s : CS) (r : Nat) : ∀ l : List VI, (l.foldr (insC n) s).TH r = true ↔ s.TH r = true ∨ ∃ (k : Nat) (x : VI), l[k]? = some x ∧ (r = (defV x).toNat ∨ r ∈ usesN x)
 | [] => ⟨.inl, fun h => h.elim id fun ⟨k, x, h, _⟩ => by simp at h⟩
 | y :: l => by
  have ih := fold_TH n s r l
  have e : ((y :: l).foldr (insC n) s).TH r = true ↔ (l.foldr (insC n) s).TH r = true ∨ (r = (defV y).toNat ∨ r ∈ usesN y) := by
   show markL (fun r => if r = (defV y).toNat then true else (l.foldr (insC n) s).TH r) (usesN y) r = true ↔ _
   unfold markL
   by_cases e : r = (defV y).toNat <;> by_cases e2 : r ∈ usesN y <;> simp [e, e2]
  rw [e, ih]
  constructor
  ·rintro ((h | ⟨k, x, h1, h2⟩) | h)
   ·exact .inl h
   ·exact .inr ⟨k + 1, x, h1, h2⟩
   ·exact .inr ⟨0, y, rfl, h⟩
  ·rintro (h | ⟨k, x, h1, h2⟩)
   ·exact .inl (.inl h)
   ·cases k with
    | zero => injection h1 with h1; subst h1; exact .inr h2
    | succ k => exact .inl (.inr ⟨k, x, h1, h2⟩)
theorem fits_mem {n : Nat} {x : VI} (h : x.Fits n) (r : Nat) : r ∈ usesN x ↔ (r : Int) ∈ usesV x := by
 unfold usesN
 rw [List.mem_map]
 constructor
 ·rintro ⟨z, h1, h2⟩
  have := h.uses z h1
  rw [← h2, Int.toNat_of_nonneg (by omega)]; exact h1
 ·intro h1
  exact ⟨_, h1, by simp⟩
theorem fits_def {n : Nat} {x : VI} (h : x.Fits n) (r : Nat) : r = (defV x).toNat ↔ (r : Int) = defV x := by have := h.d; omega
theorem fold_L {n : Nat} (s : CS) (r : Nat) : ∀ {l : List VI}, (∀ x ∈ l, x.Fits n) → (l.foldr (insC n) s).L r = l.foldr insF s.L r
 | [], _ => rfl
 | y :: l, h => by
  have ih := fold_L s r (l := l) fun x hx => h x (List.mem_cons_of_mem _ hx)
  have hy := h y List.mem_cons_self
  show markL (fun r => if r = (defV y).toNat then false else (l.foldr (insC n) s).L r) (usesN y) r = insF y (l.foldr insF s.L) r
  have e : insF y (l.foldr insF s.L) r = if (r : Int) ∈ usesV y then true else if (r : Int) = defV y then false else (l.foldr insF s.L) r := rfl
  rw [e, ← ih]
  unfold markL
  by_cases h1 : (r : Int) ∈ usesV y
  ·rw [if_pos h1]; simp [(fits_mem hy r).2 h1]
  ·rw [if_neg h1]
   have h2 : r ∉ usesN y := fun h2 => h1 ((fits_mem hy r).1 h2)
   by_cases h3 : (r : Int) = defV y
   ·rw [if_pos h3]; simp only [if_pos ((fits_def hy r).2 h3)]; simp [h2]
   ·rw [if_neg h3]; simp only [if_neg (fun h4 => h3 ((fits_def hy r).1 h4))]; simp [h2]
/-- the beginning of a block, from its end -/
def startC (b : VB) (l : Nat → Bool) (s : CS) : CS := { s with TH := markL s.TH ((endV b.e).map Int.toNat), L := markL l ((endV b.e).map Int.toNat) }
theorem end_memN {n : Nat} {e : VE} (h : ∀ z ∈ endV e, 1 ≤ z ∧ z < (n : Int)) (r : Nat) : r ∈ (endV e).map Int.toNat ↔ (r : Int) ∈ endV e := by
 rw [List.mem_map]
 constructor
 ·rintro ⟨z, h1, h2⟩
  have := h z h1
  rw [← h2, Int.toNat_of_nonneg (by omega)]; exact h1
 ·intro h1
  exact ⟨_, h1, by simp⟩
theorem alive_L {f : VF} {n nb : Nat} (hok : FnOk f n nb) {XL : Nat → Nat → Bool} (hXL : ∀ i, i < nb → ∀ r, r < n → (XL i r = true ↔ LiveI f i r)) (s : CS) {i : Nat} (hi : i < nb) (k : Nat) {r : Nat} (hr : r < n) :
  (atC n (startC (f.blk i) (aftF (f.blk i).e.to XL) s) (f.blk i).ins k).L r = true ↔ AliveP f i k r := by
 have hib : i < f.blocks.length := by rw [← hok.nbl]; exact hi
 rw [fold_L _ _ fun x hx => hok.fits.ins i hib x (List.mem_of_mem_drop hx)]
 have e0 : (startC (f.blk i) (aftF (f.blk i).e.to XL) s).L r = if (r : Int) ∈ endV (f.blk i).e then true else aftF (f.blk i).e.to XL r := by
  show markL _ _ r = _
  unfold markL
  by_cases h : (r : Int) ∈ endV (f.blk i).e
  ·rw [if_pos h]; simp only [(end_memN (hok.fits.ends i hib) r).2 h, decide_true, Bool.or_true]
  ·rw [if_neg h]
   have : r ∉ (endV (f.blk i).e).map Int.toNat := fun h2 => h ((end_memN (hok.fits.ends i hib) r).1 h2)
   simp only [this, decide_false, Bool.or_false]
 rw [fold_at _ (fun q => if (q : Int) ∈ endV (f.blk i).e then true else aftF (f.blk i).e.to XL q) r _ e0]
 have haf : aftF (f.blk i).e.to XL r = true ↔ ∃ t : Nat, (t : Int) ∈ (f.blk i).e.to ∧ LiveI f t r := by
  unfold aftF
  rw [List.any_eq_true]
  constructor
  ·rintro ⟨t, ht, h⟩
   have htb := hok.fits.tos i hib t ht
   exact ⟨t.toNat, by rw [Int.toNat_of_nonneg htb.1]; exact ht, (hXL t.toNat (by have := hok.nbl; omega) r hr).1 h⟩
  ·rintro ⟨t, ht, h⟩
   have htb := hok.fits.tos i hib _ ht
   exact ⟨_, ht, (hXL t (by have := hok.nbl; omega) r hr).2 h⟩
 unfold AliveP genAt thruAt
 rw [← haf]
 constructor
 ·intro h
  cases hl : aftF (f.blk i).e.to XL r
  ·left
   rw [fold_at _ (fun q => if (q : Int) ∈ endV (f.blk i).e then true else aftF (f.blk i).e.to XL q) r _ (by simp [hl])]
   exact h
  ·right
   refine ⟨?_, rfl⟩
   rw [fold_at _ (fun q => if (q : Int) ∈ endV (f.blk i).e then true else aftF (f.blk i).e.to XL q) r _ (by simp [hl])]
   exact h
 ·rintro (h | ⟨h, hl⟩)
  ·refine fold_mono r _ _ _ ?_ h
   by_cases h9 : (r : Int) ∈ endV (f.blk i).e <;> simp [h9]
  ·rw [fold_at _ (fun q => if (q : Int) ∈ endV (f.blk i).e then true else true) r _ (by simp [hl])]
   exact h
/-- an instruction defines one of a and b where the other is live -/
def ClashI (f : VF) (i k : Nat) (x : VI) (a b : Nat) : Prop := ((defV x = a ∧ ¬ (x.op = 100 ∧ x.a = b)) ∧ AliveP f i (k + 1) b) ∨ ((defV x = b ∧ ¬ (x.op = 100 ∧ x.a = a)) ∧ AliveP f i (k + 1) a)
def ClashB (f : VF) (nb a b : Nat) : Prop := ∃ i, i < nb ∧ ∃ (k : Nat) (x : VI), (f.blk i).ins[k]? = some x ∧ ClashI f i k x a b
def ClashP (f : VF) (nb a b : Nat) : Prop := (((a : Int) ∈ f.params ∧ (b : Int) ∈ f.params) ∨ ((a : Int) ∈ f.params ∧ LiveI f 0 b) ∨ ((b : Int) ∈ f.params ∧ LiveI f 0 a)) ∨ ClashB f nb a b
def KeptP (f : VF) (nb r : Nat) : Prop := ∃ i, i < nb ∧ ∃ (k : Nat) (x : VI), (f.blk i).ins[k]? = some x ∧ callB x.op = true ∧ (r : Int) ≠ defV x ∧ AliveP f i (k + 1) r
def OccB (f : VF) (nb r : Nat) : Prop := ∃ i, i < nb ∧ ((∃ (k : Nat) (x : VI), (f.blk i).ins[k]? = some x ∧ ((r : Int) = defV x ∨ (r : Int) ∈ usesV x)) ∨ (r : Int) ∈ endV (f.blk i).e)
section
variable {f : VF} {n nb : Nat} {XL : Nat → Nat → Bool}
theorem edge_iff (hok : FnOk f n nb) (hXL : ∀ i, i < nb → ∀ r, r < n → (XL i r = true ↔ LiveI f i r)) (s : CS) {i : Nat} (hi : i < nb) {k : Nat} {x : VI} (hx : (f.blk i).ins[k]? = some x) {a b : Nat} (ha : 1 ≤ a ∧ a < n) (hb : 1 ≤ b ∧ b < n) (hab : a ≠ b) :
  EdgeD (defV x).toNat (excN x) (atC n (startC (f.blk i) (aftF (f.blk i).e.to XL) s) (f.blk i).ins (k + 1)).L n a b ↔ ClashI f i k x a b := by
 have hib : i < f.blocks.length := by rw [← hok.nbl]; exact hi
 have hf := hok.fits.ins i hib x (List.mem_of_getElem? hx)
 have h1 := alive_L hok hXL s hi (k + 1) ha.2
 have h2 := alive_L hok hXL s hi (k + 1) hb.2
 have hex : ∀ r : Nat, 1 ≤ r → (r ≠ excN x ↔ ¬ (x.op = 100 ∧ x.a = r)) := fun r hr => by
  unfold excN
  have := hf.a
  by_cases e : x.op = 100
  ·rw [if_pos e]
   constructor
   ·rintro h3 ⟨_, h4⟩; omega
   ·intro h3 h4; exact h3 ⟨e, by omega⟩
  ·rw [if_neg e]
   exact ⟨fun _ h => e h.1, fun _ => by omega⟩
 have hda := fits_def hf a
 have hdb := fits_def hf b
 unfold EdgeD ClashI
 rw [h1, h2, hda, hdb, hex a ha.1, hex b hb.1]
 constructor
 ·rintro ⟨_, _, _, ⟨h3, _, h4, h5⟩ | ⟨h3, _, h4, h5⟩⟩
  ·exact .inl ⟨⟨h3.symm, h5⟩, h4⟩
  ·exact .inr ⟨⟨h3.symm, h5⟩, h4⟩
 ·rintro (⟨⟨h3, h5⟩, h4⟩ | ⟨⟨h3, h5⟩, h4⟩)
  ·exact ⟨hab, by omega, by omega, .inl ⟨h3.symm, hb.2, h4, h5⟩⟩
  ·exact ⟨hab, by omega, by omega, .inr ⟨h3.symm, ha.2, h4, h5⟩⟩
theorem blksC_X (hok : FnOk f n nb) (hXL : ∀ i, i < nb → ∀ r, r < n → (XL i r = true ↔ LiveI f i r)) {a b : Nat} (ha : 1 ≤ a ∧ a < n) (hb : 1 ≤ b ∧ b < n) (hab : a ≠ b) : ∀ m, m ≤ nb → ((blksC n f (fun i => aftF (f.blk i).e.to XL) m).X a b = true ↔ ClashB f m a b)
 | 0, _ => ⟨fun h => (by cases h), fun ⟨i, hi, _⟩ => absurd hi (Nat.not_lt_zero _)⟩
 | m + 1, hm => by
  have ih := blksC_X hok hXL ha hb hab m (by omega)
  obtain ⟨s, hs⟩ : ∃ s, s = blksC n f (fun i => aftF (f.blk i).e.to XL) m := ⟨_, rfl⟩
  have e : (blksC n f (fun i => aftF (f.blk i).e.to XL) (m + 1)).X a b = ((f.blk m).ins.foldr (insC n) (startC (f.blk m) (aftF (f.blk m).e.to XL) s)).X a b := by rw [hs]; rfl
  rw [← hs] at ih
  rw [e, fold_X]
  have e2 : (startC (f.blk m) (aftF (f.blk m).e.to XL) s).X a b = s.X a b := rfl
  rw [e2, ih]
  constructor
  ·rintro (⟨i, hi, h⟩ | ⟨k, x, h1, h2⟩)
   ·exact ⟨i, by omega, h⟩
   ·exact ⟨m, by omega, k, x, h1, (edge_iff hok hXL s (by omega) h1 ha hb hab).1 h2⟩
  ·rintro ⟨i, hi, k, x, h1, h2⟩
   by_cases e : i = m
   ·subst e; exact .inr ⟨k, x, h1, (edge_iff hok hXL s (by omega) h1 ha hb hab).2 h2⟩
   ·exact .inl ⟨i, by omega, k, x, h1, h2⟩
theorem blksC_SL (hok : FnOk f n nb) (hXL : ∀ i, i < nb → ∀ r, r < n → (XL i r = true ↔ LiveI f i r)) {r : Nat} (hr : r < n) : ∀ m, m ≤ nb → ((blksC n f (fun i => aftF (f.blk i).e.to XL) m).SL r = true ↔ KeptP f m r)
 | 0, _ => ⟨fun h => (by cases h), fun ⟨i, hi, _⟩ => absurd hi (Nat.not_lt_zero _)⟩
 | m + 1, hm => by
  have ih := blksC_SL hok hXL hr m (by omega)
  obtain ⟨s, hs⟩ : ∃ s, s = blksC n f (fun i => aftF (f.blk i).e.to XL) m := ⟨_, rfl⟩
  have e : (blksC n f (fun i => aftF (f.blk i).e.to XL) (m + 1)).SL r = ((f.blk m).ins.foldr (insC n) (startC (f.blk m) (aftF (f.blk m).e.to XL) s)).SL r := by rw [hs]; rfl
  rw [← hs] at ih
  rw [e, fold_SL]
  have e2 : (startC (f.blk m) (aftF (f.blk m).e.to XL) s).SL r = s.SL r := rfl
  rw [e2, ih]
  have hmb : m < f.blocks.length := by rw [← hok.nbl]; omega
  constructor
  ·rintro (⟨i, hi, h⟩ | ⟨k, x, h1, h2, h3, h4⟩)
   ·exact ⟨i, by omega, h⟩
   ·exact ⟨m, by omega, k, x, h1, h2, fun h => h3 ((fits_def (hok.fits.ins m hmb x (List.mem_of_getElem? h1)) r).2 h), (alive_L hok hXL s (by omega) (k + 1) hr).1 h4⟩
  ·rintro ⟨i, hi, k, x, h1, h2, h3, h4⟩
   by_cases e : i = m
   ·subst e; exact .inr ⟨k, x, h1, h2, fun h => h3 ((fits_def (hok.fits.ins i hmb x (List.mem_of_getElem? h1)) r).1 h), (alive_L hok hXL s (by omega) (k + 1) hr).2 h4⟩
   ·exact .inl ⟨i, by omega, k, x, h1, h2, h3, h4⟩
theorem blksC_TH (hok : FnOk f n nb) {XL : Nat → Nat → Bool} (r : Nat) : ∀ m, m ≤ nb → ((blksC n f (fun i => aftF (f.blk i).e.to XL) m).TH r = true ↔ OccB f m r)
 | 0, _ => ⟨fun h => (by cases h), fun ⟨i, hi, _⟩ => absurd hi (Nat.not_lt_zero _)⟩
 | m + 1, hm => by
  have ih := blksC_TH hok (XL := XL) r m (by omega)
  obtain ⟨s, hs⟩ : ∃ s, s = blksC n f (fun i => aftF (f.blk i).e.to XL) m := ⟨_, rfl⟩
  have e : (blksC n f (fun i => aftF (f.blk i).e.to XL) (m + 1)).TH r = ((f.blk m).ins.foldr (insC n) (startC (f.blk m) (aftF (f.blk m).e.to XL) s)).TH r := by rw [hs]; rfl
  rw [← hs] at ih
  rw [e, fold_TH]
  have hmb : m < f.blocks.length := by rw [← hok.nbl]; omega
  have e2 : (startC (f.blk m) (aftF (f.blk m).e.to XL) s).TH r = true ↔ s.TH r = true ∨ (r : Int) ∈ endV (f.blk m).e := by
   show markL _ _ r = true ↔ _
   unfold markL
   rw [Bool.or_eq_true, decide_eq_true_eq, end_memN (hok.fits.ends m hmb)]
  rw [e2, ih]
  constructor
  ·rintro ((⟨i, hi, h⟩ | h) | ⟨k, x, h1, h2⟩)
   ·exact ⟨i, by omega, h⟩
   ·exact ⟨m, by omega, .inr h⟩
   ·have hf := hok.fits.ins m hmb x (List.mem_of_getElem? h1)
    exact ⟨m, by omega, .inl ⟨k, x, h1, h2.imp (fits_def hf r).1 (fits_mem hf r).1⟩⟩
  ·rintro ⟨i, hi, h⟩
   by_cases e : i = m
   ·subst e
    rcases h with ⟨k, x, h1, h2⟩ | h
    ·have hf := hok.fits.ins i hmb x (List.mem_of_getElem? h1)
     exact .inr ⟨k, x, h1, h2.imp (fits_def hf r).2 (fits_mem hf r).2⟩
    ·exact .inl (.inr h)
   ·exact .inl (.inl ⟨i, by omega, h⟩)
theorem foldA_iff (p a b : Nat) : ∀ (l : List Nat) (X : Nat → Nat → Bool), l.foldl (fun Y s => addE Y p s) X a b = true ↔ X a b = true ∨ ∃ s ∈ l, (p ≠ s ∧ p ≠ 0 ∧ s ≠ 0 ∧ ((a = p ∧ b = s) ∨ (a = s ∧ b = p)))
 | [], X => ⟨.inl, fun h => h.elim id fun ⟨s, h, _⟩ => by cases h⟩
 | q :: l, X => by
  rw [List.foldl_cons, foldA_iff p a b l, addE_iff]
  constructor
  ·rintro ((h | h) | ⟨s, h1, h2⟩)
   ·exact .inl h
   ·exact .inr ⟨q, List.mem_cons_self, h⟩
   ·exact .inr ⟨s, List.mem_cons_of_mem _ h1, h2⟩
  ·rintro (h | ⟨s, h1, h2⟩)
   ·exact .inl (.inl h)
   ·rcases List.mem_cons.1 h1 with e | h1
    ·subst e; exact .inl (.inr h2)
    ·exact .inr ⟨s, h1, h2⟩
theorem parX_iff (n : Nat) (ps : List Nat) (L0 : Nat → Bool) (X : Nat → Nat → Bool) {a b : Nat} (ha : 1 ≤ a ∧ a < n) (hb : 1 ≤ b ∧ b < n) (hab : a ≠ b) (hps : ∀ p ∈ ps, 1 ≤ p) : ∀ k, k ≤ ps.length → (parX n ps L0 X k a b = true ↔
  X a b = true ∨ (a ∈ ps.take k ∧ b ∈ ps.take k) ∨ (a ∈ ps.take k ∧ L0 b = true) ∨ (b ∈ ps.take k ∧ L0 a = true))
 | 0, _ => by
  simp only [List.take_zero, List.not_mem_nil, false_and, or_false]
  exact Iff.rfl
 | k + 1, hk => by
  have ih := parX_iff n ps L0 X ha hb hab hps k (by omega)
  have hkl : k < ps.length := by omega
  obtain ⟨p, hp⟩ : ∃ p, p = ps[k] := ⟨_, rfl⟩
  have hg : ps.getD k 0 = p := by rw [List.getD_eq_getElem?_getD, List.getElem?_eq_getElem hkl, hp]; rfl
  have ht : ps.take (k + 1) = ps.take k ++ [p] := by rw [hp]; exact List.take_succ_eq_append_getElem hkl
  have hp1 : 1 ≤ p := hps p (by rw [hp]; exact List.getElem_mem _)
  show defE ((ps.take k).foldl (fun Y s => addE Y (ps.getD k 0) s) (parX n ps L0 X k)) (ps.getD k 0) 0 L0 n a b = true ↔ _
  rw [hg, ht, defE_iff, foldA_iff, ih]
  simp only [List.mem_append, List.mem_singleton]
  unfold EdgeD
  constructor
  ·rintro (((h | h | h | h) | ⟨s, hs, h1, h2, h3, ⟨rfl, rfl⟩ | ⟨rfl, rfl⟩⟩) | ⟨h1, h2, h3, ⟨rfl, h4, h5, h6⟩ | ⟨rfl, h4, h5, h6⟩⟩)
   ·exact .inl h
   ·exact .inr (.inl ⟨.inl h.1, .inl h.2⟩)
   ·exact .inr (.inr (.inl ⟨.inl h.1, h.2⟩))
   ·exact .inr (.inr (.inr ⟨.inl h.1, h.2⟩))
   ·exact .inr (.inl ⟨.inr rfl, .inl hs⟩)
   ·exact .inr (.inl ⟨.inl hs, .inr rfl⟩)
   ·exact .inr (.inr (.inl ⟨.inr rfl, h5⟩))
   ·exact .inr (.inr (.inr ⟨.inr rfl, h5⟩))
  ·rintro (h | ⟨h1 | h1, h2 | h2⟩ | ⟨h1 | h1, h2⟩ | ⟨h1 | h1, h2⟩)
   ·exact .inl (.inl (.inl h))
   ·exact .inl (.inl (.inr (.inl ⟨h1, h2⟩)))
   ·subst h2; exact .inl (.inr ⟨a, h1, fun e => hab e.symm, by omega, by omega, .inr ⟨rfl, rfl⟩⟩)
   ·subst h1; exact .inl (.inr ⟨b, h2, hab, by omega, by omega, .inl ⟨rfl, rfl⟩⟩)
   ·omega
   ·exact .inl (.inl (.inr (.inr (.inl ⟨h1, h2⟩))))
   ·subst h1; exact .inr ⟨hab, by omega, by omega, .inl ⟨rfl, hb.2, h2, by omega⟩⟩
   ·exact .inl (.inl (.inr (.inr (.inr ⟨h1, h2⟩))))
   ·subst h1; exact .inr ⟨hab, by omega, by omega, .inr ⟨rfl, ha.2, h2, by omega⟩⟩
theorem par_mem (hok : FnOk f n nb) (r : Nat) : r ∈ f.params.map Int.toNat ↔ (r : Int) ∈ f.params := by
 rw [List.mem_map]
 constructor
 ·rintro ⟨z, h1, h2⟩
  have := hok.par z h1
  rw [← h2, Int.toNat_of_nonneg (by omega)]; exact h1
 ·intro h1
  exact ⟨_, h1, by simp⟩
/-- what the graph's rows say -/
theorem graph_X (hok : FnOk f n nb) (hp : f.params.length = f.pn) (hXL : ∀ i, i < nb → ∀ r, r < n → (XL i r = true ↔ LiveI f i r)) {a b : Nat} (ha : 1 ≤ a ∧ a < n) (hb : 1 ≤ b ∧ b < n) (hab : a ≠ b) :
  parX n (f.params.map Int.toNat) (XL 0) (blksC n f (fun i => aftF (f.blk i).e.to XL) nb).X f.pn a b = true ↔ ClashP f nb a b := by
 have hl : (f.params.map Int.toNat).length = f.pn := by simpa using hp
 rw [parX_iff n _ _ _ ha hb hab (fun p hp => by
  obtain ⟨z, h1, h2⟩ := List.mem_map.1 hp
  have := hok.par z h1
  omega) f.pn (by omega), blksC_X hok hXL ha hb hab nb (Nat.le_refl _), List.take_of_length_le (by omega), par_mem hok, par_mem hok, hXL 0 hok.nb2.1 a ha.2, hXL 0 hok.nb2.1 b hb.2]
 unfold ClashP
 constructor
 ·rintro (h | h)
  ·exact .inr h
  ·exact .inl h
 ·rintro (h | h)
  ·exact .inr h
  ·exact .inl h
theorem clashI_symm {i k : Nat} {x : VI} {a b : Nat} (h : ClashI f i k x a b) : ClashI f i k x b a := h.symm
theorem clash_symm {a b : Nat} (h : ClashP f nb a b) : ClashP f nb b a := by
 rcases h with (h | h | h) | ⟨i, hi, k, x, h1, h2⟩
 ·exact .inl (.inl h.symm)
 ·exact .inl (.inr (.inr h))
 ·exact .inl (.inr (.inl h))
 ·exact .inr ⟨i, hi, k, x, h1, h2.symm⟩
def OccP (f : VF) (nb r : Nat) : Prop := (r : Int) ∈ f.params ∨ OccB f nb r
theorem graph_TH (hok : FnOk f n nb) {r : Nat} (hr : 1 ≤ r) : (fun r => if r = 0 then false else markL (blksC n f (fun i => aftF (f.blk i).e.to XL) nb).TH (f.params.map Int.toNat) r) r = true ↔ OccP f nb r := by
 simp only
 rw [if_neg (by omega)]
 unfold markL OccP
 rw [Bool.or_eq_true, decide_eq_true_eq, blksC_TH hok r nb (Nat.le_refl _), par_mem hok]
 exact Or.comm
end

structure SymZ (X : Nat → Nat → Bool) : Prop where
 sym : ∀ i j, X i j = X j i
 diag : ∀ i, X i i = false
 zero : ∀ i, X i 0 = false
theorem SymZ.none : SymZ fun _ _ => false := ⟨fun _ _ => rfl, fun _ => rfl, fun _ => rfl⟩
theorem SymZ.add {X : Nat → Nat → Bool} (h : SymZ X) (a b : Nat) : SymZ (addE X a b) := by
 refine ⟨fun i j => ?_, fun i => ?_, fun i => ?_⟩
 ·refine Bool.eq_iff_iff.2 ?_
  rw [addE_iff, addE_iff, h.sym i j]
  constructor
  ·rintro (h1 | ⟨h1, h2, h3, h4⟩)
   ·exact .inl h1
   ·exact .inr ⟨h1, h2, h3, by omega⟩
  ·rintro (h1 | ⟨h1, h2, h3, h4⟩)
   ·exact .inl h1
   ·exact .inr ⟨h1, h2, h3, by omega⟩
 ·refine Bool.eq_false_iff.2 fun h1 => ?_
  rcases (addE_iff X a b i i).1 h1 with h2 | ⟨h2, h3, h4, h5⟩
  ·rw [h.diag i] at h2; cases h2
  ·omega
 ·refine Bool.eq_false_iff.2 fun h1 => ?_
  rcases (addE_iff X a b i 0).1 h1 with h2 | ⟨h2, h3, h4, h5⟩
  ·rw [h.zero i] at h2; cases h2
  ·omega
theorem SymZ.defs {X : Nat → Nat → Bool} (h : SymZ X) (d exc : Nat) (L : Nat → Bool) : ∀ k, SymZ (defE X d exc L k)
 | 0 => h
 | k + 1 => by
  unfold defE
  split
  ·exact (SymZ.defs h d exc L k).add d k
  ·exact SymZ.defs h d exc L k
theorem SymZ.fold {n : Nat} {s : CS} (h : SymZ s.X) : ∀ l : List VI, SymZ (l.foldr (insC n) s).X
 | [] => h
 | y :: l => (SymZ.fold h l).defs _ _ _ _
theorem SymZ.blks (n : Nat) (f : VF) (EL : Nat → Nat → Bool) : ∀ k, SymZ (blksC n f EL k).X
 | 0 => SymZ.none
 | k + 1 => SymZ.fold (s := { blksC n f EL k with TH := markL (blksC n f EL k).TH ((endV (f.blk k).e).map Int.toNat), L := markL (EL k) ((endV (f.blk k).e).map Int.toNat) }) (SymZ.blks n f EL k) (f.blk k).ins
theorem SymZ.adds (p : Nat) : ∀ (l : List Nat) {X : Nat → Nat → Bool}, SymZ X → SymZ (l.foldl (fun Y s => addE Y p s) X)
 | [], _, h => h
 | q :: l, _, h => SymZ.adds p l (h.add p q)
theorem SymZ.par (n : Nat) (ps : List Nat) (L0 : Nat → Bool) {X : Nat → Nat → Bool} (h : SymZ X) : ∀ k, SymZ (parX n ps L0 X k)
 | 0 => h
 | k + 1 => (SymZ.adds _ _ (SymZ.par n ps L0 h k)).defs _ _ _ _
theorem SymZ.kinv {n : Nat} {X : Nat → Nat → Bool} (h : SymZ X) (TH : Nat → Bool) : KInv n (startK X TH) :=
 ⟨fun i j _ _ => h.sym i j, fun i _ => h.diag i, fun i _ => h.zero i, fun r _ h => h, _, CR.id n⟩
theorem foldC_mem (n : Nat) (s : CS) {m : Int × Int} : ∀ l : List VI, m ∈ (l.foldr (insC n) s).mv → m ∈ s.mv ∨ ∃ (k : Nat) (x : VI), l[k]? = some x ∧ (x.op = 100 ∧ x.a ≠ 0 ∧ defV x ≠ 0 ∧ x.a ≠ defV x) ∧ m = (defV x, x.a)
 | [], h => .inl h
 | y :: l, h => by
  have h1 : m ∈ (if y.op = 100 ∧ y.a ≠ 0 ∧ defV y ≠ 0 ∧ y.a ≠ defV y then (l.foldr (insC n) s).mv ++ [(defV y, y.a)] else (l.foldr (insC n) s).mv) := h
  split at h1
  ·rename_i hc
   rcases List.mem_append.1 h1 with h2 | h2
   ·exact (foldC_mem n s l h2).imp id fun ⟨k, x, h3, h4⟩ => ⟨k + 1, x, h3, h4⟩
   ·exact .inr ⟨0, y, rfl, hc, List.mem_singleton.1 h2⟩
  ·exact (foldC_mem n s l h1).imp id fun ⟨k, x, h3, h4⟩ => ⟨k + 1, x, h3, h4⟩
theorem blksC_mem (n : Nat) (f : VF) (EL : Nat → Nat → Bool) {m : Int × Int} : ∀ nb, m ∈ (blksC n f EL nb).mv → ∃ i, i < nb ∧ ∃ (k : Nat) (x : VI), (f.blk i).ins[k]? = some x ∧ (x.op = 100 ∧ x.a ≠ 0 ∧ defV x ≠ 0 ∧ x.a ≠ defV x) ∧ m = (defV x, x.a)
 | 0, h => by cases h
 | k + 1, h => by
  rcases foldC_mem n { blksC n f EL k with TH := markL (blksC n f EL k).TH ((endV (f.blk k).e).map Int.toNat), L := markL (EL k) ((endV (f.blk k).e).map Int.toNat) } (f.blk k).ins h with h1 | ⟨j, x, h1⟩
  ·obtain ⟨i, hi, h2⟩ := blksC_mem n f EL k h1
   exact ⟨i, by omega, h2⟩
  ·exact ⟨k, by omega, j, x, h1⟩
section
variable {f : VF} {n nb : Nat}
theorem moves_ok (hok : FnOk f n nb) (EL : Nat → Nat → Bool) : ∀ m ∈ (blksC n f EL nb).mv, MvOk n m := fun m hm => by
 obtain ⟨i, hi, k, x, h1, ⟨h2, h3, h4, h5⟩, rfl⟩ := blksC_mem n f EL nb hm
 have hf := hok.fits.ins i (by rw [← hok.nbl]; exact hi) x (List.mem_of_getElem? h1)
 have h6 := hf.a
 have h7 := hf.d
 exact ⟨⟨by omega, h7.2⟩, by omega, h6.2⟩
/-- a move's registers occur -/
theorem moves_occ (hok : FnOk f n nb) (EL : Nat → Nat → Bool) : ∀ m ∈ (blksC n f EL nb).mv, OccB f nb m.1.toNat ∧ OccB f nb m.2.toNat := fun m hm => by
 obtain ⟨i, hi, k, x, h1, ⟨h2, h3, h4, h5⟩, rfl⟩ := blksC_mem n f EL nb hm
 have hf := hok.fits.ins i (by rw [← hok.nbl]; exact hi) x (List.mem_of_getElem? h1)
 have h6 := hf.a
 have h7 := hf.d
 refine ⟨⟨i, hi, .inl ⟨k, x, h1, .inl ?_⟩⟩, i, hi, .inl ⟨k, x, h1, .inr ?_⟩⟩
 ·exact Int.toNat_of_nonneg h7.1
 ·show ((x.a.toNat : Nat) : Int) ∈ usesV x
  rw [Int.toNat_of_nonneg h6.1]
  unfold usesV nz
  rw [List.mem_filter]
  exact ⟨List.mem_cons_self, by simpa using h3⟩
end
/-- the registers are given out in order -/
inductive RegRun (n : Nat) (X : Nat → Nat → Bool) (k : Nat) : List Nat → (Nat → Int) → Prop
 | nil : RegRun n X k [] (fun _ => -1)
 | snoc (l : List Nat) (R : Nat → Int) (r m : Nat) : RegRun n X k l R → r < n → IsLeast n (X r) 1 R m → RegRun n X k (l ++ [r]) (fun q => if q = r ∧ m ≤ k then (m : Int) else R q)
/-- the slots are given out -/
inductive SlotRun (n : Nat) (X : Nat → Nat → Bool) (TH : Nat → Bool) (R : Nat → Int) : Nat → (Nat → Int) → Int → Prop
 | zero : SlotRun n X TH R 0 (fun _ => -1) 0
 | skip (r : Nat) (S : Nat → Int) (K : Int) : SlotRun n X TH R r S K → ¬ (TH r = true ∧ R r < 0) → SlotRun n X TH R (r + 1) S K
 | put (r : Nat) (S : Nat → Int) (K : Int) (m : Nat) : SlotRun n X TH R r S K → TH r = true → R r < 0 → IsLeast n (X r) 0 S m → SlotRun n X TH R (r + 1) (fun q => if q = r then (m : Int) else S q) (max K ((m : Int) + 1))
/-- an allocation that was made by colouring a graph -/
structure ColorA (n k : Nat) (SL : Nat → Bool) (s : KS) (reg slot : Nat → Int) (K : Int) : Prop where
 run : ∃ (l : List Nat) (R S : Nat → Int), ElimA n s.X k (fun r => s.TH r && !SL r) l.reverse ∧ RegRun n s.X k l R ∧ SlotRun n s.X s.TH R n S K ∧ (∀ r, r < n → reg r = R (s.rep r)) ∧ ∀ r, r < n → slot r = S (s.rep r)
theorem RegRun.bd {n k : Nat} {X : Nat → Nat → Bool} {l : List Nat} {R : Nat → Int} (h : RegRun n X k l R) : ∀ r, R r = -1 ∨ (1 ≤ R r ∧ R r ≤ k ∧ r < n) := by
 induction h with
 | nil => exact fun _ => .inl rfl
 | snoc l R r m _ hr hm ih =>
  intro q
  dsimp only
  by_cases e : q = r ∧ m ≤ k
  ·rw [if_pos e]; have := hm.1; exact .inr ⟨by omega, by omega, by omega⟩
  ·rw [if_neg e]; exact ih q
theorem SlotRun.bd {n : Nat} {X : Nat → Nat → Bool} {TH : Nat → Bool} {R : Nat → Int} {j : Nat} {S : Nat → Int} {K : Int} (h : SlotRun n X TH R j S K) : (0 ≤ K ∧ K ≤ n + 1) ∧ ∀ r, S r = -1 ∨ (0 ≤ S r ∧ S r < K ∧ S r ≤ n ∧ r < j) := by
 induction h with
 | zero => exact ⟨⟨by omega, by omega⟩, fun _ => .inl rfl⟩
 | skip r S K _ _ ih =>
  exact ⟨ih.1, fun q => (ih.2 q).imp id fun h => ⟨h.1, h.2.1, h.2.2.1, by omega⟩⟩
 | put r S K m _ _ _ hm ih =>
  have h1 := held_le hm.2.2
  have h2 := cntY_le n (X r)
  refine ⟨⟨by omega, by omega⟩, fun q => ?_⟩
  dsimp only
  by_cases e : q = r
  ·rw [if_pos e]; exact .inr ⟨by omega, by omega, by omega, by omega⟩
  ·rw [if_neg e]
   exact (ih.2 q).imp id fun h => ⟨h.1, by omega, h.2.2.1, by omega⟩
end Go.Proofs.YtdnpoomagjcpfaaGreat
