/- linear's free. -/
import Derived.Test.YtlcnbihfpjhffaaScanC
namespace Go.Proofs.Ytlcnbihfpjhffaa
open Go.RowKit
set_option linter.unusedVariables false
set_option linter.unusedSimpArgs false

set_option maxRecDepth 100000 in
set_option maxHeartbeats 4000000 in
theorem same_any (w0 w : World) (n sb rb tb : Nat) (aa : Option Addr) (ac : Nat) (ca : Option Addr) (cc : Nat) (s : LS) (h : ScM w0 w n sb rb tb aa ac ca cc s) (sp np : Nat) (m : Int) (hsp : Blk w sp 93 [.pointer (some ⟨sb, 0, none⟩)]) (hnp : Blk w np 3 [.int .i64 m]) (y : RG) (r : Nat) (hyr : y.r = (r : Int)) (hr : r < n) (hn : n ≤ 8192) :
  Calls Try.prog 75 #[rgV y, .pointer (some ⟨sp, 0, none⟩), .pointer (some ⟨np, 0, none⟩)] w (GonePost (s.R y.r == m) w) := by
 have hb : Below w.heap.size w (w.alloc (.cells (rgC y).toArray 97)) := (Below.refl _ _).alloc (Nat.le_refl _) _
 obtain ⟨yr, yb, ye, ys⟩ := y
 simp only at hyr
 subst hyr
 have HB := Lib.hid hb
 have HS := Lib.hid (h.below hb)
 have HSP := Lib.hid (hsp.below hb (Blk.lt hsp))
 have HNP := Lib.hid (hnp.below hb (Blk.lt hnp))
 have HY : Hid (Blk (w.alloc (.cells (rgC ⟨(r : Int), yb, ye, ys⟩).toArray 97)) w.heap.size 97 (rgC ⟨(r : Int), yb, ye, ys⟩)) := Blk.new w _ _
 unfold rgV
 clear h hsp hnp hb
 go_enter Try.func75, Try.ntmps75
 go_upto_region 1 with fail
 change Code.wp _ _ _ _ (w.alloc (.cells (rgC ⟨(r : Int), yb, ye, ys⟩).toArray 97))
 obtain ⟨yp, hyp⟩ : ∃ yp, yp = w.heap.size := ⟨_, rfl⟩
 rw [← hyp] at HY ⊢
 clear hyp
 generalize w.alloc (.cells (rgC ⟨(r : Int), yb, ye, ys⟩).toArray 97) = w1 at HB HS HSP HNP HY ⊢
 have k0 := HS.out.box.cell 0
 have k1 := HSP.out.cell 0
 have k2 := HNP.out.cell 0
 have k3 := HY.out.cell 0
 simp only [rgC, List.getElem?_cons_zero, List.getElem?_cons_succ] at k0 k1 k2 k3
 have k4 := Blk.row HS.out.reg hr
 have l0 := Blk.lt HS.out.box
 have l1 := Blk.lt HSP.out
 have l2 := Blk.lt HNP.out
 have l3 := Blk.lt HY.out
 have l4 := Blk.lt HS.out.reg
 have q0 := fun z : After w1.heap.size w1.drew => (z.below.cell (p := ⟨sb, 0, none⟩) l0).trans k0
 have q1 := fun z : After w1.heap.size w1.drew => (z.below.cell (p := ⟨sp, 0, none⟩) l1).trans k1
 have q2 := fun z : After w1.heap.size w1.drew => (z.below.cell (p := ⟨np, 0, none⟩) l2).trans k2
 have q3 := fun z : After w1.heap.size w1.drew => (z.below.cell (p := ⟨yp, 0, none⟩) l3).trans k3
 have q4 := fun z : After w1.heap.size w1.drew => (z.below.cell (p := ⟨rb, r, none⟩) l4).trans k4
 have hri : (r : Int) < (n : Int) := by omega
 have HB2 : Hid (Below w.heap.size w w1.drew) := HB.out.drew
 clear k0 k1 k2 k3 k4
 refine wp_region_eager w1.heap.size [(0, true), (1, true), (2, true), (3, true), (4, true), (5, true), (6, true), (7, true), (8, true), (9, true), (10, true), (11, true)] (by kernel_rfl) (by kernel_rfl) ?_
 repeat (refine eag_read rfl ?_; go_big_quiet_step (fail); refine wpQuiet_nil ?_)
 refine eag_end ?_
 clear q0 q1 q2 q3 q4
 go_wp2_with fail
 go_ret
 exact ⟨rfl, HB2.out⟩
def HasPost (p : RG → Bool) (xs : List RG) (w : World) (e : Ending) (w' : World) : Prop := ∃ b : Bool, e = .returned (.bool b) ∧ (b = true ↔ ∃ y ∈ xs, p y = true) ∧ Below w.heap.size w w'
set_option maxRecDepth 100000 in
set_option maxHeartbeats 4000000 in
theorem contains_same (w : World) (base : Nat) (a : Option Addr) (c n : Nat) (xs : List RG) (h : RgRow w base a c xs) (hn : n = xs.length) (hn2 : n ≤ 10000) (sp np : Nat) (p : RG → Bool)
  (hc : ∀ wx x, x ∈ xs → Below w.heap.size w wx → Calls Try.prog 75 #[rgV x, .pointer (some ⟨sp, 0, none⟩), .pointer (some ⟨np, 0, none⟩)] wx (GonePost (p x) wx)) :
  Calls Try.prog 74 #[.slice a n c, .func (.func 75) #[] #[.pointer (some ⟨sp, 0, none⟩), .pointer (some ⟨np, 0, none⟩)]] w (HasPost p xs w) := by
 have HIX := Lib.hid (ixf_same w base a c n xs h hn hn2 sp np p hc)
 clear h hn hc
 go_enter Try.func74, Try.ntmps74
 go_wp2_with fail
 refine HIX.out.mono ?_
 rintro e w1 ⟨i, rfl, hi, hb1⟩
 have HB1 := Lib.hid hb1
 have HI := Lib.hid hi
 clear hb1 hi HIX
 by_cases hz : i < 0
 ·have HN : Hid ¬ ∃ y ∈ xs, p y = true := by
   rintro ⟨y, hy, h9⟩
   obtain ⟨j, hj, rfl⟩ := List.getElem_of_mem hy
   have := (HI.out.none hz).2 j hj
   rw [h9] at this
   cases this
  have q1 : decide (0 ≤ i) = false := by simp; omega
  have HQ : Hid (Value.bool (decide (0 ≤ i)) = .bool false) := by rw [q1]; rfl
  go_wp2_with fail
  go_ret
  exact ⟨false, by first | rfl | (rw [q1]; rfl), ⟨fun h => (by cases h), fun h => (HN.out h).elim⟩, HB1.out⟩
 ·have HY : Hid (∃ y ∈ xs, p y = true) := by
   obtain ⟨k, rfl⟩ : ∃ k : Nat, i = k := ⟨i.toNat, by omega⟩
   obtain ⟨h1, h2, _⟩ := HI.out.some k rfl
   exact ⟨xs[k], List.getElem_mem _, h2⟩
  have q1 : decide (0 ≤ i) = true := by simp; omega
  go_wp2_with fail
  go_ret
  exact ⟨true, by first | rfl | (rw [q1]; rfl), ⟨fun _ => HY.out, fun _ => rfl⟩, HB1.out⟩
def valAt (u : Value) (w : World) : Int := match u with
 | .pointer (some a) => (match w.cell? a with
  | some (.int _ z) => z
  | _ => 0)
 | _ => 0
theorem valAt_of {w : World} {np : Nat} {m : Int} (h : Blk w np 3 [.int .i64 m]) : valAt (.pointer (some ⟨np, 0, none⟩)) w = m := by
 have h1 := h.cell 0
 simp only [List.getElem?_cons_zero] at h1
 simp only [valAt, h1]
def FreePost (k : Int) (s : LS) (w : World) (e : Ending) (w' : World) : Prop := ∃ n : Int, e = .returned (.int .i64 n) ∧ FreeP k s n ∧ Below w.heap.size w w'
set_option maxRecDepth 100000 in
set_option maxHeartbeats 8000000 in
theorem free_any (w0 w : World) (n sb rb tb : Nat) (aa : Option Addr) (ac : Nat) (ca : Option Addr) (cc : Nat) (s : LS) (h : ScM w0 w n sb rb tb aa ac ca cc s) (k : Nat) (hk : 1 ≤ k ∧ k ≤ 10) (hact : ∀ y ∈ s.act, ∃ r : Nat, y.r = (r : Int) ∧ r < n) (hn : n ≤ 8192) (hal : s.act.length ≤ 10000) :
  Calls Try.prog 44 #[.pointer (some ⟨sb, 0, none⟩), .int .i64 (k : Int)] w (FreePost (k : Int) s w) := by
 have hb0 : Below w.heap.size w (w.alloc (.cells #[.pointer (some ⟨sb, 0, none⟩)] 93)) := (Below.refl _ _).alloc (Nat.le_refl _) _
 have HSP0 : Hid (Blk (w.alloc (.cells #[.pointer (some ⟨sb, 0, none⟩)] 93)) w.heap.size 93 [.pointer (some ⟨sb, 0, none⟩)]) := Blk.new w _ _
 have HB0 := Lib.hid hb0
 have HS := Lib.hid h
 have HACT := Lib.hid hact
 have hmf : ∀ (fn : Fn) (first cap : Array Value) (w : World), (Instr.makeFunc fn first cap).run Try.prog w = .ok (.func fn first cap) w := fun _ _ _ _ => rfl
 clear h hb0 hact
 go_enter Try.func44, Try.ntmps44
 go_upto_region 1 with fail
 obtain ⟨sp, hsp⟩ : ∃ sp, sp = w.heap.size := ⟨_, rfl⟩
 rw [← hsp] at HSP0 ⊢
 clear hsp
 change Hid (Blk (w.alloc (.cells #[.pointer (some ⟨sb, 0, none⟩)] 93)) sp 93 [.pointer (some ⟨sb, 0, none⟩)]) at HSP0
 generalize w.alloc (.cells #[.pointer (some ⟨sb, 0, none⟩)] 93) = w1 at HSP0 HB0 ⊢
 have hb1 : Below w1.heap.size w1 (w1.alloc (.cells #[.int .i64 1] 3)) := (Below.refl _ _).alloc (Nat.le_refl _) _
 have HNP1 : Hid (Blk (w1.alloc (.cells #[.int .i64 1] 3)) w1.heap.size 3 [.int .i64 ((1 : Nat) : Int)]) := Blk.new w1 [.int .i64 1] _
 have HSP1 := Lib.hid (HSP0.out.below hb1 (Blk.lt HSP0.out))
 have HB1 := Lib.hid (HB0.out.trans (hb1.mono HB0.out.size))
 clear hb1 HSP0 HB0
 go_wp2_with fail
 go_loopw [5] (fun u wr => ∃ (m np : Nat), 1 ≤ m ∧ m ≤ k + 1 ∧ u = .pointer (some ⟨np, 0, none⟩) ∧ Blk wr np 3 [.int .i64 (m : Int)] ∧ Blk wr sp 93 [.pointer (some ⟨sb, 0, none⟩)] ∧ Below w.heap.size w wr ∧ ∀ m' : Nat, 1 ≤ m' → m' < m → ∃ y ∈ s.act, s.R y.r = (m' : Int)) (fun u wr => ((k : Int) + 1 - valAt u wr).toNat)
 case atStart => exact ⟨1, w1.heap.size, Nat.le_refl _, by omega, rfl, HNP1.out, HSP1.out, HB1.out, fun m' h1 h2 => by omega⟩
 case round =>
  clear HNP1 HSP1 HB1
  obtain ⟨m, np, hm1, hm2, rfl, hnp, hspb, hbw, hall⟩ := hrel
  have HNP := Lib.hid hnp
  have HSP := Lib.hid hspb
  have HB := Lib.hid hbw
  have HALL := Lib.hid hall
  have HS1 := Lib.hid (HS.out.below hbw)
  have HVA := Lib.hid (valAt_of hnp)
  have n0 := hnp.cell 0
  have p0 := hspb.cell 0
  have a3 := HS1.out.box.cell 3
  simp only [List.getElem?_cons_zero, List.getElem?_cons_succ] at n0 p0 a3
  have hl1 := Blk.lt hnp
  have hl2 := Blk.lt hspb
  have hl3 := Blk.lt HS1.out.box
  clear hnp hspb hbw hall
  by_cases hle : m ≤ k
  ·have hli : (m : Int) ≤ (k : Int) := by omega
   have HC := Lib.hid (contains_same wr w0.heap.size aa ac s.act.length s.act HS1.out.act rfl hal sp np (fun y => s.R y.r == (m : Int)) fun wx y hy hb => by
    obtain ⟨r, h1, h2⟩ := HACT.out y hy
    exact same_any w0 wx n sb rb tb aa ac ca cc s (HS1.out.below hb) sp np (m : Int) (HSP.out.below hb (Blk.lt HSP.out)) (HNP.out.below hb (Blk.lt HNP.out)) y r h1 h2 hn)
   go_wp2_with fail
   refine HC.out.mono ?_
   rintro e w3 ⟨b, rfl, hbb, hb3⟩
   have HB3 := Lib.hid (HB.out.trans (hb3.mono HB.out.size))
   have HNP3 := Lib.hid (HNP.out.below hb3 (Blk.lt HNP.out))
   have HSP3 := Lib.hid (HSP.out.below hb3 (Blk.lt HSP.out))
   have n0 := HNP3.out.cell 0
   simp only [List.getElem?_cons_zero] at n0
   have hl1 := Blk.lt HNP3.out
   have HBB := Lib.hid hbb
   clear hb3 hbb HC p0 a3 HS1 HNP HSP HB
   cases b with
   | false =>
    have HF : Hid (FreeP (k : Int) s (m : Int)) := .inl ⟨by omega, by omega, fun y hy e => by
     have := HBB.out.2 ⟨y, hy, by simp [e]⟩
     cases this⟩
    clear HBB
    go_wp2_with fail
    go_ret
    exact ⟨(m : Int), rfl, HF.out, HB3.out⟩
   | true =>
    have HY : Hid (∃ y ∈ s.act, s.R y.r = (m : Int)) := by
     obtain ⟨y, hy, h9⟩ := HBB.out.1 rfl
     exact ⟨y, hy, eq_of_beq h9⟩
    clear HBB
    have hb4 : Below w3.heap.size w3 (w3.alloc (.cells #[.int .i64 ((m : Int) + 1)] 3)) := (Below.refl _ _).alloc (Nat.le_refl _) _
    have HNP4 : Hid (Blk (w3.alloc (.cells #[.int .i64 ((m : Int) + 1)] 3)) w3.heap.size 3 [.int .i64 ((m + 1 : Nat) : Int)]) := Blk.new w3 [.int .i64 ((m : Int) + 1)] _
    have HSP4 := Lib.hid (HSP3.out.below hb4 (Blk.lt HSP3.out))
    have HB4 := Lib.hid (HB3.out.trans (hb4.mono HB3.out.size))
    have HV4 := Lib.hid (valAt_of HNP4.out)
    clear hb4 HNP3 HSP3 HB3
    go_wp2_with fail
    go_roundw
    case rel => exact ⟨m + 1, _, by omega, by omega, rfl, HNP4.out, HSP4.out, HB4.out, fun m' h1 h2 => by
     by_cases e : m' = m
     ·subst e; exact HY.out
     ·exact HALL.out m' h1 (by omega)⟩
    case measure =>
     have h1 := HVA.out
     have h2 := HV4.out
     show ((k : Int) + 1 - valAt (.pointer (some ⟨w3.heap.size, 0, none⟩)) _).toNat < ((k : Int) + 1 - valAt (.pointer (some ⟨np, 0, none⟩)) wr).toNat
     rw [h1, h2]
     omega
  ·have HF : Hid (FreeP (k : Int) s 0) := .inr ⟨rfl, fun m' h1 h2 => HALL.out m' h1 (by omega)⟩
   have hli : ¬ (m : Int) ≤ (k : Int) := by omega
   clear p0 a3
   go_wp2_with fail
   go_ret
   exact ⟨0, rfl, HF.out, HB.out⟩
end Go.Proofs.Ytlcnbihfpjhffaa
