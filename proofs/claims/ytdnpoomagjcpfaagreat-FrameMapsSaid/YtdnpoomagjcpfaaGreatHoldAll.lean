/- What the places hold, in memory: alloccheck's newHolds. Rows of bools that a call may have cloned: their capacity may be more than their length. alloccheck's meet: what both states hold. alloccheck's define: a place then contains a register (and what came with it). slices.Clone at a row of bools; alloccheck's clone. alloccheck's used: the values of the used registers are in their places. clear at a row of bools; color's Calls. alloccheck's ins: an instruction executed on a state. -/
import Derived.Test.YtdnpoomagjcpfaaGreatVLive
import Derived.Test.YtdnpoomagjcpfaaGreatAllocP
import Derived.Test.YtdnpoomagjcpfaaGreatBase
import Derived.Lib.SliceRun
import Derived.Laws.AppendOwn
import Derived.Deep.MidRow
namespace Go.Proofs.YtdnpoomagjcpfaaGreat
open Go.RowKit
set_option linter.unusedVariables false
set_option linter.unusedSimpArgs false

/-- rows of bools, each in a block of its own -/
structure HAt (w : World) (base G m n : Nat) (X : Nat → Nat → Bool) (bs : Nat → Nat) : Prop where
 rows : BRows w G m n X bs
 inj : ∀ i j, i < m → j < m → bs i = bs j → i = j
 lo : base ≤ G ∧ ∀ i, i < m → base ≤ bs i
theorem HAt.below {w w' : World} {base G m n : Nat} {X : Nat → Nat → Bool} {bs : Nat → Nat} (h : HAt w base G m n X bs) (hb : Below w.heap.size w w') : HAt w' base G m n X bs := ⟨h.rows.below hb, h.inj, h.lo⟩
def HoldPost (m n : Nat) (X : Nat → Nat → Bool) (w : World) (e : Ending) (w' : World) : Prop :=
 ∃ G bs, e = .returned (.slice (some ⟨G, 0, none⟩) m m) ∧ HAt w' w.heap.size G m n X bs ∧ Below w.heap.size w w'

set_option maxRecDepth 100000 in
set_option maxHeartbeats 8000000 in
theorem newHolds_any (w : World) (m n : Nat) (hm : 0 < m ∧ m ≤ 9000) (hn2 : 0 < n ∧ n ≤ 8192) :
  Calls Tryz.prog 52 #[.int .i64 (m : Int), .int .i64 (n : Int)] w (HoldPost m n (fun _ _ => false) w) := by
 have hmk : ∀ w : World, (Instr.makeSlice 51 (.int .i64 (n : Int)) (.int .i64 (n : Int))).run Tryz.prog w = .ok (.slice (some ⟨w.heap.size, 0, none⟩) n n) (w.alloc (.cells (rowL n fun _ => .bool false).toArray 4)) := fun w => run_make_rep (P := Tryz.prog) 51 4 (.bool false) 1 Tryz.underlying51 Tryz.infoB4 rfl n (by omega) (by omega) w
 have hmk2 : ∀ w : World, (Instr.makeSlice 104 (.int .i64 (m : Int)) (.int .i64 (m : Int))).run Tryz.prog w = .ok (.slice (some ⟨w.heap.size, 0, none⟩) m m) (w.alloc (.cells (rowL m fun _ => .slice none 0 0).toArray 51)) := fun w => run_make_rep (P := Tryz.prog) 104 51 (.slice none 0 0) 24 Tryz.underlying104 Tryz.infoR51 rfl m (by omega) (by omega) w
 have hb1 : Below w.heap.size w (w.alloc (.cells (rowL m fun _ => .slice none 0 0).toArray 51)) := (Below.refl _ _).alloc (Nat.le_refl _) _
 have hbG := Blk.new w (rowL m fun _ => .slice none 0 0) 51
 go_enter Tryz.func52, Tryz.ntmps52
 go_wp2_with fail
 have HB1 := Lib.hid hb1
 have HBG := Lib.hid hbG
 clear hb1 hbG
 generalize w.alloc (.cells (rowL m fun _ => .slice none 0 0).toArray 51) = w1 at HB1 HBG ⊢
 obtain ⟨G, hG⟩ : ∃ G, G = w.heap.size := ⟨_, rfl⟩
 go_loopw [6, 11] (fun _ u wr => ∃ (k : Nat) (bs : Nat → Nat), k ≤ m ∧ u = .int .i64 (k : Int) ∧ Blk wr w.heap.size 51 (rowL m fun i => if i < k then .slice (some ⟨bs i, 0, none⟩) n n else .slice none 0 0) ∧ (∀ i, i < k → BRow wr (bs i) n fun _ => false) ∧ Below w.heap.size w wr ∧ (∀ i j, i < k → j < k → bs i = bs j → i = j) ∧ (∀ i, i < k → w.heap.size ≤ bs i)) (fun _ u _ => m - (intOf u).toNat)
 case atStart => exact ⟨0, fun _ => 0, Nat.zero_le _, rfl, HBG.out, fun i hi => absurd hi (Nat.not_lt_zero _), HB1.out, fun i j hi => absurd hi (Nat.not_lt_zero _), fun i hi => absurd hi (Nat.not_lt_zero _)⟩
 case round =>
  clear HBG HB1 hG
  obtain ⟨k, bs, hk, rfl, hbG, hrow, hbe, hinj, hlo⟩ := hrel
  by_cases hlt : k < m
  ·have cG := Blk.row hbG hlt
   rw [if_neg (by omega)] at cG
   have fG := hbG.free k
   have hGl := Blk.lt hbG
   have hset : Blk (wr.alloc (.cells (rowL n fun _ => .bool false).toArray 4)) w.heap.size 51 (rowL m fun i => if i < k then .slice (some ⟨bs i, 0, none⟩) n n else .slice none 0 0) := hbG.alloc _
   have HN : Hid (Blk ((wr.setCell ⟨w.heap.size, k, none⟩ (.slice (some ⟨wr.heap.size, 0, none⟩) n n)).alloc (.cells (rowL n fun _ => .bool false).toArray 4)) w.heap.size 51 (rowL m fun i => if i < k + 1 then .slice (some ⟨(fun i => if i = k then wr.heap.size else bs i) i, 0, none⟩) n n else .slice none 0 0)) := by
    refine Blk.alloc ?_ _
    refine Blk.rowCongr (Blk.rowSet hbG k _) fun i hi => ?_
    by_cases e1 : i = k
    ·subst e1; simp
    ·by_cases e2 : i < k
     ·simp [e1, e2, show i < k + 1 by omega]
     ·simp [e1, e2, show ¬ i < k + 1 by omega]
   have HN2 : Hid (∀ i, i < k + 1 → BRow ((wr.setCell ⟨w.heap.size, k, none⟩ (.slice (some ⟨wr.heap.size, 0, none⟩) n n)).alloc (.cells (rowL n fun _ => .bool false).toArray 4)) ((fun i => if i = k then wr.heap.size else bs i) i) n fun _ => false) := fun i hi => by
    by_cases e1 : i = k
    ·subst e1
     simp only [if_true]
     have := Blk.new (wr.setCell ⟨w.heap.size, i, none⟩ (.slice (some ⟨wr.heap.size, 0, none⟩) n n)) (rowL n fun _ => .bool false) 4
     rwa [show (wr.setCell ⟨w.heap.size, i, none⟩ (.slice (some ⟨wr.heap.size, 0, none⟩) n n)).heap.size = wr.heap.size from by simp [World.setCell]] at this
    ·simp only [e1, if_false]
     have hr := hrow i (by omega)
     exact Blk.alloc (Blk.setOther hr (hr.ne hbG) _) _
   have HN3 : Hid (Below w.heap.size w ((wr.setCell ⟨w.heap.size, k, none⟩ (.slice (some ⟨wr.heap.size, 0, none⟩) n n)).alloc (.cells (rowL n fun _ => .bool false).toArray 4))) := (hbe.setCell (p := ⟨w.heap.size, k, none⟩) (Nat.le_refl _) _).alloc (by have := hbe.size; simp [World.setCell]; omega) _
   have HN4 : Hid (∀ i j, i < k + 1 → j < k + 1 → (fun i => if i = k then wr.heap.size else bs i) i = (fun i => if i = k then wr.heap.size else bs i) j → i = j) := fun i j hi hj e => by
    by_cases e1 : i = k <;> by_cases e2 : j = k
    ·omega
    ·have h := Blk.lt (hrow j (by omega)); simp [e1, e2] at e; omega
    ·have h := Blk.lt (hrow i (by omega)); simp [e1, e2] at e; omega
    ·simp [e1, e2] at e; exact hinj i j (by omega) (by omega) e
   have HN5 : Hid (∀ i, i < k + 1 → w.heap.size ≤ (fun i => if i = k then wr.heap.size else bs i) i) := fun i hi => by
    by_cases e1 : i = k
    ·simp [e1]; exact hbe.size
    ·simp [e1]; exact hlo i (by omega)
   clear hbG hrow hbe hset hinj hlo
   go_wp2_with fail
   go_roundw
   case rel => exact ⟨k + 1, _, by omega, by go_num, HN.out, HN2.out, HN3.out, HN4.out, HN5.out⟩
   case measure => simp [intOf]; omega
  ·obtain rfl : k = m := by omega
   have HR0 : Hid (BRows wr w.heap.size k n (fun _ _ => false) bs) := ⟨Blk.rowCongr hbG fun i hi => by rw [if_pos hi], hrow⟩
   have HBE := Lib.hid hbe
   have HI := Lib.hid hinj
   have HL := Lib.hid hlo
   clear hbG hrow hbe hmk hmk2 hinj hlo
   go_wp2_with fail
   go_ret
   exact ⟨w.heap.size, bs, rfl, ⟨HR0.out, HI.out, Nat.le_refl _, HL.out⟩, HBE.out⟩

/-- a row of n bools at the head of a block, with room up to c -/
def GRow (w : World) (g n c : Nat) (l : Nat → Bool) : Prop := ∃ cur, w.heap[g]? = some (.cells cur 4 (0, 0)) ∧ n ≤ c ∧ c ≤ cur.size ∧ c ≤ maxLen ∧ ∀ r, r < n → cur[r]? = some (.bool (l r))
section
variable {w w' : World} {g n c : Nat} {l l' : Nat → Bool}
theorem GRow.lt (h : GRow w g n c l) : g < w.heap.size := by obtain ⟨cur, h, _⟩ := h; exact lt_of_block h
theorem GRow.le (h : GRow w g n c l) : n ≤ c ∧ c ≤ maxLen := by obtain ⟨cur, _, h1, _, h2, _⟩ := h; exact ⟨h1, h2⟩
theorem GRow.cell (h : GRow w g n c l) {r : Nat} (hr : r < n) : w.cell? ⟨g, r, none⟩ = some (.bool (l r)) := by
 obtain ⟨cur, h, _, _, _, hc⟩ := h
 simp [World.cell?, h, hc r hr]
theorem GRow.free (h : GRow w g n c l) (i : Nat) : w.frozen? ⟨g, i, none⟩ = false := by
 obtain ⟨cur, h, _⟩ := h
 simp [World.frozen?, h]
theorem GRow.of_heap (h : GRow w g n c l) (e : w'.heap[g]? = w.heap[g]?) : GRow w' g n c l := by
 obtain ⟨cur, h, h2⟩ := h
 exact ⟨cur, e.trans h, h2⟩
theorem GRow.congr (h : GRow w g n c l) (e : ∀ r, r < n → l r = l' r) : GRow w g n c l' := by
 obtain ⟨cur, h, h1, h2, h3, hc⟩ := h
 exact ⟨cur, h, h1, h2, h3, fun r hr => by rw [hc r hr, e r hr]⟩
theorem GRow.set (h : GRow w g n c l) (j : Nat) (b : Bool) : GRow (w.setCell ⟨g, j, none⟩ (.bool b)) g n c (fun r => if r = j then b else l r) := by
 obtain ⟨cur, h, h1, h2, h3, hc⟩ := h
 refine ⟨cur.setIfInBounds j (.bool b), by simp [World.setCell, Array.getElem?_modify, h], h1, by simpa using h2, h3, fun r hr => ?_⟩
 by_cases e : r = j
 ·subst e
  have := hc r hr
  have hlt : r < cur.size := by omega
  simp [hlt]
 ·rw [Array.getElem?_setIfInBounds_ne (by omega), hc r hr]
  simp [e]
theorem GRow.setOther (h : GRow w g n c l) {p : Addr} (hp : g ≠ p.block) (v : Value) : GRow (w.setCell p v) g n c l := h.of_heap (Below.heap_setCell _ _ _ _ hp)
theorem GRow.alloc (h : GRow w g n c l) (o : Obj) : GRow (w.alloc o) g n c l := h.of_heap (Below.heap_alloc _ _ _ h.lt)
theorem GRow.below {B : Nat} (h : GRow w g n c l) (hb : Below B w w') (hg : g < B) : GRow w' g n c l := h.of_heap (hb.block g hg)
theorem GRow.ofB (h : BRow w g n l) (hn : n ≤ 1000000) : GRow w g n n l := by
 refine ⟨(rowL n fun r => .bool (l r)).toArray, h, Nat.le_refl _, by simp [rowL], by unfold maxLen; omega, fun r hr => ?_⟩
 have := h.cell hr
 have h2 : w.heap[g]? = _ := h
 simp [World.cell?, h2] at this
 simpa using this
theorem GRow.ne {cs : List Value} {G : Nat} (h : GRow w g n c l) (hG : Blk w G 51 cs) : g ≠ G := fun e => by
 obtain ⟨cur, h2, _⟩ := h
 have h1 : w.heap[G]? = _ := hG
 rw [e, h1] at h2
 injection h2 with h2
 injection h2 with _ h2 _
 exact absurd h2 (by decide)
end
/-- rows of bools, each in a block of its own -/
structure HG (w : World) (base G m n : Nat) (X : Nat → Nat → Bool) (bs cp : Nat → Nat) : Prop where
 blk : Blk w G 51 (rowL m fun i => .slice (some ⟨bs i, 0, none⟩) n (cp i))
 row : ∀ i, i < m → GRow w (bs i) n (cp i) (X i)
 inj : ∀ i j, i < m → j < m → bs i = bs j → i = j
 lo : base ≤ G ∧ ∀ i, i < m → base ≤ bs i
theorem HG.ofA {w : World} {base G m n : Nat} {X : Nat → Nat → Bool} {bs : Nat → Nat} (h : HAt w base G m n X bs) (hn : n ≤ 1000000) : HG w base G m n X bs (fun _ => n) :=
 ⟨h.rows.blk, fun i hi => GRow.ofB (h.rows.row i hi) hn, h.inj, h.lo⟩
theorem HG.below {w w' : World} {base G m n : Nat} {X : Nat → Nat → Bool} {bs cp : Nat → Nat} (h : HG w base G m n X bs cp) (hb : Below w.heap.size w w') : HG w' base G m n X bs cp :=
 ⟨h.blk.below hb h.blk.lt, fun i hi => (h.row i hi).below hb (h.row i hi).lt, h.inj, h.lo⟩
theorem HG.congr {w : World} {base G m n : Nat} {X X' : Nat → Nat → Bool} {bs cp : Nat → Nat} (h : HG w base G m n X bs cp) (e : ∀ i, i < m → ∀ r, r < n → X i r = X' i r) : HG w base G m n X' bs cp :=
 ⟨h.blk, fun i hi => (h.row i hi).congr (e i hi), h.inj, h.lo⟩
/-- one bool written -/
theorem HG.set {w : World} {base G m n : Nat} {X : Nat → Nat → Bool} {bs cp : Nat → Nat} (h : HG w base G m n X bs cp) {i : Nat} (hi : i < m) (j : Nat) (b : Bool) :
  HG (w.setCell ⟨bs i, j, none⟩ (.bool b)) base G m n (fun k r => if k = i then (if r = j then b else X k r) else X k r) bs cp := by
 refine ⟨h.blk.setOther (fun e => (h.row i hi).ne h.blk e.symm) _, fun k hk => ?_, h.inj, h.lo⟩
 by_cases e : k = i
 ·subst e
  refine ((h.row k hk).set j b).congr fun r _ => ?_
  simp
 ·refine ((h.row k hk).setOther (fun e2 => e (h.inj k i hk hi e2)) _).congr fun r _ => ?_
  simp [e]
/-- a row put in the place of another -/
theorem HG.put {w : World} {base G m n : Nat} {X : Nat → Nat → Bool} {bs cp : Nat → Nat} (h : HG w base G m n X bs cp) {g c : Nat} {l : Nat → Bool} (hg : GRow w g n c l) (hnew : ∀ i, i < m → bs i ≠ g) (hb : base ≤ g) (i : Nat) (hi : i < m) :
  HG (w.setCell ⟨G, i, none⟩ (.slice (some ⟨g, 0, none⟩) n c)) base G m n (fun k r => if k = i then l r else X k r) (fun k => if k = i then g else bs k) (fun k => if k = i then c else cp k) := by
 refine ⟨?_, fun k hk => ?_, fun a b ha hb' e => ?_, h.lo.1, fun k hk => ?_⟩
 ·refine Blk.rowCongr (Blk.rowSet h.blk i _) fun k _ => ?_
  by_cases e : k = i <;> simp [e]
 ·by_cases e : k = i
  ·simp only [e, if_true]
   exact hg.setOther (hg.ne h.blk) _
  ·simp only [e, if_false]
   exact (h.row k hk).setOther ((h.row k hk).ne h.blk) _
 ·by_cases e1 : a = i <;> by_cases e2 : b = i
  ·omega
  ·simp [e1, e2] at e; exact absurd e.symm (hnew b hb')
  ·simp [e1, e2] at e; exact absurd e (hnew a ha)
  ·simp [e1, e2] at e; exact h.inj a b ha hb' e
 ·by_cases e : k = i
  ·simp [e]; exact hb
  ·simp [e]; exact h.lo.2 k hk

/-- all but the blocks of S is as it was -/
structure RestS (S : Nat → Prop) (w w' : World) : Prop where
 os : w'.os = w.os
 tape : w'.tape = w.tape
 output : w'.output = w.output
 size : w.heap.size ≤ w'.heap.size
 block : ∀ k, k < w.heap.size → ¬ S k → w'.heap[k]? = w.heap[k]?
theorem RestS.refl (S : Nat → Prop) (w : World) : RestS S w w := ⟨rfl, rfl, rfl, Nat.le_refl _, fun _ _ _ => rfl⟩
theorem RestS.set {S : Nat → Prop} {w w' : World} (h : RestS S w w') {p : Addr} (hp : S p.block) (v : Value) : RestS S w (w'.setCell p v) :=
 ⟨h.os, h.tape, h.output, by simpa [World.setCell] using h.size, fun k hk hs => (Below.heap_setCell _ _ _ _ (fun e => hs (by rw [e]; exact hp))).trans (h.block k hk hs)⟩
/-- which rows' blocks -/
def inB' (m : Nat) (bs : Nat → Nat) (k : Nat) : Prop := ∃ i, i < m ∧ k = bs i
def MeetPost (base G m n : Nat) (X Y : Nat → Nat → Bool) (bs cp : Nat → Nat) (w : World) (e : Ending) (w' : World) : Prop :=
 ∃ ch : Bool, e = .returned (.bool ch) ∧ (ch = true ↔ ∃ i r, i < m ∧ r < n ∧ X i r = true ∧ Y i r = false) ∧ HG w' base G m n (fun i r => X i r && Y i r) bs cp ∧ RestS (inB' m bs) w w'
theorem HG.restS {w w' : World} {base G m n : Nat} {X : Nat → Nat → Bool} {bs cp : Nat → Nat} {S : Nat → Prop} (h : HG w base G m n X bs cp) (hr : RestS S w w') (h1 : ¬ S G) (h2 : ∀ i, i < m → ¬ S (bs i)) : HG w' base G m n X bs cp :=
 ⟨h.blk.of_heap (hr.block G h.blk.lt h1), fun i hi => (h.row i hi).of_heap (hr.block _ (h.row i hi).lt (h2 i hi)), h.inj, h.lo⟩

set_option maxRecDepth 100000 in
set_option maxHeartbeats 8000000 in
theorem meet_any (w : World) (base G m n : Nat) (X Y : Nat → Nat → Bool) (bs cp : Nat → Nat) (base2 G2 : Nat) (bs2 cp2 : Nat → Nat) (h1 : HG w base G m n X bs cp) (h2 : HG w base2 G2 m n Y bs2 cp2) (hne : ∀ i j, i < m → j < m → bs i ≠ bs2 j) (hm : 0 < m ∧ m ≤ 9000) (hn : 0 < n ∧ n ≤ 8192) :
  Calls Tryz.prog 58 #[.slice (some ⟨G, 0, none⟩) m m, .slice (some ⟨G2, 0, none⟩) m m] w (MeetPost base G m n X Y bs cp w) := by
 have hG2 : ¬ inB' m bs G2 := fun ⟨i, hi, e⟩ => (h1.row i hi).ne h2.blk e.symm
 have hb2 : ∀ j, j < m → ¬ inB' m bs (bs2 j) := fun j hj ⟨i, hi, e⟩ => hne i j hi hj e.symm
 have H1 := Lib.hid h1
 have H2 := Lib.hid h2
 have HG2 := Lib.hid hG2
 have HB2 := Lib.hid hb2
 clear h1 h2 hG2 hb2 hne
 go_enter Tryz.func58, Tryz.ntmps58
 go_wp2_with fail
 go_loopw [5, 12] (fun c u wr => ∃ (k : Nat) (ch : Bool), k ≤ m ∧ u = .int .i64 (k : Int) ∧ c = .bool ch ∧ (ch = true ↔ ∃ i r, i < k ∧ r < n ∧ X i r = true ∧ Y i r = false) ∧ HG wr base G m n (fun i r => if i < k then X i r && Y i r else X i r) bs cp ∧ RestS (inB' m bs) w wr) (fun _ u _ => m - (intOf u).toNat)
 case atStart => exact ⟨0, false, Nat.zero_le _, rfl, rfl, by simp, H1.out.congr (fun i _ r _ => by simp), RestS.refl _ _⟩
 case round =>
  obtain ⟨k, ch, hk, rfl, rfl, hch, hg, hrest⟩ := hrel
  have HCH := Lib.hid hch
  have HGG := Lib.hid hg
  have HRE := Lib.hid hrest
  clear hch hg hrest
  by_cases hlt : k < m
  ·have cG := Blk.row HGG.out.blk hlt
   have hcp := (HGG.out.row k hlt).le
   have hcpm := hcp.2
   unfold maxLen at hcpm
   have hcp1 := hcp.1
   obtain ⟨bk, hbk⟩ : ∃ x, x = bs k := ⟨_, rfl⟩
   obtain ⟨ck, hck⟩ : ∃ x, x = cp k := ⟨_, rfl⟩
   rw [← hbk, ← hck] at cG
   rw [← hck] at hcp1 hcpm
   have HBK := Lib.hid hbk
   clear hbk hck hcp
   obtain ⟨w0, hw0⟩ : ∃ x, x = wr := ⟨_, rfl⟩
   rw [← hw0] at HGG HRE cG ⊢
   clear hw0
   go_wp2_with fail
   go_loopw [5, 19] (fun c u wr => ∃ (j : Nat) (ch : Bool), j ≤ n ∧ u = .int .i64 (j : Int) ∧ c = .bool ch ∧ (ch = true ↔ ∃ i r, (i < k ∨ i = k ∧ r < j) ∧ r < n ∧ X i r = true ∧ Y i r = false) ∧ HG wr base G m n (fun i r => if i < k ∨ i = k ∧ r < j then X i r && Y i r else X i r) bs cp ∧ RestS (inB' m bs) w wr) (fun _ u _ => n - (intOf u).toNat)
   case atStart =>
    refine ⟨0, ch, Nat.zero_le _, rfl, rfl, ?_, HGG.out.congr (fun i _ r _ => by simp), HRE.out⟩
    rw [HCH.out]
    simp
   case round =>
    obtain ⟨j, c2, hj, rfl, rfl, hch2, hg2, hrest2⟩ := hrel
    have HCH2 := Lib.hid hch2
    have HGG2 := Lib.hid hg2
    have HRE2 := Lib.hid hrest2
    clear hch2 hg2 hrest2 HGG HRE cG HCH
    by_cases hjlt : j < n
    ·have cX := (HGG2.out.row k hlt).cell hjlt
     have fX := (HGG2.out.row k hlt).free j
     rw [← HBK.out] at cX fX
     have hY := H2.out.restS HRE2.out HG2.out HB2.out
     have cG2 := Blk.row hY.blk hlt
     have cY := (hY.row k hlt).cell hjlt
     have hcy := (hY.row k hlt).le
     have hcym := hcy.2
     unfold maxLen at hcym
     have hcy1 := hcy.1
     obtain ⟨b2, hb2⟩ : ∃ x, x = bs2 k := ⟨_, rfl⟩
     obtain ⟨c3, hc3⟩ : ∃ x, x = cp2 k := ⟨_, rfl⟩
     rw [← hb2, ← hc3] at cG2
     rw [← hb2] at cY
     rw [← hc3] at hcy1 hcym
     clear hY hcy hb2 hc3
     rw [if_neg (by omega)] at cX
     obtain ⟨x, hx⟩ : ∃ x, x = X k j := ⟨_, rfl⟩
     obtain ⟨y, hy⟩ : ∃ y, y = Y k j := ⟨_, rfl⟩
     rw [← hx] at cX
     rw [← hy] at cY
     have HX := Lib.hid hx
     have HY := Lib.hid hy
     clear hx hy
     have hcong : ∀ i r, (if i < k ∨ i = k ∧ r < j + 1 then X i r && Y i r else X i r) = if i = k then (if r = j then x && y else if i < k ∨ i = k ∧ r < j then X i r && Y i r else X i r) else if i < k ∨ i = k ∧ r < j then X i r && Y i r else X i r := fun i r => by
      by_cases e1 : i = k
      ·subst e1
       by_cases e2 : r = j
       ·subst e2; rw [HX.out, HY.out]; simp
       ·have e3 : (r < j + 1) ↔ r < j := by omega
        simp [e2, e3]
      ·simp [e1]
     have HCO := Lib.hid hcong
     clear hcong
     cases x with
     | true =>
      cases y with
      | true =>
       have HN : Hid (HG wr base G m n (fun i r => if i < k ∨ i = k ∧ r < j + 1 then X i r && Y i r else X i r) bs cp) := HGG2.out.congr (fun i _ r _ => by
        rw [HCO.out i r]
        by_cases e1 : i = k
        ·subst e1
         by_cases e2 : r = j
         ·subst e2; rw [← HX.out]; simp
         ·simp [e2]
        ·simp [e1])
       have HC3 : Hid (c2 = true ↔ ∃ i r, (i < k ∨ i = k ∧ r < j + 1) ∧ r < n ∧ X i r = true ∧ Y i r = false) := by
        show _ ↔ _
        rw [HCH2.out]
        constructor
        ·rintro ⟨i, r, h, h2⟩; exact ⟨i, r, by omega, h2⟩
        ·rintro ⟨i, r, h, h2, h3, h4⟩
         refine ⟨i, r, ?_, h2, h3, h4⟩
         by_cases e : i = k ∧ r = j
         ·obtain ⟨rfl, rfl⟩ := e
          rw [← HY.out] at h4; cases h4
         ·omega
       go_wp2_with fail
       go_roundw
       case rel => exact ⟨j + 1, c2, by omega, by go_num, rfl, HC3.out, HN.out, HRE2.out⟩
       case measure => simp [intOf]; omega
      | false =>
       have HN : Hid (HG (wr.setCell ⟨bk, j, none⟩ (.bool false)) base G m n (fun i r => if i < k ∨ i = k ∧ r < j + 1 then X i r && Y i r else X i r) bs cp) := by
        have := HGG2.out.set hlt j false
        rw [← HBK.out] at this
        refine this.congr (fun i _ r _ => ?_)
        rw [HCO.out i r]
        simp
       have HR3 : Hid (RestS (inB' m bs) w (wr.setCell ⟨bk, j, none⟩ (.bool false))) := HRE2.out.set (p := ⟨bk, j, none⟩) ⟨k, hlt, HBK.out⟩ _
       have HC3 : Hid (true = true ↔ ∃ i r, (i < k ∨ i = k ∧ r < j + 1) ∧ r < n ∧ X i r = true ∧ Y i r = false) := by
        show _ ↔ _
        exact ⟨fun _ => ⟨k, j, by omega, hjlt, HX.out.symm, HY.out.symm⟩, fun _ => rfl⟩
       go_wp2_with fail
       go_roundw
       case rel => exact ⟨j + 1, true, by omega, by go_num, rfl, HC3.out, HN.out, HR3.out⟩
       case measure => simp [intOf]; omega
     | false =>
      have HN : Hid (HG wr base G m n (fun i r => if i < k ∨ i = k ∧ r < j + 1 then X i r && Y i r else X i r) bs cp) := HGG2.out.congr (fun i _ r _ => by
       rw [HCO.out i r]
       by_cases e1 : i = k
       ·subst e1
        by_cases e2 : r = j
        ·subst e2; rw [← HX.out]; simp
        ·simp [e2]
       ·simp [e1])
      have HC3 : Hid (c2 = true ↔ ∃ i r, (i < k ∨ i = k ∧ r < j + 1) ∧ r < n ∧ X i r = true ∧ Y i r = false) := by
       show _ ↔ _
       rw [HCH2.out]
       constructor
       ·rintro ⟨i, r, h, h2⟩; exact ⟨i, r, by omega, h2⟩
       ·rintro ⟨i, r, h, h2, h3, h4⟩
        refine ⟨i, r, ?_, h2, h3, h4⟩
        by_cases e : i = k ∧ r = j
        ·obtain ⟨rfl, rfl⟩ := e
         rw [← HX.out] at h3; cases h3
        ·omega
      go_wp2_with fail
      go_roundw
      case rel => exact ⟨j + 1, c2, by omega, by go_num, rfl, HC3.out, HN.out, HRE2.out⟩
      case measure => simp [intOf]; omega
    ·have ej : j = n := by omega
     subst ej
     have HN : Hid (HG wr base G m j (fun i r => if i < k + 1 then X i r && Y i r else X i r) bs cp) := HGG2.out.congr (fun i _ r hr => by
      have e : (i < k ∨ i = k ∧ r < j) ↔ i < k + 1 := by omega
      simp [e])
     have HC3 : Hid (c2 = true ↔ ∃ i r, i < k + 1 ∧ r < j ∧ X i r = true ∧ Y i r = false) := by
      show _ ↔ _
      rw [HCH2.out]
      constructor
      ·rintro ⟨i, r, h, h2⟩; exact ⟨i, r, by omega, h2⟩
      ·rintro ⟨i, r, h, h2, h3⟩; exact ⟨i, r, by omega, h2, h3⟩
     go_wp2_with fail
     go_roundw
     case rel => exact ⟨k + 1, c2, by omega, by go_num, rfl, HC3.out, HN.out, HRE2.out⟩
     case measure => simp [intOf]; omega
  ·have ek : k = m := by omega
   subst ek
   have HN : Hid (HG wr base G k n (fun i r => X i r && Y i r) bs cp) := HGG.out.congr (fun i hi r _ => by simp [hi])
   go_wp2_with fail
   go_ret
   exact ⟨ch, rfl, HCH.out, HN.out, HRE.out⟩

/-- what comes with a move: nothing, or a row of bools -/
def AlsoAt (w : World) (v : Value) (n : Nat) (A : Nat → Bool) : Prop := (v = .slice none 0 0 ∧ ∀ r, A r = false) ∨ ∃ ga ca, v = .slice (some ⟨ga, 0, none⟩) n ca ∧ GRow w ga n ca A
theorem AlsoAt.kept {w w' : World} {v : Value} {n : Nat} {A : Nat → Bool} (h : AlsoAt w v n A) (hb : ∀ k, k < w.heap.size → (∀ q, v.ownBlock = some q → k = q → w'.heap[k]? = w.heap[k]?)) : AlsoAt w' v n A := by
 rcases h with h | ⟨ga, ca, rfl, h⟩
 ·exact .inl h
 ·exact .inr ⟨ga, ca, rfl, h.of_heap (hb ga h.lt ga rfl rfl)⟩
theorem copy_also (w : World) (g n : Nat) (A : Nat → Bool) (v : Value) (ty : TypeId) (hrow : BRow w g n fun _ => false) (hn : n ≤ 8192) (ha : AlsoAt w v n A) :
  ∃ k w', (Builtin.copy_ #[51, 51] ty #[.slice (some ⟨g, 0, none⟩) n n, v]).run Tryz.prog w = .ok k w' ∧ GRow w' g n n A ∧ Rest1 g w w' := by
 rcases ha with ⟨rfl, hA⟩ | ⟨ga, ca, rfl, hga⟩
 ·refine ⟨goInt 0, w, ?_, (GRow.ofB hrow (by omega)).congr (fun r _ => (hA r).symm), Rest1.refl _ _⟩
  cases hq : Tryz.prog.info? 4 with
  | none => have := Tryz.infoB4; rw [hq] at this; cases this
  | some i => simp [Builtin.copy_, run_underlying Tryz.underlying51, Builtin.lenOf, Builtin.firstCells, sizeOf, typeInfo, hq, storeCells]
 ·have hl : (rowL n fun r => Value.bool (A r)).length = n := rowL_length _ _
  have hr := run_copy_k (P := Tryz.prog) w 1 51 51 ty 4 g 0 n n ⟨ga, 0, none⟩ n ca (rowL n fun r => Value.bool (A r)) Tryz.underlying51 (by kernel_rfl) (by rw [hl]; simp [Nat.min_def]) (fun j u hj => by
   have hjn : j < n := by have := (List.getElem?_eq_some_iff.1 hj).1; rwa [hl] at this
   rw [rowL_get hjn] at hj
   rw [Addr.add_lit, Nat.zero_add, hga.cell hjn]
   exact hj) (fun j hj => by rw [hl] at hj; rw [Nat.zero_add, hrow.cell hj]; rfl) (fun j _ => by exact Blk.free hrow _) (fun u hu => by
    obtain ⟨i, _, rfl⟩ := List.mem_map.1 hu; rfl)
  obtain ⟨cur', h2, h3, h4⟩ := setCells_heap g 4 (rowL n fun r => Value.bool (A r)) 0 w _ hrow
  have h5 : cur'.size = n := by rw [h3]; simp [rowL]
  refine ⟨_, _, hr, ⟨cur', h2, Nat.le_refl _, by omega, by unfold maxLen; omega, fun r hr => ?_⟩, setCells_grown g _ 0 w⟩
  rw [h4 r (by rw [← h3, h5]; exact hr), if_pos (by rw [hl]; omega), Nat.sub_zero, rowL_get hr]

def defX (X : Nat → Nat → Bool) (p r : Nat) (A : Nat → Bool) (i q : Nat) : Bool := if p ≠ 0 ∧ i = p then (if q = r then true else A q) else if q = r then false else X i q
def DefPost (base G m n : Nat) (X : Nat → Nat → Bool) (bs : Nat → Nat) (p r : Nat) (A : Nat → Bool) (w : World) (e : Ending) (w' : World) : Prop :=
 e = .returned (.tuple #[]) ∧ RestS (fun k => inB' m bs k ∨ k = G) w w' ∧ ∃ bs' cp', HG w' base G m n (defX X p r A) bs' cp' ∧ ∀ i, i < m → bs' i = bs i ∨ w.heap.size ≤ bs' i
theorem RestS.mono {S T : Nat → Prop} {w w' : World} (h : RestS S w w') (hs : ∀ k, S k → T k) : RestS T w w' := ⟨h.os, h.tape, h.output, h.size, fun k hk ht => h.block k hk fun hs' => ht (hs k hs')⟩
theorem RestS.trans {S : Nat → Prop} {w w' w'' : World} (h : RestS S w w') (k : RestS S w' w'') : RestS S w w'' :=
 ⟨k.os.trans h.os, k.tape.trans h.tape, k.output.trans h.output, Nat.le_trans h.size k.size, fun b hb hs => (k.block b (Nat.lt_of_lt_of_le hb h.size) hs).trans (h.block b hb hs)⟩
theorem RestS.alloc (S : Nat → Prop) (w : World) (o : Obj) : RestS S w (w.alloc o) := ⟨rfl, rfl, rfl, by simp, fun k hk _ => Below.heap_alloc _ _ _ hk⟩
theorem RestS.ofRest1 {S : Nat → Prop} {g : Nat} {w w' : World} (h : Rest1 g w w') (hg : S g) : RestS S w w' := ⟨h.os, h.tape, h.output, h.size, fun k hk hs => h.block k hk (fun e => hs (by rw [e]; exact hg))⟩

set_option maxRecDepth 100000 in
set_option maxHeartbeats 8000000 in
theorem define_any (w : World) (base G m n : Nat) (X : Nat → Nat → Bool) (bs cp : Nat → Nat) (h : HG w base G m n X bs cp) (hbase : base ≤ w.heap.size) (p r : Nat) (hp : p < m) (hr : r < n) (v : Value) (A : Nat → Bool) (ha : AlsoAt w v n A) (hav : ∀ q, v.ownBlock = some q → ¬ (inB' m bs q ∨ q = G)) (hm : 0 < m ∧ m ≤ 9000) (hn : 0 < n ∧ n ≤ 8192) :
  Calls Tryz.prog 53 #[.slice (some ⟨G, 0, none⟩) m m, .int .i64 (p : Int), .int .i64 (r : Int), v] w (DefPost base G m n X bs p r A w) := by
 have hmk : ∀ w : World, (Instr.makeSlice 51 (.int .i64 (n : Int)) (.int .i64 (n : Int))).run Tryz.prog w = .ok (.slice (some ⟨w.heap.size, 0, none⟩) n n) (w.alloc (.cells (rowL n fun _ => .bool false).toArray 4)) := fun w => run_make_rep (P := Tryz.prog) 51 4 (.bool false) 1 Tryz.underlying51 Tryz.infoB4 rfl n (by omega) (by omega) w
 have H0 := Lib.hid h
 have HA := Lib.hid ha
 have HAV := Lib.hid hav
 obtain ⟨va, vn, vc, rfl⟩ : ∃ a b c, v = .slice a b c := by rcases ha with ⟨rfl, _⟩ | ⟨ga, ca, rfl, _⟩ <;> exact ⟨_, _, _, rfl⟩
 clear h ha hav
 go_enter Tryz.func53, Tryz.ntmps53
 go_wp2_with fail
 go_loopw [13] (fun u wr => ∃ (k : Nat), k ≤ m ∧ u = .int .i64 (k : Int) ∧ HG wr base G m n (fun i q => if i < k then (if q = r then false else X i q) else X i q) bs cp ∧ RestS (inB' m bs) w wr) (fun u _ => m - (intOf u).toNat)
 case atStart => exact ⟨0, Nat.zero_le _, rfl, H0.out.congr (fun i _ q _ => by simp), RestS.refl _ _⟩
 case round =>
  clear H0
  obtain ⟨k, hk, rfl, hg, hrest⟩ := hrel
  have HGG := Lib.hid hg
  have HRE := Lib.hid hrest
  clear hg hrest
  by_cases hlt : k < m
  ·have cG := Blk.row HGG.out.blk hlt
   have hcp := (HGG.out.row k hlt).le
   have hcpm := hcp.2
   unfold maxLen at hcpm
   have hcp1 := hcp.1
   have cX := (HGG.out.row k hlt).cell hr
   have fX := (HGG.out.row k hlt).free r
   have hs := HGG.out.set hlt r false
   obtain ⟨bk, hbk⟩ : ∃ x, x = bs k := ⟨_, rfl⟩
   obtain ⟨ck, hck⟩ : ∃ x, x = cp k := ⟨_, rfl⟩
   rw [← hbk, ← hck] at cG
   rw [← hck] at hcp1 hcpm
   rw [← hbk] at cX fX hs
   have HN : Hid (HG (wr.setCell ⟨bk, r, none⟩ (.bool false)) base G m n (fun i q => if i < k + 1 then (if q = r then false else X i q) else X i q) bs cp) := hs.congr (fun i _ q _ => by
    by_cases e1 : i = k
    ·subst e1; by_cases e2 : q = r <;> simp [e2]
    ·by_cases e3 : i < k
     ·simp [e1, e3, show i < k + 1 by omega]
     ·simp [e1, e3, show ¬ i < k + 1 by omega])
   have HR2 : Hid (RestS (inB' m bs) w (wr.setCell ⟨bk, r, none⟩ (.bool false))) := HRE.out.set (p := ⟨bk, r, none⟩) ⟨k, hlt, hbk⟩ _
   clear hbk hck hcp hs
   go_wp2_with fail
   go_roundw
   case rel => exact ⟨k + 1, by omega, by go_num, HN.out, HR2.out⟩
   case measure => simp [intOf]; omega
  ·have ek : k = m := by omega
   subst ek
   have HX1 : Hid (HG wr base G k n (fun i q => if q = r then false else X i q) bs cp) := HGG.out.congr (fun i hi q _ => by simp [hi])
   clear HGG hlt
   by_cases hp0 : p = 0
   ·have q1 : ((p : Int) == 0) = true := by simp [hp0]
    have HF : Hid (HG wr base G k n (defX X p r A) bs cp) := HX1.out.congr (fun i _ q _ => by simp [defX, hp0])
    clear hp0
    go_wp2_with fail
    refine bodyPost_ret (v := .tuple #[]) (by simp [results, Tryz.results53, go_sem]) rfl ⟨rfl, HRE.out.mono (fun k h => .inl h), bs, cp, HF.out, fun i _ => .inl rfl⟩
   ·have q1 : ((p : Int) == 0) = false := by simp [hp0]
    have HP0 := Lib.hid hp0
    clear hp0
    have cG := Blk.row HX1.out.blk hp
    have hcp := (HX1.out.row p hp).le
    have hcpm := hcp.2
    unfold maxLen at hcpm
    have hcp1 := hcp.1
    obtain ⟨bk, hbk⟩ : ∃ x, x = bs p := ⟨_, rfl⟩
    obtain ⟨ck, hck⟩ : ∃ x, x = cp p := ⟨_, rfl⟩
    rw [← hbk, ← hck] at cG
    rw [← hck] at hcp1 hcpm
    clear hbk hck hcp
    have hw1 := HRE.out.size
    have hA1 : AlsoAt (wr.alloc (.cells (rowL n fun _ => .bool false).toArray 4)) (.slice va vn vc) n A := HA.out.kept (fun k2 hk2 q hq e => by
     rw [Below.heap_alloc _ _ _ (by omega)]
     exact HRE.out.block k2 hk2 (fun hs => HAV.out q hq (by rw [← e]; exact .inl hs)))
    have hrow1 : BRow (wr.alloc (.cells (rowL n fun _ => .bool false).toArray 4)) wr.heap.size n (fun _ => false) := Blk.new wr _ _
    obtain ⟨kv, w3, hrun, hg3, hr3⟩ := copy_also _ wr.heap.size n A (.slice va vn vc) 3 hrow1 hn.2 hA1
    have HRUN := Lib.hid hrun
    have hX2 : HG (wr.alloc (.cells (rowL n fun _ => .bool false).toArray 4)) base G k n (fun i q => if q = r then false else X i q) bs cp := HX1.out.below ((Below.refl _ _).alloc (Nat.le_refl _) _)
    have hlts : G < wr.heap.size ∧ ∀ i, i < k → bs i < wr.heap.size := ⟨HX1.out.blk.lt, fun i hi => (HX1.out.row i hi).lt⟩
    have hX3 : HG w3 base G k n (fun i q => if q = r then false else X i q) bs cp := hX2.restS (RestS.ofRest1 (S := fun k => k = wr.heap.size) hr3 rfl) (by have := hlts.1; omega) (fun i hi => by have := hlts.2 i hi; omega)
    have c3 := hg3.cell hr
    have f3 := hg3.free r
    have hX4 : HG (w3.setCell ⟨wr.heap.size, r, none⟩ (.bool true)) base G k n (fun i q => if q = r then false else X i q) bs cp := hX3.restS (RestS.set (RestS.refl (fun k => k = wr.heap.size) w3) (p := ⟨wr.heap.size, r, none⟩) rfl _) (by have := hlts.1; omega) (fun i hi => by have := hlts.2 i hi; omega)
    have hg4 := hg3.set r true
    have fG := hX4.blk.free p
    have cG4 := Blk.row hX4.blk hp
    have hput := hX4.put hg4 (fun i hi e => by have := hlts.2 i hi; omega) (by omega) p hp
    have HF : Hid (HG ((w3.setCell ⟨wr.heap.size, r, none⟩ (.bool true)).setCell ⟨G, p, none⟩ (.slice (some ⟨wr.heap.size, 0, none⟩) n n)) base G k n (defX X p r A) (fun i => if i = p then wr.heap.size else bs i) (fun i => if i = p then n else cp i)) := hput.congr (fun i _ q _ => by
     by_cases e : i = p
     ·simp [defX, e, HP0.out]
     ·simp [defX, e])
    have hrs : RestS (fun k' => inB' k bs k' ∨ k' = G) w ((w3.setCell ⟨wr.heap.size, r, none⟩ (.bool true)).setCell ⟨G, p, none⟩ (.slice (some ⟨wr.heap.size, 0, none⟩) n n)) := by
     refine RestS.set ?_ (p := ⟨G, p, none⟩) (.inr rfl) _
     refine ⟨?_, ?_, ?_, ?_, fun k2 hk2 hs2 => ?_⟩
     ·show (w3.setCell _ _).os = _; exact (hr3.os).trans HRE.out.os
     ·show (w3.setCell _ _).tape = _; exact (hr3.tape).trans HRE.out.tape
     ·show (w3.setCell _ _).output = _; exact (hr3.output).trans HRE.out.output
     ·have := hr3.size; simp [World.setCell] at this ⊢; omega
     ·rw [Below.heap_setCell _ _ _ _ (by show k2 ≠ wr.heap.size; omega), hr3.block k2 (by simp; omega) (by omega), Below.heap_alloc _ _ _ (by omega)]
      exact HRE.out.block k2 hk2 (fun h => hs2 (.inl h))
    have HRS := Lib.hid hrs
    clear hX2 hX3 hg4 hX4 hput hrs hrow1 hA1 hrun hr3 hg3
    have HLT := Lib.hid hlts
    clear hlts
    go_wp2_with (refine wpList_of_wp _ rfl (fun K Q' hk => wp_copy_eq _ _ _ 51 51 rfl _ _ rfl rfl HRUN.out hk) ?_)
    refine bodyPost_ret (v := .tuple #[]) (by simp [results, Tryz.results53, go_sem]) rfl ⟨rfl, HRS.out, _, _, HF.out, fun i hi => ?_⟩
    by_cases e : i = p
    ·right; simp [e]; exact hw1
    ·left; simp [e]

def CloneB (n : Nat) (l : Nat → Bool) (w : World) (e : Ending) (w' : World) : Prop := ∃ g c, e = .returned (.slice (some ⟨g, 0, none⟩) n c) ∧ GRow w' g n c l ∧ w.heap.size ≤ g ∧ Below w.heap.size w w'
theorem info_partsB {t : TypeId} {z : Option Value} {s b : Nat} (h : (Tryz.prog.info? t).map (fun i => (i.zero, i.size, i.bytes)) = some (z, s, b)) : ∃ i, Tryz.prog.info? t = some i ∧ i.zero = z ∧ i.size = s ∧ i.bytes = b := by
 cases hi : Tryz.prog.info? t with
 | none => rw [hi] at h; cases h
 | some i => rw [hi] at h; simp only [Option.map_some, Option.some.injEq, Prod.mk.injEq] at h; exact ⟨i, rfl, h⟩
set_option maxRecDepth 100000 in
set_option maxHeartbeats 1000000 in
theorem clone_bools (g n c : Nat) (l : Nat → Bool) (w : World) (h : GRow w g n c l) (hn : 0 < n ∧ n ≤ 8192) :
  Calls Tryz.prog 48 #[.slice (some ⟨g, 0, none⟩) n c] w (CloneB n l w) := by
 have q22 : ∀ (w : World) (a : Option Addr) (n c n' c' : Nat), (binOp .eql 51 (.slice a n c) (.slice none n' c')).run Tryz.prog w = .ok (.bool a.isNone) w := fun w a n c n' c' => Lib.run_eql_slice_nil w _ _ a n c n' c' Tryz.underlying51
 have hl : (rowL n fun r => Value.bool (l r)).length = n * 1 := by rw [rowL_length]; omega
 have HN : Hid (∀ j u, (rowL n fun r => Value.bool (l r))[j]? = some u → w.cell? ((⟨g, 0, none⟩ : Addr).add j) = some u) := fun j u hj => by
  have hjn : j < n := by have := (List.getElem?_eq_some_iff.1 hj).1; rw [rowL_length] at this; exact this
  rw [rowL_get hjn] at hj
  rw [Addr.add_lit, Nat.zero_add, h.cell hjn]
  exact hj
 have H1 : Hid (∀ u ∈ (rowL n fun r => Value.bool (l r)), u.oneCell' = true) := by
  intro u hu
  obtain ⟨z, _, rfl⟩ := List.mem_map.1 hu
  rfl
 obtain ⟨i0, hi0, hz0, hz1, hz2⟩ := info_partsB Tryz.infoB4
 have hcl := h.le
 have hcm := hcl.2
 unfold maxLen at hcm
 have hc1 := hcl.1
 clear h hcl
 go_enter Tryz.func48, Tryz.ntmps48
 go_wp2_with (at_builtin; refine wpList_append_own _ rfl _ _ 51 rfl w.heap.size 4 i0 (.bool false) 1 1 Tryz.underlying51 hi0 hz0 hz1 hz2 rfl (by decide) _ _ _ rfl (World.ownsRow_made w #[] 0 (Nat.le_refl _) (Nat.zero_le _) rfl) ⟨g, 0, none⟩ n c (rowL n fun r => Value.bool (l r)) rfl ?qc1 ?qc2 ?qc3 ?qc4 ?qc5 ?qc6 ?_)
 case qc1 => exact hl
 case qc2 =>
  intro j u hj
  exact Lib.cell?_alloc_some _ (HN.out j u hj)
 case qc3 => exact H1.out
 case qc4 => unfold maxLen; omega
 case qc5 => omega
 case qc6 => simp
 intro v' w1 hown hgrow hnil
 have HB := Lib.hid (((Below.refl _ w).alloc (Nat.le_refl _) _).grown hgrow (by simp) (by intro k hk; simp [Value.ownBlock] at hk; omega))
 rcases hown.2 with ⟨_, e0⟩ | ⟨g', c', cur, rfl, hb', hcu, h3, h4, h5, h6⟩
 ·omega
 have HG : Hid (GRow w1 g' n c' l) := ⟨cur, hcu, by omega, by omega, h4, fun r hr => by
  have h7 : (cur.toList.take (n * 1))[r]? = some (.bool (l r)) := by rw [h6]; simpa using rowL_get (f := fun r => Value.bool (l r)) hr
  rw [List.getElem?_take, if_pos (by omega)] at h7
  simpa using h7⟩
 clear hown hgrow hnil
 go_wp2_with fail
 go_ret
 exact ⟨_, _, rfl, HG.out, hb', HB.out⟩

def CloneH (m n : Nat) (X : Nat → Nat → Bool) (w : World) (e : Ending) (w' : World) : Prop :=
 ∃ G bs cp, e = .returned (.slice (some ⟨G, 0, none⟩) m m) ∧ HG w' w.heap.size G m n X bs cp ∧ Below w.heap.size w w'

set_option maxRecDepth 100000 in
set_option maxHeartbeats 8000000 in
theorem cloneHolds_any (w : World) (base G m n : Nat) (X : Nat → Nat → Bool) (bs cp : Nat → Nat) (h : HG w base G m n X bs cp) (hm : 0 < m ∧ m ≤ 9000) (hn2 : 0 < n ∧ n ≤ 8192) :
  Calls Tryz.prog 55 #[.slice (some ⟨G, 0, none⟩) m m] w (CloneH m n X w) := by
 have hmk2 : ∀ w : World, (Instr.makeSlice 104 (.int .i64 (m : Int)) (.int .i64 (m : Int))).run Tryz.prog w = .ok (.slice (some ⟨w.heap.size, 0, none⟩) m m) (w.alloc (.cells (rowL m fun _ => .slice none 0 0).toArray 51)) := fun w => run_make_rep (P := Tryz.prog) 104 51 (.slice none 0 0) 24 Tryz.underlying104 Tryz.infoR51 rfl m (by omega) (by omega) w
 have hb1 : Below w.heap.size w (w.alloc (.cells (rowL m fun _ => .slice none 0 0).toArray 51)) := (Below.refl _ _).alloc (Nat.le_refl _) _
 have hbG := Blk.new w (rowL m fun _ => .slice none 0 0) 51
 have H0 := Lib.hid h
 clear h
 go_enter Tryz.func55, Tryz.ntmps55
 go_wp2_with fail
 have HB1 := Lib.hid hb1
 have HBG := Lib.hid hbG
 clear hb1 hbG
 generalize w.alloc (.cells (rowL m fun _ => .slice none 0 0).toArray 51) = w1 at HB1 HBG ⊢
 go_loopw [11] (fun u wr => ∃ (k : Nat) (bs' cp' : Nat → Nat), k ≤ m ∧ u = .int .i64 (k : Int) ∧ Blk wr w.heap.size 51 (rowL m fun i => if i < k then .slice (some ⟨bs' i, 0, none⟩) n (cp' i) else .slice none 0 0) ∧ (∀ i, i < k → GRow wr (bs' i) n (cp' i) (X i)) ∧ Below w.heap.size w wr ∧ (∀ i j, i < k → j < k → bs' i = bs' j → i = j) ∧ (∀ i, i < k → w.heap.size ≤ bs' i)) (fun u _ => m - (intOf u).toNat)
 case atStart => exact ⟨0, fun _ => 0, fun _ => 0, Nat.zero_le _, rfl, HBG.out, fun i hi => absurd hi (Nat.not_lt_zero _), HB1.out, fun i j hi => absurd hi (Nat.not_lt_zero _), fun i hi => absurd hi (Nat.not_lt_zero _)⟩
 case round =>
  clear HBG HB1
  obtain ⟨k, bs', cp', hk, rfl, hbG, hrow, hbe, hinj, hlo⟩ := hrel
  have HBG := Lib.hid hbG
  have HROW := Lib.hid hrow
  have HBE := Lib.hid hbe
  have HI := Lib.hid hinj
  have HL := Lib.hid hlo
  clear hbG hrow hbe hinj hlo
  by_cases hlt : k < m
  ·have hs := H0.out.below HBE.out
   have cX := Blk.row hs.blk hlt
   have hcp := (hs.row k hlt).le
   have hcpm := hcp.2
   unfold maxLen at hcpm
   have hcp1 := hcp.1
   have HCL := Lib.hid (clone_bools (bs k) n (cp k) (X k) wr (hs.row k hlt) hn2)
   obtain ⟨bk, hbk⟩ : ∃ x, x = bs k := ⟨_, rfl⟩
   obtain ⟨ck, hck⟩ : ∃ x, x = cp k := ⟨_, rfl⟩
   rw [← hbk, ← hck] at cX HCL
   rw [← hck] at hcp1 hcpm
   clear hbk hck hcp hs
   go_wp2_with fail
   refine HCL.out.mono ?_
   rintro e w2 ⟨g, c, rfl, hg, hge, hb2⟩
   have hbG2 := HBG.out.below hb2 HBG.out.lt
   have cG := Blk.row hbG2 hlt
   rw [if_neg (by omega)] at cG
   have fG := hbG2.free k
   have hgne : g ≠ w.heap.size := hg.ne hbG2
   have HN : Hid (Blk (w2.setCell ⟨w.heap.size, k, none⟩ (.slice (some ⟨g, 0, none⟩) n c)) w.heap.size 51 (rowL m fun i => if i < k + 1 then .slice (some ⟨(fun i => if i = k then g else bs' i) i, 0, none⟩) n ((fun i => if i = k then c else cp' i) i) else .slice none 0 0)) := by
    refine Blk.rowCongr (Blk.rowSet hbG2 k _) fun i hi => ?_
    by_cases e1 : i = k
    ·subst e1; simp
    ·by_cases e2 : i < k
     ·simp [e1, e2, show i < k + 1 by omega]
     ·simp [e1, e2, show ¬ i < k + 1 by omega]
   have HN2 : Hid (∀ i, i < k + 1 → GRow (w2.setCell ⟨w.heap.size, k, none⟩ (.slice (some ⟨g, 0, none⟩) n c)) ((fun i => if i = k then g else bs' i) i) n ((fun i => if i = k then c else cp' i) i) (X i)) := fun i hi => by
    by_cases e1 : i = k
    ·subst e1
     simp only [if_true]
     exact hg.setOther hgne _
    ·simp only [e1, if_false]
     have hr := (HROW.out i (by omega)).below hb2 (HROW.out i (by omega)).lt
     exact hr.setOther (hr.ne hbG2) _
   have HN3 : Hid (Below w.heap.size w (w2.setCell ⟨w.heap.size, k, none⟩ (.slice (some ⟨g, 0, none⟩) n c))) := (HBE.out.trans (hb2.mono HBE.out.size)).setCell (p := ⟨w.heap.size, k, none⟩) (Nat.le_refl _) _
   have HN4 : Hid (∀ i j, i < k + 1 → j < k + 1 → (fun i => if i = k then g else bs' i) i = (fun i => if i = k then g else bs' i) j → i = j) := fun i j hi hj e => by
    by_cases e1 : i = k <;> by_cases e2 : j = k
    ·omega
    ·have h := (HROW.out j (by omega)).lt; simp [e1, e2] at e; omega
    ·have h := (HROW.out i (by omega)).lt; simp [e1, e2] at e; omega
    ·simp [e1, e2] at e; exact HI.out i j (by omega) (by omega) e
   have HN5 : Hid (∀ i, i < k + 1 → w.heap.size ≤ (fun i => if i = k then g else bs' i) i) := fun i hi => by
    by_cases e1 : i = k
    ·simp [e1]; have := HBE.out.size; omega
    ·simp [e1]; exact HL.out i (by omega)
   clear hbG2 hg hge hb2 hgne HBG HROW HBE HI HL HCL cX
   go_wp2_with fail
   go_roundw
   case rel => exact ⟨k + 1, _, _, by omega, by go_num, HN.out, HN2.out, HN3.out, HN4.out, HN5.out⟩
   case measure => simp [intOf]; omega
  ·obtain rfl : k = m := by omega
   have HR0 : Hid (HG wr w.heap.size w.heap.size k n X bs' cp') := ⟨Blk.rowCongr HBG.out fun i hi => by rw [if_pos hi], HROW.out, HI.out, Nat.le_refl _, HL.out⟩
   clear HBG HROW HI HL hmk2
   go_wp2_with fail
   go_ret
   exact ⟨w.heap.size, bs', cp', rfl, HR0.out, HBE.out⟩

/-- the checker's box -/
def chkC (f : VF) (a : AL) : List Value := [.int .i64 f.name, .slice f.pa f.pn f.pc, .int .i64 f.regs, .slice f.sa f.sn f.sc, .slice a.ra a.rn a.rc, .slice a.sa a.sn a.sc, .int .i64 a.k]
def ChkAt (w : World) (cb : Nat) (f : VF) (a : AL) : Prop := Blk w cb 102 (chkC f a)
theorem ChkAt.mid {w : World} {cb : Nat} {f : VF} {a : AL} (h : ChkAt w cb f a) : w.rangeAt cb 4 [.slice a.ra a.rn a.rc, .slice a.sa a.sn a.sc, .int .i64 a.k] := by
 intro j v hv
 rw [Blk.cell h (4 + j)]
 have hj : j < 3 := (List.getElem?_eq_some_iff.1 hv).1
 rcases (show j = 0 ∨ j = 1 ∨ j = 2 by omega) with rfl | rfl | rfl <;> exact hv
/-- the allocation fits a function of n registers and m places -/
structure AL.Fit (a : AL) (n m : Nat) : Prop where
 rn : a.rn = n
 sn : a.sn = n
 sl : ∀ z ∈ a.slot, z ≤ 8192
 pl : ∀ r, r < n → 0 ≤ plc 11 a r ∧ plc 11 a r < (m : Int)
def useB (a : AL) (X : Nat → Nat → Bool) (r : Nat) : Bool := decide (plc 11 a r ≠ 0) && X (plc 11 a r).toNat r
def usedB (a : AL) (X : Nat → Nat → Bool) (l : List Nat) : Bool := l.all (useB a X)
def UsedPost (b : Bool) (w : World) (e : Ending) (w' : World) : Prop := e = .returned (.bool b) ∧ Below w.heap.size w w'

set_option maxRecDepth 100000 in
set_option maxHeartbeats 8000000 in
theorem used_any (w : World) (cb : Nat) (f : VF) (a : AL) (hc : ChkAt w cb f a) (ha : a.Ok w) (base G m n : Nat) (X : Nat → Nat → Bool) (bs cp : Nat → Nat) (h : HG w base G m n X bs cp) (hfit : a.Fit n m) (hm : 0 < m ∧ m ≤ 9000) (hn : 0 < n ∧ n ≤ 8192) (la : Option Addr) (ll lc : Nat) (l : List Nat) (hl : Came w la ll lc 1 ((l.map fun (x : Nat) => (x : Int)).map intCells)) (hlr : ∀ r ∈ l, r < n) :
  Calls Tryz.prog 57 #[.pointer (some ⟨cb, 0, none⟩), .slice (some ⟨G, 0, none⟩) m m, .slice la ll lc] w (UsedPost (usedB a X l) w) := by
 have hll : l.length = ll := by simpa using hl.count
 have hle := hl.le
 have hmx := hl.max
 have H0 := Lib.hid h
 have HC := Lib.hid hc
 have HA := Lib.hid ha
 have HL := Lib.hid hl
 have HF := Lib.hid hfit
 have HLL := Lib.hid hll
 have HLR := Lib.hid hlr
 obtain ⟨res, hres⟩ : ∃ x, x = usedB a X l := ⟨_, rfl⟩
 rw [← hres]
 have HRES := Lib.hid hres
 have HS3 : Hid ((Tryz.prog.info? 31).map (·.size) = some 3) := by unfold Hid; kernel_rfl
 clear h hc ha hl hfit hres hll hlr
 go_enter Tryz.func57, Tryz.ntmps57
 go_wp2_with fail
 go_loopw [12] (fun u wr => ∃ (k : Nat), k ≤ ll ∧ u = .int .i64 (k : Int) ∧ Below w.heap.size w wr ∧ (l.take k).all (useB a X) = true) (fun u _ => ll - (intOf u).toNat)
 case atStart => exact ⟨0, Nat.zero_le _, rfl, Below.refl _ _, by simp⟩
 case round =>
  obtain ⟨k, hk, rfl, hbe, hall⟩ := hrel
  have HBE := Lib.hid hbe
  have HALL := Lib.hid hall
  clear hbe hall
  by_cases hlt : k < ll
  ·obtain ⟨b', off, ea, _, hcell⟩ := (HL.out.below HBE.out).ints (by omega)
   subst ea
   have hkl : k < l.length := by have := HLL.out; omega
   have cl := hcell k (by simpa using hkl)
   have HT := Lib.hid (List.take_succ_eq_append_getElem hkl)
   have hr := HLR.out _ (List.getElem_mem hkl)
   obtain ⟨r, hre⟩ : ∃ r, r = l[k] := ⟨_, rfl⟩
   rw [← hre] at HT hr
   have cl2 : wr.cell? ⟨b', off + k, none⟩ = some (.int .i64 (r : Int)) := by rw [cl, hre]; simp
   have HMID := Lib.hid (ChkAt.mid (w := wr) (cb := cb) (f := f) (a := a) (HC.out.below HBE.out HC.out.lt))
   have HPL := Lib.hid (place_any wr a (HA.out.below HBE.out) r (by rw [HF.out.rn]; exact hr) (by rw [HF.out.sn]; exact hr) HF.out.sl)
   have hpb := HF.out.pl r hr
   obtain ⟨p, hp⟩ : ∃ p : Nat, plc 11 a r = (p : Int) := ⟨(plc 11 a r).toNat, by omega⟩
   have HU : Hid (useB a X r = (decide (p ≠ 0) && X p r)) := by
    show _ = _
    unfold useB
    rw [hp]
    have e : decide (((p : Nat) : Int) ≠ 0) = decide (p ≠ 0) := decide_eq_decide.2 (by omega)
    rw [e]; rfl
   rw [hp] at HPL hpb
   have hpm : p < m := by omega
   unfold AL.v at HPL
   clear cl hcell hre hp hpb
   go_wp2_with (refine wpList_load_mid rfl 31 _ rfl cb 4 rfl _ _ HMID.out Tryz.underlying31 rfl HS3.out ?_)
   refine HPL.out.mono ?_
   rintro e w2 ⟨rfl, hb2⟩
   have HB2 := Lib.hid (HBE.out.trans (hb2.mono HBE.out.size))
   clear hb2
   by_cases hp0 : p = 0
   ·have q1 : ((p : Int) == 0) = true := by simp [hp0]
    have HF0 : Hid (res = false) := by
     show _ = _
     rw [HRES.out, ← Bool.not_eq_true]
     intro hx
     have := List.all_eq_true.1 hx r (by
      have h9 := HT.out
      exact List.mem_of_mem_take (i := k + 1) (by rw [h9]; simp))
     rw [HU.out, hp0] at this
     simp at this
    clear hp0
    go_wp2_with fail
    go_ret
    exact ⟨ret_bool HF0.out.symm, HB2.out⟩
   ·have q1 : ((p : Int) == 0) = false := by simp [hp0]
    have hX := H0.out.below HB2.out
    have cG := Blk.row hX.blk hpm
    have cX := (hX.row p hpm).cell hr
    have hcp := (hX.row p hpm).le
    have hcpm := hcp.2
    unfold maxLen at hcpm
    have hcp1 := hcp.1
    obtain ⟨bk, hbk⟩ : ∃ x, x = bs p := ⟨_, rfl⟩
    obtain ⟨ck, hck⟩ : ∃ x, x = cp p := ⟨_, rfl⟩
    rw [← hbk, ← hck] at cG
    rw [← hbk] at cX
    rw [← hck] at hcp1 hcpm
    obtain ⟨x, hx⟩ : ∃ x, x = X p r := ⟨_, rfl⟩
    rw [← hx] at cX HU
    have HP0 := Lib.hid hp0
    clear hbk hck hcp hX hp0 hx
    cases x with
    | true =>
     have HN : Hid ((l.take (k + 1)).all (useB a X) = true) := by
      show _ = _
      rw [HT.out, List.all_append, HALL.out]
      simp [HU.out, HP0.out]
     go_wp2_with fail
     go_roundw
     case rel => exact ⟨k + 1, by omega, by go_num, HB2.out, HN.out⟩
     case measure => simp [intOf]; omega
    | false =>
     have HF0 : Hid (res = false) := by
      show _ = _
      rw [HRES.out, ← Bool.not_eq_true]
      intro hx
      have := List.all_eq_true.1 hx r (by
       have h9 := HT.out
       exact List.mem_of_mem_take (i := k + 1) (by rw [h9]; simp))
      rw [HU.out] at this
      simp at this
     go_wp2_with fail
     go_ret
     exact ⟨ret_bool HF0.out.symm, HB2.out⟩
  ·have ek : k = ll := by omega
   subst ek
   have HF1 : Hid (res = true) := by
    show _ = _
    have := HALL.out
    rw [List.take_of_length_le (by have := HLL.out; omega)] at this
    rw [HRES.out]; exact this
   go_wp2_with fail
   go_ret
   exact ⟨ret_bool HF1.out.symm, HBE.out⟩

theorem zeroCells_bool (n : Nat) : (Builtin.zeroCells (Value.bool false).cells n).toList = rowL n fun _ => .bool false := by
 rw [← rowL_rep]
 apply List.ext_getElem?
 intro i
 simp only [Builtin.zeroCells, Value.cells]
 by_cases hi : i < n
 ·rw [List.getElem?_replicate, if_pos hi]
  simp [hi, Nat.mod_one]
 ·rw [List.getElem?_replicate, if_neg hi]
  simp
  omega
theorem clear_row (w : World) (g n c : Nat) (l : Nat → Bool) (ty : TypeId) (h : GRow w g n c l) (hn : 0 < n) :
  ∃ w', (Builtin.clear_ #[51] ty #[.slice (some ⟨g, 0, none⟩) n c]).run Tryz.prog w = .ok (.tuple #[]) w' ∧ GRow w' g n c (fun _ => false) ∧ Rest1 g w w' := by
 obtain ⟨n', rfl⟩ : ∃ k, n = k + 1 := ⟨n - 1, by omega⟩
 obtain ⟨n, hnn⟩ : ∃ n, n = n' + 1 := ⟨_, rfl⟩
 rw [← hnn] at h ⊢
 have hl : (rowL n fun _ => Value.bool false).length = n := rowL_length _ _
 obtain ⟨cur, hc, h1, h2, h3, h4⟩ := id h
 have hst := run_storeCells_cells (P := Tryz.prog) g 0 (rowL n fun _ => Value.bool false) 0 w (fun j hj => by
  rw [hl] at hj
  rw [show 0 + 0 + j = j by omega, h.cell hj]; rfl) (fun j _ => h.free _) (fun u hu => by
   obtain ⟨i, _, rfl⟩ := List.mem_map.1 hu; rfl)
 obtain ⟨cur', k2, k3, k4⟩ := setCells_heap g 4 (rowL n fun _ => Value.bool false) 0 w _ hc
 have hz : ∀ w, (zeroValue 4).run Tryz.prog w = .ok (.bool false) w := fun w => by
  cases hq : Tryz.prog.info? 4 with
  | none => have := Tryz.infoB4; rw [hq] at this; cases this
  | some i =>
   have := Tryz.infoB4
   rw [hq] at this
   simp only [Option.map_some, Option.some.injEq, Prod.mk.injEq] at this
   simp [zeroValue, typeInfo, hq, this.1]
 refine ⟨w.setCells g 0 (rowL n fun _ => Value.bool false), ?_, ⟨cur', k2, h1, by omega, h3, fun r hr => ?_⟩, setCells_grown g _ 0 w⟩
 ·simp only [Nat.add_zero] at hst
  rw [hnn] at hst ⊢
  simp [Builtin.clear_, run_underlying Tryz.underlying51, hz, zeroCells_bool, hst]
 ·rw [k4 r (by omega), if_pos (by rw [hl]; omega), Nat.sub_zero, rowL_get hr]
def callB (op : Int) : Bool := op == 101 || op == 102
theorem calls_any (op : Int) (w : World) : Calls Tryz.prog 45 #[.int .i64 op] w fun e w' => e = .returned (.bool (callB op)) ∧ w = w' := by
 have hs : (op == 101) = true ∨ ((op == 101) = false ∧ ((op == 102) = true ∨ (op == 102) = false)) := by
  cases (op == 101) <;> cases (op == 102) <;> simp
 rcases hs with h1 | ⟨h1, h2 | h2⟩
 all_goals
  have H : Hid (callB op = (op == 101 || op == 102)) := rfl
  go_enter Tryz.func45, Tryz.ntmps45
  go_wp2
  go_ret
  exact ⟨ret_bool (by rw [H.out]; simp [*]), rfl⟩

theorem loadMid {P : Program} {ops : Array Oper} {C : World → Prop} {Q : Act → Prop} {op : Oper} {a : Act} (hw : Region.wanted op (yielded ops a.tmps) = true) (ty : TypeId) (x : Operand) (ho : op.op = .load ty x)
  (b o : Nat) (hx : a.eval x = .pointer (some ⟨b, o, none⟩)) (cs : List Value) (d : TypeDesc) (hc : ∀ w, C w → w.rangeAt b o cs)
  (hu : P.underlying ty = some d) (hd : d.isRow = true) (hi : (P.info? ty).map (·.size) = some cs.length) (h : Q (a.put op.dst (.agg cs.toArray))) : wpQuiet P ops C Q [op] a := by
 unfold wpQuiet
 rw [if_pos hw]
 refine ⟨.agg cs.toArray, fun w hw' => ?_, h⟩
 unfold Oper.quietAt execOp
 simp only [ho, hx, Instr.loadAt, Instr.sureAddr, Sem.run_bind, Sem.run_pure, Result.andThen_ok, run_loadVar_mid w b o ty cs d (hc w hw') hu hd hi]
 exact ⟨rfl, rfl⟩
def usesN (x : VI) : List Nat := (usesV x).map Int.toNat
def callX (x : VI) (X : Nat → Nat → Bool) (i q : Nat) : Bool := if callB x.op = true ∧ 1 ≤ i ∧ i ≤ 10 then false else X i q
def alsoA (a : AL) (x : VI) (X : Nat → Nat → Bool) (q : Nat) : Bool := if x.op = 100 ∧ x.a ≠ 0 then (if q = (defV x).toNat then false else X (plc 11 a x.a.toNat).toNat q) else false
def insX (a : AL) (x : VI) (X : Nat → Nat → Bool) (i q : Nat) : Bool := if defV x = 0 then callX x X i q else defX (callX x X) (plc 11 a (defV x).toNat).toNat (defV x).toNat (alsoA a x (callX x X)) i q
/-- what stands while ins runs -/
structure InsI (w0 w wr : World) (cb : Nat) (f : VF) (a : AL) (x : VI) (base G m n : Nat) (X : Nat → Nat → Bool) (bs cp : Nat → Nat) : Prop where
 be : Below w0.heap.size w0 wr
 chk : ChkAt wr cb f a
 bx : Blk wr w.heap.size 48 (viC x)
 hg : HG wr base G m n X bs cp
 rs : RestS (fun k => inB' m bs k ∨ k = G) w wr
def InsPost (a : AL) (x : VI) (base G m n : Nat) (X : Nat → Nat → Bool) (bs : Nat → Nat) (w : World) (e : Ending) (w' : World) : Prop :=
 RestS (fun k => inB' m bs k ∨ k = G) w w' ∧ ((usedB a X (usesN x) = false ∧ e = .returned (.bool false)) ∨ (usedB a X (usesN x) = true ∧ e = .returned (.bool true) ∧ ∃ bs' cp', HG w' base G m n (insX a x X) bs' cp' ∧ ∀ i, i < m → bs' i = bs i ∨ w.heap.size ≤ bs' i))
theorem HG.blkNe {w : World} {base G m n cb : Nat} {X : Nat → Nat → Bool} {bs cp : Nat → Nat} {t : TypeId} {cs : List Value} (h : HG w base G m n X bs cp) (hc : Blk w cb t cs) (h1 : t ≠ 4) (h2 : t ≠ 51) : ¬ (inB' m bs cb ∨ cb = G) := by
 have hc' : w.heap[cb]? = _ := hc
 rintro (⟨i, hi, e⟩ | e)
 ·obtain ⟨cur, hb, _⟩ := h.row i hi
  rw [← e, hc'] at hb
  injection hb with hb
  injection hb with _ hb _
  exact h1 hb
 ·have hG : w.heap[G]? = _ := h.blk
  rw [← e, hc'] at hG
  injection hG with hG
  injection hG with _ hG _
  exact h2 hG
theorem below_refl_of {w w' : World} (h : Below w.heap.size w w') (S : Nat → Prop) : RestS S w w' := ⟨h.os, h.tape, h.output, h.size, fun k hk _ => h.block k hk⟩
theorem InsI.below {w0 w wr wx : World} {cb : Nat} {f : VF} {a : AL} {x : VI} {base G m n : Nat} {X : Nat → Nat → Bool} {bs cp : Nat → Nat} (h : InsI w0 w wr cb f a x base G m n X bs cp) (hb : Below wr.heap.size wr wx) : InsI w0 w wx cb f a x base G m n X bs cp :=
 ⟨h.be.trans (hb.mono h.be.size), h.chk.below hb h.chk.lt, h.bx.below hb h.bx.lt, h.hg.below hb, h.rs.trans (below_refl_of hb _)⟩

/-- one row cleared -/
theorem HG.row1 {w w' : World} {base G m n : Nat} {X : Nat → Nat → Bool} {bs cp : Nat → Nat} (h : HG w base G m n X bs cp) {p : Nat} (hp : p < m) {l : Nat → Bool} (hr : Rest1 (bs p) w w') (hg : GRow w' (bs p) n (cp p) l) : HG w' base G m n (fun i q => if i = p then l q else X i q) bs cp := by
 refine ⟨h.blk.of_heap (hr.block G h.blk.lt (fun e => (h.row p hp).ne h.blk e.symm)), fun i hi => ?_, h.inj, h.lo⟩
 by_cases e : i = p
 ·subst e; exact hg.congr (fun q _ => by simp)
 ·exact ((h.row i hi).of_heap (hr.block _ (h.row i hi).lt (fun e2 => e (h.inj i p hi hp e2)))).congr (fun q _ => by simp [e])
theorem InsI.row1 {w0 w wr wx : World} {cb : Nat} {f : VF} {a : AL} {x : VI} {base G m n : Nat} {X : Nat → Nat → Bool} {bs cp : Nat → Nat} (h : InsI w0 w wr cb f a x base G m n X bs cp) (hb : w0.heap.size ≤ base) {p : Nat} (hp : p < m) {l : Nat → Bool} (hr : Rest1 (bs p) wr wx) (hg : GRow wx (bs p) n (cp p) l) : InsI w0 w wx cb f a x base G m n (fun i q => if i = p then l q else X i q) bs cp :=
 ⟨h.be.trans (Rest1.below hr (Nat.le_trans hb (h.hg.lo.2 p hp)) h.be.size),
  Blk.of_heap h.chk (hr.block cb (Blk.lt h.chk) (fun e => h.hg.blkNe h.chk (by decide) (by decide) (.inl ⟨p, hp, e⟩))),
  Blk.of_heap h.bx (hr.block _ h.bx.lt (fun e => h.hg.blkNe h.bx (by decide) (by decide) (.inl ⟨p, hp, e⟩))),
  h.hg.row1 hp hr hg, h.rs.trans (RestS.ofRest1 hr (.inl ⟨p, hp, rfl⟩))⟩
theorem InsI.congr {w0 w wr : World} {cb : Nat} {f : VF} {a : AL} {x : VI} {base G m n : Nat} {X X' : Nat → Nat → Bool} {bs cp : Nat → Nat} (h : InsI w0 w wr cb f a x base G m n X bs cp) (e : ∀ i q, X i q = X' i q) : InsI w0 w wr cb f a x base G m n X' bs cp :=
 ⟨h.be, h.chk, h.bx, h.hg.congr (fun i _ q _ => e i q), h.rs⟩

set_option maxRecDepth 100000 in
set_option maxHeartbeats 8000000 in
theorem ins_any (w0 w : World) (hw0 : Below w0.heap.size w0 w) (cb : Nat) (f : VF) (a : AL) (hc : ChkAt w cb f a) (ha : a.Ok w0) (base G m n : Nat) (hbase : w0.heap.size ≤ base ∧ base ≤ w.heap.size) (X : Nat → Nat → Bool) (bs cp : Nat → Nat) (h : HG w base G m n X bs cp) (hfit : a.Fit n m) (hm : 11 ≤ m ∧ m ≤ 9000) (hn : 0 < n ∧ n ≤ 8192)
  (x : VI) (hx : x.Ok w0) (hu : ∀ z ∈ usesV x, 1 ≤ z ∧ z < n) (hxa : 0 ≤ x.a ∧ x.a < n) (hxd : 0 ≤ defV x ∧ defV x < n) :
  Calls Tryz.prog 56 #[.pointer (some ⟨cb, 0, none⟩), .slice (some ⟨G, 0, none⟩) m m, viV x] w (InsPost a x base G m n X bs w) := by
 have hba : Below w.heap.size w (w.alloc (.cells (viC x).toArray 48)) := (Below.refl _ _).alloc (Nat.le_refl _) _
 have hI : InsI w0 w (w.alloc (.cells (viC x).toArray 48)) cb f a x base G m n X bs cp := ⟨hw0.trans (hba.mono hw0.size), Blk.below hc hba (Blk.lt hc), Blk.new w (viC x) _, h.below hba, below_refl_of hba _⟩
 have HI := Lib.hid hI
 have HA := Lib.hid ha
 have HX := Lib.hid hx
 have HF := Lib.hid hfit
 have HU := Lib.hid hu
 have HSZ : Hid ((Tryz.prog.info? 48).map (·.size) = some (viC x).toArray.size) := by unfold Hid; kernel_rfl
 unfold viV
 clear hba hI h ha hx hfit hu hc
 go_enter Tryz.func56, Tryz.ntmps56
 go_upto_region 1 with fail
 change Code.wp _ _ _ _ (w.alloc (.cells (viC x).toArray 48))
 generalize w.alloc (.cells (viC x).toArray 48) = w1 at HI ⊢
 have HUS := Lib.hid (uses_any x w1 (HX.out.below HI.out.be))
 unfold viV at HUS
 go_wp2_with (refine wpList_load_row rfl 48 _ rfl w.heap.size rfl _ (viC x).toArray _ _ HI.out.bx Tryz.underlying48 rfl HSZ.out ?_)
 refine HUS.out.mono ?_
 rintro e w2 ⟨v, rfl, hown, hb2⟩
 obtain ⟨la, lc, rfl, hlc⟩ := came_ownsV hown
 replace HI := Lib.hid (HI.out.below hb2)
 have huN : (usesN x).map (fun z : Nat => (z : Int)) = usesV x := by
  unfold usesN
  rw [List.map_map]
  conv => rhs; rw [← List.map_id (usesV x)]
  refine List.map_congr_left fun z hz => ?_
  have := HU.out z hz
  simp; omega
 have HUD := Lib.hid (used_any w2 cb f a HI.out.chk (HA.out.below HI.out.be) base G m n X bs cp HI.out.hg HF.out (by omega) hn la (usesV x).length lc (usesN x) (by rw [huN]; exact hlc) (fun r hr => by
  obtain ⟨z, hz, rfl⟩ := List.mem_map.1 hr
  have := HU.out z hz; omega))
 obtain ⟨ub, hub⟩ : ∃ ub, ub = usedB a X (usesN x) := ⟨_, rfl⟩
 rw [← hub] at HUD
 have HUB := Lib.hid hub
 clear hub huN hlc hown hb2 HUS
 go_wp2_with fail
 refine HUD.out.mono ?_
 rintro e w3 ⟨rfl, hb3⟩
 replace HI := Lib.hid (HI.out.below hb3)
 clear hb3 HUD
 cases ub with
 | false =>
  go_wp2_with fail
  go_ret
  exact ⟨HI.out.rs, .inl ⟨HUB.out.symm, rfl⟩⟩
 | true =>
  have k0 := HI.out.bx.cell 0
  simp only [viC, List.getElem?_cons_zero] at k0
  go_wp2_with fail
  refine (calls_any x.op _).mono ?_
  rintro e w' ⟨rfl, rfl⟩
  obtain ⟨cbv, hcb⟩ : ∃ cbv, cbv = callB x.op := ⟨_, rfl⟩
  rw [← hcb]
  have HCB := Lib.hid hcb
  clear hcb
  go_upto_if 18 with fail
  go_cut [7] from 16 (fun _ wx => InsI w0 w wx cb f a x base G m n (callX x X) bs cp)
  case first =>
   cases cbv with
   | false =>
    have HN : Hid (InsI w0 w w3 cb f a x base G m n (callX x X) bs cp) := HI.out.congr (fun i q => by unfold callX; rw [← HCB.out]; simp)
    go_wp2_with fail
    go_meet
    exact HN.out
   | true =>
    go_wp2_with fail
    go_loopw [7] (fun v wr => ∃ p : Nat, 1 ≤ p ∧ p ≤ 11 ∧ v = .int .i64 (p : Int) ∧ InsI w0 w wr cb f a x base G m n (fun i q => if 1 ≤ i ∧ i < p then false else X i q) bs cp) (fun v _ => 11 - (intOf v).toNat)
    case atStart => exact ⟨1, Nat.le_refl _, by omega, rfl, HI.out.congr (fun i q => by rw [if_neg (by omega)])⟩
    case round =>
     obtain ⟨p, hp1, hp2, rfl, hi⟩ := hrel
     have HII := Lib.hid hi
     clear hi
     by_cases hlt : p ≤ 10
     ·have hpm : p < m := by omega
      have cG := Blk.row HII.out.hg.blk hpm
      obtain ⟨w5, hrun, hg5, hr5⟩ := clear_row wr (bs p) n (cp p) _ 0 (HII.out.hg.row p hpm) hn.1
      have HN : Hid (InsI w0 w w5 cb f a x base G m n (fun i q => if 1 ≤ i ∧ i < p + 1 then false else X i q) bs cp) := (HII.out.row1 hbase.1 hpm hr5 hg5).congr (fun i q => by
       by_cases e : i = p
       ·subst e; simp; omega
       ·have e2 : (1 ≤ i ∧ i < p + 1) ↔ (1 ≤ i ∧ i < p) := by omega
        simp [e, e2])
      have HRUN := Lib.hid hrun
      obtain ⟨bk, hbk⟩ : ∃ y, y = bs p := ⟨_, rfl⟩
      obtain ⟨ck, hck⟩ : ∃ y, y = cp p := ⟨_, rfl⟩
      rw [← hbk, ← hck] at cG HRUN
      clear hrun hg5 hr5 hbk hck
      go_wp2_with (refine wpList_of_wp _ rfl (fun K Q' hk => wp_clear_eq _ _ 51 rfl _ rfl HRUN.out hk) ?_)
      go_roundw
      case rel => exact ⟨p + 1, by omega, by omega, by go_num, HN.out⟩
      case measure => simp [intOf]; omega
     ·have HN : Hid (InsI w0 w wr cb f a x base G m n (callX x X) bs cp) := HII.out.congr (fun i q => by
       unfold callX
       rw [← HCB.out]
       have e2 : (1 ≤ i ∧ i < p) ↔ (1 ≤ i ∧ i ≤ 10) := by omega
       simp [e2])
      go_wp2_with fail
      go_meet
      exact HN.out
  case rest =>
   replace HI := Lib.hid hcut
   clear hcut k0 HCB
   have HDF := fun w => Lib.hid (def_any x w)
   unfold viV at HDF
   have HS3 : Hid ((Tryz.prog.info? 31).map (·.size) = some 3) := by unfold Hid; kernel_rfl
   have HEX : Hid (∀ i q, insX a x X i q = if defV x = 0 then callX x X i q else defX (callX x X) (plc 11 a (defV x).toNat).toNat (defV x).toNat (alsoA a x (callX x X)) i q) := fun i q => rfl
   obtain ⟨Y, hY⟩ : ∃ Y, Y = callX x X := ⟨_, rfl⟩
   rw [← hY] at HI HEX
   clear hY
   obtain ⟨dn, hdn⟩ : ∃ dn : Nat, defV x = (dn : Int) := ⟨(defV x).toNat, by omega⟩
   rw [hdn] at HDF hxd HEX
   have hdnn : dn < n := by omega
   have HDN := Lib.hid hdn
   clear hdn
   go_wp2_with (refine wpList_load_row rfl 48 _ rfl w.heap.size rfl _ (viC x).toArray _ _ HI.out.bx Tryz.underlying48 rfl HSZ.out ?_)
   refine (HDF _).out.mono ?_
   rintro e w4 ⟨rfl, hb4⟩
   replace HI := Lib.hid (HI.out.below hb4)
   clear hb4 HDF
   by_cases hd0 : dn = 0
   ·have q1 : ((dn : Int) == 0) = true := by simp [hd0]
    have HN : Hid (HG w4 base G m n (insX a x X) bs cp) := HI.out.hg.congr (fun i _ q _ => by rw [HEX.out, if_pos (by omega)])
    clear hd0
    go_wp2_with fail
    go_ret
    exact ⟨HI.out.rs, .inr ⟨HUB.out.symm, rfl, bs, cp, HN.out, fun i _ => .inl rfl⟩⟩
   ·have q1 : ((dn : Int) == 0) = false := by simp [hd0]
    have HD0 := Lib.hid hd0
    clear hd0
    obtain ⟨mv, hmv⟩ : ∃ mv, mv = ((x.op == 100) && (x.a != 0)) := ⟨_, rfl⟩
    have HMV := Lib.hid hmv
    clear hmv
    have k0 := HI.out.bx.cell 0
    have k2 := HI.out.bx.cell 2
    simp only [viC, List.getElem?_cons_zero, List.getElem?_cons_succ] at k0 k2
    go_upto_region 12 with fail
    go_cut [38] from 31 (fun v wx => v = .bool mv ∧ wx = w4)
    case first =>
     have hc1 : (x.op == 100) = true ∨ (x.op == 100) = false := by cases (x.op == 100) <;> simp
     have hc2 : (x.a != 0) = true ∨ (x.a != 0) = false := by cases (x.a != 0) <;> simp
     rcases hc1 with z1 | z1 <;> rcases hc2 with z2 | z2
     all_goals
      rw [z1, z2] at HMV
      go_wp2_with fail
      go_meet
      exact ⟨by rw [HMV.out]; rfl, rfl⟩
    case rest =>
     obtain ⟨rfl, hw5⟩ := hcut
     subst hw5
     go_upto_if 38 with fail
     go_cut [9] from 31 (fun v wx => InsI w0 w wx cb f a x base G m n Y bs cp ∧ AlsoAt wx v n (alsoA a x Y) ∧ ∀ q, v.ownBlock = some q → ¬ (inB' m bs q ∨ q = G))
     case first =>
      cases mv with
      | false =>
       have HN : Hid (∀ r, alsoA a x Y r = false) := fun r => by
        unfold alsoA
        rw [if_neg]
        rintro ⟨h1, h2⟩
        have := HMV.out
        rw [h1] at this
        simp [h2] at this
       clear k0 k2
       go_wp2_with fail
       go_meet
       exact ⟨HI.out, .inl ⟨rfl, HN.out⟩, fun q hq => by cases hq⟩
      | true =>
       have hcs : x.op = 100 ∧ x.a ≠ 0 := by
        have := HMV.out.symm
        simpa using this
       obtain ⟨an, han⟩ : ∃ an : Nat, x.a = (an : Int) := ⟨x.a.toNat, by omega⟩
       have hann : an < n := by omega
       rw [han] at k2
       have HPL0 := fun wz (hz : Below wc.heap.size wc wz) => Lib.hid (place_any wz a (HA.out.below (HI.out.be.trans (hz.mono HI.out.be.size))) an (by rw [HF.out.rn]; exact hann) (by rw [HF.out.sn]; exact hann) HF.out.sl)
       have hpb := HF.out.pl an hann
       obtain ⟨p, hp⟩ : ∃ p : Nat, plc 11 a an = (p : Int) := ⟨(plc 11 a an).toNat, by omega⟩
       rw [hp] at hpb
       simp only [hp] at HPL0
       have hpm : p < m := by omega
       unfold AL.v at HPL0
       have HAL : Hid (∀ q, alsoA a x Y q = if q = dn then false else Y p q) := fun q => by
        unfold alsoA
        rw [if_pos hcs, HDN.out, han]
        show (if q = dn then false else Y (plc 11 a an).toNat q) = _
        rw [hp]; rfl
       clear han
       obtain ⟨wd, hwd⟩ : ∃ wd, wd = wc.drew := ⟨_, rfl⟩
       have hbd : Below wc.heap.size wc wd := by rw [hwd]; exact (Below.refl _ _).drew
       have HI2 := Lib.hid (HI.out.below hbd)
       have hmidr : ∀ w', (∃ z : After wc.heap.size wd, w' = z.world) → w'.rangeAt cb 4 [.slice a.ra a.rn a.rc, .slice a.sa a.sn a.sc, .int .i64 a.k] := by
        rintro _ ⟨z, rfl⟩
        exact ChkAt.mid (f := f) (Blk.below HI2.out.chk z.below (Blk.lt HI.out.chk))
       have HMR := Lib.hid hmidr
       have r2 := fun z : After wc.heap.size wd => (z.below.cell (p := ⟨w.heap.size, 2, none⟩) (Blk.lt HI.out.bx)).trans ((hbd.cell (p := ⟨w.heap.size, 2, none⟩) (Blk.lt HI.out.bx)).trans k2)
       clear hmidr hcs hp hpb k0 k2
       go_upto_region 13 with fail
       refine wp_region_eager wc.heap.size [(0, true), (1, true), (2, true), (3, true), (4, true), (5, true), (6, true), (7, false), (8, true), (9, true), (10, false), (11, true)] (by kernel_rfl) (by kernel_rfl) ?_
       rw [← hwd]
       clear hwd
       iterate 4 (refine eag_read rfl ?_; go_big_quiet_step (fail); refine wpQuiet_nil ?_)
       refine eag_read rfl ?_
       refine loadMid rfl 31 _ rfl cb 4 rfl [.slice a.ra a.rn a.rc, .slice a.sa a.sn a.sc, .int .i64 a.k] _ HMR.out Tryz.underlying31 rfl HS3.out ?_
       go_simp
       repeat (refine eag_read rfl ?_; go_big_quiet_step (fail); refine wpQuiet_nil ?_)
       clear r2
       refine eag_does rfl rfl ?_
       intro K hK
       go_simp
       refine (HPL0 wd hbd).out.mono ?_
       rintro e w5 ⟨rfl, hb5⟩
       refine hK _ _ (hb5.mono hbd.size) ?_
       clear hK K
       have HI5 := Lib.hid (HI2.out.below hb5)
       have hb05 : Below wc.heap.size wc w5 := hbd.trans (hb5.mono hbd.size)
       have HB05 := Lib.hid hb05
       have cG := Blk.row HI.out.hg.blk hpm
       have hcp := (HI.out.hg.row p hpm).le
       have hcpm := hcp.2
       unfold maxLen at hcpm
       have hcp1 := hcp.1
       have HCL := Lib.hid (clone_bools (bs p) n (cp p) (Y p) w5 (HI5.out.hg.row p hpm) hn)
       have hGl := HI.out.hg.blk.lt
       obtain ⟨bk, hbk⟩ : ∃ y, y = bs p := ⟨_, rfl⟩
       obtain ⟨ck, hck⟩ : ∃ y, y = cp p := ⟨_, rfl⟩
       rw [← hbk, ← hck] at cG HCL
       rw [← hck] at hcp1 hcpm
       clear hbk hck hcp hb5 HPL0
       go_simp
       have r9 := fun z : After wc.heap.size w5 => (z.below.cell (p := ⟨G, p, none⟩) hGl).trans ((hb05.cell (p := ⟨G, p, none⟩) hGl).trans cG)
       repeat (refine eag_read rfl ?_; go_big_quiet_step (fail); refine wpQuiet_nil ?_)
       clear r9
       refine eag_does rfl rfl ?_
       intro K hK
       go_simp
       refine HCL.out.mono ?_
       rintro e w6 ⟨g6, c6, rfl, hg6, hge6, hb6⟩
       refine hK _ _ (hb6.mono HB05.out.size) ?_
       clear hK K
       go_simp
       repeat (refine eag_read rfl ?_; go_big_quiet_step (fail); refine wpQuiet_nil ?_)
       refine eag_end ?_
       have HG6 := Lib.hid (hg6.set dn false)
       have c6c := hg6.cell hdnn
       have f6c := hg6.free dn
       have hc6 := hg6.le
       have hc6m := hc6.2
       unfold maxLen at hc6m
       have hc61 := hc6.1
       have HBX : Hid (Below wc.heap.size wc (w6.setCell ⟨g6, dn, none⟩ (.bool false))) := (hb05.trans (hb6.mono HB05.out.size)).setCell (p := ⟨g6, dn, none⟩) (Nat.le_trans hb05.size hge6) _
       have HNEW : Hid (¬ (inB' m bs g6 ∨ g6 = G)) := by
        have hgw : wc.heap.size ≤ g6 := Nat.le_trans hb05.size hge6
        rintro (⟨i, hi, e⟩ | e)
        ·have := (HI.out.hg.row i hi).lt; omega
        ·have := HI.out.hg.blk.lt; omega
       clear hg6 hge6 hb6 hb05 hc6 HCL cG hbd HI2 HI5
       go_wp2_with fail
       go_meet
       exact ⟨HI.out.below HBX.out, .inr ⟨g6, c6, rfl, HG6.out.congr (fun q _ => by rw [HAL.out])⟩, fun q hq => by simp [Value.ownBlock] at hq; rw [← hq]; exact HNEW.out⟩
     case rest =>
      obtain ⟨hi6, hal, hown⟩ := hcut
      have HI6 := Lib.hid hi6
      have HAL := Lib.hid hal
      have HOW := Lib.hid hown
      have HMID := Lib.hid (ChkAt.mid hi6.chk)
      have HPL := Lib.hid (place_any wc a (HA.out.below hi6.be) dn (by rw [HF.out.rn]; exact hdnn) (by rw [HF.out.sn]; exact hdnn) HF.out.sl)
      have hpb := HF.out.pl dn hdnn
      obtain ⟨p, hp⟩ : ∃ p : Nat, plc 11 a dn = (p : Int) := ⟨(plc 11 a dn).toNat, by omega⟩
      rw [hp] at HPL hpb
      have hpm : p < m := by omega
      have HP := Lib.hid hp
      unfold AL.v at HPL
      clear hi6 hal hown hp hpb HI
      go_wp2_with (refine wpList_load_mid rfl 31 _ rfl cb 4 rfl _ _ HMID.out Tryz.underlying31 rfl HS3.out ?_)
      refine HPL.out.mono ?_
      rintro e w7 ⟨rfl, hb7⟩
      have HI7 := Lib.hid (HI6.out.below hb7)
      have HDE := Lib.hid (define_any w7 base G m n Y bs cp HI7.out.hg (Nat.le_trans hbase.2 HI7.out.rs.size) p dn hpm hdnn _ (alsoA a x Y) (HAL.out.kept (fun k hk q _ _ => hb7.block k hk)) HOW.out (by omega) hn)
      clear hb7 HPL HMID
      go_wp2_with fail
      refine HDE.out.mono ?_
      rintro e w8 ⟨rfl, hrs, bs', cp', hg8, hbs⟩
      have HR8 := Lib.hid (HI7.out.rs.trans hrs)
      have HG8 : Hid (HG w8 base G m n (insX a x X) bs' cp') := hg8.congr (fun i _ q _ => by
       rw [HEX.out, if_neg (by have := HD0.out; omega)]
       show _ = defX Y (plc 11 a dn).toNat dn (alsoA a x Y) i q
       rw [HP.out]; rfl)
      have HBS : Hid (∀ i, i < m → bs' i = bs i ∨ w.heap.size ≤ bs' i) := fun i hi => (hbs i hi).imp id fun h => Nat.le_trans HI7.out.rs.size h
      clear hrs hg8 hbs HDE
      go_wp2_with fail
      go_ret
      exact ⟨HR8.out, .inr ⟨HUB.out.symm, rfl, bs', cp', HG8.out, HBS.out⟩⟩
end Go.Proofs.YtdnpoomagjcpfaaGreat
