/- Rows of bools: what is live before a block (tile's before) and after it. What is live after a block (tile's after). What is live: the least fixed point, and its approximations. No program. slices.Equal at rows of bools. -/
import Derived.Test.YtdnpoomagjcpfaaGreatVBase
import Derived.Test.YtdnpoomagjcpfaaGreatBase
import Derived.BigQuiet
import Derived.Deep.QuietTactic
namespace Go.Proofs.YtdnpoomagjcpfaaGreat
open Go.RowKit
set_option linter.unusedVariables false
set_option linter.unusedSimpArgs false

section
/-- a row of n bools -/
def BRow (w : World) (g n : Nat) (l : Nat → Bool) : Prop := Blk w g 4 (rowL n fun r => .bool (l r))
theorem BRow.cell {w : World} {g n : Nat} {l : Nat → Bool} (h : BRow w g n l) {i : Nat} (hi : i < n) : w.cell? ⟨g, i, none⟩ = some (.bool (l i)) := Blk.row h hi
theorem BRow.set {w : World} {g n : Nat} {l : Nat → Bool} (h : BRow w g n l) (j : Nat) (b : Bool) : BRow (w.setCell ⟨g, j, none⟩ (.bool b)) g n (fun r => if r = j then b else l r) := by
  refine Blk.rowCongr (Blk.rowSet h j (.bool b)) fun i _ => ?_
  by_cases e : i = j <;> simp [e]
theorem BRow.congr {w : World} {g n : Nat} {l l' : Nat → Bool} (h : BRow w g n l) (e : ∀ r, r < n → l r = l' r) : BRow w g n l' := Blk.rowCongr h fun i hi => by rw [e i hi]
theorem BRow.below {w w' : World} {g n B : Nat} {l : Nat → Bool} (h : BRow w g n l) (hb : Below B w w') (hg : g < B) : BRow w' g n l := Blk.below h hb hg
/-- all but block g stays -/
def Rest1 (g : Nat) (w w' : World) : Prop := w.grownBy w' (some g)
theorem Rest1.refl (g : Nat) (w : World) : Rest1 g w w := ⟨rfl, rfl, rfl, Nat.le_refl _, fun _ _ _ => rfl⟩
theorem Rest1.trans {g : Nat} {w w' w'' : World} (h : Rest1 g w w') (k : Rest1 g w' w'') : Rest1 g w w'' := grownTrans h k
theorem Rest1.ofBelow {g : Nat} {w w' : World} (h : Below w.heap.size w w') : Rest1 g w w' := ⟨h.os, h.tape, h.output, h.size, fun k hk _ => h.block k hk⟩
theorem Rest1.set (g j : Nat) (w : World) (v : Value) : Rest1 g w (w.setCell ⟨g, j, none⟩ v) := ⟨rfl, rfl, rfl, by simp [World.setCell], fun k _ hk => Below.heap_setCell _ _ _ _ (fun e => hk (by rw [e]))⟩
theorem Rest1.block {g : Nat} {w w' : World} (h : Rest1 g w w') (k : Nat) (hk : k < w.heap.size) (hne : k ≠ g) : w'.heap[k]? = w.heap[k]? := World.grownBy.block h k hk (fun e => hne (Option.some.inj e))

/-- what is live behind an instruction, turned into what is live before it -/
def insF (x : VI) (l : Nat → Bool) (r : Nat) : Bool := if (r : Int) ∈ usesV x then true else if (r : Int) = defV x then false else l r
def blkF (x : VB) (l : Nat → Bool) (r : Nat) : Bool := if r = 0 then false else (x.ins.foldr insF fun r => if (r : Int) ∈ endV x.e then true else l r) r
theorem came_ownsV {w : World} {base : Nat} {v : Value} {rs : List Int} (h : w.ownsRow base 3 1 v rs.length (rs.map (Value.int .i64))) : ∃ a c, v = .slice a rs.length c ∧ Came w a rs.length c 1 (rs.map intCells) := by
  obtain ⟨a, c, rfl⟩ := ownG_shape h
  exact ⟨a, c, rfl, came_owns_ints h⟩
/-- the registers of a block are less than n -/
structure VB.Fit (n : Nat) (b : VB) : Prop where
  d : ∀ x ∈ b.ins, 0 ≤ defV x ∧ defV x < n
  u : ∀ x ∈ b.ins, ∀ r ∈ usesV x, 1 ≤ r ∧ r < n
  e : ∀ r ∈ endV b.e, 1 ≤ r ∧ r < n
theorem VB.Ok.cells {w0 wx : World} {b : VB} (h : b.Ok w0) (hb : Below w0.heap.size w0 wx) {i : Nat} (hi : i < b.ins.length) : ∃ g off, b.sa = some ⟨g, off, none⟩ ∧ g < w0.heap.size ∧ wx.cell? ⟨g, off + i * 6, none⟩ = some (.int .i64 b.ins[i].op) ∧ wx.cell? ⟨g, off + i * 6 + 1, none⟩ = some (.int .i64 b.ins[i].d) ∧ wx.cell? ⟨g, off + i * 6 + 2, none⟩ = some (.int .i64 b.ins[i].a) ∧
      wx.cell? ⟨g, off + i * 6 + 3, none⟩ = some (.int .i64 b.ins[i].b) ∧ wx.cell? ⟨g, off + i * 6 + 4, none⟩ = some (.int .i64 b.ins[i].n) ∧ wx.cell? ⟨g, off + i * 6 + 5, none⟩ = some (.slice b.ins[i].sa b.ins[i].sn b.ins[i].sc) := by
  have hl := h.len
  obtain ⟨g, off, ha, hg, hc⟩ := came_vis (h.came.below hb) (by omega)
  obtain ⟨g', off', ha', hg', _⟩ := came_vis h.came (by omega)
  rw [ha] at ha'
  injection ha' with ha'
  injection ha' with e1 e2 _
  subst e1 e2
  exact ⟨g, off, ha, hg', hc i hi⟩
theorem Rest1.below {g B : Nat} {w w' : World} (h : Rest1 g w w') (hB : B ≤ g) (hw : B ≤ w.heap.size) : Below B w w' := belowOf (base := 0) h (fun q hq => by simp only [Option.some.injEq] at hq; omega) hw
/-- the elements of an own row of integers, behind writes into another block -/
theorem row_at {w w' : World} {base g n : Nat} {a : Option Addr} {c : Nat} {rs : List Int} (h : w.ownsRow base 3 1 (.slice a n c) n (rs.map (Value.int .i64))) (hr : Rest1 g w w') (hg : g < base) {k : Nat} (hk : k < rs.length) :
    ∃ q, a = some ⟨q, 0, none⟩ ∧ w'.cell? ⟨q, k, none⟩ = some (.int .i64 rs[k]) := by
  have hl : rs.length = n := by have := h.1; simpa using this
  obtain ⟨q, cap, hv, h1, h2, _⟩ := ownG_has h (by omega)
  injection hv with e1 e2 e3
  subst e1 e3
  refine ⟨q, rfl, ?_⟩
  have hc := h.cellAt k (by omega)
  rw [List.getElem?_map, List.getElem?_eq_getElem hk] at hc
  rw [World.cell?_of_block (a := ⟨q, k, none⟩) (hr.block q h2 (by omega))]
  exact hc

/-- a loop's rows: the registers of the first k are live -/
def markF (rs : List Int) (l : Nat → Bool) (r : Nat) : Bool := if (r : Int) ∈ rs then true else l r
theorem markF_snoc (rs : List Int) (x : Int) (q : Nat) (hx : x = (q : Int)) (l : Nat → Bool) : (fun r => if r = q then true else markF rs l r) = markF (rs ++ [x]) l := by
  funext r
  unfold markF
  by_cases h : r = q
  · rw [if_pos h, if_pos (by rw [h]; simp [hx])]
  · rw [if_neg h]
    have : ((r : Int) ∈ rs ++ [x]) ↔ (r : Int) ∈ rs := by
      rw [List.mem_append]
      constructor
      · rintro (h1 | h1)
        · exact h1
        · exfalso; apply h; have : (r : Int) = x := by simpa using h1
          omega
      · exact .inl
    by_cases h2 : (r : Int) ∈ rs
    · rw [if_pos h2, if_pos (this.2 h2)]
    · rw [if_neg h2, if_neg (fun h3 => h2 (this.1 h3))]
theorem insF_eq (x : VI) (l : Nat → Bool) (q : Nat) (hq : defV x = (q : Int)) : insF x l = markF (usesV x) (fun r => if r = q then false else l r) := by
  funext r
  unfold insF markF
  rw [hq]
  by_cases h : (r : Int) ∈ usesV x
  · rw [if_pos h, if_pos h]
  · rw [if_neg h, if_neg h]
    by_cases h2 : r = q
    · rw [if_pos (by omega)]; exact (if_pos h2).symm
    · rw [if_neg (by omega)]; exact (if_neg h2).symm
/-- a block by value -/
def vbW (x : VB) : Value := .agg #[.slice x.sa x.sn x.sc, .int .i64 x.e.kind, .int .i64 x.e.op, .int .i64 x.e.a, .int .i64 x.e.b, .int .i64 x.e.n, .slice x.e.sa x.e.sn x.e.sc]
def BeforePost (b : VB) (l : Nat → Bool) (g n : Nat) (w : World) (e : Ending) (w' : World) : Prop := e = .returned (.tuple #[]) ∧ BRow w' g n (blkF b l) ∧ Rest1 g w w'
set_option maxRecDepth 100000 in
set_option maxHeartbeats 8000000 in
theorem before_any (w0 w : World) (b : VB) (hb : b.Ok w0) (hw : Below w0.heap.size w0 w) (g n : Nat) (hg : w0.heap.size ≤ g) (l : Nat → Bool) (hrow : BRow w g n l) (hn : 0 < n ∧ n ≤ 8192) (hf : b.Fit n) :
    Calls Tryz.prog 73 #[vbW b, .slice (some ⟨g, 0, none⟩) n n] w (BeforePost b l g n w) := by
  have hgl : g < w.heap.size := Blk.lt hrow
  obtain ⟨sa, hsa0⟩ : ∃ s, s = b.sa := ⟨_, rfl⟩
  have hsn := hb.reach
  have hsl := hb.len
  have HB := Lib.hid hb
  have HF := Lib.hid hf
  have HW := Lib.hid hw
  have HE := fun wx (h : Below w0.heap.size w0 wx) => endUses_any b.e wx (hb.e.below h)
  have hb1 : Below w.heap.size w (w.alloc (.cells #[.slice sa b.sn b.sc, .int .i64 b.e.kind, .int .i64 b.e.op, .int .i64 b.e.a, .int .i64 b.e.b, .int .i64 b.e.n, .slice b.e.sa b.e.sn b.e.sc] 46)) := (Below.refl _ _).alloc (Nat.le_refl _) _
  have HE1 := Lib.hid (HE _ (hw.trans (hb1.mono hw.size)))
  have HBK := Lib.hid (Blk.new w [.slice sa b.sn b.sc, .int .i64 b.e.kind, .int .i64 b.e.op, .int .i64 b.e.a, .int .i64 b.e.b, .int .i64 b.e.n, .slice b.e.sa b.e.sn b.e.sc] 46)
  have HR := Lib.hid (hrow.below hb1 hgl)
  have HB1 := Lib.hid hb1
  clear HE hb1 hrow hb hf hw
  unfold vbW
  rw [← hsa0]
  have HSA := Lib.hid hsa0
  clear hsa0
  unfold veV at HE1
  go_enter Tryz.func73, Tryz.ntmps73
  go_wp2_with fail
  generalize w.alloc (.cells #[.slice sa b.sn b.sc, .int .i64 b.e.kind, .int .i64 b.e.op, .int .i64 b.e.a, .int .i64 b.e.b, .int .i64 b.e.n, .slice b.e.sa b.e.sn b.e.sc] 46) = w1 at HE1 HBK HR HB1 ⊢
  refine HE1.out.mono ?_
  rintro e w2 ⟨v, rfl, hown, hbel⟩
  have hle := hown.1
  obtain ⟨m, hm⟩ : ∃ m, m = (endV b.e).length := ⟨_, rfl⟩
  obtain ⟨rs, hrs⟩ : ∃ rs, rs = endV b.e := ⟨_, rfl⟩
  rw [← hrs] at hown hm
  rw [← hm] at hown
  obtain ⟨a, c, rfl⟩ := ownG_shape hown
  have HO := Lib.hid hown
  have HM := Lib.hid hm
  have HRS := Lib.hid hrs
  have hm2 : m ≤ 2 := by rw [hm, hrs]; exact List.length_filter_le _ _
  have hfe : ∀ r ∈ rs, 1 ≤ r ∧ r < n := by rw [hrs]; exact HF.out.e
  have HFE := Lib.hid hfe
  have hlt1 : w.heap.size < w1.heap.size := Blk.lt HBK.out
  have hg1 : g < w1.heap.size := by omega
  have HR2 := Lib.hid (HR.out.below hbel hg1)
  have hsz12 := hbel.size
  have HBK2 := Lib.hid (Blk.below HBK.out hbel hlt1)
  have HB2 := Lib.hid (HB1.out.trans (hbel.mono HB1.out.size))
  clear hown hbel hm hrs hfe hle HBK HR HE1
  go_wp2_with fail
  go_loopw [5, 13] (fun _ u wr => ∃ k : Nat, k ≤ m ∧ u = .int .i64 (k : Int) ∧ BRow wr g n (markF (rs.take k) l) ∧ Rest1 g w2 wr) (fun _ u _ => m - (intOf u).toNat)
  case atStart => exact ⟨0, Nat.zero_le _, rfl, by have : markF (rs.take 0) l = l := by funext r; simp [markF]
                                                   rw [this]; exact HR2.out, Rest1.refl _ _⟩
  case round =>
    obtain ⟨k, hk, rfl, hbr, hr1⟩ := hrel
    by_cases hlt : k < m
    · obtain ⟨q, rfl, ck⟩ := row_at HO.out hr1 hg1 (k := k) (by have := HM.out; omega)
      obtain ⟨r, hr⟩ : ∃ r, r = rs[k]'(by have := HM.out; omega) := ⟨_, rfl⟩
      rw [← hr] at ck
      have hme := HFE.out r (by rw [hr]; exact List.getElem_mem _)
      have HT : Hid (rs.take (k + 1) = rs.take k ++ [r]) := by rw [hr]; exact List.take_succ_eq_append_getElem _
      obtain ⟨x, rfl⟩ := Int.eq_ofNat_of_zero_le (show 0 ≤ r by omega)
      have hxn : x < n := by omega
      have cx := hbr.cell hxn
      have fx := Blk.free hbr x
      have HN : Hid (BRow (wr.setCell ⟨g, x, none⟩ (.bool true)) g n (markF (rs.take (k + 1)) l)) := by
        rw [HT.out, ← markF_snoc _ _ x rfl]
        exact hbr.set x true
      have HR1 := Lib.hid (hr1.trans (Rest1.set g x wr (.bool true)))
      clear hbr hr1 hme hr
      generalize markF (rs.take k) l x = oldb at cx
      go_wp2_with fail
      go_roundw
      case rel => exact ⟨k + 1, by omega, by go_num, HN.out, HR1.out⟩
      case measure => simp [intOf]; omega
    · have hall : rs.take k = rs := List.take_of_length_le (by have := HM.out; omega)
      rw [hall] at hbr
      have HBR := Lib.hid hbr
      have HR1 := Lib.hid hr1
      have hlw : w.heap.size < w2.heap.size := Nat.lt_of_lt_of_le hlt1 hsz12
      have HBK3 := Lib.hid (Blk.of_heap HBK2.out (hr1.block _ hlw (by omega)))
      have c0 := Blk.cell HBK3.out 0
      simp only [List.getElem?_cons_zero] at c0
      clear hbr hr1 hall
      obtain ⟨w4, hw4⟩ : ∃ w4, w4 = wr := ⟨_, rfl⟩
      rw [← hw4] at HBR HR1 HBK3 c0 ⊢
      clear hw4 HR2 HBK2
      obtain ⟨L, hL⟩ : ∃ L, L = markF rs l := ⟨_, rfl⟩
      rw [← hL] at HBR
      have HLL := Lib.hid hL
      clear hL
      have HBW4 := Lib.hid (HW.out.trans ((HB2.out.mono HW.out.size).trans (HR1.out.below hg (by have := HW.out.size; have := HB2.out.size; omega))))
      have hlw4 : w.heap.size < w4.heap.size := Blk.lt HBK3.out
      have hg4 : g < w4.heap.size := by omega
      clear c0
      have hcz := Blk.cell HBK3.out 0
      simp only [List.getElem?_cons_zero] at hcz
      go_wp2_with fail
      clear hcz
      rw [show (b.sn : Int) - 1 = ((b.sn : Nat) : Int) - 1 from rfl]
      go_loopw [6, 8] (fun u _ wr => ∃ j : Nat, j ≤ b.sn ∧ u = .int .i64 ((j : Int) - 1) ∧ BRow wr g n ((b.ins.drop j).foldr insF L) ∧ Rest1 g w4 wr) (fun u _ _ => (intOf u + 1).toNat)
      case atStart =>
        refine ⟨b.sn, Nat.le_refl _, rfl, ?_, Rest1.refl _ _⟩
        rw [List.drop_of_length_le (by omega)]
        exact HBR.out
      case round =>
        obtain ⟨j, hj, rfl, hbr, hr1⟩ := hrel
        obtain ⟨w5, hw5⟩ : ∃ w5, w5 = wr := ⟨_, rfl⟩
        rw [← hw5] at hbr hr1 ⊢
        clear hw5
        have HBR5 := Lib.hid hbr
        have HR5 := Lib.hid hr1
        have hg5 : g < w5.heap.size := Blk.lt hbr
        have HBK5 := Lib.hid (Blk.of_heap HBK3.out (hr1.block _ hlw4 (by omega)))
        have HBW5 := Lib.hid (HBW4.out.trans (hr1.below hg (by have := HBW4.out.size; omega)))
        clear hbr hr1
        by_cases hj0 : j = 0
        · subst hj0
          rw [show ((0 : Nat) : Int) - 1 = -1 from rfl]
          have cx := HBR5.out.cell (i := 0) hn.1
          have fx := Blk.free HBR5.out 0
          generalize ((b.ins.drop 0).foldr insF L) 0 = ob at cx
          have HN : Hid (BRow (w5.setCell ⟨g, 0, none⟩ (.bool false)) g n (blkF b l)) := by
            refine (HBR5.out.set 0 false).congr fun r hr => ?_
            unfold blkF
            rw [List.drop_zero, HLL.out, HRS.out]
            rfl
          have HR1 : Hid (Rest1 g w (w5.setCell ⟨g, 0, none⟩ (.bool false))) := (((Rest1.ofBelow HB2.out).trans HR1.out).trans HR5.out).trans (Rest1.set g 0 w5 (.bool false))
          clear HBR5
          go_wp2_with fail
          exact bodyPost_ret (v := .tuple #[]) (by simp [results, Tryz.results73, go_sem]) rfl ⟨rfl, HN.out, HR1.out⟩
        · obtain ⟨i, rfl⟩ := Nat.exists_eq_succ_of_ne_zero hj0
          rw [show ((i.succ : Nat) : Int) - 1 = (i : Int) by omega]
          have hi : i < b.ins.length := by omega
          obtain ⟨x, hx⟩ : ∃ x, x = b.ins[i] := ⟨_, rfl⟩
          have hxo : x.Ok w0 := by rw [hx]; exact HB.out.ins _ (List.getElem_mem _)
          obtain ⟨gi, oi, hsa, hgi, d0, d1, d2, d3, d4, d5⟩ := HB.out.cells HBW5.out hi
          rw [← HSA.out] at hsa
          subst hsa
          rw [← hx] at d0 d1 d2 d3 d4 d5
          have c0 := Blk.cell HBK5.out 0
          simp only [List.getElem?_cons_zero] at c0
          have hd := HF.out.d x (by rw [hx]; exact List.getElem_mem _)
          have hu := HF.out.u x (by rw [hx]; exact List.getElem_mem _)
          have HX := Lib.hid hx
          have HU := Lib.hid hu
          have HXO := Lib.hid hxo
          obtain ⟨q, hq⟩ := Int.eq_ofNat_of_zero_le hd.1
          have hqn : q < n := by omega
          have HD := def_any x
          unfold viV at HD
          rw [show IntPost (defV x) = fun w e w' => e = .returned (.int .i64 (q : Int)) ∧ Below w.heap.size w w' from by funext w e w'; rw [hq]; rfl] at HD
          have HQ := Lib.hid hq
          have hil : (i : Int) < (b.sn : Int) := by omega
          clear hx hu hxo hd hq
          go_wp2_with (go_at_call 43; refine (HD _).mono ?_; rintro e w6 ⟨rfl, hb6⟩; have HB6 := Lib.hid hb6; have HR6 := Lib.hid (HBR5.out.below hb6 hg5); have cx := HR6.out.cell hqn; have fx := Blk.free HR6.out q; generalize ((b.ins.drop i.succ).foldr insF L) q = ob at cx; have HB7 := Lib.hid (HBW5.out.trans (hb6.mono HBW5.out.size)); have HR7 := Lib.hid (Rest1.set g q w6 (.bool false)); have HBK7 := Lib.hid (Blk.of_heap (Blk.below HBK5.out hb6 (Blk.lt HBK5.out)) (HR7.out.block _ (Nat.lt_of_lt_of_le (Blk.lt HBK5.out) hb6.size) (by omega))); have c0 := Blk.cell HBK7.out 0; simp only [List.getElem?_cons_zero] at c0; obtain ⟨gi', oi', hsa', hgi', d0, d1, d2, d3, d4, d5⟩ := HB.out.cells (HB7.out.trans (HR7.out.below hg (by have := HB7.out.size; omega))) hi; rw [← HSA.out] at hsa'; injection hsa' with hsa'; injection hsa' with ee1 ee2 _; subst ee1 ee2; rw [← HX.out] at d0 d1 d2 d3 d4 d5; clear hb6 hgi')
          have HRW7 := Lib.hid (HR6.out.set q false)
          have HT := Lib.hid (((HR5.out.trans (Rest1.ofBelow HB6.out)).trans HR7.out))
          have HX7 := Lib.hid (HB7.out.trans (HR7.out.below hg (by have := HB7.out.size; omega)))
          have HDR : Hid (b.ins.drop i = x :: b.ins.drop i.succ) := by rw [HX.out]; exact List.drop_eq_getElem_cons hi
          clear c0 d0 d1 d2 d3 d4 d5 cx fx HD HR6 HBK5 HB6 HBR5 HR5 HR7 HB7 HBW5
          generalize w6.setCell ⟨g, q, none⟩ (.bool false) = w7 at HRW7 HT HX7 HBK7 ⊢
          have HUS := uses_any x w7 (HXO.out.below HX7.out)
          unfold viV at HUS
          refine HUS.mono ?_
          rintro e w8 ⟨v8, rfl, ho8, hb8⟩
          obtain ⟨m8, hm8⟩ : ∃ m, m = (usesV x).length := ⟨_, rfl⟩
          obtain ⟨us, hus⟩ : ∃ us, us = usesV x := ⟨_, rfl⟩
          rw [← hus] at ho8 hm8 HU
          rw [← hm8] at ho8
          obtain ⟨a8, c8, rfl⟩ := ownG_shape ho8
          have hg7 : g < w7.heap.size := Blk.lt HRW7.out
          have HO8 := Lib.hid ho8
          have HR8 := Lib.hid (HRW7.out.below hb8 hg7)
          have HT8 := Lib.hid (HT.out.trans (Rest1.ofBelow hb8))
          have hm88 : m8 * 8 ≤ 140737488351232 + 16 := by
            have h1 : (usesV x).length ≤ (x.a :: x.b :: x.args).length := List.length_filter_le _ _
            have h2 := HXO.out.len
            have h3 := HXO.out.reach
            rw [hm8, hus]
            simp at h1
            omega
          have HM8 := Lib.hid hm8
          have HUS8 := Lib.hid hus
          obtain ⟨L7, hL7⟩ : ∃ L7 : Nat → Bool, L7 = (fun r => if r = q then false else (b.ins.drop i.succ).foldr insF L r) := ⟨_, rfl⟩
          rw [← hL7] at HR8
          have HL7 := Lib.hid hL7
          have hb88 := hb8.size
          clear ho8 hb8 hm8 hus hL7 HUS HRW7 HT
          go_wp2_with fail
          go_loopw [8, 44] (fun _ u wr => ∃ k : Nat, k ≤ m8 ∧ u = .int .i64 (k : Int) ∧ BRow wr g n (markF (us.take k) L7) ∧ Rest1 g w8 wr) (fun _ u _ => m8 - (intOf u).toNat)
          case atStart => exact ⟨0, Nat.zero_le _, rfl, by have : markF (us.take 0) L7 = L7 := by funext r; simp [markF]
                                                           rw [this]; exact HR8.out, Rest1.refl _ _⟩
          case round =>
            obtain ⟨k, hk, rfl, hbr, hr1⟩ := hrel
            by_cases hlt : k < m8
            · obtain ⟨q8, rfl, ck⟩ := row_at HO8.out hr1 hg7 (k := k) (by have := HM8.out; omega)
              obtain ⟨r, hr⟩ : ∃ r, r = us[k]'(by have := HM8.out; omega) := ⟨_, rfl⟩
              rw [← hr] at ck
              have hme := HU.out r (by rw [hr]; exact List.getElem_mem _)
              have HTT : Hid (us.take (k + 1) = us.take k ++ [r]) := by rw [hr]; exact List.take_succ_eq_append_getElem _
              obtain ⟨y, rfl⟩ := Int.eq_ofNat_of_zero_le (show 0 ≤ r by omega)
              have hxn : y < n := by omega
              have cx := hbr.cell hxn
              have fx := Blk.free hbr y
              have HN : Hid (BRow (wr.setCell ⟨g, y, none⟩ (.bool true)) g n (markF (us.take (k + 1)) L7)) := by
                rw [HTT.out, ← markF_snoc _ _ y rfl]
                exact hbr.set y true
              have HR1 := Lib.hid (hr1.trans (Rest1.set g y wr (.bool true)))
              clear hbr hr1 hme hr
              generalize markF (us.take k) L7 y = oldb at cx
              go_wp2_with fail
              go_roundw
              case rel => exact ⟨k + 1, by omega, by go_num, HN.out, HR1.out⟩
              case measure => simp [intOf]; omega
            · have hall : us.take k = us := List.take_of_length_le (by have := HM8.out; omega)
              rw [hall] at hbr
              have HBR := Lib.hid hbr
              have HR1 := Lib.hid (HT8.out.trans hr1)
              clear hbr hr1
              go_wp2_with fail
              go_roundw
              case rel =>
                refine ⟨i, by omega, by go_num, ?_, HR1.out⟩
                rw [HDR.out]
                show BRow _ g n (insF x (List.foldr insF L (List.drop i.succ b.ins)))
                rw [insF_eq x _ q HQ.out, ← HL7.out, ← HUS8.out]
                exact HBR.out
              case measure => simp [intOf]
end

section
/-- a row of rows of bools -/
structure BRows (w : World) (G m n : Nat) (X : Nat → Nat → Bool) (bs : Nat → Nat) : Prop where
  blk : Blk w G 51 (rowL m fun i => .slice (some ⟨bs i, 0, none⟩) n n)
  row : ∀ i, i < m → BRow w (bs i) n (X i)
theorem BRows.below {w w' : World} {G m n : Nat} {X : Nat → Nat → Bool} {bs : Nat → Nat} (h : BRows w G m n X bs) (hb : Below w.heap.size w w') : BRows w' G m n X bs :=
  ⟨Blk.below h.blk hb (Blk.lt h.blk), fun i hi => (h.row i hi).below hb (Blk.lt (h.row i hi))⟩
def aftF (to : List Int) (X : Nat → Nat → Bool) (r : Nat) : Bool := to.any fun t => X t.toNat r
theorem aftF_snoc (to : List Int) (t : Nat) (X : Nat → Nat → Bool) (r : Nat) : aftF (to ++ [(t : Int)]) X r = (aftF to X r || X t r) := by
  unfold aftF; simp
theorem Tryz.infoB4 : (Tryz.prog.info? 4).map (fun i => (i.zero, i.size, i.bytes)) = some (some (.bool false), 1, 1) := by kernel_rfl
def AfterPost (l : Nat → Bool) (n : Nat) (w : World) (e : Ending) (w' : World) : Prop :=
  ∃ g, e = .returned (.slice (some ⟨g, 0, none⟩) n n) ∧ w.heap.size ≤ g ∧ BRow w' g n l ∧ Below w.heap.size w w'
theorem VF.Ok.cells {w0 wx : World} {f : VF} (h : f.Ok w0) (hb : Below w0.heap.size w0 wx) {i : Nat} (hi : i < f.blocks.length) : ∃ g off, f.sa = some ⟨g, off, none⟩ ∧ g < w0.heap.size ∧
    wx.cell? ⟨g, off + i * 7, none⟩ = some (.slice f.blocks[i].sa f.blocks[i].sn f.blocks[i].sc) ∧ wx.cell? ⟨g, off + i * 7 + 1, none⟩ = some (.int .i64 f.blocks[i].e.kind) ∧ wx.cell? ⟨g, off + i * 7 + 2, none⟩ = some (.int .i64 f.blocks[i].e.op) ∧
      wx.cell? ⟨g, off + i * 7 + 3, none⟩ = some (.int .i64 f.blocks[i].e.a) ∧ wx.cell? ⟨g, off + i * 7 + 4, none⟩ = some (.int .i64 f.blocks[i].e.b) ∧ wx.cell? ⟨g, off + i * 7 + 5, none⟩ = some (.int .i64 f.blocks[i].e.n) ∧ wx.cell? ⟨g, off + i * 7 + 6, none⟩ = some (.slice f.blocks[i].e.sa f.blocks[i].e.sn f.blocks[i].e.sc) := by
  have hl := h.len
  obtain ⟨g, off, ha, hg, hc⟩ := came_vbs (h.came.below hb) (by omega)
  obtain ⟨g', off', ha', hg', _⟩ := came_vbs h.came (by omega)
  rw [ha] at ha'
  injection ha' with ha'
  injection ha' with e1 e2 _
  subst e1 e2
  exact ⟨g, off, ha, hg', hc i hi⟩

set_option maxRecDepth 100000 in
set_option maxHeartbeats 8000000 in
theorem after_any (w0 w : World) (f : VF) (hf : f.Ok w0) (hw : Below w0.heap.size w0 w) (G m n i : Nat) (X : Nat → Nat → Bool) (bs : Nat → Nat) (hr : BRows w G m n X bs) (hn : f.regs = (n : Int)) (hn2 : 0 < n ∧ n ≤ 8192) (hi : i < f.blocks.length) (ht : ∀ t ∈ f.blocks[i].e.to, 0 ≤ t ∧ t < m) :
    Calls Tryz.prog 59 #[f.v, .slice (some ⟨G, 0, none⟩) m m, .int .i64 (i : Int)] w (AfterPost (aftF f.blocks[i].e.to X) n w) := by
  have hmk : ∀ w : World, (Instr.makeSlice 51 (.int .i64 (n : Int)) (.int .i64 (n : Int))).run Tryz.prog w = .ok (.slice (some ⟨w.heap.size, 0, none⟩) n n) (w.alloc (.cells (rowL n fun _ => .bool false).toArray 4)) := fun w => run_make_rep (P := Tryz.prog) 51 4 (.bool false) 1 Tryz.underlying51 Tryz.infoB4 rfl n (by omega) (by omega) w
  have hil : (i : Int) < (f.sn : Int) := by have := hf.len; omega
  have HF := Lib.hid hf
  have HW := Lib.hid hw
  have HR := Lib.hid hr
  obtain ⟨x, hx⟩ : ∃ x, x = f.blocks[i] := ⟨_, rfl⟩
  rw [← hx] at ht ⊢
  have hxo : x.e.Ok w0 := by rw [hx]; exact (hf.blocks _ (List.getElem_mem _)).e
  have hb1 : Below w.heap.size w ((w.alloc (.cells #[.int .i64 f.name, .slice f.pa f.pn f.pc, .int .i64 n, .slice f.sa f.sn f.sc] 25)).alloc (.cells (rowL n fun _ => .bool false).toArray 4)) := ((Below.refl _ _).alloc (Nat.le_refl _) _).alloc (by simp) _
  obtain ⟨gb, ob, hsa, hgb, _, _, _, _, _, _, d6⟩ := hf.cells (hw.trans (hb1.mono hw.size)) hi
  rw [← hx] at d6
  have hbrow : BRow ((w.alloc (.cells #[.int .i64 f.name, .slice f.pa f.pn f.pc, .int .i64 n, .slice f.sa f.sn f.sc] 25)).alloc (.cells (rowL n fun _ => .bool false).toArray 4)) (w.heap.size + 1) n (fun _ => false) := by
    have := Blk.new (w.alloc (.cells #[.int .i64 f.name, .slice f.pa f.pn f.pc, .int .i64 n, .slice f.sa f.sn f.sc] 25)) (rowL n fun _ => .bool false) 4
    rwa [World.size_alloc] at this
  have HBR := Lib.hid hbrow
  have HB1 := Lib.hid hb1
  have HX := Lib.hid hxo
  have HT := Lib.hid ht
  have htl := hxo.len
  clear hbrow hb1 hxo ht hr hw hf
  unfold VF.v
  rw [hn]
  generalize f.sa = sa at hsa HBR HB1 d6 ⊢
  subst hsa
  obtain ⟨ta, hta⟩ : ∃ ta, ta = x.e.sa := ⟨_, rfl⟩
  rw [← hta] at d6
  have HCT : Hid (Came w0 ta x.e.sn x.e.sc 1 (x.e.to.map intCells)) := by rw [hta]; exact HX.out.came
  obtain ⟨to, hto⟩ : ∃ to, to = x.e.to := ⟨_, rfl⟩
  have hreach := HX.out.reach
  rw [← hto] at HT htl HCT ⊢
  obtain ⟨tn, htn⟩ : ∃ tn, tn = x.e.sn := ⟨_, rfl⟩
  rw [← htn] at d6 HCT htl hreach
  clear hta hto HX htn
  go_enter Tryz.func59, Tryz.ntmps59
  go_wp2_with fail
  generalize (w.alloc (.cells #[.int .i64 f.name, .slice f.pa f.pn f.pc, .int .i64 n, .slice (some ⟨gb, ob, none⟩) f.sn f.sc] 25)).alloc (.cells (rowL n fun _ => .bool false).toArray 4) = w1 at HBR HB1 d6 ⊢
  clear d6
  have HR1 := Lib.hid (HR.out.below HB1.out)
  have hGl : G < w.heap.size := Blk.lt HR.out.blk
  go_loopw [9, 10, 11, 23] (fun _ _ _ u wr => ∃ k : Nat, k ≤ tn ∧ u = .int .i64 (k : Int) ∧ BRow wr (w.heap.size + 1) n (aftF (to.take k) X) ∧ Rest1 (w.heap.size + 1) w1 wr) (fun _ _ _ u _ => tn - (intOf u).toNat)
  case atStart => exact ⟨0, Nat.zero_le _, rfl, HBR.out, Rest1.refl _ _⟩
  case round =>
    obtain ⟨k, hk, rfl, hbr, hr1⟩ := hrel
    obtain ⟨w2, hw2⟩ : ∃ w2, w2 = wr := ⟨_, rfl⟩
    rw [← hw2] at hbr hr1 ⊢
    clear hw2
    have HBR2 := Lib.hid hbr
    have HR2 := Lib.hid hr1
    clear hbr hr1
    by_cases hlt : k < tn
    · obtain ⟨gt, ot, rfl, hgt, hct⟩ := HCT.out.ints (by omega)
      have hwB : Below w0.heap.size w0 w2 := HW.out.trans ((HB1.out.mono HW.out.size).trans (HR2.out.below (by have := HW.out.size; omega) (by have := HB1.out.size; have := HW.out.size; omega)))
      have ck := (hwB.cell (p := ⟨gt, ot + k, none⟩) hgt).trans (hct k (by omega))
      obtain ⟨r, hr⟩ : ∃ r, r = to[k]'(by omega) := ⟨_, rfl⟩
      rw [← hr] at ck
      have hme := HT.out r (by rw [hr]; exact List.getElem_mem _)
      have HTK : Hid (to.take (k + 1) = to.take k ++ [r]) := by rw [hr]; exact List.take_succ_eq_append_getElem _
      clear hr hct
      obtain ⟨t, rfl⟩ := Int.eq_ofNat_of_zero_le hme.1
      have htm : t < m := by omega
      have hG2 : w2.heap[G]? = w1.heap[G]? := HR2.out.block G (Nat.lt_of_lt_of_le hGl HB1.out.size) (by omega)
      have ct : w2.cell? ⟨G, t, none⟩ = some (.slice (some ⟨bs t, 0, none⟩) n n) := (World.cell?_of_block (a := ⟨G, t, none⟩) hG2).trans (Blk.row HR1.out.blk htm)
      have hbt : bs t < w.heap.size := Blk.lt (HR.out.row t htm)
      have HRT : Hid (BRow w2 (bs t) n (X t)) := Blk.of_heap (HR1.out.row t htm) (HR2.out.block _ (Nat.lt_of_lt_of_le hbt HB1.out.size) (by omega))
      have HGB := Lib.hid hwB
      clear hwB hme hG2
      generalize bs t = bt at ct hbt HRT
      obtain ⟨P, hP⟩ : ∃ P, P = aftF (to.take k) X := ⟨_, rfl⟩
      rw [← hP] at HBR2
      have HP := Lib.hid hP
      clear hP
      go_wp2_with fail
      go_loopw [10, 11, 32] (fun _ _ u wr => ∃ q : Nat, q ≤ n ∧ u = .int .i64 (q : Int) ∧ BRow wr (w.heap.size + 1) n (fun r => if r < q then P r || X t r else P r) ∧ Rest1 (w.heap.size + 1) w2 wr) (fun _ _ u _ => n - (intOf u).toNat)
      case atStart => exact ⟨0, Nat.zero_le _, rfl, HBR2.out.congr fun r _ => by simp, Rest1.refl _ _⟩
      case round =>
        obtain ⟨q, hq, rfl, hbr, hr1⟩ := hrel
        by_cases hqn : q < n
        · have cx := hbr.cell hqn
          rw [if_neg (by omega)] at cx
          have fx := Blk.free hbr q
          have hrt : BRow wr bt n (X t) := Blk.of_heap HRT.out (hr1.block _ (Blk.lt HRT.out) (by omega))
          have cy := hrt.cell hqn
          have HN : Hid (BRow (wr.setCell ⟨w.heap.size + 1, q, none⟩ (.bool (P q || X t q))) (w.heap.size + 1) n (fun r => if r < q + 1 then P r || X t r else P r)) := by
            refine (hbr.set q (P q || X t q)).congr fun r hr => ?_
            by_cases e1 : r = q
            · subst e1
              simp
            · by_cases e2 : r < q
              · simp [e1, e2, show r < q + 1 by omega]
              · simp [e1, e2, show ¬ r < q + 1 by omega]
          have HR3 := Lib.hid (hr1.trans (Rest1.set (w.heap.size + 1) q wr (.bool (P q || X t q))))
          clear hbr hr1 hrt
          cases hPq : P q
          · rw [hPq] at cx HN HR3
            simp only [Bool.false_or] at HN HR3
            have HPQ := Lib.hid hPq
            clear hPq
            generalize X t q = xb at cy HN HR3
            go_wp2_with fail
            go_roundw
            case rel => exact ⟨q + 1, by omega, by go_num, HN.out, HR3.out⟩
            case measure => simp [intOf]; omega
          · rw [hPq] at cx HN HR3
            simp only [Bool.true_or] at HN HR3
            have HPQ := Lib.hid hPq
            clear hPq
            generalize X t q = xb at cy
            go_wp2_with fail
            go_roundw
            case rel => exact ⟨q + 1, by omega, by go_num, HN.out, HR3.out⟩
            case measure => simp [intOf]; omega
        · have HN : Hid (BRow wr (w.heap.size + 1) n (aftF (to.take (k + 1)) X)) := by
            rw [HTK.out]
            refine hbr.congr fun r hr => ?_
            rw [if_pos (by omega), aftF_snoc, ← HP.out]
          have HR3 := Lib.hid (HR2.out.trans hr1)
          clear hbr hr1
          go_wp2_with fail
          go_roundw
          case rel => exact ⟨k + 1, by omega, by go_num, HN.out, HR3.out⟩
          case measure => simp [intOf]; omega
    · have HALL : Hid (to.take k = to) := List.take_of_length_le (by omega)
      go_wp2_with fail
      go_ret
      refine ⟨w.heap.size + 1, rfl, by omega, ?_, HB1.out.trans (HR2.out.below (by omega) HB1.out.size)⟩
      have := HBR2.out
      rwa [HALL.out] at this
end

section
def nilVB : VB := ⟨none, 0, 0, [], ⟨0, 0, 0, 0, 0, none, 0, 0, []⟩⟩
def VF.blk (f : VF) (i : Nat) : VB := f.blocks.getD i nilVB
theorem VF.blk_get (f : VF) {i : Nat} (hi : i < f.blocks.length) : f.blocks[i] = f.blk i := by simp [VF.blk, List.getD_eq_getElem?_getD, hi]
/-- one step -/
def stepV (f : VF) (X : Nat → Nat → Bool) (i : Nat) : Nat → Bool := blkF (f.blk i) (aftF (f.blk i).e.to X)
def genV (b : VB) (r : Nat) : Bool := blkF b (fun _ => false) r
def thruV (b : VB) (r : Nat) : Bool := blkF b (fun _ => true) r
/-- what is live at the beginning of a block -/
inductive LiveI (f : VF) : Nat → Nat → Prop
  | here (i r : Nat) : genV (f.blk i) r = true → LiveI f i r
  | step (i t r : Nat) : thruV (f.blk i) r = true → (t : Int) ∈ (f.blk i).e.to → LiveI f t r → LiveI f i r

theorem fold_at (l l' : Nat → Bool) (r : Nat) : ∀ ins : List VI, l r = l' r → ins.foldr insF l r = ins.foldr insF l' r
  | [], h => h
  | x :: ins, h => by
    have ih := fold_at l l' r ins h
    show insF x (ins.foldr insF l) r = insF x (ins.foldr insF l') r
    generalize ins.foldr insF l = A at ih ⊢
    generalize ins.foldr insF l' = A' at ih ⊢
    unfold insF
    rw [ih]
theorem blkF_at (b : VB) {l l' : Nat → Bool} {r : Nat} (h : l r = l' r) : blkF b l r = blkF b l' r := by
  unfold blkF
  by_cases h0 : r = 0
  · rw [if_pos h0, if_pos h0]
  · rw [if_neg h0, if_neg h0]
    refine fold_at _ _ r _ ?_
    rw [h]
theorem fold_mono (r : Nat) : ∀ (ins : List VI) (l l' : Nat → Bool), (l r = true → l' r = true) → ins.foldr insF l r = true → ins.foldr insF l' r = true
  | [], l, l', h => h
  | x :: ins, l, l', h => by
    show insF x _ r = true → insF x _ r = true
    unfold insF
    split
    · exact id
    · split
      · exact id
      · exact fold_mono r ins l l' h
theorem blkF_mono (b : VB) {l l' : Nat → Bool} {r : Nat} (h : l r = true → l' r = true) : blkF b l r = true → blkF b l' r = true := by
  unfold blkF
  by_cases h0 : r = 0
  · rw [if_pos h0]; intro h; cases h
  · rw [if_neg h0, if_neg h0]
    refine fold_mono r _ _ _ ?_
    show (if (r : Int) ∈ endV b.e then true else l r) = true → (if (r : Int) ∈ endV b.e then true else l' r) = true
    split
    · exact id
    · exact h
theorem blkF_split (b : VB) (l : Nat → Bool) (r : Nat) : blkF b l r = true ↔ genV b r = true ∨ (thruV b r = true ∧ l r = true) := by
  unfold genV thruV
  constructor
  · intro h
    cases hl : l r
    · left; rw [blkF_at b (l' := l) (by rw [hl])]; exact h
    · right; exact ⟨by rw [blkF_at b (l' := l) (by rw [hl])]; exact h, rfl⟩
  · rintro (h | ⟨h, hl⟩)
    · exact blkF_mono b (fun h => by cases h) h
    · rw [blkF_at b (l' := fun _ => true) (by rw [hl])]; exact h
theorem stepV_iff (f : VF) (X : Nat → Nat → Bool) (i r : Nat) : stepV f X i r = true ↔ genV (f.blk i) r = true ∨ (thruV (f.blk i) r = true ∧ ∃ t ∈ (f.blk i).e.to, X t.toNat r = true) := by
  unfold stepV
  rw [blkF_split]
  unfold aftF
  rw [List.any_eq_true]
theorem genV_zero (b : VB) : genV b 0 = false := by unfold genV blkF; rw [if_pos rfl]
theorem thruV_zero (b : VB) : thruV b 0 = false := by unfold thruV blkF; rw [if_pos rfl]
theorem LiveI.pos {f : VF} {i r : Nat} (h : LiveI f i r) : r ≠ 0 := by
  cases h with
  | here _ _ h => rintro rfl; rw [genV_zero] at h; cases h
  | step _ _ _ h => rintro rfl; rw [thruV_zero] at h; cases h

/-- where the loop stands: sound, and no more than the step yields -/
structure Appr (f : VF) (m n : Nat) (X : Nat → Nat → Bool) : Prop where
  sound : ∀ i, i < m → ∀ r, r < n → X i r = true → LiveI f i r
  post : ∀ i, i < m → ∀ r, r < n → X i r = true → stepV f X i r = true
def FixV (f : VF) (m n : Nat) (X : Nat → Nat → Bool) : Prop := ∀ i, i < m → ∀ r, r < n → stepV f X i r = X i r
/-- the targets of the jumps are blocks -/
def TosV (f : VF) (m : Nat) : Prop := ∀ i, i < m → ∀ t ∈ (f.blk i).e.to, 0 ≤ t ∧ t < m
theorem step_mono {f : VF} {X X' : Nat → Nat → Bool} {i r m : Nat} (hto : ∀ t ∈ (f.blk i).e.to, 0 ≤ t ∧ t < m) (h : ∀ t : Nat, t < m → X t r = true → X' t r = true) (hs : stepV f X i r = true) : stepV f X' i r = true := by
  rw [stepV_iff] at hs ⊢
  rcases hs with hs | ⟨h1, t, ht, h2⟩
  · exact .inl hs
  · exact .inr ⟨h1, t, ht, h _ (by have := hto t ht; omega) h2⟩
theorem Appr.none (f : VF) (m n : Nat) : Appr f m n fun _ _ => false := ⟨fun i _ r _ h => (by cases h), fun i _ r _ h => (by cases h)⟩
def putV (X : Nat → Nat → Bool) (i : Nat) (l : Nat → Bool) : Nat → Nat → Bool := fun k => if k = i then l else X k
theorem Appr.put {f : VF} {m n : Nat} {X : Nat → Nat → Bool} (h : Appr f m n X) (ht : TosV f m) {i : Nat} (hi : i < m) : Appr f m n (putV X i (stepV f X i)) := by
  have hle : ∀ r, r < n → ∀ t : Nat, t < m → X t r = true → putV X i (stepV f X i) t r = true := fun r hr t htm hx => by
    unfold putV
    by_cases e : t = i
    · subst e; rw [if_pos rfl]; exact h.post t htm r hr hx
    · rw [if_neg e]; exact hx
  have hsound : ∀ r, r < n → stepV f X i r = true → LiveI f i r := fun r hr hs => by
    rw [stepV_iff] at hs
    rcases hs with hs | ⟨h1, t, htm, h2⟩
    · exact .here _ _ hs
    · have h3 := ht i hi t htm
      refine .step i t.toNat r h1 ?_ (h.sound t.toNat (by omega) r hr h2)
      rw [Int.toNat_of_nonneg h3.1]; exact htm
  refine ⟨fun k hk r hr hx => ?_, fun k hk r hr hx => ?_⟩
  · unfold putV at hx
    by_cases e : k = i
    · subst e; rw [if_pos rfl] at hx; exact hsound r hr hx
    · rw [if_neg e] at hx; exact h.sound k hk r hr hx
  · refine step_mono (ht k hk) (hle r hr) ?_
    unfold putV at hx
    by_cases e : k = i
    · subst e; rw [if_pos rfl] at hx; exact hx
    · rw [if_neg e] at hx; exact h.post k hk r hr hx
theorem Appr.fix {f : VF} {m n : Nat} {X : Nat → Nat → Bool} (h : Appr f m n X) (ht : TosV f m) (hf : FixV f m n X) : ∀ i, i < m → ∀ r, r < n → (X i r = true ↔ LiveI f i r) := by
  have key : ∀ i r, LiveI f i r → i < m → r < n → X i r = true := by
    intro i r hl
    induction hl with
    | here i r hg => intro hi hr; rw [← hf i hi r hr, stepV_iff]; exact .inl hg
    | step i t r h1 h2 _ ih =>
      intro hi hr
      have := ht i hi _ h2
      rw [← hf i hi r hr, stepV_iff]
      exact .inr ⟨h1, t, h2, ih (by omega) hr⟩
  exact fun i hi r hr => ⟨h.sound i hi r hr, fun hl => key i r hl hi hr⟩

/-- how many are not live yet -/
def cntR (n : Nat) (l : Nat → Bool) : Nat := ((List.range n).filter fun r => !l r).length
def cntV (m n : Nat) (X : Nat → Nat → Bool) : Nat := ((List.range m).map fun i => cntR n (X i)).sum
theorem cntR_le {n : Nat} {l l' : Nat → Bool} (h : ∀ r, r < n → l r = true → l' r = true) : cntR n l' ≤ cntR n l := by
  unfold cntR
  induction n with
  | zero => simp
  | succ n ih =>
    rw [List.range_succ, List.filter_append, List.filter_append, List.length_append, List.length_append]
    have h1 := ih fun r hr => h r (by omega)
    have h2 : ([n].filter fun r => !l' r).length ≤ ([n].filter fun r => !l r).length := by
      cases e : l n
      · cases e' : l' n <;> simp [e, e']
      · simp [e, h n (by omega) e]
    omega
theorem cntR_lt {n : Nat} {l l' : Nat → Bool} (h : ∀ r, r < n → l r = true → l' r = true) (hd : ∃ r, r < n ∧ l r ≠ l' r) : cntR n l' < cntR n l := by
  induction n with
  | zero => obtain ⟨r, hr, _⟩ := hd; omega
  | succ n ih =>
    unfold cntR
    rw [List.range_succ, List.filter_append, List.filter_append, List.length_append, List.length_append]
    have h0 : cntR n l' ≤ cntR n l := cntR_le fun r hr => h r (by omega)
    unfold cntR at h0
    by_cases e : l n = l' n
    · obtain ⟨r, hr, hne⟩ := hd
      have hrn : r < n := by
        rcases Nat.lt_or_ge r n with h9 | h9
        · exact h9
        · have : r = n := by omega
          subst this
          exact absurd e hne
      have h1 := ih (fun r hr => h r (by omega)) ⟨r, hrn, hne⟩
      unfold cntR at h1
      have h2 : ([n].filter fun r => !l' r).length ≤ ([n].filter fun r => !l r).length := by
        cases e1 : l' n <;> rw [e1] at e <;> simp [e1, e]
      omega
    · have h2 : ([n].filter fun r => !l' r).length < ([n].filter fun r => !l r).length := by
        cases e1 : l n
        · cases e2 : l' n
          · rw [e1, e2] at e; exact absurd rfl e
          · simp [e1, e2]
        · have := h n (by omega) e1; rw [e1, this] at e; exact absurd rfl e
      omega
theorem cntV_put {m n : Nat} {X : Nat → Nat → Bool} {i : Nat} {l : Nat → Bool} (hi : i < m) (h : ∀ r, r < n → X i r = true → l r = true) (hd : ∃ r, r < n ∧ X i r ≠ l r) : cntV m n (putV X i l) < cntV m n X := by
  have h1 := cntR_lt h hd
  unfold cntV
  induction m with
  | zero => omega
  | succ m ih =>
    rw [List.range_succ, List.map_append, List.map_append, List.sum_append, List.sum_append]
    by_cases e : i = m
    · subst e
      have h2 : ((List.range i).map fun k => cntR n (putV X i l k)) = (List.range i).map fun k => cntR n (X k) := by
        refine List.map_congr_left fun k hk => ?_
        have := List.mem_range.1 hk
        unfold putV
        rw [if_neg (by omega)]
      rw [h2]
      have h3 : cntR n (putV X i l i) = cntR n l := by unfold putV; rw [if_pos rfl]
      simp only [List.map_cons, List.map_nil, List.sum_cons, List.sum_nil, h3]
      omega
    · have h2 := ih (by omega)
      have h3 : cntR n (putV X i l m) = cntR n (X m) := by unfold putV; rw [if_neg (fun h => e h.symm)]
      simp only [List.map_cons, List.map_nil, List.sum_cons, List.sum_nil, h3]
      omega
end

section
theorem drewN_addB (w : World) (m n : Nat) : (w.drewN m).drewN n = w.drewN (m + n) := by
  simp [World.drewN, Nat.add_assoc]
def EqBPost (b : Bool) (w : World) (e : Ending) (w' : World) : Prop := ∃ n, e = .returned (.bool b) ∧ w' = w.drewN n
set_option maxHeartbeats 1000000 in
theorem equal_bools (w : World) (g g' n : Nat) (l l' : Nat → Bool) (h : BRow w g n l) (h' : BRow w g' n l') (hn : n ≤ 8192) (b : Bool) (hb : b = true ↔ ∀ r, r < n → l r = l' r) :
    Calls Tryz.prog 74 #[.slice (some ⟨g, 0, none⟩) n n, .slice (some ⟨g', 0, none⟩) n n] w (EqBPost b w) := by
  have H1 := Lib.hid h
  have H2 := Lib.hid h'
  have HB := Lib.hid hb
  clear h h' hb
  go_enter Tryz.func74, Tryz.ntmps74
  go_wp2
  go_loopw [4, 5, 13] (fun _ _ v wr => ∃ k m : Nat, k ≤ n ∧ v = .int .i64 k ∧ (∀ r, r < k → l r = l' r) ∧ wr = w.drewN m) (fun _ _ v _ => n - (intOf v).toNat)
  case atStart => exact ⟨0, 0, Nat.zero_le _, rfl, fun r hr => absurd hr (Nat.not_lt_zero _), rfl⟩
  case round =>
    obtain ⟨k, m, hk, rfl, hz, rfl⟩ := hrel
    have HZ := Lib.hid hz
    clear hz
    by_cases hlt : k < n
    · have p1 := H1.out.cell hlt
      have p2 := H2.out.cell hlt
      obtain ⟨x, hx⟩ : ∃ x, x = l k := ⟨_, rfl⟩
      obtain ⟨y, hy⟩ : ∃ y, y = l' k := ⟨_, rfl⟩
      rw [← hx] at p1
      rw [← hy] at p2
      have HX := Lib.hid hx
      have HY := Lib.hid hy
      clear hx hy
      by_cases hxy : x = y
      · have t3 : (x == y) = true := by simp [hxy]
        have HXY := Lib.hid hxy
        clear hxy
        go_wp2
        go_quiet (fail)
        go_wp2
        go_roundw
        case rel =>
          refine ⟨k + 1, _, by omega, by go_num, fun r hr => ?_, rfl⟩
          by_cases e : r = k
          · rw [e, ← HX.out, ← HY.out, HXY.out]
          · exact HZ.out r (by omega)
        case measure => simp [intOf]; omega
      · have t3 : (x == y) = false := by simp [hxy]
        have HNE : Hid (b = false) := by
          show b = false
          rw [← Bool.not_eq_true]
          intro h
          apply hxy
          rw [HX.out, HY.out]
          exact HB.out.1 h k hlt
        clear hxy
        go_wp2
        go_quiet (fail)
        go_wp2
        go_ret
        exact ⟨_, by rw [HNE.out]; rfl, drewN_addB w m nq⟩
    · have HEQ : Hid (b = true) := HB.out.2 fun r hr => HZ.out r (by omega)
      go_wp2
      go_ret
      exact ⟨_, by rw [HEQ.out]; rfl, rfl⟩
end
end Go.Proofs.YtdnpoomagjcpfaaGreat
