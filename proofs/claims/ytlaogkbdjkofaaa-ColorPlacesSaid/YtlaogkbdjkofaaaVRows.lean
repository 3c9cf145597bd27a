/- Rows of bools: what is live before a block (tile's before) and after it. -/
import Derived.Test.YtlaogkbdjkofaaaVBadD
import Derived.Test.YtlaogkbdjkofaaaMade
namespace Go.Proofs.Ytlaogkbdjkofaaa
open Go.RowKit
set_option linter.unusedVariables false
set_option linter.unusedSimpArgs false

/-- a row of n bools -/
def BRow (w : World) (g n : Nat) (l : Nat → Bool) : Prop := Blk w g 4 (rowL n fun r => .bool (l r))
theorem BRow.cell {w : World} {g n : Nat} {l : Nat → Bool} (h : BRow w g n l) {i : Nat} (hi : i < n) : w.cell? ⟨g, i, none⟩ = some (.bool (l i)) := Blk.row h hi
theorem BRow.set {w : World} {g n : Nat} {l : Nat → Bool} (h : BRow w g n l) (j : Nat) (b : Bool) : BRow (w.setCell ⟨g, j, none⟩ (.bool b)) g n (fun r => if r = j then b else l r) := by
  refine Blk.rowCongr (Blk.rowSet h j (.bool b)) fun i _ => ?_
  by_cases e : i = j <;> simp [e]
theorem BRow.congr {w : World} {g n : Nat} {l l' : Nat → Bool} (h : BRow w g n l) (e : ∀ r, r < n → l r = l' r) : BRow w g n l' := Blk.rowCongr h fun i hi => by rw [e i hi]
theorem BRow.below {w w' : World} {g n B : Nat} {l : Nat → Bool} (h : BRow w g n l) (hb : Below B w w') (hg : g < B) : BRow w' g n l := Blk.below h hb hg
/-- all but block g stays -/
def Rest1 (g : Nat) (w w' : World) : Prop := w.grownBy w' (some g)
theorem Rest1.refl (g : Nat) (w : World) : Rest1 g w w := ⟨rfl, rfl, rfl, Nat.le_refl _, fun _ _ _ => rfl⟩
theorem Rest1.trans {g : Nat} {w w' w'' : World} (h : Rest1 g w w') (k : Rest1 g w' w'') : Rest1 g w w'' := grownTrans h k
theorem Rest1.ofBelow {g : Nat} {w w' : World} (h : Below w.heap.size w w') : Rest1 g w w' := ⟨h.os, h.tape, h.output, h.size, fun k hk _ => h.block k hk⟩
theorem Rest1.set (g j : Nat) (w : World) (v : Value) : Rest1 g w (w.setCell ⟨g, j, none⟩ v) := ⟨rfl, rfl, rfl, by simp [World.setCell], fun k _ hk => Below.heap_setCell _ _ _ _ (fun e => hk (by rw [e]))⟩
theorem Rest1.block {g : Nat} {w w' : World} (h : Rest1 g w w') (k : Nat) (hk : k < w.heap.size) (hne : k ≠ g) : w'.heap[k]? = w.heap[k]? := World.grownBy.block h k hk (fun e => hne (Option.some.inj e))

/-- what is live behind an instruction, turned into what is live before it -/
def insF (x : VI) (l : Nat → Bool) (r : Nat) : Bool := if (r : Int) ∈ usesV x then true else if (r : Int) = defV x then false else l r
def blkF (x : VB) (l : Nat → Bool) (r : Nat) : Bool := if r = 0 then false else (x.ins.foldr insF fun r => if (r : Int) ∈ endV x.e then true else l r) r
theorem came_ownsV {w : World} {base : Nat} {v : Value} {rs : List Int} (h : w.ownsRow base 3 1 v rs.length (rs.map (Value.int .i64))) : ∃ a c, v = .slice a rs.length c ∧ Came w a rs.length c 1 (rs.map intCells) := by
  obtain ⟨a, c, rfl⟩ := ownG_shape h
  exact ⟨a, c, rfl, came_owns_ints h⟩
/-- the registers of a block are less than n -/
structure VB.Fit (n : Nat) (b : VB) : Prop where
  d : ∀ x ∈ b.ins, 0 ≤ defV x ∧ defV x < n
  u : ∀ x ∈ b.ins, ∀ r ∈ usesV x, 1 ≤ r ∧ r < n
  e : ∀ r ∈ endV b.e, 1 ≤ r ∧ r < n
theorem VB.Ok.cells {w0 wx : World} {b : VB} (h : b.Ok w0) (hb : Below w0.heap.size w0 wx) {i : Nat} (hi : i < b.ins.length) : ∃ g off, b.sa = some ⟨g, off, none⟩ ∧ g < w0.heap.size ∧ wx.cell? ⟨g, off + i * 6, none⟩ = some (.int .i64 b.ins[i].op) ∧ wx.cell? ⟨g, off + i * 6 + 1, none⟩ = some (.int .i64 b.ins[i].d) ∧ wx.cell? ⟨g, off + i * 6 + 2, none⟩ = some (.int .i64 b.ins[i].a) ∧
      wx.cell? ⟨g, off + i * 6 + 3, none⟩ = some (.int .i64 b.ins[i].b) ∧ wx.cell? ⟨g, off + i * 6 + 4, none⟩ = some (.int .i64 b.ins[i].n) ∧ wx.cell? ⟨g, off + i * 6 + 5, none⟩ = some (.slice b.ins[i].sa b.ins[i].sn b.ins[i].sc) := by
  have hl := h.len
  obtain ⟨g, off, ha, hg, hc⟩ := came_vis (h.came.below hb) (by omega)
  obtain ⟨g', off', ha', hg', _⟩ := came_vis h.came (by omega)
  rw [ha] at ha'
  injection ha' with ha'
  injection ha' with e1 e2 _
  subst e1 e2
  exact ⟨g, off, ha, hg', hc i hi⟩
theorem Rest1.below {g B : Nat} {w w' : World} (h : Rest1 g w w') (hB : B ≤ g) (hw : B ≤ w.heap.size) : Below B w w' := belowOf (base := 0) h (fun q hq => by simp only [Option.some.injEq] at hq; omega) hw
/-- the elements of an own row of integers, behind writes into another block -/
theorem row_at {w w' : World} {base g n : Nat} {a : Option Addr} {c : Nat} {rs : List Int} (h : w.ownsRow base 3 1 (.slice a n c) n (rs.map (Value.int .i64))) (hr : Rest1 g w w') (hg : g < base) {k : Nat} (hk : k < rs.length) :
    ∃ q, a = some ⟨q, 0, none⟩ ∧ w'.cell? ⟨q, k, none⟩ = some (.int .i64 rs[k]) := by
  have hl : rs.length = n := by have := h.1; simpa using this
  obtain ⟨q, cap, hv, h1, h2, _⟩ := ownG_has h (by omega)
  injection hv with e1 e2 e3
  subst e1 e3
  refine ⟨q, rfl, ?_⟩
  have hc := h.cellAt k (by omega)
  rw [List.getElem?_map, List.getElem?_eq_getElem hk] at hc
  rw [World.cell?_of_block (a := ⟨q, k, none⟩) (hr.block q h2 (by omega))]
  exact hc

/-- a loop's rows: the registers of the first k are live -/
def markF (rs : List Int) (l : Nat → Bool) (r : Nat) : Bool := if (r : Int) ∈ rs then true else l r
theorem markF_snoc (rs : List Int) (x : Int) (q : Nat) (hx : x = (q : Int)) (l : Nat → Bool) : (fun r => if r = q then true else markF rs l r) = markF (rs ++ [x]) l := by
  funext r
  unfold markF
  by_cases h : r = q
  · rw [if_pos h, if_pos (by rw [h]; simp [hx])]
  · rw [if_neg h]
    have : ((r : Int) ∈ rs ++ [x]) ↔ (r : Int) ∈ rs := by
      rw [List.mem_append]
      constructor
      · rintro (h1 | h1)
        · exact h1
        · exfalso; apply h; have : (r : Int) = x := by simpa using h1
          omega
      · exact .inl
    by_cases h2 : (r : Int) ∈ rs
    · rw [if_pos h2, if_pos (this.2 h2)]
    · rw [if_neg h2, if_neg (fun h3 => h2 (this.1 h3))]
theorem insF_eq (x : VI) (l : Nat → Bool) (q : Nat) (hq : defV x = (q : Int)) : insF x l = markF (usesV x) (fun r => if r = q then false else l r) := by
  funext r
  unfold insF markF
  rw [hq]
  by_cases h : (r : Int) ∈ usesV x
  · rw [if_pos h, if_pos h]
  · rw [if_neg h, if_neg h]
    by_cases h2 : r = q
    · rw [if_pos (by omega)]; exact (if_pos h2).symm
    · rw [if_neg (by omega)]; exact (if_neg h2).symm
/-- a block by value -/
def vbW (x : VB) : Value := .agg #[.slice x.sa x.sn x.sc, .int .i64 x.e.kind, .int .i64 x.e.op, .int .i64 x.e.a, .int .i64 x.e.b, .int .i64 x.e.n, .slice x.e.sa x.e.sn x.e.sc]
def BeforePost (b : VB) (l : Nat → Bool) (g n : Nat) (w : World) (e : Ending) (w' : World) : Prop := e = .returned (.tuple #[]) ∧ BRow w' g n (blkF b l) ∧ Rest1 g w w'
set_option maxRecDepth 100000 in
set_option maxHeartbeats 8000000 in
theorem before_any (w0 w : World) (b : VB) (hb : b.Ok w0) (hw : Below w0.heap.size w0 w) (g n : Nat) (hg : w0.heap.size ≤ g) (l : Nat → Bool) (hrow : BRow w g n l) (hn : 0 < n ∧ n ≤ 8192) (hf : b.Fit n) :
    Calls Try.prog 117 #[vbW b, .slice (some ⟨g, 0, none⟩) n n] w (BeforePost b l g n w) := by
  have hgl : g < w.heap.size := Blk.lt hrow
  obtain ⟨sa, hsa0⟩ : ∃ s, s = b.sa := ⟨_, rfl⟩
  have hsn := hb.reach
  have hsl := hb.len
  have HB := Lib.hid hb
  have HF := Lib.hid hf
  have HW := Lib.hid hw
  have HE := fun wx (h : Below w0.heap.size w0 wx) => endUses_any b.e wx (hb.e.below h)
  have hb1 : Below w.heap.size w (w.alloc (.cells #[.slice sa b.sn b.sc, .int .i64 b.e.kind, .int .i64 b.e.op, .int .i64 b.e.a, .int .i64 b.e.b, .int .i64 b.e.n, .slice b.e.sa b.e.sn b.e.sc] 63)) := (Below.refl _ _).alloc (Nat.le_refl _) _
  have HE1 := Lib.hid (HE _ (hw.trans (hb1.mono hw.size)))
  have HBK := Lib.hid (Blk.new w [.slice sa b.sn b.sc, .int .i64 b.e.kind, .int .i64 b.e.op, .int .i64 b.e.a, .int .i64 b.e.b, .int .i64 b.e.n, .slice b.e.sa b.e.sn b.e.sc] 63)
  have HR := Lib.hid (hrow.below hb1 hgl)
  have HB1 := Lib.hid hb1
  clear HE hb1 hrow hb hf hw
  unfold vbW
  rw [← hsa0]
  have HSA := Lib.hid hsa0
  clear hsa0
  unfold veV at HE1
  go_enter Try.func117, Try.ntmps117
  go_wp2_with fail
  generalize w.alloc (.cells #[.slice sa b.sn b.sc, .int .i64 b.e.kind, .int .i64 b.e.op, .int .i64 b.e.a, .int .i64 b.e.b, .int .i64 b.e.n, .slice b.e.sa b.e.sn b.e.sc] 63) = w1 at HE1 HBK HR HB1 ⊢
  refine HE1.out.mono ?_
  rintro e w2 ⟨v, rfl, hown, hbel⟩
  have hle := hown.1
  obtain ⟨m, hm⟩ : ∃ m, m = (endV b.e).length := ⟨_, rfl⟩
  obtain ⟨rs, hrs⟩ : ∃ rs, rs = endV b.e := ⟨_, rfl⟩
  rw [← hrs] at hown hm
  rw [← hm] at hown
  obtain ⟨a, c, rfl⟩ := ownG_shape hown
  have HO := Lib.hid hown
  have HM := Lib.hid hm
  have HRS := Lib.hid hrs
  have hm2 : m ≤ 2 := by rw [hm, hrs]; exact List.length_filter_le _ _
  have hfe : ∀ r ∈ rs, 1 ≤ r ∧ r < n := by rw [hrs]; exact HF.out.e
  have HFE := Lib.hid hfe
  have hlt1 : w.heap.size < w1.heap.size := Blk.lt HBK.out
  have hg1 : g < w1.heap.size := by omega
  have HR2 := Lib.hid (HR.out.below hbel hg1)
  have hsz12 := hbel.size
  have HBK2 := Lib.hid (Blk.below HBK.out hbel hlt1)
  have HB2 := Lib.hid (HB1.out.trans (hbel.mono HB1.out.size))
  clear hown hbel hm hrs hfe hle HBK HR HE1
  go_wp2_with fail
  go_loopw [5, 13] (fun _ u wr => ∃ k : Nat, k ≤ m ∧ u = .int .i64 (k : Int) ∧ BRow wr g n (markF (rs.take k) l) ∧ Rest1 g w2 wr) (fun _ u _ => m - (intOf u).toNat)
  case atStart => exact ⟨0, Nat.zero_le _, rfl, by have : markF (rs.take 0) l = l := by funext r; simp [markF]
                                                   rw [this]; exact HR2.out, Rest1.refl _ _⟩
  case round =>
    obtain ⟨k, hk, rfl, hbr, hr1⟩ := hrel
    by_cases hlt : k < m
    · obtain ⟨q, rfl, ck⟩ := row_at HO.out hr1 hg1 (k := k) (by have := HM.out; omega)
      obtain ⟨r, hr⟩ : ∃ r, r = rs[k]'(by have := HM.out; omega) := ⟨_, rfl⟩
      rw [← hr] at ck
      have hme := HFE.out r (by rw [hr]; exact List.getElem_mem _)
      have HT : Hid (rs.take (k + 1) = rs.take k ++ [r]) := by rw [hr]; exact List.take_succ_eq_append_getElem _
      obtain ⟨x, rfl⟩ := Int.eq_ofNat_of_zero_le (show 0 ≤ r by omega)
      have hxn : x < n := by omega
      have cx := hbr.cell hxn
      have fx := Blk.free hbr x
      have HN : Hid (BRow (wr.setCell ⟨g, x, none⟩ (.bool true)) g n (markF (rs.take (k + 1)) l)) := by
        rw [HT.out, ← markF_snoc _ _ x rfl]
        exact hbr.set x true
      have HR1 := Lib.hid (hr1.trans (Rest1.set g x wr (.bool true)))
      clear hbr hr1 hme hr
      generalize markF (rs.take k) l x = oldb at cx
      go_wp2_with fail
      go_roundw
      case rel => exact ⟨k + 1, by omega, by go_num, HN.out, HR1.out⟩
      case measure => simp [intOf]; omega
    · have hall : rs.take k = rs := List.take_of_length_le (by have := HM.out; omega)
      rw [hall] at hbr
      have HBR := Lib.hid hbr
      have HR1 := Lib.hid hr1
      have hlw : w.heap.size < w2.heap.size := Nat.lt_of_lt_of_le hlt1 hsz12
      have HBK3 := Lib.hid (Blk.of_heap HBK2.out (hr1.block _ hlw (by omega)))
      have c0 := Blk.cell HBK3.out 0
      simp only [List.getElem?_cons_zero] at c0
      clear hbr hr1 hall
      obtain ⟨w4, hw4⟩ : ∃ w4, w4 = wr := ⟨_, rfl⟩
      rw [← hw4] at HBR HR1 HBK3 c0 ⊢
      clear hw4 HR2 HBK2
      obtain ⟨L, hL⟩ : ∃ L, L = markF rs l := ⟨_, rfl⟩
      rw [← hL] at HBR
      have HLL := Lib.hid hL
      clear hL
      have HBW4 := Lib.hid (HW.out.trans ((HB2.out.mono HW.out.size).trans (HR1.out.below hg (by have := HW.out.size; have := HB2.out.size; omega))))
      have hlw4 : w.heap.size < w4.heap.size := Blk.lt HBK3.out
      have hg4 : g < w4.heap.size := by omega
      clear c0
      have hcz := Blk.cell HBK3.out 0
      simp only [List.getElem?_cons_zero] at hcz
      go_wp2_with fail
      clear hcz
      rw [show (b.sn : Int) - 1 = ((b.sn : Nat) : Int) - 1 from rfl]
      go_loopw [6, 8] (fun u _ wr => ∃ j : Nat, j ≤ b.sn ∧ u = .int .i64 ((j : Int) - 1) ∧ BRow wr g n ((b.ins.drop j).foldr insF L) ∧ Rest1 g w4 wr) (fun u _ _ => (intOf u + 1).toNat)
      case atStart =>
        refine ⟨b.sn, Nat.le_refl _, rfl, ?_, Rest1.refl _ _⟩
        rw [List.drop_of_length_le (by omega)]
        exact HBR.out
      case round =>
        obtain ⟨j, hj, rfl, hbr, hr1⟩ := hrel
        obtain ⟨w5, hw5⟩ : ∃ w5, w5 = wr := ⟨_, rfl⟩
        rw [← hw5] at hbr hr1 ⊢
        clear hw5
        have HBR5 := Lib.hid hbr
        have HR5 := Lib.hid hr1
        have hg5 : g < w5.heap.size := Blk.lt hbr
        have HBK5 := Lib.hid (Blk.of_heap HBK3.out (hr1.block _ hlw4 (by omega)))
        have HBW5 := Lib.hid (HBW4.out.trans (hr1.below hg (by have := HBW4.out.size; omega)))
        clear hbr hr1
        by_cases hj0 : j = 0
        · subst hj0
          rw [show ((0 : Nat) : Int) - 1 = -1 from rfl]
          have cx := HBR5.out.cell (i := 0) hn.1
          have fx := Blk.free HBR5.out 0
          generalize ((b.ins.drop 0).foldr insF L) 0 = ob at cx
          have HN : Hid (BRow (w5.setCell ⟨g, 0, none⟩ (.bool false)) g n (blkF b l)) := by
            refine (HBR5.out.set 0 false).congr fun r hr => ?_
            unfold blkF
            rw [List.drop_zero, HLL.out, HRS.out]
            rfl
          have HR1 : Hid (Rest1 g w (w5.setCell ⟨g, 0, none⟩ (.bool false))) := (((Rest1.ofBelow HB2.out).trans HR1.out).trans HR5.out).trans (Rest1.set g 0 w5 (.bool false))
          clear HBR5
          go_wp2_with fail
          exact bodyPost_ret (v := .tuple #[]) (by simp [results, Try.results117, go_sem]) rfl ⟨rfl, HN.out, HR1.out⟩
        · obtain ⟨i, rfl⟩ := Nat.exists_eq_succ_of_ne_zero hj0
          rw [show ((i.succ : Nat) : Int) - 1 = (i : Int) by omega]
          have hi : i < b.ins.length := by omega
          obtain ⟨x, hx⟩ : ∃ x, x = b.ins[i] := ⟨_, rfl⟩
          have hxo : x.Ok w0 := by rw [hx]; exact HB.out.ins _ (List.getElem_mem _)
          obtain ⟨gi, oi, hsa, hgi, d0, d1, d2, d3, d4, d5⟩ := HB.out.cells HBW5.out hi
          rw [← HSA.out] at hsa
          subst hsa
          rw [← hx] at d0 d1 d2 d3 d4 d5
          have c0 := Blk.cell HBK5.out 0
          simp only [List.getElem?_cons_zero] at c0
          have hd := HF.out.d x (by rw [hx]; exact List.getElem_mem _)
          have hu := HF.out.u x (by rw [hx]; exact List.getElem_mem _)
          have HX := Lib.hid hx
          have HU := Lib.hid hu
          have HXO := Lib.hid hxo
          obtain ⟨q, hq⟩ := Int.eq_ofNat_of_zero_le hd.1
          have hqn : q < n := by omega
          have HD := def_any x
          unfold viV at HD
          rw [show IntPost (defV x) = fun w e w' => e = .returned (.int .i64 (q : Int)) ∧ Below w.heap.size w w' from by funext w e w'; rw [hq]; rfl] at HD
          have HQ := Lib.hid hq
          have hil : (i : Int) < (b.sn : Int) := by omega
          clear hx hu hxo hd hq
          go_wp2_with (go_at_call 66; refine (HD _).mono ?_; rintro e w6 ⟨rfl, hb6⟩; have HB6 := Lib.hid hb6; have HR6 := Lib.hid (HBR5.out.below hb6 hg5); have cx := HR6.out.cell hqn; have fx := Blk.free HR6.out q; generalize ((b.ins.drop i.succ).foldr insF L) q = ob at cx; have HB7 := Lib.hid (HBW5.out.trans (hb6.mono HBW5.out.size)); have HR7 := Lib.hid (Rest1.set g q w6 (.bool false)); have HBK7 := Lib.hid (Blk.of_heap (Blk.below HBK5.out hb6 (Blk.lt HBK5.out)) (HR7.out.block _ (Nat.lt_of_lt_of_le (Blk.lt HBK5.out) hb6.size) (by omega))); have c0 := Blk.cell HBK7.out 0; simp only [List.getElem?_cons_zero] at c0; obtain ⟨gi', oi', hsa', hgi', d0, d1, d2, d3, d4, d5⟩ := HB.out.cells (HB7.out.trans (HR7.out.below hg (by have := HB7.out.size; omega))) hi; rw [← HSA.out] at hsa'; injection hsa' with hsa'; injection hsa' with ee1 ee2 _; subst ee1 ee2; rw [← HX.out] at d0 d1 d2 d3 d4 d5; clear hb6 hgi')
          have HRW7 := Lib.hid (HR6.out.set q false)
          have HT := Lib.hid (((HR5.out.trans (Rest1.ofBelow HB6.out)).trans HR7.out))
          have HX7 := Lib.hid (HB7.out.trans (HR7.out.below hg (by have := HB7.out.size; omega)))
          have HDR : Hid (b.ins.drop i = x :: b.ins.drop i.succ) := by rw [HX.out]; exact List.drop_eq_getElem_cons hi
          clear c0 d0 d1 d2 d3 d4 d5 cx fx HD HR6 HBK5 HB6 HBR5 HR5 HR7 HB7 HBW5
          generalize w6.setCell ⟨g, q, none⟩ (.bool false) = w7 at HRW7 HT HX7 HBK7 ⊢
          have HUS := uses_any x w7 (HXO.out.below HX7.out)
          unfold viV at HUS
          refine HUS.mono ?_
          rintro e w8 ⟨v8, rfl, ho8, hb8⟩
          obtain ⟨m8, hm8⟩ : ∃ m, m = (usesV x).length := ⟨_, rfl⟩
          obtain ⟨us, hus⟩ : ∃ us, us = usesV x := ⟨_, rfl⟩
          rw [← hus] at ho8 hm8 HU
          rw [← hm8] at ho8
          obtain ⟨a8, c8, rfl⟩ := ownG_shape ho8
          have hg7 : g < w7.heap.size := Blk.lt HRW7.out
          have HO8 := Lib.hid ho8
          have HR8 := Lib.hid (HRW7.out.below hb8 hg7)
          have HT8 := Lib.hid (HT.out.trans (Rest1.ofBelow hb8))
          have hm88 : m8 * 8 ≤ 140737488351232 + 16 := by
            have h1 : (usesV x).length ≤ (x.a :: x.b :: x.args).length := List.length_filter_le _ _
            have h2 := HXO.out.len
            have h3 := HXO.out.reach
            rw [hm8, hus]
            simp at h1
            omega
          have HM8 := Lib.hid hm8
          have HUS8 := Lib.hid hus
          obtain ⟨L7, hL7⟩ : ∃ L7 : Nat → Bool, L7 = (fun r => if r = q then false else (b.ins.drop i.succ).foldr insF L r) := ⟨_, rfl⟩
          rw [← hL7] at HR8
          have HL7 := Lib.hid hL7
          have hb88 := hb8.size
          clear ho8 hb8 hm8 hus hL7 HUS HRW7 HT
          go_wp2_with fail
          go_loopw [8, 44] (fun _ u wr => ∃ k : Nat, k ≤ m8 ∧ u = .int .i64 (k : Int) ∧ BRow wr g n (markF (us.take k) L7) ∧ Rest1 g w8 wr) (fun _ u _ => m8 - (intOf u).toNat)
          case atStart => exact ⟨0, Nat.zero_le _, rfl, by have : markF (us.take 0) L7 = L7 := by funext r; simp [markF]
                                                           rw [this]; exact HR8.out, Rest1.refl _ _⟩
          case round =>
            obtain ⟨k, hk, rfl, hbr, hr1⟩ := hrel
            by_cases hlt : k < m8
            · obtain ⟨q8, rfl, ck⟩ := row_at HO8.out hr1 hg7 (k := k) (by have := HM8.out; omega)
              obtain ⟨r, hr⟩ : ∃ r, r = us[k]'(by have := HM8.out; omega) := ⟨_, rfl⟩
              rw [← hr] at ck
              have hme := HU.out r (by rw [hr]; exact List.getElem_mem _)
              have HTT : Hid (us.take (k + 1) = us.take k ++ [r]) := by rw [hr]; exact List.take_succ_eq_append_getElem _
              obtain ⟨y, rfl⟩ := Int.eq_ofNat_of_zero_le (show 0 ≤ r by omega)
              have hxn : y < n := by omega
              have cx := hbr.cell hxn
              have fx := Blk.free hbr y
              have HN : Hid (BRow (wr.setCell ⟨g, y, none⟩ (.bool true)) g n (markF (us.take (k + 1)) L7)) := by
                rw [HTT.out, ← markF_snoc _ _ y rfl]
                exact hbr.set y true
              have HR1 := Lib.hid (hr1.trans (Rest1.set g y wr (.bool true)))
              clear hbr hr1 hme hr
              generalize markF (us.take k) L7 y = oldb at cx
              go_wp2_with fail
              go_roundw
              case rel => exact ⟨k + 1, by omega, by go_num, HN.out, HR1.out⟩
              case measure => simp [intOf]; omega
            · have hall : us.take k = us := List.take_of_length_le (by have := HM8.out; omega)
              rw [hall] at hbr
              have HBR := Lib.hid hbr
              have HR1 := Lib.hid (HT8.out.trans hr1)
              clear hbr hr1
              go_wp2_with fail
              go_roundw
              case rel =>
                refine ⟨i, by omega, by go_num, ?_, HR1.out⟩
                rw [HDR.out]
                show BRow _ g n (insF x (List.foldr insF L (List.drop i.succ b.ins)))
                rw [insF_eq x _ q HQ.out, ← HL7.out, ← HUS8.out]
                exact HBR.out
              case measure => simp [intOf]
end Go.Proofs.Ytlaogkbdjkofaaa
