/- The reference's Issued at a valid state below a bound: it answers what Issue answers. -/
import Derived.Test.YtgcbdndfobiphabFits
import Derived.Test.YtgcbdndfobiphabTimeS
import Derived.Test.YtgcbdndfobiphabEager
import Derived.Test.YtgcbdndfobiphabIRow
import Derived.Test.YtgcbdndfobiphabRunApp
import Derived.Test.YtgcbdndfobiphabIssM
import Derived.Deep.Cut
import Derived.Deep.CutRange
import Derived.Deep.DeepCutAuto
import Derived.Deep.CutBlock
import Derived.Deep.MidRow
import Derived.Laws.Tables
namespace Go.Proofs.Ytgcbdndfobiphab
open Go.RowKit
set_option linter.unusedVariables false
set_option linter.unusedSimpArgs false

def IssuedPost (S : TS) (op d a b : Int) (extra : Nat) (w : World) (e : Ending) (w' : World) : Prop :=
  ∃ va vc, e = .returned (.tuple #[.agg (stCells (nextS S op d a b extra) (.slice va (nextS S op d a b extra).wr.length vc)).toArray, .int .i64 (startOf S op d a b (latOf op + extra) : Int)]) ∧ Came w' va (nextS S op d a b extra).wr.length vc 1 ((wrL (nextS S op d a b extra).wr).map intCells) ∧ Below w.heap.size w w'
theorem rdMax_each (rd : Nat → Nat) (r : Int) : ∀ (l : List Int) (m : Nat), r ∈ l → rd r.toNat ≤ rdMax rd l m
  | [], m, h => by simp at h
  | a :: l, m, h => by
    rcases List.mem_cons.1 h with rfl | h
    · exact Nat.le_trans (Nat.le_max_right m (rd r.toNat)) (rdMax_ge rd l _)
    · exact rdMax_each rd r l _ h
theorem Boxes.setOther {w w' : World} {S : TS} {wv : Value} {op d a b n : Int} (h : Boxes w w' S wv op d a b n) {g : Nat} (hg : w.heap.size + 3 ≤ g) (i : Nat) (v : Value) : Boxes w (w'.setCell ⟨g, i, none⟩ v) S wv op d a b n :=
  ⟨h.below.setCell (by show _ ≤ g; omega) _, h.st.setOther (by show _ ≠ g; omega) v, h.op.setOther (by show _ ≠ g; omega) v, h.out.setOther (by show _ ≠ g; omega) v⟩

/-- what stands while Issued makes its answer: the boxes, and the state that it makes -/
structure RefS (w wx : World) (S : TS) (wv : Value) (op d a b n : Int) (g : Nat) (S1 : TS) (sv : Value) : Prop where
  bx : Boxes w wx S wv op d a b n
  gb : Blk wx g 25 (stCells S1 sv)
  hg : w.heap.size + 3 ≤ g
theorem RefS.set {w wx : World} {S S1 S2 : TS} {wv sv sv' : Value} {op d a b n : Int} {g : Nat} (h : RefS w wx S wv op d a b n g S1 sv) (i : Nat) (v : Value) (e : (stCells S1 sv).set i v = stCells S2 sv') : RefS w (wx.setCell ⟨g, i, none⟩ v) S wv op d a b n g S2 sv' :=
  ⟨h.bx.setOther h.hg i v, by rw [← e]; exact h.gb.set i v, h.hg⟩
theorem RefS.after {w wx wy : World} {S S1 : TS} {wv sv : Value} {op d a b n : Int} {g : Nat} (h : RefS w wx S wv op d a b n g S1 sv) (hb : Below wx.heap.size wx wy) : RefS w wy S wv op d a b n g S1 sv :=
  ⟨h.bx.after hb, h.gb.below hb h.gb.lt, h.hg⟩
theorem rd_range {w : World} {b : Nat} {t : TypeId} {S : TS} {wv : Value} (h : Blk w b t (stCells S wv)) : w.rangeAt b 3 [.int .i64 (S.rd 0 : Int), .int .i64 (S.rd 1 : Int), .int .i64 (S.rd 2 : Int), .int .i64 (S.rd 3 : Int), .int .i64 (S.rd 4 : Int), .int .i64 (S.rd 5 : Int), .int .i64 (S.rd 6 : Int), .int .i64 (S.rd 7 : Int), .int .i64 (S.rd 8 : Int), .int .i64 (S.rd 9 : Int), .int .i64 (S.rd 10 : Int), .int .i64 (S.rd 11 : Int), .int .i64 (S.rd 12 : Int), .int .i64 (S.rd 13 : Int), .int .i64 (S.rd 14 : Int), .int .i64 (S.rd 15 : Int)] := by
  intro j v hv
  rw [h.cell (3 + j)]
  have hj : j < 16 := (List.getElem?_eq_some_iff.1 hv).1
  rcases (show j = 0 ∨ j = 1 ∨ j = 2 ∨ j = 3 ∨ j = 4 ∨ j = 5 ∨ j = 6 ∨ j = 7 ∨ j = 8 ∨ j = 9 ∨ j = 10 ∨ j = 11 ∨ j = 12 ∨ j = 13 ∨ j = 14 ∨ j = 15 by omega) with rfl | rfl | rfl | rfl | rfl | rfl | rfl | rfl | rfl | rfl | rfl | rfl | rfl | rfl | rfl | rfl <;> exact hv
theorem built_state (x y z : Int) (f : Nat → Nat) : Try.prog.built 25 [(0, .int .i64 x), (1, .int .i64 y), (2, .int .i64 z), (3, .agg #[.int .i64 (f 0 : Int), .int .i64 (f 1 : Int), .int .i64 (f 2 : Int), .int .i64 (f 3 : Int), .int .i64 (f 4 : Int), .int .i64 (f 5 : Int), .int .i64 (f 6 : Int), .int .i64 (f 7 : Int), .int .i64 (f 8 : Int), .int .i64 (f 9 : Int), .int .i64 (f 10 : Int), .int .i64 (f 11 : Int), .int .i64 (f 12 : Int), .int .i64 (f 13 : Int), .int .i64 (f 14 : Int), .int .i64 (f 15 : Int)])] = some #[.int .i64 x, .int .i64 y, .int .i64 z, .int .i64 (f 0 : Int), .int .i64 (f 1 : Int), .int .i64 (f 2 : Int), .int .i64 (f 3 : Int), .int .i64 (f 4 : Int), .int .i64 (f 5 : Int), .int .i64 (f 6 : Int), .int .i64 (f 7 : Int), .int .i64 (f 8 : Int), .int .i64 (f 9 : Int), .int .i64 (f 10 : Int), .int .i64 (f 11 : Int), .int .i64 (f 12 : Int), .int .i64 (f 13 : Int), .int .i64 (f 14 : Int), .int .i64 (f 15 : Int), .slice none 0 0] := by kernel_rfl
theorem wpList_build_to {P : Program} {ops : Array Oper} {rest : List Oper} {o : Oper} {a : Act} {w : World} {Q : Exit → Act → World → Prop} (hg : o.guard = none) (t : TypeId) (parts : Array (Nat × Operand)) (ho : o.op = .build t parts)
    (cells : Array Value) (l : List (Nat × Value)) (hl : (parts.map fun (i, x) => (i, a.eval x)).toList = l) (hb : P.built t l = some cells)
    (h : wpList P ops Q rest (a.put o.dst (.agg cells)) w) : wpList P ops Q (o :: rest) a w :=
  wpList_build hg t parts ho (by rw [hl, hb]; rfl) (by rw [hl, hb]; exact h)
theorem newZ (w : World) : (w.alloc (.cells #[.int .i64 0, .int .i64 0, .int .i64 0, .int .i64 0, .int .i64 0, .int .i64 0, .int .i64 0, .int .i64 0, .int .i64 0, .int .i64 0, .int .i64 0, .int .i64 0, .int .i64 0, .int .i64 0, .int .i64 0, .int .i64 0, .int .i64 0, .int .i64 0, .int .i64 0, .slice none 0 0] 25)).heap[w.heap.size]? = some (.cells #[.int .i64 0, .int .i64 0, .int .i64 0, .int .i64 0, .int .i64 0, .int .i64 0, .int .i64 0, .int .i64 0, .int .i64 0, .int .i64 0, .int .i64 0, .int .i64 0, .int .i64 0, .int .i64 0, .int .i64 0, .int .i64 0, .int .i64 0, .int .i64 0, .int .i64 0, .slice none 0 0] 25 (0, 0)) := heap_alloc_new w _
def boxS (w : World) (cs : Array Value) : World := (w.alloc (.cells #[.int .i64 0, .int .i64 0, .int .i64 0, .int .i64 0, .int .i64 0, .int .i64 0, .int .i64 0, .int .i64 0, .int .i64 0, .int .i64 0, .int .i64 0, .int .i64 0, .int .i64 0, .int .i64 0, .int .i64 0, .int .i64 0, .int .i64 0, .int .i64 0, .int .i64 0, .slice none 0 0] 25)).setRow w.heap.size cs
theorem boxS_new (w : World) (S : TS) (sv : Value) : Blk (boxS w (stCells S sv).toArray) w.heap.size 25 (stCells S sv) ∧ Below w.heap.size w (boxS w (stCells S sv).toArray) := by
  have hg := newZ w
  obtain ⟨wz, hwz⟩ : ∃ wz, wz = w.alloc (.cells #[.int .i64 0, .int .i64 0, .int .i64 0, .int .i64 0, .int .i64 0, .int .i64 0, .int .i64 0, .int .i64 0, .int .i64 0, .int .i64 0, .int .i64 0, .int .i64 0, .int .i64 0, .int .i64 0, .int .i64 0, .int .i64 0, .int .i64 0, .int .i64 0, .int .i64 0, .slice none 0 0] 25) := ⟨_, rfl⟩
  have hb : Below w.heap.size w wz := by rw [hwz]; exact (Below.refl w.heap.size w).alloc (Nat.le_refl _) _
  have hsz : w.heap.size ≤ wz.heap.size := by rw [hwz]; simp
  unfold boxS
  rw [← hwz] at hg ⊢
  clear hwz
  refine ⟨by unfold Blk; simp [World.setRow, Array.getElem?_modify, hg], hb.trans ?_⟩
  have hgr : wz.grownBy (wz.setRow w.heap.size (stCells S sv).toArray) (some w.heap.size) := ⟨rfl, rfl, rfl, by simp [World.setRow], fun k _ hk => by simp only [World.setRow, Array.getElem?_modify]; rw [if_neg (fun e => hk (by rw [e]))]⟩
  exact grown_below hgr (fun g hg => by simp at hg; omega) hsz
theorem RefS.afterB {w wx wy : World} {S S1 : TS} {wv sv : Value} {op d a b n : Int} {g base : Nat} (h : RefS w wx S wv op d a b n g S1 sv) (hb : Below base wx wy) (h1 : g < base) (h2 : w.heap.size + 3 ≤ base) : RefS w wy S wv op d a b n g S1 sv :=
  ⟨h.bx.afterB hb h2, h.gb.below hb h1, h.hg⟩
theorem irow_ne {w : World} {v : Value} {zs : List Int} {g : Nat} {cs : List Value} (h : IRow w v zs) (hg : Blk w g 25 cs) : ∀ q, v.ownBlock = some q → q ≠ g := fun q hq e => by
  subst e
  rcases h with ⟨rfl, _⟩ | ⟨g', c, cur, rfl, h1, _⟩
  · cases hq
  · simp only [Value.ownBlock, Option.some.injEq] at hq
    subst hq
    unfold Blk at hg
    rw [h1] at hg
    injection hg with hg
    injection hg with _ h2 _
    exact absurd h2 (by decide)
theorem results_row_1 {P : Program} {fn : Func} {p u : Tmp} {ty : TypeId} (h : fn.results = #[.cell p ty, .tmp u]) (tmps : Array Value) (w : World) (g : Nat) (t : TypeId) (cs : Array Value) (fr : Nat × Nat) (d : TypeDesc)
    (hp : tmps.getD p undef = .pointer (some ⟨g, 0, none⟩)) (hg : w.heap[g]? = some (.cells cs t fr))
    (hu : P.underlying ty = some d) (hd : (match d with | .struct _ | .array _ _ => true | _ => false) = true) (hi : (P.info? ty).map (·.size) = some cs.size) :
    (results fn tmps).run P w = .ok (.tuple #[.agg cs, tmps.getD u undef]) w := by
  have hp' : tmps[p]?.getD undef = .pointer (some ⟨g, 0, none⟩) := by simpa using hp
  simp [results, h, hp', asAddr, run_loadVar_row w g t ty cs fr d hg hu hd hi]
theorem refs_end {w w8 : World} {S S1 : TS} {wv v : Value} {op d a b n : Int} {g base : Nat} {l : List Nat} (hr : RefS w w8 S wv op d a b n g S1 v) (hown : OwnI w8 base v (wrL l)) (hbase : base ≤ w8.heap.size) (hbw : w.heap.size + 3 ≤ base) (cs : Array Value)
    : (w8.setRow (w.heap.size + 2) cs).heap[w.heap.size + 2]? = some (.cells cs 25 (0, 0)) ∧ OwnI (w8.setRow (w.heap.size + 2) cs) base v (wrL l) ∧ Below w.heap.size w (w8.setRow (w.heap.size + 2) cs) := by
  have hg := hr.bx.out
  unfold Blk at hg
  have h1 : (w8.setRow (w.heap.size + 2) cs).heap[w.heap.size + 2]? = some (.cells cs 25 (0, 0)) := by simp [World.setRow, Array.getElem?_modify, hg]
  have hgr : w8.grownBy (w8.setRow (w.heap.size + 2) cs) (some (w.heap.size + 2)) := ⟨rfl, rfl, rfl, by simp [World.setRow], fun k _ hk => by simp only [World.setRow, Array.getElem?_modify]; rw [if_neg (fun e => hk (by rw [e]))]⟩
  refine ⟨h1, ?_, hr.bx.below.trans (grown_below hgr (fun g hg => by simp at hg; omega) hr.bx.below.size)⟩
  exact World.ownsRow.kept hown hgr (by
    cases hv : v.ownBlock with
    | none => exact .inl rfl
    | some q => exact .inr (fun e => by have := (World.ownsRow.lt hown q hv).1; simp at e; omega))
/-- the list that is cut down last, in memory -/
structure AllP (w : World) (S : TS) (wv : Value) (op d a b n : Int) (g : Nat) (S1 : TS) (nx bd : Nat) (want : List Nat) (v : Value) (wx : World) (va : Option Addr) (vc : Nat) (L : List Nat) : Prop where
  e : v = .slice va L.length vc
  c : IRow wx (.slice va L.length vc) (wrL L)
  l : L.length ≤ 16385
  f : L.filter (fun y => decide (nx ≤ y)) = want
  r : RefS w wx S wv op d a b n g S1 (.slice none 0 0)

set_option maxRecDepth 100000 in
set_option maxHeartbeats 4000000 in
theorem issued_ok (S : TS) (wv : Value) (op d a b n : Int) (extra : Nat) (w : World) (B : Nat) (hB : B ≤ 1099511627776) (hx : extra ≤ 10000) (hck : checkE op d a b n = 0) (ok : S.Ok B) (hw : WrAt w wv S.wr) :
    Calls Try.prog 19 #[.agg (stCells S wv).toArray, .agg #[.int .i64 op, .int .i64 d, .int .i64 a, .int .i64 b, .int .i64 n], .int .i64 (extra : Int)] w (IssuedPost S op d a b extra w) := by
  obtain ⟨hd, ha, hb⟩ := good_regs hck
  obtain ⟨wa, wcp, hwv, _⟩ := id hw
  subst hwv
  have HDL := fun w => Lib.hid (delay_any op w)
  have HRD := fun w => Lib.hid (opr_any op d a b n w)
  have HWR := fun w => Lib.hid (opw_any op d a b n w)
  have hdb' := wrOf_bd (op := op) hd
  have HRM := Lib.hid (fun r (h : r ∈ readsOf op a b) => reads_mem ha hb h)
  have hlb := latOf_bd op
  obtain ⟨lat, hlat⟩ : ∃ lat, lat = latOf op + extra := ⟨_, rfl⟩
  have hlatb : 1 ≤ lat ∧ lat ≤ 10008 := by omega
  have HFT := fun t w h => fits_ok S (.slice wa S.wr.length wcp) op d a b n t lat w B (by omega) (by omega) hd ha hb ok h
  have hstl := startOf_le ok op d a b lat (by omega)
  have HST : Hid (startOf S op d a b lat = if wrOf op d = 0 then (if divB op then max (rdMax S.rd (readsOf op a b) S.next) S.div else (rdMax S.rd (readsOf op a b) S.next)) else skip S.wr lat (S.wr.length + 1) (max (if divB op then max (rdMax S.rd (readsOf op a b) S.next) S.div else (rdMax S.rd (readsOf op a b) S.next)) (S.rd (wrOf op d).toNat + 1 - lat))) := rfl
  have HMX := Lib.hid (rdMax_le S.rd B ok.r (readsOf op a b) S.next ok.n)
  have HMG := Lib.hid (rdMax_ge S.rd (readsOf op a b) S.next)
  have HMX2 := Lib.hid (fun k => rdMax_le S.rd B ok.r ((readsOf op a b).take k) S.next ok.n)
  have HMR : Hid (∀ r ∈ readsOf op a b, S.rd r.toNat ≤ rdMax S.rd (readsOf op a b) S.next) := fun r hr => rdMax_each S.rd r _ _ hr
  have HIP : Hid (∀ e w', IssuedPost S op d a b extra w e w' ↔ ∃ va vc, e = .returned (.tuple #[.agg (stCells (nextS S op d a b extra) (.slice va (nextS S op d a b extra).wr.length vc)).toArray, .int .i64 (startOf S op d a b lat : Int)]) ∧ Came w' va (nextS S op d a b extra).wr.length vc 1 ((wrL (nextS S op d a b extra).wr).map intCells) ∧ Below w.heap.size w w') := fun e w' => by rw [hlat]; rfl
  have HNS : Hid (nextS S op d a b extra = { next := startOf S op d a b lat + 1 + extra, done := max S.done (startOf S op d a b lat + lat), div := if divB op then startOf S op d a b lat + lat else S.div, rd := if wrOf op d = 0 then S.rd else setRd S.rd (wrOf op d).toNat (startOf S op d a b lat + lat), wr := if wrOf op d = 0 then S.wr.filter (fun x => decide (startOf S op d a b lat + 1 + extra ≤ x)) else if startOf S op d a b lat + 1 + extra ≤ startOf S op d a b lat + lat then insN (S.wr.filter (fun x => decide (startOf S op d a b lat + 1 + extra ≤ x))) (startOf S op d a b lat + lat) else S.wr.filter (fun x => decide (startOf S op d a b lat + 1 + extra ≤ x)) }) := by show _ = _; rw [hlat]; rfl
  obtain ⟨NS, hNS⟩ : ∃ NS, NS = nextS S op d a b extra := ⟨_, rfl⟩
  rw [← hNS] at HIP HNS
  have hdE : ((latOf op : Int) + (extra : Int)) = (lat : Int) := by omega
  obtain ⟨la, hla⟩ : ∃ la, la = latOf op := ⟨_, rfl⟩
  rw [← hla] at HDL hdE hlb
  obtain ⟨T, hT⟩ : ∃ T, T = startOf S op d a b lat := ⟨_, rfl⟩
  rw [← hT] at HST HIP HNS hstl
  obtain ⟨X, hX⟩ : ∃ X, X = wrOf op d := ⟨_, rfl⟩
  rw [← hX] at HST HWR HNS hdb'
  simp only [← hX] at HFT
  obtain ⟨rs, hrs⟩ : ∃ rs, rs = readsOf op a b := ⟨_, rfl⟩
  rw [← hrs] at HST HRD HRM HMX HMG HMX2 HMR
  simp only [← hrs] at HFT
  obtain ⟨dv, hdv⟩ : ∃ dv, dv = divB op := ⟨_, rfl⟩
  rw [← hdv] at HST HNS
  simp only [← hdv] at HFT
  have hdvs : ((op == 4) = true ∧ dv = true) ∨ ((op == 4) = false ∧ (op == 5) = true ∧ dv = true) ∨ ((op == 4) = false ∧ (op == 5) = false ∧ dv = false) := by
    rw [hdv]; unfold divB
    cases (op == 4) <;> cases (op == 5) <;> simp
  clear hNS hla hT hX hrs hdv ha hb hd hlat hck
  have hbs := Lib.hid ok
  have hwl := ok.l
  have hle : S.wr.length ≤ wcp := by obtain ⟨a', c', e, h⟩ := hw; injection e with _ _ e3; rw [e3]; exact h.le
  have hmx : wcp ≤ 9223372036854775807 := by obtain ⟨a', c', e, h⟩ := hw; injection e with _ _ e3; rw [e3]; exact h.max
  have oi := ok.d
  have on := ok.n
  have HW := Lib.hid hw
  have HBX := Lib.hid (Boxes.new w S (.slice wa S.wr.length wcp) op d a b n)
  clear ok hw
  go_enter Try.func19, Try.ntmps19
  go_upto_region 1 with fail
  generalize ((w.alloc (.cells (stCells S (.slice wa S.wr.length wcp)).toArray 25)).alloc (.cells #[.int .i64 op, .int .i64 d, .int .i64 a, .int .i64 b, .int .i64 n] 27)).alloc (.cells #[.int .i64 0, .int .i64 0, .int .i64 0, .int .i64 0, .int .i64 0, .int .i64 0, .int .i64 0, .int .i64 0, .int .i64 0, .int .i64 0, .int .i64 0, .int .i64 0, .int .i64 0, .int .i64 0, .int .i64 0, .int .i64 0, .int .i64 0, .int .i64 0, .int .i64 0, .slice none 0 0] 25) = w0 at HBX ⊢
  obtain ⟨p0, p1, p2, p3, p4⟩ := op_cells5 HBX.out.op
  go_wp2_with fail
  refine (HDL _).out.mono ?_
  rintro e w1 ⟨rfl, hb1⟩
  replace HBX := Lib.hid (HBX.out.after hb1)
  clear hb1 p0 p1 p2 p3 p4
  obtain ⟨p0, p1, p2, p3, p4⟩ := op_cells5 HBX.out.op
  obtain ⟨c0, _⟩ := st_cells HBX.out.st
  go_wp2_with fail
  refine (HRD _).out.mono ?_
  rintro e w2 ⟨v, rfl, hown, hb2⟩
  obtain ⟨ra, rc, rfl, hcr⟩ := came_own_int hown
  replace HBX := Lib.hid (HBX.out.after hb2)
  have HCR := Lib.hid hcr
  have hrl := hcr.count
  simp only [List.length_map] at hrl
  have hrle := hcr.le
  have hrmx := hcr.max
  clear hown hb2 hcr c0 p0 p1 p2 p3 p4 HRD HDL hdE
  have HDVS := Lib.hid hdvs
  obtain ⟨c0, c1, c2, c3, c19⟩ := st_cells HBX.out.st
  have C3 := Lib.hid c3
  obtain ⟨p0, p1, p2, p3, p4⟩ := op_cells5 HBX.out.op
  clear c3
  go_upto_block 0 with fail
  go_cut [9] (fun v wx => v = .int .i64 (rdMax S.rd rs S.next : Int) ∧ wx = w2)
  case first =>
    --BEGIN
    go_wp2_with fail
    go_loop [9, 11, 29] (fun m _ u => ∃ k : Nat, k ≤ rs.length ∧ u = .int .i64 (k : Int) ∧ m = .int .i64 (rdMax S.rd (rs.take k) S.next : Int)) (fun m _ u => rs.length - (intOf u).toNat)
    case atStart => exact ⟨0, Nat.zero_le _, rfl, rfl⟩
    case round =>
      obtain ⟨k, hk, rfl, rfl⟩ := hrel
      by_cases hlt : k < rs.length
      · obtain ⟨b', off, ea, _, hcell⟩ := HCR.out.ints (by omega)
        subst ea
        have cl := hcell k hlt
        have hr := HRM.out _ (List.getElem_mem hlt)
        have HT := Lib.hid (rdMax_take S.rd rs S.next k hlt)
        obtain ⟨i, hi⟩ : ∃ i : Nat, rs[k] = (i : Int) := ⟨rs[k].toNat, by omega⟩
        rw [hi] at cl hr HT
        have ci := C3.out i (by omega)
        have hbd := hbs.out.r i
        have hmb := HMX2.out k
        obtain ⟨m, hm⟩ : ∃ m, m = rdMax S.rd (rs.take k) S.next := ⟨_, rfl⟩
        rw [← hm] at HT hmb ⊢
        obtain ⟨q, hq⟩ : ∃ q, q = S.rd i := ⟨_, rfl⟩
        rw [← hq] at ci hbd
        have HQ := Lib.hid hq
        have hmax : max (m : Int) (q : Int) = ((max m q : Nat) : Int) := by omega
        clear hcell hi hm hq
        go_wp2_with fail
        go_round
        case rel => exact ⟨k + 1, by omega, by go_num, by rw [HT.out, HQ.out]; exact if_max _ _⟩
        case measure => simp [intOf]; omega
      · have ek : k = rs.length := by omega
        subst ek
        rw [List.take_length]
        go_wp2_with fail
        go_meet
        exact ⟨rfl, rfl⟩
    --END
  case rest =>
    obtain ⟨rfl, rfl⟩ := hcut
    clear HCR HRM HMX2
    obtain ⟨m, hm⟩ : ∃ m, m = rdMax S.rd rs S.next := ⟨_, rfl⟩
    rw [← hm] at HST HMX HMG HMR ⊢
    have hmb := HMX.out
    obtain ⟨sd, hsd⟩ : ∃ sd, sd = S.div := ⟨_, rfl⟩
    rw [← hsd] at c1 oi HST HNS
    simp only [← hsd] at HFT
    have HSD := Lib.hid hsd
    clear HMX hm hsd
    obtain ⟨m', hm'⟩ : ∃ m', m' = if dv then max m sd else m := ⟨_, rfl⟩
    rw [← hm'] at HST
    have hm'b : m' ≤ B := by rw [hm']; split <;> omega
    have hm'g : m ≤ m' := by rw [hm']; split <;> omega
    have hm'd : dv = true → sd ≤ m' := by intro h; rw [hm', if_pos h]; omega
    have hs : (dv = true ∧ m < sd ∧ m' = sd) ∨ (dv = true ∧ ¬ m < sd ∧ m' = m) ∨ (dv = false ∧ m' = m) := by
      cases dv
      · simp at hm'
        exact .inr (.inr ⟨rfl, hm'⟩)
      · simp only [if_true] at hm'
        by_cases e : m < sd
        · exact .inl ⟨rfl, e, by omega⟩
        · exact .inr (.inl ⟨rfl, e, by omega⟩)
    clear hm'
    have HFC : Hid (∀ (t : Nat) (wx : World), WrAt wx (.slice wa S.wr.length wcp) S.wr → t ≤ B + 1 → m' ≤ t → (X ≠ 0 → S.rd X.toNat < t + lat) → Calls Try.prog 30 #[.agg (stCells S (.slice wa S.wr.length wcp)).toArray, .agg #[.int .i64 op, .int .i64 d, .int .i64 a, .int .i64 b, .int .i64 n], .int .i64 (t : Int), .int .i64 (lat : Int)] wx fun e w' => e = .returned (.bool (decide (X = 0) || !S.wr.contains (t + lat))) ∧ Below wx.heap.size wx w') := fun t wx hwx h1 h2 h3 => HFT t wx hwx h1 (by have := HMG.out; omega) (fun r hr => by have := HMR.out r hr; omega) (fun h => by have := hm'd h; omega) h3
    obtain ⟨rx, hrx⟩ : ∃ rx, rx = S.rd X.toNat := ⟨_, rfl⟩
    have hrxb := hbs.out.r X.toNat
    rw [← hrx] at HST hrxb HFC
    obtain ⟨x, hx⟩ : ∃ x : Nat, X = (x : Int) := ⟨X.toNat, by omega⟩
    have cx := C3.out x (by omega)
    rw [show S.rd x = rx by rw [hrx, hx]; rfl] at cx
    subst hx
    have HRX : Hid (S.rd x = rx) := by unfold Hid; rw [hrx]; rfl
    clear hrx HFT HMG HMR hm'd
    go_upto_region 8 with fail
    go_cut [47] from 40 (fun v wx => v = .bool dv ∧ wx = wc)
    case first =>
      --BEGIN
      clear hs
      rcases hdvs with ⟨v1, v2⟩ | ⟨v1, v3, v2⟩ | ⟨v1, v3, v2⟩
      all_goals
        have HV2 := Lib.hid v2
        clear v2
        go_wp2_with fail
        go_meet
        exact ⟨by rw [HV2.out], rfl⟩
      --END
    case rest =>
      obtain ⟨rfl, hw8⟩ := hcut
      subst hw8
      clear hdvs
      go_upto_if 47 with fail
      go_cut [9] from 40 (fun v wx => v = .int .i64 (m' : Int) ∧ wx = wc)
      case first =>
        --BEGIN
        rcases hs with ⟨v1, v2, v3⟩ | ⟨v1, v2, v3⟩ | ⟨v1, v3⟩
        all_goals
          have HV3 := Lib.hid v3
          subst v1
          clear v3
          go_wp2_with fail
          go_meet
          exact ⟨by rw [HV3.out], rfl⟩
        --END
      case rest =>
        obtain ⟨rfl, hw9⟩ := hcut
        subst hw9
        clear hs c1 c2 c0 c19 cx
        go_wp2_with fail
        refine (HWR _).out.mono ?_
        rintro e w3 ⟨rfl, hb3⟩
        replace HBX := Lib.hid (HBX.out.after hb3)
        clear hb3 p0 p1 p2 p3 p4 C3
        obtain ⟨c0, c1, c2, c3, c19⟩ := st_cells HBX.out.st
        have cx := c3 x (by omega)
        rw [HRX.out] at cx
        clear c3
        obtain ⟨t0, ht0⟩ : ∃ t0, t0 = if (x : Int) = 0 then m' else max m' (rx + 1 - lat) := ⟨_, rfl⟩
        have ht0b : t0 ≤ B ∧ m' ≤ t0 := by rw [ht0]; split <;> omega
        have ht0x : (x : Int) ≠ 0 → rx < t0 + lat := by intro h; rw [ht0, if_neg h]; omega
        have HT0 := Lib.hid ht0
        clear ht0
        have hq : ((x : Int) != 0) = true ∨ ((x : Int) != 0) = false := by cases ((x : Int) != 0) <;> simp
        go_upto_if 55 with fail
        go_cut [9] from 54 (fun v wx => v = .int .i64 (t0 : Int) ∧ wx = w3)
        case first =>
          --BEGIN
          by_cases hx0 : x = 0
          · have q : ((x : Int) != 0) = false := by simp [hx0]
            have HT0' : Hid (t0 = m') := by show _ = _; rw [HT0.out, if_pos (by omega)]
            clear hx0 ht0x
            go_wp2_with fail
            go_meet
            exact ⟨by rw [HT0'.out], rfl⟩
          · have q : ((x : Int) != 0) = true := by simp [hx0]
            have HT0' : Hid (t0 = max m' (rx + 1 - lat)) := by show _ = _; rw [HT0.out, if_neg (by omega)]
            clear hx0 ht0x
            by_cases hcm : (m' : Int) < (rx : Int) - (lat : Int) + 1
            · have HE : Hid (((max m' (rx + 1 - lat) : Nat) : Int) = (rx : Int) - (lat : Int) + 1) := by show _ = _; omega
              go_wp2_with fail
              go_meet
              exact ⟨by rw [HT0'.out, HE.out], rfl⟩
            · have HE : Hid (((max m' (rx + 1 - lat) : Nat) : Int) = (m' : Int)) := by show _ = _; omega
              go_wp2_with fail
              go_meet
              exact ⟨by rw [HT0'.out, HE.out], rfl⟩
          --END
        case rest =>
          obtain ⟨rfl, hw10⟩ := hcut
          subst hw10
          clear c0 c1 c2 c19 cx hq
          have HFC2 : Hid (∀ (t : Nat) (wx : World), WrAt wx (.slice wa S.wr.length wcp) S.wr → t ≤ B + 1 → t0 ≤ t → Calls Try.prog 30 #[.agg (stCells S (.slice wa S.wr.length wcp)).toArray, .agg #[.int .i64 op, .int .i64 d, .int .i64 a, .int .i64 b, .int .i64 n], .int .i64 (t : Int), .int .i64 (lat : Int)] wx fun e w' => e = .returned (.bool (decide ((x : Int) = 0) || !S.wr.contains (t + lat))) ∧ Below wx.heap.size wx w') := fun t wx h1 h2 h3 => HFC.out t wx h1 h2 (by omega) (fun h => by have := ht0x h; omega)
          have HTT : Hid (((x : Int) = 0 ∧ T = t0) ∨ ((x : Int) ≠ 0 ∧ IsSkip S.wr lat t0 T)) := by
            by_cases hx0 : (x : Int) = 0
            · exact .inl ⟨hx0, by rw [HST.out, HT0.out, if_pos hx0, if_pos hx0]⟩
            · refine .inr ⟨hx0, ?_⟩
              have := skip_is S.wr lat (S.wr.length + 1) t0 (by have := List.length_filter_le (fun y => decide (t0 + lat ≤ y)) S.wr; unfold above; omega)
              rw [HST.out, if_neg hx0]
              have e := HT0.out
              rw [if_neg hx0] at e
              rw [← e]; exact this
          have HWB := Lib.hid (fun y hy => (hbs.out.w y hy).2)
          have HSZ : Hid ((Try.prog.info? 25).map (·.size) = some (stCells S (.slice wa S.wr.length wcp)).toArray.size) := by unfold Hid; kernel_rfl
          clear HFC HST HT0 ht0x
          have hw0 : Hid (Boxes w wc S (.slice wa S.wr.length wcp) op d a b n) := HBX
          go_upto_block 2 with fail
          go_cut [9] (fun v wx => v = .int .i64 (T : Int) ∧ Boxes w wx S (.slice wa S.wr.length wcp) op d a b n)
          case first =>
            --BEGIN
            go_wp2_with fail
            go_loopw [9] (fun v wr => ∃ t : Nat, v = .int .i64 (t : Int) ∧ t0 ≤ t ∧ t ≤ B + 1 ∧ ((x : Int) = 0 → t = t0) ∧ ((x : Int) ≠ 0 → ∀ u, t0 ≤ u → u < t → u + lat ∈ S.wr) ∧ Boxes w wr S (.slice wa S.wr.length wcp) op d a b n) (fun v _ => if (x : Int) = 0 then 0 else above S.wr ((intOf v).toNat + lat))
            case atStart => exact ⟨t0, rfl, Nat.le_refl _, by omega, fun _ => rfl, fun _ u h1 h2 => by omega, hw0.out⟩
            case round =>
              clear hw0 HBX
              obtain ⟨t, rfl, hge, htB, hz0, hall, hbx⟩ := hrel
              have HBX := Lib.hid hbx
              have HZ0 := Lib.hid hz0
              have HALL := Lib.hid hall
              have HCF := Lib.hid (HFC2.out t wr (wrAt_boxes HW.out hbx) htB hge)
              obtain ⟨p0, p1, p2, p3, p4⟩ := op_cells5 HBX.out.op
              obtain ⟨r, hr⟩ : ∃ r, r = (decide ((x : Int) = 0) || !S.wr.contains (t + lat)) := ⟨_, rfl⟩
              rw [← hr] at HCF
              have HR := Lib.hid hr
              clear hr hz0 hall hbx
              cases r
              · have HYES : Hid ((x : Int) ≠ 0 ∧ t + lat ∈ S.wr) := by
                  have h := HR.out
                  by_cases hx0 : (x : Int) = 0
                  · rw [decide_eq_true hx0] at h; simp at h
                  · rw [decide_eq_false hx0] at h
                    refine ⟨hx0, ?_⟩
                    rw [← List.contains_iff_mem]
                    simpa using h.symm
                have htB2 : t ≤ B := by have := HWB.out _ HYES.out.2; omega
                go_wp2_with (refine wpList_load_row rfl 25 _ rfl w.heap.size rfl _ (stCells S (.slice wa S.wr.length wcp)).toArray _ _ HBX.out.st Try.underlying25 rfl HSZ.out ?_)
                refine HCF.out.mono ?_
                rintro e w' ⟨rfl, hb4⟩
                have HBX4 := Lib.hid (HBX.out.after hb4)
                clear hb4
                go_wp2_with fail
                go_roundw
                case rel => exact ⟨t + 1, by go_num, by omega, by omega, fun h => absurd h HYES.out.1, fun _ u h1 h2 => by
                  by_cases e : u = t
                  · rw [e]; exact HYES.out.2
                  · exact HALL.out HYES.out.1 u h1 (by omega), HBX4.out⟩
                case measure =>
                  have := above_drop HYES.out.2
                  simp only [intOf, if_neg HYES.out.1]
                  rw [show ((t : Int) + 1).toNat + lat = t + lat + 1 by omega]
                  simpa using this
              · have HTE : Hid (t = T) := by
                  show _ = _
                  rcases HTT.out with ⟨h1, h2⟩ | ⟨h1, h2⟩
                  · rw [h2]; exact HZ0.out h1
                  · refine IsSkip.unique ⟨hge, HALL.out h1, ?_⟩ h2
                    have h := HR.out
                    rw [decide_eq_false h1] at h
                    intro hm
                    rw [List.contains_iff_mem.2 hm] at h
                    simp at h
                have hte : t = T := HTE.out
                subst hte
                clear HALL HZ0 HTT HR HFC2 HTE HWB
                go_wp2_with (refine wpList_load_row rfl 25 _ rfl w.heap.size rfl _ (stCells S (.slice wa S.wr.length wcp)).toArray _ _ HBX.out.st Try.underlying25 rfl HSZ.out ?_)
                refine HCF.out.mono ?_
                rintro e w4 ⟨rfl, hb4⟩
                replace HBX := Lib.hid (HBX.out.after hb4)
                go_wp2_with fail
                go_meet
                exact ⟨rfl, HBX.out⟩
            --END
          case rest =>
            obtain ⟨rfl, hbx⟩ := hcut
            replace HBX := Lib.hid hbx
            have hfree0 : (x : Int) ≠ 0 → T + lat ∉ S.wr := fun h hm => HTT.out.elim (fun h1 => h h1.1) (fun h2 => h2.2.2.2 hm)
            have HFREE0 := Lib.hid hfree0
            have HWB2 := Lib.hid (fun y hy => (hbs.out.w y hy).2)
            clear hbx hw0 HFC2 HTT HWB hfree0
            obtain ⟨p0, p1, p2, p3, p4⟩ := op_cells5 HBX.out.op
            obtain ⟨c0, c1, c2, c3, c19⟩ := st_cells HBX.out.st
            have HRR := Lib.hid (rd_range HBX.out.st)
            have HS16 : Hid ((Try.prog.info? 22).map (·.size) = some 16) := by unfold Hid; kernel_rfl
            clear c3
            have HSN : Hid ((Try.prog.info? 25).map (·.size) = some (stCells ⟨T + 1 + extra, S.div, S.done, S.rd, []⟩ (.slice none 0 0)).toArray.size) := by unfold Hid; kernel_rfl
            have hnx1 : (T : Int) + 1 + (extra : Int) = ((T + 1 + extra : Nat) : Int) := by omega
            have HNX1 := Lib.hid hnx1
            clear hnx1
            generalize wc = w4 at *
            go_upto_region 15 with fail
            go_cut [13] from 73 (fun v wx => v = .pointer (some ⟨w4.heap.size, 0, none⟩) ∧ RefS w wx S (.slice wa S.wr.length wcp) op d a b n w4.heap.size ⟨T + 1 + extra, S.div, S.done, S.rd, []⟩ (.slice none 0 0))
            case first =>
              --BEGIN
              have hbs4 := boxS_new w4 ⟨T + 1 + extra, S.div, S.done, S.rd, []⟩ (.slice none 0 0)
              have HRS : Hid (RefS w (boxS w4 (stCells ⟨T + 1 + extra, S.div, S.done, S.rd, []⟩ (.slice none 0 0)).toArray) S (.slice wa S.wr.length wcp) op d a b n w4.heap.size ⟨T + 1 + extra, S.div, S.done, S.rd, []⟩ (.slice none 0 0)) := ⟨HBX.out.after hbs4.2, hbs4.1, by have := HBX.out.out.lt; omega⟩
              clear hbs4
              iterate 37 (first
                | (refine wpList_load_mid rfl 22 _ rfl w.heap.size 3 rfl _ _ HRR.out Try.underlying22 rfl HS16.out ?_)
                | (refine wpList_build_to rfl 25 _ rfl _ [(0, .int .i64 ((T : Int) + 1 + (extra : Int))), (1, .int .i64 (S.div : Int)), (2, .int .i64 (S.done : Int)), (3, .agg #[.int .i64 (S.rd 0 : Int), .int .i64 (S.rd 1 : Int), .int .i64 (S.rd 2 : Int), .int .i64 (S.rd 3 : Int), .int .i64 (S.rd 4 : Int), .int .i64 (S.rd 5 : Int), .int .i64 (S.rd 6 : Int), .int .i64 (S.rd 7 : Int), .int .i64 (S.rd 8 : Int), .int .i64 (S.rd 9 : Int), .int .i64 (S.rd 10 : Int), .int .i64 (S.rd 11 : Int), .int .i64 (S.rd 12 : Int), .int .i64 (S.rd 13 : Int), .int .i64 (S.rd 14 : Int), .int .i64 (S.rd 15 : Int)])] ?hl (built_state ((T : Int) + 1 + (extra : Int)) (S.div : Int) (S.done : Int) S.rd) ?_; case hl => go_simp)
                | (refine wpList_store_rowTo rfl 25 _ _ rfl rfl w4.heap.size (stCells ⟨T + 1 + extra, S.div, S.done, S.rd, []⟩ (.slice none 0 0)).toArray rfl rfl _ _ (newZ w4) HSN.out rfl (st_one _ _ rfl) ?_)
                | go_step | go_simp)
              go_meet
              exact ⟨rfl, HRS.out⟩
              --END
            case rest =>
              obtain ⟨rfl, hrs⟩ := hcut
              have HRS := Lib.hid hrs
              obtain ⟨g, hg⟩ : ∃ g, g = w4.heap.size := ⟨_, rfl⟩
              rw [← hg] at HRS ⊢
              clear hg hrs c0 c1 c2 c19 p0 p1 p2 p3 p4 HRR HBX HSN HS16
              obtain ⟨nx, hnx⟩ : ∃ nx, nx = T + 1 + extra := ⟨_, rfl⟩
              obtain ⟨en, hen⟩ : ∃ en, en = T + lat := ⟨_, rfl⟩
              rw [← hnx] at HRS HNS HNX1
              have henI : (T : Int) + (lat : Int) = (en : Int) := by omega
              have HENI := Lib.hid henI
              have hnxb : nx ≤ B + 10001 := by omega
              have henb : en ≤ B + 10008 := by omega
              have hoe := hbs.out.e
              rw [← hen] at HNS
              have HEN := Lib.hid hen
              have hfree : (x : Int) ≠ 0 → en ∉ S.wr := by rw [hen]; exact HFREE0.out
              clear hnx hen henI
              obtain ⟨g0, g1, g2, _, g19⟩ := st_cells HRS.out.gb
              have f2 := HRS.out.gb.free 2
              dsimp only at g0 g1 g2
              obtain ⟨sdn, hsdn⟩ : ∃ x, x = S.done := ⟨_, rfl⟩
              rw [← hsdn] at HRS HNS g2 hoe
              clear hsdn
              have hgt : decide ((sdn : Int) < (T : Int) + (lat : Int)) = true ∨ decide ((sdn : Int) < (T : Int) + (lat : Int)) = false := by cases decide ((sdn : Int) < (T : Int) + (lat : Int)) <;> simp
              go_upto_if 89 with fail
              go_cut [89] from 84 (fun _ wx => RefS w wx S (.slice wa S.wr.length wcp) op d a b n g ⟨nx, S.div, max sdn en, S.rd, []⟩ (.slice none 0 0))
              case first =>
                --BEGIN
                by_cases hse : sdn < en
                · have q1 : decide ((sdn : Int) < (T : Int) + (lat : Int)) = true := decide_eq_true (by have := HENI.out; omega)
                  have q2 : sdn < T + lat := by have := HENI.out; omega
                  have q3 : (sdn : Int) < (T : Int) + (lat : Int) := by have := HENI.out; omega
                  have HRX2 : Hid (RefS w (wc.setCell ⟨g, 2, none⟩ (.int .i64 (en : Int))) S (.slice wa S.wr.length wcp) op d a b n g ⟨nx, S.div, max sdn en, S.rd, []⟩ (.slice none 0 0)) := HRS.out.set 2 (.int .i64 (en : Int)) (by rw [Nat.max_eq_right (by omega)]; rfl)
                  clear hse hgt
                  go_wp2_with fail
                  go_meet
                  rw [HENI.out]
                  exact HRX2.out
                · have q1 : decide ((sdn : Int) < (T : Int) + (lat : Int)) = false := decide_eq_false (by have := HENI.out; omega)
                  have q2 : ¬ sdn < T + lat := by have := HENI.out; omega
                  have q3 : ¬ (sdn : Int) < (T : Int) + (lat : Int) := by have := HENI.out; omega
                  have HRX2 : Hid (RefS w wc S (.slice wa S.wr.length wcp) op d a b n g ⟨nx, S.div, max sdn en, S.rd, []⟩ (.slice none 0 0)) := by show RefS _ _ _ _ _ _ _ _ _ _ _ _; rw [Nat.max_eq_left (by omega)]; exact HRS.out
                  clear hse hgt
                  go_wp2_with fail
                  go_meet
                  exact HRX2.out
                --END
              case rest =>
                replace HRS := Lib.hid hcut
                clear hcut g0 g1 g2 g19 f2 hgt
                obtain ⟨dn, hdn⟩ : ∃ dn, dn = max sdn en := ⟨_, rfl⟩
                rw [← hdn] at HRS HNS
                clear hdn
                generalize wc = w5 at *
                obtain ⟨p0, p1, p2, p3, p4⟩ := op_cells5 HRS.out.bx.op
                obtain ⟨g0, g1, g2, _, g19⟩ := st_cells HRS.out.gb
                have f1 := HRS.out.gb.free 1
                have hdvs := HDVS.out
                obtain ⟨dvv, hdvv⟩ : ∃ x, x = if dv then en else S.div := ⟨_, rfl⟩
                have HDVV := Lib.hid hdvv
                rw [HSD.out, ← hdvv] at HNS
                clear hdvv
                go_upto_region 18 with fail
                go_cut [101] from 90 (fun v wx => v = .bool dv ∧ wx = w5)
                case first =>
                  --BEGIN
                  rcases hdvs with ⟨v1, v2⟩ | ⟨v1, v3, v2⟩ | ⟨v1, v3, v2⟩
                  all_goals
                    have HV2 := Lib.hid v2
                    clear v2
                    go_wp2_with fail
                    go_meet
                    exact ⟨by rw [HV2.out], rfl⟩
                  --END
                case rest =>
                  obtain ⟨rfl, hw11⟩ := hcut
                  subst hw11
                  clear hdvs
                  go_upto_if 101 with fail
                  go_cut [101] from 90 (fun _ wx => RefS w wx S (.slice wa S.wr.length wcp) op d a b n g ⟨nx, dvv, dn, S.rd, []⟩ (.slice none 0 0))
                  case first =>
                    --BEGIN
                    cases dv
                    · have HRX2 : Hid (RefS w wc S (.slice wa S.wr.length wcp) op d a b n g ⟨nx, dvv, dn, S.rd, []⟩ (.slice none 0 0)) := by show RefS _ _ _ _ _ _ _ _ _ _ _ _; rw [HDVV.out, if_neg (by simp)]; exact HRS.out
                      go_wp2_with fail
                      go_meet
                      exact HRX2.out
                    · have HRX2 : Hid (RefS w (wc.setCell ⟨g, 1, none⟩ (.int .i64 (en : Int))) S (.slice wa S.wr.length wcp) op d a b n g ⟨nx, dvv, dn, S.rd, []⟩ (.slice none 0 0)) := HRS.out.set 1 (.int .i64 (en : Int)) (by rw [HDVV.out, if_pos rfl]; rfl)
                      go_wp2_with fail
                      go_meet
                      rw [HENI.out]
                      exact HRX2.out
                    --END
                  case rest =>
                    replace HRS := Lib.hid hcut
                    clear hcut g0 g1 g2 g19 f1 p0 p1 p2 p3 p4
                    generalize wc = w6 at *
                    have hcw6 : WrAt w6 (.slice wa S.wr.length wcp) S.wr := wrAt_boxes HW.out HRS.out.bx
                    obtain ⟨a6, c6, he6, hcm6⟩ := hcw6
                    simp only [Value.slice.injEq, true_and] at he6
                    obtain ⟨rfl, rfl⟩ := he6
                    obtain ⟨v7, w7, hrun, ho7, hg7⟩ := run_app w6 23 (.slice none 0 0) w6.heap.size 0 [] (World.ownsRow_nil _ _ _ _) wa S.wr.length wcp (wrL S.wr) hcm6 (by omega) (Nat.le_refl _)
                    have hb7 : Below w6.heap.size w6 w7 := grown_below hg7 (fun q hq => by cases hq) (Nat.le_refl _)
                    obtain ⟨c0, c1, c2, _, c19⟩ := st_cells HRS.out.bx.st
                    have HRUN := Lib.hid hrun
                    clear hrun hcm6 hg7
                    simp only [List.nil_append, Nat.zero_add] at ho7
                    have HOB : Hid (∀ q, v7.ownBlock = some q → w6.heap.size ≤ q) := fun q hq => (World.ownsRow.lt ho7 q hq).1
                    have HG6 : Hid (g < w6.heap.size ∧ w.heap.size + 3 ≤ w6.heap.size ∧ w6.heap.size ≤ w7.heap.size) := ⟨HRS.out.gb.lt, HRS.out.bx.out.lt, hb7.size⟩
                    have HI7 : Hid (IRow w7 v7 (wrL S.wr)) := IRow.owns (n := S.wr.length) (base := w6.heap.size) ho7
                    obtain ⟨a7, c7, hv7, hle7, hmx7⟩ := HI7.out.shape
                    rw [show (wrL S.wr).length = S.wr.length by simp [wrL]] at hv7 hle7
                    have hc7 : Came w7 a7 S.wr.length c7 1 ((wrL S.wr).map intCells) := by have := HI7.out; rw [hv7] at this; exact this.came.2
                    subst hv7
                    have HC7 := Lib.hid hc7
                    have HRS7 := Lib.hid (HRS.out.after hb7)
                    clear hc7 ho7
                    obtain ⟨p0, p1, p2, p3, p4⟩ := op_cells5 HRS7.out.bx.op
                    go_wp2_with (refine wpList_of_wp _ rfl (fun K Q' hk => wp_append_eq _ _ _ 23 23 rfl _ _ rfl rfl HRUN.out hk) ?_)
                    clear HRUN c0 c1 c2 c19 hb7 HRS
                    unfold maxLen at hmx7
                    refine (HWR _).out.mono ?_
                    rintro e w8 ⟨rfl, hb8⟩
                    have HRS := Lib.hid (HRS7.out.after hb8)
                    have HC8 := Lib.hid (HC7.out.below hb8)
                    have HSB8 := Lib.hid hb8.size
                    have HI8 : Hid (IRow w8 (.slice a7 S.wr.length c7) (wrL S.wr)) := HI7.out.kept (fun g' hg' => hb8.block g' (HI7.out.lt g' hg'))
                    have HI9 : ∀ v, IRow (w8.setCell ⟨g, 3 + x, none⟩ v) (.slice a7 S.wr.length c7) (wrL S.wr) := fun v => HI8.out.kept (fun g' hg' => Below.heap_setCell _ _ _ _ (by have := HOB.out g' hg'; have := HG6.out.1; show g' ≠ g; omega))
                    clear hb8 HRS7 HC7 HI7 p0 p1 p2 p3 p4 HWR
                    obtain ⟨rdN, hrdN⟩ : ∃ f, f = if (x : Int) = 0 then S.rd else setRd S.rd (x : Int).toNat en := ⟨_, rfl⟩
                    obtain ⟨wrN, hwrN⟩ : ∃ l, l = if (x : Int) = 0 then S.wr.filter (fun y => decide (nx ≤ y)) else if nx ≤ en then insN (S.wr.filter (fun y => decide (nx ≤ y))) en else S.wr.filter (fun y => decide (nx ≤ y)) := ⟨_, rfl⟩
                    have HNS2 : Hid (NS = ⟨nx, dvv, dn, rdN, wrN⟩) := by show _ = _; rw [HNS.out, hrdN, hwrN]
                    have hq : ((x : Int) != 0) = true ∨ ((x : Int) != 0) = false := by cases ((x : Int) != 0) <;> simp
                    have HRDN := Lib.hid hrdN
                    have HWRN := Lib.hid hwrN
                    clear HNS hrdN hwrN
                    go_upto_if 112 with fail
                    go_cut [14, 16] from 106 (fun v _ wx => ∃ va vc L, AllP w S (.slice wa S.wr.length wcp) op d a b n g ⟨nx, dvv, dn, rdN, []⟩ nx 0 wrN v wx va vc L)
                    case first =>
                      --BEGIN
                      by_cases hx0 : (x : Int) = 0
                      · have q : ((x : Int) != 0) = false := bne_eq_false_iff_eq.2 hx0
                        have HF : Hid (AllP w S (.slice wa S.wr.length wcp) op d a b n g ⟨nx, dvv, dn, rdN, []⟩ nx 0 wrN (.slice a7 S.wr.length c7) w8 a7 c7 S.wr) := ⟨rfl, HI8.out, by omega, by rw [HWRN.out, if_pos hx0], by rw [HRDN.out, if_pos hx0]; exact HRS.out⟩
                        clear hx0 hq
                        go_wp2_with fail
                        go_meet
                        exact ⟨_, _, _, HF.out⟩
                      · have q : ((x : Int) != 0) = true := bne_iff_ne.2 hx0
                        have hx16 : x < 16 := by omega
                        have HRDN2 : Hid (rdN = setRd S.rd x en) := by show _ = _; rw [HRDN.out, if_neg hx0]; rfl
                        have HWRN2 : Hid (wrN = if nx ≤ en then insN (S.wr.filter (fun y => decide (nx ≤ y))) en else S.wr.filter (fun y => decide (nx ≤ y))) := by show _ = _; rw [HWRN.out, if_neg hx0]
                        have HFREE : Hid (en ∉ S.wr) := hfree hx0
                        clear hx0 hq
                        obtain ⟨g0, g1, g2, g3, g19⟩ := st_cells HRS.out.gb
                        have gx := g3 x hx16
                        have fx := HRS.out.gb.free (3 + x)
                        clear g3
                        go_upto_region 24 with fail
                        rw [HENI.out]
                        have HRS9 := Lib.hid (HRS.out.set (S2 := ⟨nx, dvv, dn, rdN, []⟩) (sv' := .slice none 0 0) (3 + x) (.int .i64 (en : Int)) (by rw [HRDN2.out]; exact st_setR _ _ x en hx16))
                        have HC9 : Hid (Came (w8.setCell ⟨g, 3 + x, none⟩ (.int .i64 (en : Int))) a7 S.wr.length c7 1 ((wrL S.wr).map intCells)) := (IRow.came (HI9 (.int .i64 (en : Int)))).2
                        have HI10 : Hid (IRow (w8.setCell ⟨g, 3 + x, none⟩ (.int .i64 (en : Int))) (.slice a7 S.wr.length c7) (wrL S.wr)) := HI9 _
                        clear g0 g1 g2 g19 gx fx HI9 HRS HC8 HI8
                        have HSW : Hid (w6.heap.size ≤ (w8.setCell ⟨g, 3 + x, none⟩ (.int .i64 (en : Int))).heap.size) := by have := HG6.out.2.2; have := HSB8.out; show _ ≤ _; simp; omega
                        generalize w8.setCell ⟨g, 3 + x, none⟩ (.int .i64 (en : Int)) = w9 at HRS9 HC9 HI10 HSW ⊢
                        go_upto_block 4 with fail
                        go_cut [16] from 109 (fun v wx => ∃ k : Nat, v = .int .i64 (k : Int) ∧ k ≤ S.wr.length ∧ (∀ j (hj : j < S.wr.length), k ≤ j → en < S.wr[j]) ∧ (k = 0 ∨ ∃ h : k - 1 < S.wr.length, ¬ en < S.wr[k - 1]) ∧ wx = w9)
                        case first =>
                          go_wp2_with fail
                          go_loop [16] (fun v => ∃ k : Nat, v = .int .i64 (k : Int) ∧ k ≤ S.wr.length ∧ (∀ j (hj : j < S.wr.length), k ≤ j → en < S.wr[j])) (fun v => (intOf v).toNat)
                          case atStart => exact ⟨S.wr.length, rfl, Nat.le_refl _, fun j h1 h2 => by omega⟩
                          case round =>
                            obtain ⟨k, rfl, hk, hall⟩ := hrel
                            have HALL := Lib.hid hall
                            clear hall
                            by_cases hk0 : k = 0
                            · have z0 : decide ((0 : Int) < (k : Int)) = false := decide_eq_false (by omega)
                              have z0n : ¬ 0 < k := by omega
                              have HK0 := Lib.hid hk0
                              clear hk0
                              go_wp2_with fail
                              go_meet
                              exact ⟨k, rfl, hk, HALL.out, .inl HK0.out, rfl⟩
                            · obtain ⟨p, hp⟩ : ∃ p, k = p + 1 := ⟨k - 1, by omega⟩
                              subst hp
                              have hpl : p < S.wr.length := by omega
                              obtain ⟨b', off, ea, _, hcell⟩ := HC9.out.ints (by omega)
                              subst ea
                              have cl := hcell p (by simp [wrL]; exact hpl)
                              obtain ⟨z, hz⟩ : ∃ z, z = S.wr[p] := ⟨_, rfl⟩
                              have cl2 : w9.cell? ⟨b', off + p, none⟩ = some (.int .i64 (z : Int)) := by rw [cl, hz]; simp [wrL]
                              have HZ := Lib.hid hz
                              have hzb : z ≤ B := HWB2.out z (by rw [hz]; exact List.getElem_mem _)
                              have hp0 : (0 : Int) < ((p + 1 : Nat) : Int) := by omega
                              have hsub : ((p + 1 : Nat) : Int) - 1 = (p : Int) := by omega
                              clear cl hcell hz hk0
                              by_cases hgt : en < z
                              · have q1 : decide ((T : Int) + (lat : Int) < (z : Int)) = true := decide_eq_true (by have := HENI.out; omega)
                                have q2 : T + lat < z := by have := HENI.out; omega
                                have q3 : (T : Int) + (lat : Int) < (z : Int) := by omega
                                have HN : Hid (∀ j (hj : j < S.wr.length), p ≤ j → en < S.wr[j]) := fun j hj hpj => by
                                  by_cases e : j = p
                                  · subst e; rw [← HZ.out]; exact hgt
                                  · exact HALL.out j hj (by omega)
                                clear hgt
                                go_wp2_with fail
                                go_round
                                case rel => exact ⟨p, by first | rfl | (rw [hsub]) | go_num, by omega, HN.out⟩
                                case measure => simp [intOf]
                              · have q1 : decide ((T : Int) + (lat : Int) < (z : Int)) = false := decide_eq_false (by have := HENI.out; omega)
                                have q2 : ¬ T + lat < z := by have := HENI.out; omega
                                have q3 : ¬ (T : Int) + (lat : Int) < (z : Int) := by omega
                                have HG : Hid (∃ h : p + 1 - 1 < S.wr.length, ¬ en < S.wr[p + 1 - 1]) := ⟨by omega, by simp only [Nat.add_sub_cancel]; rw [← HZ.out]; exact hgt⟩
                                clear hgt
                                go_wp2_with fail
                                go_meet
                                exact ⟨p + 1, rfl, hk, HALL.out, .inr HG.out, rfl⟩
                        case rest =>
                          obtain ⟨k, rfl, hk, hall, hlast, hw12⟩ := hcut
                          subst hw12
                          have HHALL := Lib.hid hall
                          have HLAST := Lib.hid hlast
                          clear hall hlast
                          have HIN : Hid (S.wr.take k ++ en :: S.wr.drop k = insN S.wr en) := insN_at hbs.out.s HFREE.out hk HHALL.out HLAST.out
                          have hlN : (insN S.wr en).length = S.wr.length + 1 := insN_len _ _
                          have hFN : (insN S.wr en).filter (fun y => decide (nx ≤ y)) = wrN := by rw [HWRN2.out]; exact filter_insN nx en S.wr hbs.out.s HFREE.out
                          have HLN := Lib.hid hlN
                          have HFN := Lib.hid hFN
                          have hsw : w6.heap.size ≤ wc.heap.size := HSW.out
                          have HCD := Lib.hid (came_drop HC9.out hk)
                          obtain ⟨rlE, hrlE⟩ : ∃ l, l = wrL (insN S.wr en) := ⟨_, rfl⟩
                          have HRL : Hid (rlE = (wrL S.wr).take k ++ ((en : Int) :: (wrL S.wr).drop k)) := by show _ = _; rw [hrlE, ← HIN.out]; simp [wrL, List.map_append, List.map_take, List.map_drop]
                          have HRLE := Lib.hid hrlE
                          clear hrlE hlN hFN
                          have HMETA : Hid (∀ (v3 : Value) (w3 : World), IRow w3 v3 rlE → Below w6.heap.size wc w3 → ∃ va vc, v3 = .slice va (insN S.wr en).length vc ∧ AllP w S (.slice wa S.wr.length wcp) op d a b n g ⟨nx, dvv, dn, rdN, []⟩ nx 0 wrN v3 w3 va vc (insN S.wr en)) := fun v3 w3 h1 h2 => by
                            obtain ⟨va, vc, e, _⟩ := h1.shape
                            have hll : rlE.length = (insN S.wr en).length := by rw [HRLE.out]; simp [wrL]
                            rw [hll] at e
                            rw [e, HRLE.out] at h1
                            exact ⟨va, vc, e, e, h1, by rw [HLN.out]; omega, HFN.out, HRS9.out.afterB h2 HG6.out.1 HG6.out.2.1⟩
                          have hcase := HI10.out
                          clear HHALL HLAST HIN HWRN2 HFREE HI10 HC9
                          obtain ⟨L0, hL0⟩ : ∃ L, L = wrL S.wr := ⟨_, rfl⟩
                          have hL0l : L0.length = S.wr.length := by rw [hL0]; simp [wrL]
                          rw [← hL0] at hcase HCD HRL
                          clear hL0
                          obtain ⟨wd, hwd⟩ : ∃ wd, wd = wc.drew := ⟨_, rfl⟩
                          have hbd : Below w6.heap.size wc wd := by rw [hwd]; exact below_drewN_self _ _ 1
                          have hsd : w6.heap.size ≤ wd.heap.size := by rw [hwd]; exact hsw
                          rcases hcase with ⟨e, hnil⟩ | ⟨g7, cap7, cur7, e, hg7, hcl, hcc, hcm, hct⟩
                          · injection e with e1 e2 e3
                            subst e1 e3
                            have hk0 : k = 0 := by omega
                            subst hk0
                            subst hnil
                            obtain ⟨b1, c1, w1', v3, w3, r1, r2, i3, q1, q2⟩ := two_apps wd w6.heap.size (.slice none 0 0) [] [] (en : Int) none 0 0 23 23 (IRow.nil _) (fun q hq => by cases hq) hsd ⟨rfl, by omega, by omega, fun _ => ⟨rfl, rfl⟩, fun v hv => by simp at hv, fun h => by omega⟩ (by simp)
                            have hwr0 : S.wr.length = 0 := e2
                            clear hL0l
                            rw [show Value.slice none S.wr.length 0 = Value.slice none 0 0 by rw [hwr0]]
                            clear e2 hwr0 hk
                            have HR1 := Lib.hid r1
                            have HR2 := Lib.hid r2
                            have HB1 := Lib.hid q1
                            have HB2 := Lib.hid q2
                            have HIR3 := Lib.hid i3
                            clear r1 r2 q1 q2 i3
                            go_upto_region 27 with fail
                            refine wp_region_eager w6.heap.size [(0, true), (1, true), (2, true), (3, true), (4, true), (5, true), (6, true), (8, true), (9, true), (10, true), (7, false), (11, false), (12, false), (13, true)] (by kernel_rfl) (by kernel_rfl) ?_
                            rw [← hwd]
                            clear hwd hsw
                            repeat (refine eag_read rfl ?_; go_big_quiet_step (fail); refine wpQuiet_nil ?_)
                            refine eag_does rfl rfl ?_
                            intro K hK
                            go_simp
                            try rw [HENI.out]
                            refine hK _ _ ((Below.refl _ _).alloc hsd _) ?_
                            clear hK K
                            refine eag_does rfl rfl ?_
                            intro K hK
                            refine wp_append_eq _ _ _ 23 23 rfl _ _ rfl rfl HR1.out ?_
                            go_simp
                            refine hK _ _ HB1.out ?_
                            clear hK K
                            refine eag_does rfl rfl ?_
                            intro K hK
                            refine wp_append_eq _ _ _ 23 23 rfl _ _ rfl rfl HR2.out ?_
                            go_simp
                            refine hK _ _ HB2.out ?_
                            clear hK K
                            go_simp
                            refine eag_read rfl ?_; go_big_quiet_step (fail); refine wpQuiet_nil ?_
                            refine eag_end ?_
                            have HB3 := Lib.hid ((hbd.trans ((Below.refl _ _).alloc hsd _)).trans (HB1.out.trans HB2.out))
                            obtain ⟨va, vc, e3, hal⟩ := HMETA.out v3 w3 (by rw [HRL.out]; exact HIR3.out) HB3.out
                            subst e3
                            have HAL := Lib.hid hal
                            clear hal HMETA
                            go_wp2_with fail
                            go_meet
                            exact ⟨_, _, _, HAL.out⟩
                          · injection e with e1 e2 e3
                            subst e1 e3
                            have hcut := IRow.cut (w := wd) (g := g7) (n := S.wr.length) (cap := c7) (zs := L0) (.inr ⟨g7, c7, cur7, by rw [hL0l], by rw [hwd]; exact hg7, hcl, hcc, hcm, hct⟩) (k := k) (by omega)
                            have hcd2 : Came wd (dropA (some ⟨g7, 0, none⟩) k c7) (S.wr.length - k) (c7 - k) 1 ((L0.drop k).map intCells) := HCD.out.below (by rw [hwd]; exact below_drewN_self _ _ 1)
                            obtain ⟨b1, c1, w1', v3, w3, r1, r2, i3, q1, q2⟩ := two_apps wd w6.heap.size _ _ _ (en : Int) _ _ _ 23 23 hcut (fun q hq => HOB.out q (by simpa [Value.ownBlock] using hq)) hsd hcd2 (by simp; omega)
                            have hda : (if c7 = k then (some ⟨g7, 0, none⟩ : Option Addr) else some ⟨g7, k, none⟩) = dropA (some ⟨g7, 0, none⟩) k c7 := by simp [dropA, Addr.add_lit]
                            have HDA := Lib.hid hda
                            clear hda hcut hcd2 hcc hct hg7 hL0l e2
                            have hk7 : k ≤ c7 := by omega
                            have hc7b := hmx7
                            have HR1 := Lib.hid r1
                            have HR2 := Lib.hid r2
                            have HB1 := Lib.hid q1
                            have HB2 := Lib.hid q2
                            have HIR3 := Lib.hid i3
                            clear r1 r2 q1 q2 i3
                            go_upto_region 27 with fail
                            refine wp_region_eager w6.heap.size [(0, true), (1, true), (2, true), (3, true), (4, true), (5, true), (6, true), (8, true), (9, true), (10, true), (7, false), (11, false), (12, false), (13, true)] (by kernel_rfl) (by kernel_rfl) ?_
                            rw [← hwd]
                            clear hwd hsw
                            repeat (refine eag_read rfl ?_; go_big_quiet_step (fail); refine wpQuiet_nil ?_)
                            refine eag_does rfl rfl ?_
                            intro K hK
                            go_simp
                            try rw [HENI.out]
                            refine hK _ _ ((Below.refl _ _).alloc hsd _) ?_
                            clear hK K
                            refine eag_does rfl rfl ?_
                            intro K hK
                            simp only [HDA.out]
                            refine wp_append_eq _ _ _ 23 23 rfl _ _ rfl rfl HR1.out ?_
                            go_simp
                            refine hK _ _ HB1.out ?_
                            clear hK K
                            refine eag_does rfl rfl ?_
                            intro K hK
                            refine wp_append_eq _ _ _ 23 23 rfl _ _ rfl rfl HR2.out ?_
                            go_simp
                            refine hK _ _ HB2.out ?_
                            clear hK K
                            go_simp
                            refine eag_read rfl ?_; go_big_quiet_step (fail); refine wpQuiet_nil ?_
                            refine eag_end ?_
                            have HB3 := Lib.hid ((hbd.trans ((Below.refl _ _).alloc hsd _)).trans (HB1.out.trans HB2.out))
                            obtain ⟨va, vc, e3, hal⟩ := HMETA.out v3 w3 (by rw [HRL.out]; exact HIR3.out) HB3.out
                            subst e3
                            have HAL := Lib.hid hal
                            clear hal HMETA
                            go_wp2_with fail
                            go_meet
                            exact ⟨_, _, _, HAL.out⟩
                      --END
                    case rest =>
                      obtain ⟨va, vc, L, rfl, hi10, hlL, hfL, hrs⟩ := hcut
                      clear HOB HI9 HI8 HC8 HRS HRDN HWRN hfree hq
                      have HRS := Lib.hid hrs
                      have HI10 := Lib.hid hi10
                      have HFL := Lib.hid hfL
                      have HQ : Hid (∀ q, (Value.slice va L.length vc).ownBlock = some q → q < wc.heap.size ∧ q ≠ g) := fun q hq => ⟨hi10.lt q hq, irow_ne hi10 hrs.gb q hq⟩
                      have hgz : g < wc.heap.size := hrs.gb.lt
                      have hgw : w.heap.size + 3 ≤ wc.heap.size := by have := hrs.hg; omega
                      have hwll : (wrL L).length = L.length := by simp [wrL]
                      have HWL := Lib.hid hwll
                      obtain ⟨a', c', e', hLc, hcm10⟩ := hi10.shape
                      simp only [Value.slice.injEq] at e'
                      have hvc : vc ≤ 9223372036854775807 := by unfold maxLen at hcm10; omega
                      have hvl : L.length ≤ vc := by omega
                      obtain ⟨i0, hi0, hz0, hz1, hz2⟩ := info_parts Try.infoT3
                      clear hrs hi10 hfL hwll e' hLc hcm10
                      generalize wc = w10 at *
                      go_wp2_with fail
                      go_loopw [18, 151] (fun _ u wr => ∃ (k : Nat) (v : Value), k ≤ L.length ∧ u = .int .i64 (k : Int) ∧ OwnI wr w10.heap.size v (wrL ((L.take k).filter fun y => decide (nx ≤ y))) ∧ RefS w wr S (.slice wa S.wr.length wcp) op d a b n g ⟨nx, dvv, dn, rdN, []⟩ v ∧ IRow wr (.slice va L.length vc) (wrL L) ∧ w10.heap.size ≤ wr.heap.size) (fun _ u _ => L.length - (intOf u).toNat)
                      case atStart => exact ⟨0, .slice none 0 0, Nat.zero_le _, rfl, World.ownsRow_nil _ _ _ _, HRS.out, HI10.out, Nat.le_refl _⟩
                      case round =>
                        clear HRS HI10
                        obtain ⟨k, v, hk, rfl, hown, hrs, hir, hsz⟩ := hrel
                        obtain ⟨ia, il, ic, rfl⟩ := owns_shape hown
                        have HOWN := Lib.hid hown
                        have HRS := Lib.hid hrs
                        have HIR := Lib.hid hir
                        have hfl : (wrL ((L.take k).filter fun y => decide (nx ≤ y))).length ≤ 16385 := by
                          have := List.length_filter_le (fun y => decide (nx ≤ y)) (L.take k)
                          simp only [wrL, List.length_map]
                          simp only [List.length_take] at this
                          omega
                        clear hown hrs hir
                        by_cases hlt : k < L.length
                        · obtain ⟨b', off, ea, _, hcell⟩ := HIR.out.came.2.ints (by omega)
                          subst ea
                          have cl := hcell k (by simp [wrL]; exact hlt)
                          obtain ⟨z, hz⟩ : ∃ z, z = L[k] := ⟨_, rfl⟩
                          have cl2 : wr.cell? ⟨b', off + k, none⟩ = some (.int .i64 (z : Int)) := by rw [cl, hz]; simp [wrL]
                          obtain ⟨g0, g1, g2, _, g19⟩ := st_cells HRS.out.gb
                          have f19 := HRS.out.gb.free 19
                          dsimp only at g0
                          have HNF : Hid ((L.take (k + 1)).filter (fun y => decide (nx ≤ y)) = (L.take k).filter (fun y => decide (nx ≤ y)) ++ if nx ≤ z then [z] else []) := by
                            unfold Hid
                            rw [List.take_add_one, List.getElem?_eq_getElem hlt, List.filter_append, ← hz]
                            congr 1
                            by_cases h : nx ≤ z <;> simp [h]
                          clear hcell cl hz g1 g2
                          by_cases hnz : nx ≤ z
                          · have d1 : decide (nx ≤ z) = true := decide_eq_true hnz
                            have d2 : decide ((nx : Int) ≤ (z : Int)) = true := decide_eq_true (by omega)
                            rw [if_pos hnz] at HNF
                            clear hnz
                            have hal : (wr.alloc (.cells #[.int .i64 (z : Int)] 3)).ownsRow w10.heap.size 3 1 (.slice ia il ic) (wrL ((L.take k).filter fun y => decide (nx ≤ y))).length (intVs (wrL ((L.take k).filter fun y => decide (nx ≤ y)))) := World.ownsRow.alloc HOWN.out _
                            have HAL := Lib.hid hal
                            have HA2 := Lib.hid (cell_one_new wr (.int .i64 (z : Int)) 3)
                            have HA3 : Hid (∀ u ∈ ([Value.int .i64 (z : Int)] : List Value), u.oneCell' = true) := by intro u hu; simp at hu; subst hu; rfl
                            have hgr : g < wr.heap.size := by omega
                            clear hal
                            go_wp2_with (at_builtin; refine wpList_append_own _ rfl _ _ 23 rfl w10.heap.size 3 i0 (.int .i64 0) 1 8 Try.underlying23 hi0 hz0 hz1 hz2 rfl (by decide) _ _ _ rfl HAL.out ⟨wr.heap.size, 0, none⟩ 1 1 [.int .i64 (z : Int)] rfl rfl HA2.out HA3.out (by unfold maxLen; omega) (by omega) (by simp; omega) ?_)
                            intro v' w3 hown' hgrow _
                            obtain ⟨ja, jl, jc, rfl⟩ := owns_shape hown'
                            have hba : Below wr.heap.size wr (wr.alloc (.cells #[.int .i64 (z : Int)] 3)) := (Below.refl _ _).alloc (Nat.le_refl _) _
                            have hb3 : Below w10.heap.size (wr.alloc (.cells #[.int .i64 (z : Int)] 3)) w3 := grown_below hgrow (fun q hq => (World.ownsRow.lt HOWN.out q hq).1) (by simp; omega)
                            have HR3 := Lib.hid ((HRS.out.after hba).afterB hb3 hgz hgw)
                            have HI3 : Hid (IRow w3 (.slice (some ⟨b', off, none⟩) L.length vc) (wrL L)) := HIR.out.kept (fun q hq => by rw [hb3.block q (HQ.out q hq).1, hba.block q (by have := (HQ.out q hq).1; omega)])
                            have HS3 : Hid (w10.heap.size ≤ w3.heap.size) := by have := hb3.size; show _ ≤ _; simp at this; omega
                            have HOW := Lib.hid hown'
                            have g19' := HR3.out.gb.cell 19
                            have f19' := HR3.out.gb.free 19
                            have k19 : w3.cell? ⟨g, 19, none⟩ = some (.slice ia il ic) := g19'
                            have HR4 := Lib.hid (HR3.out.set (S2 := ⟨nx, dvv, dn, rdN, []⟩) (sv' := .slice ja jl jc) 19 (.slice ja jl jc) rfl)
                            have HI4 : Hid (IRow (w3.setCell ⟨g, 19, none⟩ (.slice ja jl jc)) (.slice (some ⟨b', off, none⟩) L.length vc) (wrL L)) := HI3.out.kept (fun q hq => Below.heap_setCell _ _ _ _ (by have := (HQ.out q hq).2; show q ≠ g; exact this))
                            have HO4 : Hid (OwnI (w3.setCell ⟨g, 19, none⟩ (.slice ja jl jc)) w10.heap.size (.slice ja jl jc) (wrL ((L.take (k + 1)).filter fun y => decide (nx ≤ y)))) := by
                              refine ownI_setOther (p := ⟨g, 19, none⟩) ?_ hgz (.slice ja jl jc)
                              rw [HNF.out, wrL_append]
                              unfold OwnI
                              rw [List.length_append, intVs_append]
                              exact HOW.out
                            clear hown' hgrow hba hb3 g19' HOW HI3 HR3 g0 g19 f19 HIR HRS HOWN HNF HAL HA2 HA3
                            go_wp2_with fail
                            go_roundw
                            case rel => exact ⟨k + 1, _, by omega, by go_num, HO4.out, HR4.out, HI4.out, by have := HS3.out; simp; omega⟩
                            case measure => simp [intOf]; omega
                          · have d1 : decide (nx ≤ z) = false := decide_eq_false hnz
                            have d2 : decide ((nx : Int) ≤ (z : Int)) = false := decide_eq_false (by omega)
                            rw [if_neg hnz, List.append_nil] at HNF
                            clear hnz
                            go_wp2_with fail
                            go_roundw
                            case rel => exact ⟨k + 1, _, by omega, by go_num, by rw [HNF.out]; exact HOWN.out, HRS.out, HIR.out, hsz⟩
                            case measure => simp [intOf]; omega
                        · have ek : k = L.length := by omega
                          subst ek
                          rw [List.take_length] at HOWN
                          have HSN2 : Hid ((Try.prog.info? 25).map (·.size) = some (stCells ⟨nx, dvv, dn, rdN, []⟩ (.slice ia il ic)).toArray.size) := by unfold Hid; kernel_rfl
                          go_wp2_with (first
                            | (refine wpList_load_row rfl 25 _ rfl g rfl _ (stCells ⟨nx, dvv, dn, rdN, []⟩ (.slice ia il ic)).toArray _ _ HRS.out.gb Try.underlying25 rfl HSN2.out ?_)
                            | (refine wpList_store_rowTo rfl 25 _ _ rfl rfl (w.heap.size + 2) (stCells ⟨nx, dvv, dn, rdN, []⟩ (.slice ia il ic)).toArray rfl rfl _ _ HRS.out.bx.out HSN2.out rfl (st_one _ _ rfl) ?_))
                          obtain ⟨e1, e2, e3⟩ := refs_end HRS.out HOWN.out hsz hgw (stCells ⟨nx, dvv, dn, rdN, []⟩ (.slice ia il ic)).toArray
                          have hcmE := ownI_came e2
                          have hwl2 : (wrL wrN).length = wrN.length := by simp [wrL]
                          rw [HFL.out] at hcmE
                          have hil : il = wrN.length := by rw [hcmE.1, hwl2]
                          refine bodyPost_ret (results_row_1 rfl _ _ (w.heap.size + 2) _ _ _ _ rfl e1 Try.underlying25 rfl HSN2.out) rfl ((HIP.out _ _).2 ⟨ia, ic, ?_, ?_, e3⟩)
                          · rw [HNS2.out, hil]; rfl
                          · rw [HNS2.out]; subst hil; exact hcmE.2
end Go.Proofs.Ytgcbdndfobiphab
