/- timing's Issue at a valid state. -/
import Derived.Test.YtgcbdndfobiphabInsI
import Derived.Test.YtgcbdndfobiphabInsnB
import Derived.Test.YtgcbdndfobiphabSearch
import Derived.Great.BuildSlice
namespace Go.Proofs.Ytgcbdndfobiphab
open Go.RowKit
set_option linter.unusedVariables false
set_option linter.unusedSimpArgs false

def insN (l : List Nat) (e : Nat) : List Nat := l.take (l.countP (· < e)) ++ e :: l.drop (l.countP (· < e))
def setRd (rd : Nat → Nat) (r e : Nat) : Nat → Nat := fun i => if i = r then e else rd i
def nextS (S : TS) (op d a b : Int) (extra : Nat) : TS :=
  let lat := latOf op + extra
  let t := startOf S op d a b lat
  { next := t + 1 + extra, done := max S.done (t + lat), div := if divB op then t + lat else S.div,
    rd := if wrOf op d = 0 then S.rd else setRd S.rd (wrOf op d).toNat (t + lat),
    wr := if wrOf op d = 0 then S.wr.filter (fun x => decide (t + 1 + extra ≤ x)) else if t + 1 + extra ≤ t + lat then insN (S.wr.filter (fun x => decide (t + 1 + extra ≤ x))) (t + lat) else S.wr.filter (fun x => decide (t + 1 + extra ≤ x)) }

theorem st_set0 (S : TS) (wv : Value) (e : Nat) : (stCells S wv).set 0 (.int .i64 (e : Int)) = stCells { S with next := e } wv := rfl
theorem st_set1 (S : TS) (wv : Value) (e : Nat) : (stCells S wv).set 1 (.int .i64 (e : Int)) = stCells { S with div := e } wv := rfl
theorem st_set2 (S : TS) (wv : Value) (e : Nat) : (stCells S wv).set 2 (.int .i64 (e : Int)) = stCells { S with done := e } wv := rfl
theorem st_set19 (S : TS) (wv v : Value) : (stCells S wv).set 19 v = stCells S v := rfl
theorem st_setR (S : TS) (wv : Value) (r e : Nat) (h : r < 16) : (stCells S wv).set (3 + r) (.int .i64 (e : Int)) = stCells { S with rd := setRd S.rd r e } wv := by
  have hs : r = 0 ∨ r = 1 ∨ r = 2 ∨ r = 3 ∨ r = 4 ∨ r = 5 ∨ r = 6 ∨ r = 7 ∨ r = 8 ∨ r = 9 ∨ r = 10 ∨ r = 11 ∨ r = 12 ∨ r = 13 ∨ r = 14 ∨ r = 15 := by omega
  rcases hs with rfl | rfl | rfl | rfl | rfl | rfl | rfl | rfl | rfl | rfl | rfl | rfl | rfl | rfl | rfl | rfl <;> rfl

theorem st_all {w : World} {b : Nat} {t : TypeId} {S : TS} {wv : Value} (h : Blk w b t (stCells S wv)) : w.cell? ⟨b, 0, none⟩ = some (.int .i64 (S.next : Int)) ∧ w.cell? ⟨b, 1, none⟩ = some (.int .i64 (S.div : Int)) ∧ w.cell? ⟨b, 2, none⟩ = some (.int .i64 (S.done : Int)) ∧ w.cell? ⟨b, 3, none⟩ = some (.int .i64 (S.rd 0 : Int)) ∧ w.cell? ⟨b, 4, none⟩ = some (.int .i64 (S.rd 1 : Int)) ∧ w.cell? ⟨b, 5, none⟩ = some (.int .i64 (S.rd 2 : Int)) ∧ w.cell? ⟨b, 6, none⟩ = some (.int .i64 (S.rd 3 : Int)) ∧ w.cell? ⟨b, 7, none⟩ = some (.int .i64 (S.rd 4 : Int)) ∧ w.cell? ⟨b, 8, none⟩ = some (.int .i64 (S.rd 5 : Int)) ∧ w.cell? ⟨b, 9, none⟩ = some (.int .i64 (S.rd 6 : Int)) ∧ w.cell? ⟨b, 10, none⟩ = some (.int .i64 (S.rd 7 : Int)) ∧ w.cell? ⟨b, 11, none⟩ = some (.int .i64 (S.rd 8 : Int)) ∧ w.cell? ⟨b, 12, none⟩ = some (.int .i64 (S.rd 9 : Int)) ∧ w.cell? ⟨b, 13, none⟩ = some (.int .i64 (S.rd 10 : Int)) ∧ w.cell? ⟨b, 14, none⟩ = some (.int .i64 (S.rd 11 : Int)) ∧ w.cell? ⟨b, 15, none⟩ = some (.int .i64 (S.rd 12 : Int)) ∧ w.cell? ⟨b, 16, none⟩ = some (.int .i64 (S.rd 13 : Int)) ∧ w.cell? ⟨b, 17, none⟩ = some (.int .i64 (S.rd 14 : Int)) ∧ w.cell? ⟨b, 18, none⟩ = some (.int .i64 (S.rd 15 : Int)) ∧ w.cell? ⟨b, 19, none⟩ = some wv :=
  ⟨h.cell 0, h.cell 1, h.cell 2, h.cell 3, h.cell 4, h.cell 5, h.cell 6, h.cell 7, h.cell 8, h.cell 9, h.cell 10, h.cell 11, h.cell 12, h.cell 13, h.cell 14, h.cell 15, h.cell 16, h.cell 17, h.cell 18, h.cell 19⟩

theorem if_maxI (m q : Nat) : (if m < q then (q : Int) else (m : Int)) = ((max m q : Nat) : Int) := by split <;> omega
def zCells : List Value := [.int .i64 0, .int .i64 0, .int .i64 0, .int .i64 0, .int .i64 0, .int .i64 0, .int .i64 0, .int .i64 0, .int .i64 0, .int .i64 0, .int .i64 0, .int .i64 0, .int .i64 0, .int .i64 0, .int .i64 0, .int .i64 0, .int .i64 0, .int .i64 0, .int .i64 0, .slice none 0 0]
/-- the worlds in which Issue's three boxes stand -/
structure Boxes (w w' : World) (S : TS) (wv : Value) (op d a b n : Int) : Prop where
  below : Below w.heap.size w w'
  st : Blk w' w.heap.size 25 (stCells S wv)
  op : Blk w' (w.heap.size + 1) 27 [.int .i64 op, .int .i64 d, .int .i64 a, .int .i64 b, .int .i64 n]
  out : Blk w' (w.heap.size + 2) 25 zCells
theorem Boxes.after {w w' w'' : World} {S : TS} {wv : Value} {op d a b n : Int} (h : Boxes w w' S wv op d a b n) (hb : Below w'.heap.size w' w'') : Boxes w w'' S wv op d a b n :=
  ⟨h.below.trans (hb.mono h.below.size), h.st.below hb h.st.lt, h.op.below hb h.op.lt, h.out.below hb h.out.lt⟩
theorem Boxes.new (w : World) (S : TS) (wv : Value) (op d a b n : Int) : Boxes w (((w.alloc (.cells (stCells S wv).toArray 25)).alloc (.cells #[.int .i64 op, .int .i64 d, .int .i64 a, .int .i64 b, .int .i64 n] 27)).alloc (.cells #[.int .i64 0, .int .i64 0, .int .i64 0, .int .i64 0, .int .i64 0, .int .i64 0, .int .i64 0, .int .i64 0, .int .i64 0, .int .i64 0, .int .i64 0, .int .i64 0, .int .i64 0, .int .i64 0, .int .i64 0, .int .i64 0, .int .i64 0, .int .i64 0, .int .i64 0, .slice none 0 0] 25)) S wv op d a b n := by
  have h1 := Blk.new w (stCells S wv) 25
  have h2 := Blk.new (w.alloc (.cells (stCells S wv).toArray 25)) [.int .i64 op, .int .i64 d, .int .i64 a, .int .i64 b, .int .i64 n] 27
  have h3 := Blk.new ((w.alloc (.cells (stCells S wv).toArray 25)).alloc (.cells #[.int .i64 op, .int .i64 d, .int .i64 a, .int .i64 b, .int .i64 n] 27)) zCells 25
  rw [World.size_alloc] at h2 h3
  rw [World.size_alloc] at h3
  exact ⟨(((Below.refl _ _).alloc (Nat.le_refl _) _).alloc (by simp) _).alloc (by simp; omega) _, (h1.alloc _).alloc _, h2.alloc _, h3⟩
theorem Boxes.set {w w' : World} {S S' : TS} {wv wv' : Value} {op d a b n : Int} (h : Boxes w w' S wv op d a b n) (i : Nat) (v : Value) (e : (stCells S wv).set i v = stCells S' wv') : Boxes w (w'.setCell ⟨w.heap.size, i, none⟩ v) S' wv' op d a b n :=
  ⟨h.below.setCell (Nat.le_refl _) _, by rw [← e]; exact h.st.set i v, h.op.setOther (by simp) v, h.out.setOther (by simp) v⟩

theorem wrAt_boxes {w w' : World} {S : TS} {wv v : Value} {l : List Nat} {op d a b n : Int} (h : WrAt w v l) (hb : Boxes w w' S wv op d a b n) : WrAt w' v l := h.below hb.below

theorem wrL_append (l l' : List Nat) : wrL (l ++ l') = wrL l ++ wrL l' := List.map_append ..
theorem intVs_append (l l' : List Int) : intVs (l ++ l') = intVs l ++ intVs l' := List.map_append ..
theorem ownI_came {w : World} {base : Nat} {a : Option Addr} {m c : Nat} {zs : List Int} (h : OwnI w base (.slice a m c) zs) : m = zs.length ∧ Came w a m c 1 (zs.map intCells) :=
  came_of_owns (E := intCells) (zs := zs) (fun z => ⟨_, rfl⟩) (by unfold OwnI at h; simpa [intCells, intVs] using h)
theorem wrAt_own {w : World} {base : Nat} {v : Value} {l : List Nat} (h : OwnI w base v (wrL l)) : WrAt w v l := by
  obtain ⟨a', m, c, rfl⟩ := owns_shape h
  obtain ⟨e, h2⟩ := ownI_came h
  have e2 : m = l.length := by rw [e]; simp [wrL]
  subst e2
  exact ⟨a', c, rfl, h2⟩
theorem wrL_sorted {l : List Nat} (h : l.Pairwise (· < ·)) : (wrL l).Pairwise (· ≤ ·) := by
  unfold wrL
  rw [List.pairwise_map]
  exact h.imp (fun h => by omega)
theorem countP_wrL (l : List Nat) (e : Nat) : List.countP (fun y => decide (y < (e : Int))) (wrL l) = List.countP (fun y => decide (y < e)) l := by
  unfold wrL
  rw [List.countP_map]
  congr 1
  funext y
  simp
theorem ins_wrL (l : List Nat) (e : Nat) : ins (wrL l) (List.countP (fun y => decide (y < e)) l) (e : Int) = wrL (insN l e) := by
  simp [ins, insN, wrL, List.map_take, List.map_drop]
theorem Boxes.afterB {w w' w'' : World} {S : TS} {wv : Value} {op d a b n : Int} {base : Nat} (h : Boxes w w' S wv op d a b n) (hb : Below base w' w'') (hbase : w.heap.size + 3 ≤ base) : Boxes w w'' S wv op d a b n :=
  ⟨h.below.trans (hb.mono (by omega)), h.st.below hb (by omega), h.op.below hb (by omega), h.out.below hb (by omega)⟩
theorem st_one (S : TS) (v : Value) (h : v.oneCell' = true) : (stCells S v).toArray.all (·.oneCell') = true := by simp [stCells, Value.oneCell'] at h ⊢; exact h
theorem results_row_two {P : Program} {fn : Func} {p u v : Tmp} {ty : TypeId} (h : fn.results = #[.cell p ty, .tmp u, .tmp v]) (tmps : Array Value) (w : World) (g : Nat) (t : TypeId) (cs : Array Value) (fr : Nat × Nat) (d : TypeDesc)
    (hp : tmps.getD p undef = .pointer (some ⟨g, 0, none⟩)) (hg : w.heap[g]? = some (.cells cs t fr))
    (hu : P.underlying ty = some d) (hd : (match d with | .struct _ | .array _ _ => true | _ => false) = true) (hi : (P.info? ty).map (·.size) = some cs.size) :
    (results fn tmps).run P w = .ok (.tuple #[.agg cs, tmps.getD u undef, tmps.getD v undef]) w := by
  have hp' : tmps[p]?.getD undef = .pointer (some ⟨g, 0, none⟩) := by simpa using hp
  simp [results, h, hp', asAddr, run_loadVar_row w g t ty cs fr d hg hu hd hi]
theorem issue_end {w w8 : World} {S S' : TS} {v : Value} {op d a b n : Int} {extra : Nat} {base : Nat} (hbx : Boxes w w8 S' v op d a b n) (hown : OwnI w8 base v (wrL S'.wr)) (hbase : base ≤ w8.heap.size) (hbw : w.heap.size + 3 ≤ base) (hns : nextS S op d a b extra = S') (cs : Array Value) (hcs : cs = (stCells S' v).toArray)
    : (w8.setRow (w.heap.size + 2) cs).heap[w.heap.size + 2]? = some (.cells cs 25 (0, 0)) ∧ OwnI (w8.setRow (w.heap.size + 2) cs) w.heap.size v (wrL (nextS S op d a b extra).wr) ∧ Below w.heap.size w (w8.setRow (w.heap.size + 2) cs) := by
  have hg := hbx.out
  unfold Blk at hg
  have h1 : (w8.setRow (w.heap.size + 2) cs).heap[w.heap.size + 2]? = some (.cells cs 25 (0, 0)) := by simp [World.setRow, Array.getElem?_modify, hg]
  have hgr : w8.grownBy (w8.setRow (w.heap.size + 2) cs) (some (w.heap.size + 2)) := ⟨rfl, rfl, rfl, by simp [World.setRow], fun k _ hk => by simp only [World.setRow, Array.getElem?_modify]; rw [if_neg (fun e => hk (by rw [e]))]⟩
  refine ⟨h1, ?_, hbx.below.trans (grown_below hgr (fun g hg => by simp at hg; omega) hbx.below.size)⟩
  rw [hns]
  have hk := World.ownsRow.kept hown hgr (by
    cases hv : v.ownBlock with
    | none => exact .inl rfl
    | some q => exact .inr (fun e => by have := (World.ownsRow.lt hown q hv).1; simp at e; omega))
  exact owns_base hk (by omega)
theorem ownI_setOther {w : World} {base : Nat} {v : Value} {zs : List Int} (h : OwnI w base v zs) {p : Addr} (hp : p.block < base) (u : Value) : OwnI (w.setCell p u) base v zs :=
  ownsRow_setCell_other h (fun e => by have := (World.ownsRow.lt h _ e).1; omega) u
def IssuePost (S : TS) (op d a b : Int) (extra : Nat) (w : World) (e : Ending) (w' : World) : Prop :=
  ∃ wv', e = .returned (.tuple #[.agg (stCells (nextS S op d a b extra) wv').toArray, .int .i64 (startOf S op d a b (latOf op + extra) : Int), .int .i64 0]) ∧ OwnI w' w.heap.size wv' (wrL (nextS S op d a b extra).wr) ∧ Below w.heap.size w w'

set_option maxRecDepth 100000 in
set_option maxHeartbeats 4000000 in
theorem issue_ok (S : TS) (wv : Value) (op d a b n : Int) (extra : Nat) (w : World) (B : Nat) (hB : B ≤ 1152921504606846976) (hx : extra ≤ 10000) (hck : checkE op d a b n = 0) (hd : 0 ≤ d ∧ d ≤ 15) (ha : 0 ≤ a ∧ a ≤ 15) (hb : 0 ≤ b ∧ b ≤ 15) (ok : S.Ok B) (hw : WrAt w wv S.wr) :
    Calls Try.prog 17 #[.agg (stCells S wv).toArray, .agg #[.int .i64 op, .int .i64 d, .int .i64 a, .int .i64 b, .int .i64 n], .int .i64 (extra : Int)] w (IssuePost S op d a b extra w) := by
  obtain ⟨wa, wc, hwv, _⟩ := id hw
  subst hwv
  have HTC := fun w h => Lib.hid (tcheck_ok S (.slice wa S.wr.length wc) w B hB ok h)
  have HIC := fun w => Lib.hid ((check_any op d a b n w).mono (R' := fun e w' => e = .returned (.int .i64 0) ∧ Below w.heap.size w w') (fun e w' h => by obtain ⟨rfl, hb⟩ := h; rw [hck]; exact ⟨rfl, hb⟩))
  have HLA := fun w => Lib.hid (latency_any op w)
  have HWR := fun w => Lib.hid (writes_any op d a b n w)
  have HDV := fun w => Lib.hid (divides_any op w)
  have hdb' := wrOf_bd (op := op) hd
  obtain ⟨X, hX⟩ : ∃ X, X = wrOf op d := ⟨_, rfl⟩
  rw [← hX] at HWR hdb'
  have HXE := Lib.hid hX
  clear hX
  have hlb := latOf_bd op
  obtain ⟨la, hla⟩ : ∃ la, la = latOf op := ⟨_, rfl⟩
  rw [← hla] at HLA hlb
  have HGO := fun w h => Lib.hid (start_ok S (.slice wa S.wr.length wc) op d a b n (la + extra) w B hB (by omega) hd ha hb ok h)
  have hstl := startOf_le ok op d a b (la + extra) (by omega)
  obtain ⟨t, ht⟩ : ∃ t, t = startOf S op d a b (la + extra) := ⟨_, rfl⟩
  rw [← ht] at HGO hstl
  have HT := Lib.hid ht
  have HLAE := Lib.hid hla
  clear ht hla
  have HW := Lib.hid hw
  have HBX := Lib.hid (Boxes.new w S (.slice wa S.wr.length wc) op d a b n)
  have x1 : decide ((extra : Int) < 0) = false := decide_eq_false (by omega)
  have x2 : decide ((10000 : Int) < (extra : Int)) = false := decide_eq_false (by omega)
  have hbs := Lib.hid ok
  have hwl := ok.l
  obtain ⟨i0, hi0, hz0, hz1, hz2⟩ := info_parts Try.infoT3
  go_enter Try.func17, Try.ntmps17
  go_upto_region 1 with fail
  generalize ((w.alloc (.cells (stCells S (.slice wa S.wr.length wc)).toArray 25)).alloc (.cells #[.int .i64 op, .int .i64 d, .int .i64 a, .int .i64 b, .int .i64 n] 27)).alloc (.cells #[.int .i64 0, .int .i64 0, .int .i64 0, .int .i64 0, .int .i64 0, .int .i64 0, .int .i64 0, .int .i64 0, .int .i64 0, .int .i64 0, .int .i64 0, .int .i64 0, .int .i64 0, .int .i64 0, .int .i64 0, .int .i64 0, .int .i64 0, .int .i64 0, .int .i64 0, .slice none 0 0] 25) = w0 at HBX ⊢
  have HW0 := Lib.hid (wrAt_boxes HW.out HBX.out)
  have HSZ : Hid ((Try.prog.info? 25).map (·.size) = some (stCells S (.slice wa S.wr.length wc)).toArray.size) := by unfold Hid; kernel_rfl
  obtain ⟨p0, p1, p2, p3, p4⟩ := op_cells5 HBX.out.op
  go_wp2_with (refine wpList_load_row rfl 25 _ rfl w.heap.size rfl _ (stCells S (.slice wa S.wr.length wc)).toArray _ _ HBX.out.st Try.underlying25 rfl HSZ.out ?_)
  refine (HTC _ HW0.out).out.mono ?_
  rintro e w1 ⟨rfl, hb1⟩
  replace HBX := Lib.hid (HBX.out.after hb1)
  replace HW0 := Lib.hid (wrAt_boxes HW.out HBX.out)
  clear hb1 p0 p1 p2 p3 p4
  obtain ⟨p0, p1, p2, p3, p4⟩ := op_cells5 HBX.out.op
  go_wp2_with fail
  refine (HIC _).out.mono ?_
  rintro e w2 ⟨rfl, hb1⟩
  replace HBX := Lib.hid (HBX.out.after hb1)
  replace HW0 := Lib.hid (wrAt_boxes HW.out HBX.out)
  clear hb1 p0 p1 p2 p3 p4
  obtain ⟨p0, p1, p2, p3, p4⟩ := op_cells5 HBX.out.op
  go_wp2_with fail
  refine (HLA _).out.mono ?_
  rintro e w' ⟨rfl, rfl⟩
  go_wp2_with (refine wpList_load_row rfl 25 _ rfl w.heap.size rfl _ (stCells S (.slice wa S.wr.length wc)).toArray _ _ HBX.out.st Try.underlying25 rfl HSZ.out ?_)
  obtain ⟨lat, hlat⟩ : ∃ lat, lat = la + extra := ⟨_, rfl⟩
  have hlE : (la : Int) + (extra : Int) = (lat : Int) := by omega
  rw [← hlat] at HGO HT
  have hlatb : 1 ≤ lat ∧ lat ≤ 10008 := by omega
  have HLT := Lib.hid hlat
  rw [hlE]
  refine (HGO _ HW0.out).out.mono ?_
  rintro e w3 ⟨rfl, hb1⟩
  replace HBX := Lib.hid (HBX.out.after hb1)
  replace HW0 := Lib.hid (wrAt_boxes HW.out HBX.out)
  clear hb1 p0 p1 p2 p3 p4 hlE HGO HLA HIC HTC hlat
  obtain ⟨en, hen⟩ : ∃ en, en = t + lat := ⟨_, rfl⟩
  obtain ⟨nx, hnx⟩ : ∃ nx, nx = t + 1 + extra := ⟨_, rfl⟩
  have HEN := Lib.hid hen
  have HNX := Lib.hid hnx
  clear hen hnx
  go_upto_region 12 with fail
  rw [show (t : Int) + (lat : Int) = (en : Int) by have := HEN.out; omega]
  obtain ⟨p0, p1, p2, p3, p4⟩ := op_cells5 HBX.out.op
  obtain ⟨s0, s1, s2, _, s19⟩ := st_cells HBX.out.st
  have f0 := HBX.out.st.free 0
  go_upto_region 13 with fail
  rw [show (t : Int) + 1 + (extra : Int) = (nx : Int) by have := HNX.out; omega]
  replace HBX := Lib.hid (HBX.out.set (S' := ⟨nx, S.div, S.done, S.rd, S.wr⟩) (wv' := .slice wa S.wr.length wc) 0 (.int .i64 (nx : Int)) rfl)
  generalize w3.setCell ⟨w.heap.size, 0, none⟩ (.int .i64 (nx : Int)) = w4 at HBX ⊢
  clear p0 p1 p2 p3 p4 s0 s1 s2 s19 f0
  replace HW0 := Lib.hid (wrAt_boxes HW.out HBX.out)
  obtain ⟨s0, s1, s2, _, s19⟩ := st_cells HBX.out.st
  have f0 := HBX.out.st.free 2
  go_upto_region 14 with fail
  rw [if_maxI S.done en]
  replace HBX := Lib.hid (HBX.out.set (S' := ⟨nx, S.div, max S.done en, S.rd, S.wr⟩) (wv' := .slice wa S.wr.length wc) 2 (.int .i64 ((max S.done en : Nat) : Int)) rfl)
  generalize w4.setCell ⟨w.heap.size, 2, none⟩ (.int .i64 ((max S.done en : Nat) : Int)) = w5 at HBX ⊢
  clear s0 s1 s2 s19 f0
  replace HW0 := Lib.hid (wrAt_boxes HW.out HBX.out)
  obtain ⟨p0, p1, p2, p3, p4⟩ := op_cells5 HBX.out.op
  have henb : en ≤ B + 10008 := by have := HEN.out; omega
  have hnxb : nx ≤ B + 10001 := by have := HNX.out; omega
  obtain ⟨dn, hdn⟩ : ∃ dn, dn = max S.done en := ⟨_, rfl⟩
  have HDN := Lib.hid hdn
  rw [← hdn] at HBX
  clear hdn
  have hdvs : (divB op = true ∧ (if divB op then en else S.div) = en) ∨ (divB op = false ∧ (if divB op then en else S.div) = S.div) := by
    cases divB op
    · exact .inr ⟨rfl, rfl⟩
    · exact .inl ⟨rfl, rfl⟩
  obtain ⟨dv, hdv⟩ : ∃ dv, dv = if divB op then en else S.div := ⟨_, rfl⟩
  rw [← hdv] at hdvs
  have HDVE := Lib.hid hdv
  clear hdv
  obtain ⟨db, hdb⟩ : ∃ db, db = divB op := ⟨_, rfl⟩
  rw [← hdb] at HDV hdvs
  clear hdb
  rcases hdvs with ⟨rfl, hde⟩ | ⟨rfl, hde⟩
  case' inl =>
    have f1 := HBX.out.st.free 1
    obtain ⟨s0, s1, s2, _, s19⟩ := st_cells HBX.out.st
    have HDE := Lib.hid hde
    clear hde
    go_wp2_with fail
    refine (HDV _).out.mono ?_
    rintro e w' ⟨rfl, rfl⟩
    go_upto_region 17 with fail
    replace HBX := Lib.hid (HBX.out.set (S' := ⟨nx, en, dn, S.rd, S.wr⟩) (wv' := .slice wa S.wr.length wc) 1 (.int .i64 (en : Int)) rfl)
    have HDE2 : en = dv := HDE.out.symm
    rw [show (⟨nx, en, dn, S.rd, S.wr⟩ : TS) = ⟨nx, dv, dn, S.rd, S.wr⟩ by rw [HDE2]] at HBX
    clear HDE2 HDE f1
    generalize w5.setCell ⟨w.heap.size, 1, none⟩ (.int .i64 (en : Int)) = w6 at HBX ⊢
  case' inr =>
    obtain ⟨s0, s1, s2, _, s19⟩ := st_cells HBX.out.st
    rw [← hde] at HBX
    clear hde
    go_wp2_with fail
    refine (HDV _).out.mono ?_
    rintro e w' ⟨rfl, rfl⟩
    go_upto_region 17 with fail
    generalize w5 = w6 at *
  all_goals
    clear s0 s1 s2 s19 p0 p1 p2 p3 p4 HDV
    replace HW0 := Lib.hid (wrAt_boxes HW.out HBX.out)
    obtain ⟨wa', wc', he, hcm⟩ := HW0.out
    simp only [Value.slice.injEq, true_and] at he
    obtain ⟨rfl, rfl⟩ := he
    have hcle := hcm.le
    have hcmx := hcm.max
    have HC := Lib.hid hcm
    have hz6 := HBX.out.st.lt
    have hz63 := HBX.out.out.lt
    have HZ6 := Lib.hid HBX.out.below.size
    clear hcm
    obtain ⟨s0, s1, s2, _, s19⟩ := st_cells HBX.out.st
    go_wp2_with fail
    go_loopw [14, 69] (fun p u wr => ∃ (k : Nat), k ≤ S.wr.length ∧ u = .int .i64 (k : Int) ∧ OwnI wr w6.heap.size p (wrL ((S.wr.take k).filter fun x => decide (nx ≤ x))) ∧ Below w6.heap.size w6 wr) (fun p u _ => S.wr.length - (intOf u).toNat)
    case atStart => exact ⟨0, Nat.zero_le _, rfl, World.ownsRow_nil _ _ _ _, Below.refl _ _⟩
    case round =>
      clear s0 s1 s2 s19
      obtain ⟨k, hk, rfl, hown, hbel⟩ := hrel
      obtain ⟨va, vl, vc, rfl⟩ := owns_shape hown
      have HOWN := Lib.hid hown
      have HBEL := Lib.hid hbel
      replace HBX := Lib.hid (HBX.out.after hbel)
      replace HC := Lib.hid (HC.out.below hbel)
      have hzs := hbel.size
      have hfl : (wrL ((S.wr.take k).filter fun x => decide (nx ≤ x))).length ≤ 16384 := by
        have := List.length_filter_le (fun x => decide (nx ≤ x)) (S.wr.take k)
        simp only [wrL, List.length_map]
        simp only [List.length_take] at this
        omega
      clear hown hbel
      by_cases hlt : k < S.wr.length
      · obtain ⟨b', off, ea, _, hcell⟩ := HC.out.ints (by omega)
        subst ea
        have cl := hcell k (by simp [wrL]; exact hlt)
        obtain ⟨z, hz⟩ : ∃ z, z = S.wr[k] := ⟨_, rfl⟩
        have cl2 : wr.cell? ⟨b', off + k, none⟩ = some (.int .i64 (z : Int)) := by rw [cl, hz]; simp [wrL]
        obtain ⟨s0, s1, s2, _, s19⟩ := st_cells HBX.out.st
        have HNF : Hid ((S.wr.take (k + 1)).filter (fun x => decide (nx ≤ x)) = (S.wr.take k).filter (fun x => decide (nx ≤ x)) ++ if nx ≤ z then [z] else []) := by
          unfold Hid
          rw [List.take_add_one, List.getElem?_eq_getElem hlt, List.filter_append, ← hz]
          congr 1
          by_cases h : nx ≤ z <;> simp [h]
        have hzb : z ≤ B := (hbs.out.w z (by rw [hz]; exact List.getElem_mem hlt)).2
        clear hcell cl hz s1 s2 s19
        by_cases hnz : nx ≤ z
        · have d1 : decide (nx ≤ z) = true := decide_eq_true hnz
          have d2 : decide ((nx : Int) ≤ (z : Int)) = true := decide_eq_true (by omega)
          rw [if_pos hnz] at HNF
          clear hnz
          have hal : (wr.alloc (.cells #[.int .i64 (z : Int)] 3)).ownsRow w6.heap.size 3 1 (.slice va vl vc) (wrL ((S.wr.take k).filter fun x => decide (nx ≤ x))).length (intVs (wrL ((S.wr.take k).filter fun x => decide (nx ≤ x)))) := World.ownsRow.alloc HOWN.out _
          have HAL := Lib.hid hal
          have HA2 := Lib.hid (cell_one_new wr (.int .i64 (z : Int)) 3)
          have HA3 : Hid (∀ u ∈ ([Value.int .i64 (z : Int)] : List Value), u.oneCell' = true) := by intro u hu; simp at hu; subst hu; rfl
          clear hal
          go_wp2_with (at_builtin; refine wpList_append_own _ rfl _ _ 23 rfl w6.heap.size 3 i0 (.int .i64 0) 1 8 Try.underlying23 hi0 hz0 hz1 hz2 rfl (by decide) _ _ _ rfl HAL.out ⟨wr.heap.size, 0, none⟩ 1 1 [.int .i64 (z : Int)] rfl rfl HA2.out HA3.out (by unfold maxLen; omega) (by omega) (by simp; omega) ?_)
          · intro v' w3 hown' hgrow _
            have HOW := Lib.hid hown'
            have hvb : ∀ q, (Value.slice va vl vc).ownBlock = some q → w6.heap.size ≤ q := fun q hq => (World.ownsRow.lt HOWN.out q hq).1
            have HB3 := Lib.hid ((HBEL.out.alloc (by omega) (.cells #[.int .i64 (z : Int)] 3)).grown hgrow (by simp; omega) hvb)
            clear hown' hgrow hvb
            go_wp2
            go_roundw
            case rel => exact ⟨k + 1, by omega, by go_num, by
              rw [HNF.out, wrL_append]
              unfold OwnI
              rw [List.length_append, intVs_append]
              exact HOW.out, HB3.out⟩
            case measure => simp [intOf]; omega
        · have d1 : decide (nx ≤ z) = false := decide_eq_false hnz
          have d2 : decide ((nx : Int) ≤ (z : Int)) = false := decide_eq_false (by omega)
          rw [if_neg hnz, List.append_nil] at HNF
          clear hnz
          go_wp2
          go_roundw
          case rel => exact ⟨k + 1, by omega, by go_num, by rw [HNF.out]; exact HOWN.out, HBEL.out⟩
          case measure => simp [intOf]; omega
      · have ek : k = S.wr.length := by omega
        subst ek
        rw [List.take_length] at HOWN hfl
        obtain ⟨p0, p1, p2, p3, p4⟩ := op_cells5 HBX.out.op
        go_wp2_with fail
        refine (HWR _).out.mono ?_
        rintro e w' ⟨rfl, rfl⟩
        have hba : Below wr.heap.size wr (wr.alloc (.cells #[.int .i64 op, .int .i64 d, .int .i64 a, .int .i64 b, .int .i64 n] 27)) := (Below.refl _ _).alloc (Nat.le_refl _) _
        replace HBX := Lib.hid (HBX.out.after hba)
        have how : OwnI (wr.alloc (.cells #[.int .i64 op, .int .i64 d, .int .i64 a, .int .i64 b, .int .i64 n] 27)) w6.heap.size (.slice va vl vc) (wrL (S.wr.filter fun x => decide (nx ≤ x))) := World.ownsRow.alloc HOWN.out _
        replace HOWN := Lib.hid how
        have hzs7 : w6.heap.size ≤ (wr.alloc (.cells #[.int .i64 op, .int .i64 d, .int .i64 a, .int .i64 b, .int .i64 n] 27)).heap.size := by simp; omega
        clear p0 p1 p2 p3 p4 hba how HC HBEL hzs HWR
        generalize wr.alloc (.cells #[.int .i64 op, .int .i64 d, .int .i64 a, .int .i64 b, .int .i64 n] 27) = w7 at HBX HOWN hzs7 ⊢
        obtain ⟨s0, s1, s2, s3, s19⟩ := st_cells HBX.out.st
        have f19 := HBX.out.st.free 19
        by_cases hx0 : X = 0
        · have q : (X != 0) = false := by rw [bne_eq_false_iff_eq]; exact hx0
          have HX0 := Lib.hid hx0
          clear hx0 s3
          go_upto_region 30 with fail
          replace HBX := Lib.hid (HBX.out.set (S' := ⟨nx, dv, dn, S.rd, S.wr.filter fun x => decide (nx ≤ x)⟩) (wv' := .slice va vl vc) 19 (.slice va vl vc) rfl)
          replace HOWN := Lib.hid (ownI_setOther HOWN.out (p := ⟨w.heap.size, 19, none⟩) hz6 (.slice va vl vc))
          have hzs8 : w6.heap.size ≤ (w7.setCell ⟨w.heap.size, 19, none⟩ (.slice va vl vc)).heap.size := by simpa using hzs7
          clear s0 s1 s2 s19 f19
          generalize w7.setCell ⟨w.heap.size, 19, none⟩ (.slice va vl vc) = w8 at HBX HOWN hzs8 ⊢
          have HSZ2 : Hid ((Try.prog.info? 25).map (·.size) = some (stCells ⟨nx, dv, dn, S.rd, S.wr.filter fun x => decide (nx ≤ x)⟩ (.slice va vl vc)).toArray.size) := by unfold Hid; kernel_rfl
          go_wp2_with (first
            | (refine wpList_load_row rfl 25 _ rfl w.heap.size rfl _ (stCells ⟨nx, dv, dn, S.rd, S.wr.filter fun x => decide (nx ≤ x)⟩ (.slice va vl vc)).toArray _ _ HBX.out.st Try.underlying25 rfl HSZ2.out ?_)
            | (refine wpList_store_rowTo rfl 25 _ _ rfl rfl (w.heap.size + 2) (stCells ⟨nx, dv, dn, S.rd, S.wr.filter fun x => decide (nx ≤ x)⟩ (.slice va vl vc)).toArray rfl rfl _ _ HBX.out.out HSZ2.out rfl (st_one _ _ rfl) ?_))
          have hns : nextS S op d a b extra = ⟨nx, dv, dn, S.rd, S.wr.filter fun x => decide (nx ≤ x)⟩ := by
            have h0 : wrOf op d = 0 := by rw [← HXE.out]; exact HX0.out
            unfold nextS
            simp only [← HLAE.out, ← HLT.out, ← HT.out, ← HEN.out, ← HNX.out, ← HDN.out, h0, if_true]
            rw [← HDVE.out]
          obtain ⟨e1, e2, e3⟩ := issue_end (S := S) (extra := extra) HBX.out HOWN.out (by omega) (by omega) hns _ rfl
          refine bodyPost_ret (results_row_two rfl _ _ (w.heap.size + 2) _ _ _ _ rfl e1 Try.underlying25 rfl HSZ2.out) rfl ⟨.slice va vl vc, ?_, e2, e3⟩
          rw [hns, ← HLAE.out, ← HLT.out, ← HT.out]
          rfl
        · have q : (X != 0) = true := by rw [bne_iff_ne]; exact hx0
          obtain ⟨x, hx⟩ : ∃ x : Nat, X = (x : Int) := ⟨X.toNat, by omega⟩
          subst hx
          have HX0 : Hid (¬ (x : Int) = 0) := hx0
          have hx16 : x < 16 := by omega
          have sx := s3 x hx16
          have fx := HBX.out.st.free (3 + x)
          clear hx0 s3
          go_upto_region 26 with fail
          replace HBX := Lib.hid (HBX.out.set (S' := ⟨nx, dv, dn, setRd S.rd x en, S.wr⟩) (wv' := .slice wa S.wr.length wc) (3 + x) (.int .i64 (en : Int)) (st_setR _ _ x en hx16))
          replace HOWN := Lib.hid (ownI_setOther HOWN.out (p := ⟨w.heap.size, 3 + x, none⟩) hz6 (.int .i64 (en : Int)))
          have hzs8 : w6.heap.size ≤ (w7.setCell ⟨w.heap.size, 3 + x, none⟩ (.int .i64 (en : Int))).heap.size := by simpa using hzs7
          clear s0 s1 s2 s19 f19 sx fx hzs7
          generalize w7.setCell ⟨w.heap.size, 3 + x, none⟩ (.int .i64 (en : Int)) = w8 at HBX HOWN hzs8 ⊢
          obtain ⟨s0, s1, s2, s3, s19⟩ := st_cells HBX.out.st
          clear s3
          by_cases hne : nx ≤ en
          · have d1 : decide (nx ≤ en) = true := decide_eq_true hne
            have d2 : decide ((nx : Int) ≤ (en : Int)) = true := decide_eq_true (by omega)
            have HNE : Hid (nx ≤ en) := hne
            have hcs := ownI_came HOWN.out
            have HVL := Lib.hid hcs.1
            have HSE := Lib.hid (search_ints w8 va vl vc _ (en : Int) hcs.2 (by have := HVL.out; omega) (wrL_sorted (hbs.out.s.filter _)))
            clear hcs
            go_wp2_with fail
            refine HSE.out.mono ?_
            rintro e w' ⟨qn, rfl, rfl⟩
            replace HBX := Lib.hid (HBX.out.after (below_drewN_self _ w8 qn))
            have how : OwnI (w8.drewN qn) w6.heap.size (.slice va vl vc) (wrL (S.wr.filter fun x => decide (nx ≤ x))) := HOWN.out
            replace HOWN := Lib.hid how
            have hzs9 : w6.heap.size ≤ (w8.drewN qn).heap.size := hzs8
            clear HSE how hzs8 s0 s1 s2 s19
            generalize w8.drewN qn = w9 at HBX HOWN hzs9 ⊢
            have hcp := countP_wrL (S.wr.filter fun x => decide (nx ≤ x)) en
            rw [hcp]
            obtain ⟨kk, hkk⟩ : ∃ kk, kk = List.countP (fun y => decide (y < en)) (S.wr.filter fun x => decide (nx ≤ x)) := ⟨_, rfl⟩
            have hkl : kk ≤ (wrL (S.wr.filter fun x => decide (nx ≤ x))).length := by rw [hkk]; simp only [wrL, List.length_map]; exact List.countP_le_length
            rw [← hkk]
            have HKK := Lib.hid hkk
            clear hkk hcp
            go_wp2_with fail
            have how9 : OwnI (w9.alloc (.cells #[.int .i64 (en : Int)] 3)) w6.heap.size (.slice va vl vc) (wrL (S.wr.filter fun x => decide (nx ≤ x))) := World.ownsRow.alloc HOWN.out _
            have hb9 : Below w9.heap.size w9 (w9.alloc (.cells #[.int .i64 (en : Int)] 3)) := (Below.refl _ _).alloc (Nat.le_refl _) _
            refine (insi_any _ w6.heap.size kk (.slice va vl vc) _ (en : Int) w9.heap.size how9 hkl (by omega) (by simp; omega) (heap_alloc_new w9 _) (fun e => by have := (World.ownsRow.lt HOWN.out _ e).2; omega)).mono ?_
            rintro e w' ⟨v', rfl, hown', hbel'⟩
            obtain ⟨ia, il, ic, hv'⟩ := owns_shape hown'
            subst hv'
            have hsz10 : w6.heap.size ≤ w'.heap.size := by have := hbel'.size; simp at this; omega
            replace HBX := Lib.hid ((HBX.out.after hb9).afterB hbel' (by omega))
            rw [HKK.out, ins_wrL] at hown'
            replace HOWN := Lib.hid hown'
            clear how9 hb9 hown' hbel' hkl HKK
            obtain ⟨s0, s1, s2, s3, s19⟩ := st_cells HBX.out.st
            have f19 := HBX.out.st.free 19
            clear s3
            go_upto_region 30 with fail
            replace HBX := Lib.hid (HBX.out.set (S' := ⟨nx, dv, dn, setRd S.rd x en, insN (S.wr.filter fun x => decide (nx ≤ x)) en⟩) (wv' := .slice ia il ic) 19 (.slice ia il ic) rfl)
            replace HOWN := Lib.hid (ownI_setOther HOWN.out (p := ⟨w.heap.size, 19, none⟩) hz6 (.slice ia il ic))
            have hzs9 : w6.heap.size ≤ (w'.setCell ⟨w.heap.size, 19, none⟩ (.slice ia il ic)).heap.size := by simpa using hsz10
            clear s0 s1 s2 s19 f19
            generalize w'.setCell ⟨w.heap.size, 19, none⟩ (.slice ia il ic) = w10 at HBX HOWN hzs9 ⊢
            have HSZ2 : Hid ((Try.prog.info? 25).map (·.size) = some (stCells ⟨nx, dv, dn, setRd S.rd x en, insN (S.wr.filter fun x => decide (nx ≤ x)) en⟩ (.slice ia il ic)).toArray.size) := by unfold Hid; kernel_rfl
            go_wp2_with (first
              | (refine wpList_load_row rfl 25 _ rfl w.heap.size rfl _ (stCells ⟨nx, dv, dn, setRd S.rd x en, insN (S.wr.filter fun x => decide (nx ≤ x)) en⟩ (.slice ia il ic)).toArray _ _ HBX.out.st Try.underlying25 rfl HSZ2.out ?_)
              | (refine wpList_store_rowTo rfl 25 _ _ rfl rfl (w.heap.size + 2) (stCells ⟨nx, dv, dn, setRd S.rd x en, insN (S.wr.filter fun x => decide (nx ≤ x)) en⟩ (.slice ia il ic)).toArray rfl rfl _ _ HBX.out.out HSZ2.out rfl (st_one _ _ rfl) ?_))
            have hns : nextS S op d a b extra = ⟨nx, dv, dn, setRd S.rd x en, insN (S.wr.filter fun x => decide (nx ≤ x)) en⟩ := by
              have h0 : ¬ wrOf op d = 0 := by rw [← HXE.out]; exact HX0.out
              have h1 : (wrOf op d).toNat = x := by rw [← HXE.out]; rfl
              unfold nextS
              simp only [← HLAE.out, ← HLT.out, ← HT.out, ← HEN.out, ← HNX.out, ← HDN.out, h0, h1, if_false]
              rw [← HDVE.out]
              rw [if_pos HNE.out]
            obtain ⟨e1, e2, e3⟩ := issue_end (S := S) (extra := extra) HBX.out HOWN.out (by omega) (by omega) hns _ rfl
            refine bodyPost_ret (results_row_two rfl _ _ (w.heap.size + 2) _ _ _ _ rfl e1 Try.underlying25 rfl HSZ2.out) rfl ⟨.slice ia il ic, ?_, e2, e3⟩
            rw [hns, ← HLAE.out, ← HLT.out, ← HT.out]
            rfl
          · have d1 : decide (nx ≤ en) = false := decide_eq_false hne
            have d2 : decide ((nx : Int) ≤ (en : Int)) = false := decide_eq_false (by omega)
            have HNE : Hid (¬ nx ≤ en) := hne
            have f19 := HBX.out.st.free 19
            go_upto_region 30 with fail
            replace HBX := Lib.hid (HBX.out.set (S' := ⟨nx, dv, dn, setRd S.rd x en, S.wr.filter fun x => decide (nx ≤ x)⟩) (wv' := .slice va vl vc) 19 (.slice va vl vc) rfl)
            replace HOWN := Lib.hid (ownI_setOther HOWN.out (p := ⟨w.heap.size, 19, none⟩) hz6 (.slice va vl vc))
            have hzs9 : w6.heap.size ≤ (w8.setCell ⟨w.heap.size, 19, none⟩ (.slice va vl vc)).heap.size := by simpa using hzs8
            clear s0 s1 s2 s19 f19
            generalize w8.setCell ⟨w.heap.size, 19, none⟩ (.slice va vl vc) = w9 at HBX HOWN hzs9 ⊢
            have HSZ2 : Hid ((Try.prog.info? 25).map (·.size) = some (stCells ⟨nx, dv, dn, setRd S.rd x en, S.wr.filter fun x => decide (nx ≤ x)⟩ (.slice va vl vc)).toArray.size) := by unfold Hid; kernel_rfl
            go_wp2_with (first
              | (refine wpList_load_row rfl 25 _ rfl w.heap.size rfl _ (stCells ⟨nx, dv, dn, setRd S.rd x en, S.wr.filter fun x => decide (nx ≤ x)⟩ (.slice va vl vc)).toArray _ _ HBX.out.st Try.underlying25 rfl HSZ2.out ?_)
              | (refine wpList_store_rowTo rfl 25 _ _ rfl rfl (w.heap.size + 2) (stCells ⟨nx, dv, dn, setRd S.rd x en, S.wr.filter fun x => decide (nx ≤ x)⟩ (.slice va vl vc)).toArray rfl rfl _ _ HBX.out.out HSZ2.out rfl (st_one _ _ rfl) ?_))
            have hns : nextS S op d a b extra = ⟨nx, dv, dn, setRd S.rd x en, S.wr.filter fun x => decide (nx ≤ x)⟩ := by
              have h0 : ¬ wrOf op d = 0 := by rw [← HXE.out]; exact HX0.out
              have h1 : (wrOf op d).toNat = x := by rw [← HXE.out]; rfl
              unfold nextS
              simp only [← HLAE.out, ← HLT.out, ← HT.out, ← HEN.out, ← HNX.out, ← HDN.out, h0, h1, if_false]
              rw [← HDVE.out]
              rw [if_neg HNE.out]
            obtain ⟨e1, e2, e3⟩ := issue_end (S := S) (extra := extra) HBX.out HOWN.out (by omega) (by omega) hns _ rfl
            refine bodyPost_ret (results_row_two rfl _ _ (w.heap.size + 2) _ _ _ _ rfl e1 Try.underlying25 rfl HSZ2.out) rfl ⟨.slice va vl vc, ?_, e2, e3⟩
            rw [hns, ← HLAE.out, ← HLT.out, ← HT.out]
            rfl
end Go.Proofs.Ytgcbdndfobiphab
