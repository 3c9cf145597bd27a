/- timing's Issue at any valid state: it returns. -/
import Derived.Test.YtgcbdndfobiphabStartH
import Derived.Test.YtgcbdndfobiphabCycles
namespace Go.Proofs.Ytgcbdndfobiphab
open Go.RowKit
set_option linter.unusedVariables false
set_option linter.unusedSimpArgs false

def setRdI (rd : Nat → Int) (r : Nat) (e : Int) : Nat → Int := fun i => if i = r then e else rd i
theorem ti_set0 (S : TI) (wv : Value) (e : Int) : (tiCells S wv).set 0 (.int .i64 e) = tiCells { S with next := e } wv := rfl
theorem ti_set1 (S : TI) (wv : Value) (e : Int) : (tiCells S wv).set 1 (.int .i64 e) = tiCells { S with div := e } wv := rfl
theorem ti_set2 (S : TI) (wv : Value) (e : Int) : (tiCells S wv).set 2 (.int .i64 e) = tiCells { S with done := e } wv := rfl
theorem ti_set19 (S : TI) (wv v : Value) : (tiCells S wv).set 19 v = tiCells S v := rfl
theorem ti_setR (S : TI) (wv : Value) (r : Nat) (e : Int) (h : r < 16) : (tiCells S wv).set (3 + r) (.int .i64 e) = tiCells { S with rd := setRdI S.rd r e } wv := by
  have hs : r = 0 ∨ r = 1 ∨ r = 2 ∨ r = 3 ∨ r = 4 ∨ r = 5 ∨ r = 6 ∨ r = 7 ∨ r = 8 ∨ r = 9 ∨ r = 10 ∨ r = 11 ∨ r = 12 ∨ r = 13 ∨ r = 14 ∨ r = 15 := by omega
  rcases hs with rfl | rfl | rfl | rfl | rfl | rfl | rfl | rfl | rfl | rfl | rfl | rfl | rfl | rfl | rfl | rfl <;> rfl

theorem ti_all {w : World} {b : Nat} {t : TypeId} {S : TI} {wv : Value} (h : Blk w b t (tiCells S wv)) : w.cell? ⟨b, 0, none⟩ = some (.int .i64 S.next) ∧ w.cell? ⟨b, 1, none⟩ = some (.int .i64 S.div) ∧ w.cell? ⟨b, 2, none⟩ = some (.int .i64 S.done) ∧ w.cell? ⟨b, 3, none⟩ = some (.int .i64 (S.rd 0)) ∧ w.cell? ⟨b, 4, none⟩ = some (.int .i64 (S.rd 1)) ∧ w.cell? ⟨b, 5, none⟩ = some (.int .i64 (S.rd 2)) ∧ w.cell? ⟨b, 6, none⟩ = some (.int .i64 (S.rd 3)) ∧ w.cell? ⟨b, 7, none⟩ = some (.int .i64 (S.rd 4)) ∧ w.cell? ⟨b, 8, none⟩ = some (.int .i64 (S.rd 5)) ∧ w.cell? ⟨b, 9, none⟩ = some (.int .i64 (S.rd 6)) ∧ w.cell? ⟨b, 10, none⟩ = some (.int .i64 (S.rd 7)) ∧ w.cell? ⟨b, 11, none⟩ = some (.int .i64 (S.rd 8)) ∧ w.cell? ⟨b, 12, none⟩ = some (.int .i64 (S.rd 9)) ∧ w.cell? ⟨b, 13, none⟩ = some (.int .i64 (S.rd 10)) ∧ w.cell? ⟨b, 14, none⟩ = some (.int .i64 (S.rd 11)) ∧ w.cell? ⟨b, 15, none⟩ = some (.int .i64 (S.rd 12)) ∧ w.cell? ⟨b, 16, none⟩ = some (.int .i64 (S.rd 13)) ∧ w.cell? ⟨b, 17, none⟩ = some (.int .i64 (S.rd 14)) ∧ w.cell? ⟨b, 18, none⟩ = some (.int .i64 (S.rd 15)) ∧ w.cell? ⟨b, 19, none⟩ = some wv :=
  ⟨h.cell 0, h.cell 1, h.cell 2, h.cell 3, h.cell 4, h.cell 5, h.cell 6, h.cell 7, h.cell 8, h.cell 9, h.cell 10, h.cell 11, h.cell 12, h.cell 13, h.cell 14, h.cell 15, h.cell 16, h.cell 17, h.cell 18, h.cell 19⟩

/-- the worlds in which Issue's three boxes stand -/
structure BoxI (w w' : World) (S : TI) (wv : Value) (op d a b n : Int) : Prop where
  below : Below w.heap.size w w'
  st : Blk w' w.heap.size 25 (tiCells S wv)
  op : Blk w' (w.heap.size + 1) 27 [.int .i64 op, .int .i64 d, .int .i64 a, .int .i64 b, .int .i64 n]
  out : Blk w' (w.heap.size + 2) 25 zCells
theorem BoxI.after {w w' w'' : World} {S : TI} {wv : Value} {op d a b n : Int} (h : BoxI w w' S wv op d a b n) (hb : Below w'.heap.size w' w'') : BoxI w w'' S wv op d a b n :=
  ⟨h.below.trans (hb.mono h.below.size), h.st.below hb h.st.lt, h.op.below hb h.op.lt, h.out.below hb h.out.lt⟩
theorem BoxI.new (w : World) (S : TI) (wv : Value) (op d a b n : Int) : BoxI w (((w.alloc (.cells (tiCells S wv).toArray 25)).alloc (.cells #[.int .i64 op, .int .i64 d, .int .i64 a, .int .i64 b, .int .i64 n] 27)).alloc (.cells #[.int .i64 0, .int .i64 0, .int .i64 0, .int .i64 0, .int .i64 0, .int .i64 0, .int .i64 0, .int .i64 0, .int .i64 0, .int .i64 0, .int .i64 0, .int .i64 0, .int .i64 0, .int .i64 0, .int .i64 0, .int .i64 0, .int .i64 0, .int .i64 0, .int .i64 0, .slice none 0 0] 25)) S wv op d a b n := by
  have h1 := Blk.new w (tiCells S wv) 25
  have h2 := Blk.new (w.alloc (.cells (tiCells S wv).toArray 25)) [.int .i64 op, .int .i64 d, .int .i64 a, .int .i64 b, .int .i64 n] 27
  have h3 := Blk.new ((w.alloc (.cells (tiCells S wv).toArray 25)).alloc (.cells #[.int .i64 op, .int .i64 d, .int .i64 a, .int .i64 b, .int .i64 n] 27)) zCells 25
  rw [World.size_alloc] at h2 h3
  rw [World.size_alloc] at h3
  exact ⟨(((Below.refl _ _).alloc (Nat.le_refl _) _).alloc (by simp) _).alloc (by simp; omega) _, (h1.alloc _).alloc _, h2.alloc _, h3⟩
theorem BoxI.set {w w' : World} {S S' : TI} {wv wv' : Value} {op d a b n : Int} (h : BoxI w w' S wv op d a b n) (i : Nat) (v : Value) (e : (tiCells S wv).set i v = tiCells S' wv') : BoxI w (w'.setCell ⟨w.heap.size, i, none⟩ v) S' wv' op d a b n :=
  ⟨h.below.setCell (Nat.le_refl _) _, by rw [← e]; exact h.st.set i v, h.op.setOther (by simp) v, h.out.setOther (by simp) v⟩

theorem BoxI.afterB {w w' w'' : World} {S : TI} {wv : Value} {op d a b n : Int} {base : Nat} (h : BoxI w w' S wv op d a b n) (hb : Below base w' w'') (hbase : w.heap.size + 3 ≤ base) : BoxI w w'' S wv op d a b n :=
  ⟨h.below.trans (hb.mono (by omega)), h.st.below hb (by omega), h.op.below hb (by omega), h.out.below hb (by omega)⟩
theorem ti_one (S : TI) (v : Value) (h : v.oneCell' = true) : (tiCells S v).toArray.all (·.oneCell') = true := by simp [tiCells, Value.oneCell'] at h ⊢; exact h
theorem ti_end {w w8 : World} {S' : TI} {v : Value} {op d a b n : Int} (hbx : BoxI w w8 S' v op d a b n) (cs : Array Value) (hcs : cs = (tiCells S' v).toArray)
    : (w8.setRow (w.heap.size + 2) cs).heap[w.heap.size + 2]? = some (.cells cs 25 (0, 0)) ∧ Below w.heap.size w (w8.setRow (w.heap.size + 2) cs) := by
  have hg := hbx.out
  unfold Blk at hg
  have h1 : (w8.setRow (w.heap.size + 2) cs).heap[w.heap.size + 2]? = some (.cells cs 25 (0, 0)) := by simp [World.setRow, Array.getElem?_modify, hg]
  have hgr : w8.grownBy (w8.setRow (w.heap.size + 2) cs) (some (w.heap.size + 2)) := ⟨rfl, rfl, rfl, by simp [World.setRow], fun k _ hk => by simp only [World.setRow, Array.getElem?_modify]; rw [if_neg (fun e => hk (by rw [e]))]⟩
  exact ⟨h1, hbx.below.trans (grown_below hgr (fun g hg => by simp at hg; omega) hbx.below.size)⟩
def IssueHPost (w : World) (e : Ending) (w' : World) : Prop :=
  ∃ (S' : TI) (va : Option Addr) (vl vc : Nat) (t : Int), e = .returned (.tuple #[.agg (tiCells S' (.slice va vl vc)).toArray, .int .i64 t, .int .i64 0]) ∧ Below w.heap.size w w'
theorem goodW_sorted {nx nx' : Int} {l : List Int} (h : goodW nx l) : (l.filter fun x => decide (nx' ≤ x)).Pairwise (· ≤ ·) := (h.2.filter _).imp (fun h => Int.le_of_lt h)
theorem stE_good {S : TI} (h : stE S = 0) : S.wr.length ≤ 16384 ∧ goodW S.next S.wr ∧ 0 ≤ S.next ∧ 0 ≤ S.div ∧ 0 ≤ S.done ∧ ∀ i, i < 16 → 0 ≤ S.rd i := by
  unfold stE at h
  split at h
  · omega
  · split at h
    · omega
    · split at h
      · rename_i h1 h2 h3
        refine ⟨by omega, h3, by omega, by omega, by omega, fun i hi => ?_⟩
        exact Int.not_lt.1 fun hn => h2 ⟨i, hi, hn⟩
      · omega
theorem ite_name (c : Prop) [Decidable c] (x y : Int) : ∃ z, z = if c then x else y := ⟨_, rfl⟩

set_option maxRecDepth 100000 in
set_option maxHeartbeats 4000000 in
theorem issue_any (S : TI) (wv : Value) (op d a b n : Int) (extra : Nat) (w : World) (hx : extra ≤ 10000) (hck : checkE op d a b n = 0) (hnx : I64 S.next) (hst : stE S = 0) (hw : WrI w wv S.wr) :
    Calls Try.prog 17 #[.agg (tiCells S wv).toArray, .agg #[.int .i64 op, .int .i64 d, .int .i64 a, .int .i64 b, .int .i64 n], .int .i64 (extra : Int)] w (IssueHPost w) := by
  obtain ⟨hd, ha, hb⟩ := good_regs hck
  obtain ⟨hwl, hgw, _⟩ := stE_good hst
  obtain ⟨wa, wc, hwv, _⟩ := id hw
  subst hwv
  have HTC := fun w h => Lib.hid ((tcheck_any S (.slice wa S.wr.length wc) w hnx h).mono (R' := fun e w' => e = .returned (.int .i64 0) ∧ Below w.heap.size w w') (fun e w' h => by obtain ⟨rfl, hb⟩ := h; rw [hst]; exact ⟨rfl, hb⟩))
  have HIC := fun w => Lib.hid ((check_any op d a b n w).mono (R' := fun e w' => e = .returned (.int .i64 0) ∧ Below w.heap.size w w') (fun e w' h => by obtain ⟨rfl, hb⟩ := h; rw [hck]; exact ⟨rfl, hb⟩))
  have HLA := fun w => Lib.hid (latency_any op w)
  have HWR := fun w => Lib.hid (writes_any op d a b n w)
  have HDV := fun w => Lib.hid (divides_any op w)
  have hdb' := wrOf_bd (op := op) hd
  obtain ⟨X, hX⟩ : ∃ X, X = wrOf op d := ⟨_, rfl⟩
  rw [← hX] at HWR hdb'
  clear hX
  have hlb := latOf_bd op
  obtain ⟨la, hla⟩ : ∃ la, la = latOf op := ⟨_, rfl⟩
  rw [← hla] at HLA hlb
  have HGO := fun w h => Lib.hid (start_any S (.slice wa S.wr.length wc) op d a b n (la + extra) w (by omega) hd ha hb hwl h)
  clear hla
  have HW := Lib.hid hw
  have HGW := Lib.hid hgw
  have HBX := Lib.hid (BoxI.new w S (.slice wa S.wr.length wc) op d a b n)
  have x1 : decide ((extra : Int) < 0) = false := decide_eq_false (by omega)
  have x2 : decide ((10000 : Int) < (extra : Int)) = false := decide_eq_false (by omega)
  obtain ⟨i0, hi0, hz0, hz1, hz2⟩ := info_parts Try.infoT3
  clear hst hck hgw hd ha hb
  go_enter Try.func17, Try.ntmps17
  go_upto_region 1 with fail
  generalize ((w.alloc (.cells (tiCells S (.slice wa S.wr.length wc)).toArray 25)).alloc (.cells #[.int .i64 op, .int .i64 d, .int .i64 a, .int .i64 b, .int .i64 n] 27)).alloc (.cells #[.int .i64 0, .int .i64 0, .int .i64 0, .int .i64 0, .int .i64 0, .int .i64 0, .int .i64 0, .int .i64 0, .int .i64 0, .int .i64 0, .int .i64 0, .int .i64 0, .int .i64 0, .int .i64 0, .int .i64 0, .int .i64 0, .int .i64 0, .int .i64 0, .int .i64 0, .slice none 0 0] 25) = w0 at HBX ⊢
  have HW0 := Lib.hid (HW.out.below HBX.out.below)
  have HSZ : Hid ((Try.prog.info? 25).map (·.size) = some (tiCells S (.slice wa S.wr.length wc)).toArray.size) := by unfold Hid; kernel_rfl
  obtain ⟨p0, p1, p2, p3, p4⟩ := op_cells5 HBX.out.op
  go_wp2_with (refine wpList_load_row rfl 25 _ rfl w.heap.size rfl _ (tiCells S (.slice wa S.wr.length wc)).toArray _ _ HBX.out.st Try.underlying25 rfl HSZ.out ?_)
  refine (HTC _ HW0.out).out.mono ?_
  rintro e w1 ⟨rfl, hb1⟩
  replace HBX := Lib.hid (HBX.out.after hb1)
  replace HW0 := Lib.hid (HW.out.below HBX.out.below)
  clear hb1 p0 p1 p2 p3 p4
  obtain ⟨p0, p1, p2, p3, p4⟩ := op_cells5 HBX.out.op
  go_wp2_with fail
  refine (HIC _).out.mono ?_
  rintro e w2 ⟨rfl, hb1⟩
  replace HBX := Lib.hid (HBX.out.after hb1)
  replace HW0 := Lib.hid (HW.out.below HBX.out.below)
  clear hb1 p0 p1 p2 p3 p4
  obtain ⟨p0, p1, p2, p3, p4⟩ := op_cells5 HBX.out.op
  go_wp2_with fail
  refine (HLA _).out.mono ?_
  rintro e w' ⟨rfl, rfl⟩
  go_wp2_with (refine wpList_load_row rfl 25 _ rfl w.heap.size rfl _ (tiCells S (.slice wa S.wr.length wc)).toArray _ _ HBX.out.st Try.underlying25 rfl HSZ.out ?_)
  obtain ⟨lat, hlat⟩ : ∃ lat, lat = la + extra := ⟨_, rfl⟩
  have hlE : (la : Int) + (extra : Int) = (lat : Int) := by omega
  rw [← hlat] at HGO
  have hlatb : 1 ≤ lat ∧ lat ≤ 10008 := by omega
  rw [hlE]
  refine (HGO _ HW0.out).out.mono ?_
  rintro e w3 ⟨⟨t, rfl⟩, hb1⟩
  replace HBX := Lib.hid (HBX.out.after hb1)
  replace HW0 := Lib.hid (HW.out.below HBX.out.below)
  clear hb1 p0 p1 p2 p3 p4 hlE HGO HLA HIC HTC hlat
  go_upto_region 12 with fail
  obtain ⟨en, hen⟩ : ∃ en, en = wrap64 (t + (lat : Int)) := ⟨_, rfl⟩
  rw [← hen]
  clear hen
  obtain ⟨p0, p1, p2, p3, p4⟩ := op_cells5 HBX.out.op
  obtain ⟨s0, s1, s2, _, s19⟩ := ti_cells HBX.out.st
  have f0 := HBX.out.st.free 0
  go_upto_region 13 with fail
  obtain ⟨nx, hnx'⟩ : ∃ nx, nx = wrap64 (wrap64 (t + 1) + (extra : Int)) := ⟨_, rfl⟩
  rw [← hnx']
  clear hnx'
  replace HBX := Lib.hid (HBX.out.set (S' := ⟨nx, S.div, S.done, S.rd, S.wr⟩) (wv' := .slice wa S.wr.length wc) 0 (.int .i64 nx) rfl)
  generalize w3.setCell ⟨w.heap.size, 0, none⟩ (.int .i64 nx) = w4 at HBX ⊢
  clear p0 p1 p2 p3 p4 s0 s1 s2 s19 f0
  replace HW0 := Lib.hid (HW.out.below HBX.out.below)
  obtain ⟨s0, s1, s2, _, s19⟩ := ti_cells HBX.out.st
  have f0 := HBX.out.st.free 2
  obtain ⟨sdn, hsdn⟩ : ∃ x, x = S.done := ⟨_, rfl⟩
  rw [← hsdn] at s2
  clear hsdn
  obtain ⟨db, hdb⟩ : ∃ db, db = divB op := ⟨_, rfl⟩
  rw [← hdb] at HDV
  clear hdb
  by_cases hm : sdn < en
  case' pos =>
    go_upto_region 14 with fail
    replace HBX := Lib.hid (HBX.out.set (S' := ⟨nx, S.div, en, S.rd, S.wr⟩) (wv' := .slice wa S.wr.length wc) 2 (.int .i64 en) rfl)
    generalize w4.setCell ⟨w.heap.size, 2, none⟩ (.int .i64 en) = w5 at HBX ⊢
    obtain ⟨dn, HBX⟩ : ∃ dn, Hid (BoxI w w5 ⟨nx, S.div, dn, S.rd, S.wr⟩ (.slice wa S.wr.length wc) op d a b n) := ⟨_, HBX⟩
  case' neg =>
    go_upto_region 14 with fail
    replace HBX := Lib.hid (HBX.out.set (S' := ⟨nx, S.div, sdn, S.rd, S.wr⟩) (wv' := .slice wa S.wr.length wc) 2 (.int .i64 sdn) rfl)
    generalize w4.setCell ⟨w.heap.size, 2, none⟩ (.int .i64 sdn) = w5 at HBX ⊢
    obtain ⟨dn, HBX⟩ : ∃ dn, Hid (BoxI w w5 ⟨nx, S.div, dn, S.rd, S.wr⟩ (.slice wa S.wr.length wc) op d a b n) := ⟨_, HBX⟩
  all_goals
    clear s0 s1 s2 s19 f0 hm
    replace HW0 := Lib.hid (HW.out.below HBX.out.below)
    obtain ⟨p0, p1, p2, p3, p4⟩ := op_cells5 HBX.out.op
    cases db
    case' true =>
      have f1 := HBX.out.st.free 1
      obtain ⟨s0, s1, s2, _, s19⟩ := ti_cells HBX.out.st
      go_wp2_with fail
      refine (HDV _).out.mono ?_
      rintro e w' ⟨rfl, rfl⟩
      go_upto_region 17 with fail
      replace HBX := Lib.hid (HBX.out.set (S' := ⟨nx, en, dn, S.rd, S.wr⟩) (wv' := .slice wa S.wr.length wc) 1 (.int .i64 en) rfl)
      clear f1
      generalize w5.setCell ⟨w.heap.size, 1, none⟩ (.int .i64 en) = w6 at HBX ⊢
      obtain ⟨dv, HBX⟩ : ∃ dv, Hid (BoxI w w6 ⟨nx, dv, dn, S.rd, S.wr⟩ (.slice wa S.wr.length wc) op d a b n) := ⟨_, HBX⟩
    case' false =>
      obtain ⟨s0, s1, s2, _, s19⟩ := ti_cells HBX.out.st
      go_wp2_with fail
      refine (HDV _).out.mono ?_
      rintro e w' ⟨rfl, rfl⟩
      go_upto_region 17 with fail
      generalize w5 = w6 at *
      obtain ⟨dv, HBX⟩ : ∃ dv, Hid (BoxI w w6 ⟨nx, dv, dn, S.rd, S.wr⟩ (.slice wa S.wr.length wc) op d a b n) := ⟨_, HBX⟩
    all_goals
      clear s0 s1 s2 s19 p0 p1 p2 p3 p4 HDV
      replace HW0 := Lib.hid (HW.out.below HBX.out.below)
      obtain ⟨wa', wc', he, hcm, _⟩ := HW0.out
      simp only [Value.slice.injEq, true_and] at he
      obtain ⟨rfl, rfl⟩ := he
      have hcle := hcm.le
      have hcmx := hcm.max
      have HC := Lib.hid hcm
      have hz6 := HBX.out.st.lt
      have hz63 := HBX.out.out.lt
      have HZ6 := Lib.hid HBX.out.below.size
      clear hcm
      obtain ⟨s0, s1, s2, _, s19⟩ := ti_cells HBX.out.st
      go_wp2_with fail
      go_loopw [14, 69] (fun p u wr => ∃ (k : Nat), k ≤ S.wr.length ∧ u = .int .i64 (k : Int) ∧ OwnI wr w6.heap.size p ((S.wr.take k).filter fun x => decide (nx ≤ x)) ∧ Below w6.heap.size w6 wr) (fun p u _ => S.wr.length - (intOf u).toNat)
      case atStart => exact ⟨0, Nat.zero_le _, rfl, World.ownsRow_nil _ _ _ _, Below.refl _ _⟩
      case round =>
        clear s0 s1 s2 s19
        obtain ⟨k, hk, rfl, hown, hbel⟩ := hrel
        obtain ⟨va, vl, vc, rfl⟩ := owns_shape hown
        have HOWN := Lib.hid hown
        have HBEL := Lib.hid hbel
        replace HBX := Lib.hid (HBX.out.after hbel)
        replace HC := Lib.hid (HC.out.below hbel)
        have hzs := hbel.size
        have hfl : ((S.wr.take k).filter fun x => decide (nx ≤ x)).length ≤ 16384 := by
          have := List.length_filter_le (fun x => decide (nx ≤ x)) (S.wr.take k)
          simp only [List.length_take] at this
          omega
        clear hown hbel
        by_cases hlt : k < S.wr.length
        · obtain ⟨b', off, ea, _, hcell⟩ := HC.out.ints (by omega)
          subst ea
          have cl := hcell k hlt
          obtain ⟨z, hz⟩ : ∃ z, z = S.wr[k] := ⟨_, rfl⟩
          rw [← hz] at cl
          obtain ⟨s0, s1, s2, _, s19⟩ := ti_cells HBX.out.st
          have HNF : Hid ((S.wr.take (k + 1)).filter (fun x => decide (nx ≤ x)) = (S.wr.take k).filter (fun x => decide (nx ≤ x)) ++ if nx ≤ z then [z] else []) := by
            unfold Hid
            rw [List.take_add_one, List.getElem?_eq_getElem hlt, List.filter_append, ← hz]
            congr 1
            by_cases h : nx ≤ z <;> simp [h]
          clear hcell hz s1 s2 s19
          by_cases hnz : nx ≤ z
          · have d2 : decide (nx ≤ z) = true := decide_eq_true hnz
            rw [if_pos hnz] at HNF
            clear hnz
            have hal : (wr.alloc (.cells #[.int .i64 z] 3)).ownsRow w6.heap.size 3 1 (.slice va vl vc) ((S.wr.take k).filter fun x => decide (nx ≤ x)).length (intVs ((S.wr.take k).filter fun x => decide (nx ≤ x))) := World.ownsRow.alloc HOWN.out _
            have HAL := Lib.hid hal
            have HA2 := Lib.hid (cell_one_new wr (.int .i64 z) 3)
            have HA3 : Hid (∀ u ∈ ([Value.int .i64 z] : List Value), u.oneCell' = true) := by intro u hu; simp at hu; subst hu; rfl
            clear hal
            go_wp2_with (at_builtin; refine wpList_append_own _ rfl _ _ 23 rfl w6.heap.size 3 i0 (.int .i64 0) 1 8 Try.underlying23 hi0 hz0 hz1 hz2 rfl (by decide) _ _ _ rfl HAL.out ⟨wr.heap.size, 0, none⟩ 1 1 [.int .i64 z] rfl rfl HA2.out HA3.out (by unfold maxLen; omega) (by omega) (by simp; omega) ?_)
            · intro v' w3 hown' hgrow _
              have HOW := Lib.hid hown'
              have hvb : ∀ q, (Value.slice va vl vc).ownBlock = some q → w6.heap.size ≤ q := fun q hq => (World.ownsRow.lt HOWN.out q hq).1
              have HB3 := Lib.hid ((HBEL.out.alloc (by omega) (.cells #[.int .i64 z] 3)).grown hgrow (by simp; omega) hvb)
              clear hown' hgrow hvb
              go_wp2
              go_roundw
              case rel => exact ⟨k + 1, by omega, by go_num, by
                rw [HNF.out]
                unfold OwnI
                rw [List.length_append, intVs_append]
                exact HOW.out, HB3.out⟩
              case measure => simp [intOf]; omega
          · have d2 : decide (nx ≤ z) = false := decide_eq_false hnz
            rw [if_neg hnz, List.append_nil] at HNF
            clear hnz
            go_wp2
            go_roundw
            case rel => exact ⟨k + 1, by omega, by go_num, by rw [HNF.out]; exact HOWN.out, HBEL.out⟩
            case measure => simp [intOf]; omega
        · have ek : k = S.wr.length := by omega
          subst ek
          rw [List.take_length] at HOWN hfl
          have HSR := Lib.hid (goodW_sorted (nx' := nx) HGW.out)
          obtain ⟨fl, hfle⟩ : ∃ fl, fl = S.wr.filter fun x => decide (nx ≤ x) := ⟨_, rfl⟩
          rw [← hfle] at HOWN hfl HSR
          clear hfle HGW
          obtain ⟨p0, p1, p2, p3, p4⟩ := op_cells5 HBX.out.op
          go_wp2_with fail
          refine (HWR _).out.mono ?_
          rintro e w' ⟨rfl, rfl⟩
          have hba : Below wr.heap.size wr (wr.alloc (.cells #[.int .i64 op, .int .i64 d, .int .i64 a, .int .i64 b, .int .i64 n] 27)) := (Below.refl _ _).alloc (Nat.le_refl _) _
          replace HBX := Lib.hid (HBX.out.after hba)
          have how : OwnI (wr.alloc (.cells #[.int .i64 op, .int .i64 d, .int .i64 a, .int .i64 b, .int .i64 n] 27)) w6.heap.size (.slice va vl vc) fl := World.ownsRow.alloc HOWN.out _
          replace HOWN := Lib.hid how
          have hzs7 : w6.heap.size ≤ (wr.alloc (.cells #[.int .i64 op, .int .i64 d, .int .i64 a, .int .i64 b, .int .i64 n] 27)).heap.size := by simp; omega
          clear p0 p1 p2 p3 p4 hba how HC HBEL hzs HWR
          generalize wr.alloc (.cells #[.int .i64 op, .int .i64 d, .int .i64 a, .int .i64 b, .int .i64 n] 27) = w7 at HBX HOWN hzs7 ⊢
          obtain ⟨s0, s1, s2, s3, s19⟩ := ti_cells HBX.out.st
          have f19 := HBX.out.st.free 19
          by_cases hx0 : X = 0
          · have q : (X != 0) = false := by rw [bne_eq_false_iff_eq]; exact hx0
            clear hx0 s3
            go_upto_region 30 with fail
            replace HBX := Lib.hid (HBX.out.set (S' := ⟨nx, dv, dn, S.rd, fl⟩) (wv' := .slice va vl vc) 19 (.slice va vl vc) rfl)
            clear s0 s1 s2 s19 f19
            generalize w7.setCell ⟨w.heap.size, 19, none⟩ (.slice va vl vc) = w8 at HBX ⊢
            have HSZ2 : Hid ((Try.prog.info? 25).map (·.size) = some (tiCells ⟨nx, dv, dn, S.rd, fl⟩ (.slice va vl vc)).toArray.size) := by unfold Hid; kernel_rfl
            go_wp2_with (first
              | (refine wpList_load_row rfl 25 _ rfl w.heap.size rfl _ (tiCells ⟨nx, dv, dn, S.rd, fl⟩ (.slice va vl vc)).toArray _ _ HBX.out.st Try.underlying25 rfl HSZ2.out ?_)
              | (refine wpList_store_rowTo rfl 25 _ _ rfl rfl (w.heap.size + 2) (tiCells ⟨nx, dv, dn, S.rd, fl⟩ (.slice va vl vc)).toArray rfl rfl _ _ HBX.out.out HSZ2.out rfl (ti_one _ _ rfl) ?_))
            obtain ⟨e1, e2⟩ := ti_end HBX.out _ rfl
            exact bodyPost_ret (results_row_two rfl _ _ (w.heap.size + 2) _ _ _ _ rfl e1 Try.underlying25 rfl HSZ2.out) rfl ⟨_, _, _, _, _, rfl, e2⟩
          · have q : (X != 0) = true := by rw [bne_iff_ne]; exact hx0
            obtain ⟨x, hx⟩ : ∃ x : Nat, X = (x : Int) := ⟨X.toNat, by omega⟩
            subst hx
            have hx16 : x < 16 := by omega
            have sx := s3 x hx16
            have fx := HBX.out.st.free (3 + x)
            clear hx0 s3
            go_upto_region 26 with fail
            replace HBX := Lib.hid (HBX.out.set (S' := ⟨nx, dv, dn, setRdI S.rd x en, S.wr⟩) (wv' := .slice wa S.wr.length wc) (3 + x) (.int .i64 en) (ti_setR _ _ x en hx16))
            replace HOWN := Lib.hid (ownI_setOther HOWN.out (p := ⟨w.heap.size, 3 + x, none⟩) hz6 (.int .i64 en))
            have hzs8 : w6.heap.size ≤ (w7.setCell ⟨w.heap.size, 3 + x, none⟩ (.int .i64 en)).heap.size := by simpa using hzs7
            clear s0 s1 s2 s19 f19 sx fx hzs7
            generalize w7.setCell ⟨w.heap.size, 3 + x, none⟩ (.int .i64 en) = w8 at HBX HOWN hzs8 ⊢
            obtain ⟨s0, s1, s2, s3, s19⟩ := ti_cells HBX.out.st
            clear s3
            by_cases hne : nx ≤ en
            · have d2 : decide (nx ≤ en) = true := decide_eq_true hne
              have hcs := ownI_came HOWN.out
              have HVL := Lib.hid hcs.1
              have HSE := Lib.hid (search_ints w8 va vl vc _ en hcs.2 (by have := HVL.out; omega) HSR.out)
              clear hcs
              go_wp2_with fail
              refine HSE.out.mono ?_
              rintro e w' ⟨qn, rfl, rfl⟩
              replace HBX := Lib.hid (HBX.out.after (below_drewN_self _ w8 qn))
              have how : OwnI (w8.drewN qn) w6.heap.size (.slice va vl vc) fl := HOWN.out
              replace HOWN := Lib.hid how
              have hzs9 : w6.heap.size ≤ (w8.drewN qn).heap.size := hzs8
              clear HSE how hzs8 s0 s1 s2 s19
              generalize w8.drewN qn = w9 at HBX HOWN hzs9 ⊢
              obtain ⟨kk, hkk⟩ : ∃ kk, kk = List.countP (fun y => decide (y < en)) fl := ⟨_, rfl⟩
              have hkl : kk ≤ fl.length := by rw [hkk]; exact List.countP_le_length
              rw [← hkk]
              clear hkk
              go_wp2_with fail
              have how9 : OwnI (w9.alloc (.cells #[.int .i64 en] 3)) w6.heap.size (.slice va vl vc) fl := World.ownsRow.alloc HOWN.out _
              have hb9 : Below w9.heap.size w9 (w9.alloc (.cells #[.int .i64 en] 3)) := (Below.refl _ _).alloc (Nat.le_refl _) _
              refine (insi_any _ w6.heap.size kk (.slice va vl vc) _ en w9.heap.size how9 hkl (by omega) (by simp; omega) (heap_alloc_new w9 _) (fun e => by have := (World.ownsRow.lt HOWN.out _ e).2; omega)).mono ?_
              rintro e w' ⟨v', rfl, hown', hbel'⟩
              obtain ⟨ia, il, ic, hv'⟩ := owns_shape hown'
              subst hv'
              replace HBX := Lib.hid ((HBX.out.after hb9).afterB hbel' (by omega))
              clear how9 hb9 hown' hbel' hkl
              obtain ⟨s0, s1, s2, s3, s19⟩ := ti_cells HBX.out.st
              have f19 := HBX.out.st.free 19
              clear s3
              go_upto_region 30 with fail
              replace HBX := Lib.hid (HBX.out.set (S' := ⟨nx, dv, dn, setRdI S.rd x en, fl⟩) (wv' := .slice ia il ic) 19 (.slice ia il ic) rfl)
              clear s0 s1 s2 s19 f19
              generalize w'.setCell ⟨w.heap.size, 19, none⟩ (.slice ia il ic) = w10 at HBX ⊢
              have HSZ2 : Hid ((Try.prog.info? 25).map (·.size) = some (tiCells ⟨nx, dv, dn, setRdI S.rd x en, fl⟩ (.slice ia il ic)).toArray.size) := by unfold Hid; kernel_rfl
              go_wp2_with (first
                | (refine wpList_load_row rfl 25 _ rfl w.heap.size rfl _ (tiCells ⟨nx, dv, dn, setRdI S.rd x en, fl⟩ (.slice ia il ic)).toArray _ _ HBX.out.st Try.underlying25 rfl HSZ2.out ?_)
                | (refine wpList_store_rowTo rfl 25 _ _ rfl rfl (w.heap.size + 2) (tiCells ⟨nx, dv, dn, setRdI S.rd x en, fl⟩ (.slice ia il ic)).toArray rfl rfl _ _ HBX.out.out HSZ2.out rfl (ti_one _ _ rfl) ?_))
              obtain ⟨e1, e2⟩ := ti_end HBX.out _ rfl
              exact bodyPost_ret (results_row_two rfl _ _ (w.heap.size + 2) _ _ _ _ rfl e1 Try.underlying25 rfl HSZ2.out) rfl ⟨_, _, _, _, _, rfl, e2⟩
            · have d2 : decide (nx ≤ en) = false := decide_eq_false hne
              have f19 := HBX.out.st.free 19
              go_upto_region 30 with fail
              replace HBX := Lib.hid (HBX.out.set (S' := ⟨nx, dv, dn, setRdI S.rd x en, fl⟩) (wv' := .slice va vl vc) 19 (.slice va vl vc) rfl)
              clear s0 s1 s2 s19 f19
              generalize w8.setCell ⟨w.heap.size, 19, none⟩ (.slice va vl vc) = w9 at HBX ⊢
              have HSZ2 : Hid ((Try.prog.info? 25).map (·.size) = some (tiCells ⟨nx, dv, dn, setRdI S.rd x en, fl⟩ (.slice va vl vc)).toArray.size) := by unfold Hid; kernel_rfl
              go_wp2_with (first
                | (refine wpList_load_row rfl 25 _ rfl w.heap.size rfl _ (tiCells ⟨nx, dv, dn, setRdI S.rd x en, fl⟩ (.slice va vl vc)).toArray _ _ HBX.out.st Try.underlying25 rfl HSZ2.out ?_)
                | (refine wpList_store_rowTo rfl 25 _ _ rfl rfl (w.heap.size + 2) (tiCells ⟨nx, dv, dn, setRdI S.rd x en, fl⟩ (.slice va vl vc)).toArray rfl rfl _ _ HBX.out.out HSZ2.out rfl (ti_one _ _ rfl) ?_))
              obtain ⟨e1, e2⟩ := ti_end HBX.out _ rfl
              exact bodyPost_ret (results_row_two rfl _ _ (w.heap.size + 2) _ _ _ _ rfl e1 Try.underlying25 rfl HSZ2.out) rfl ⟨_, _, _, _, _, rfl, e2⟩
end Go.Proofs.Ytgcbdndfobiphab
