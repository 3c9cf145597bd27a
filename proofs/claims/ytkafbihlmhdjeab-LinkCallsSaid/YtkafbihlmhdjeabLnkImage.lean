/- What image makes of the code: words are patched, beginnings are listed. Plain facts. Where image's second loop stands. The linker's image: code, addresses, beginnings. -/
import Derived.Test.YtkafbihlmhdjeabLnkMaps
import Derived.Test.YtkafbihlmhdjeabRelaxEnc
import Derived.Test.YtkafbihlmhdjeabDecAll
import Derived.Test.YtkafbihlmhdjeabRow2
import Derived.Laws.OwnMore
import Derived.Great.BuildSlice
namespace Go.Proofs.Ytkafbihlmhdjeab
open Go.RowKit
set_option linter.unusedVariables false
set_option linter.unusedSimpArgs false

def patch1 (P : Nat → Int) (cd : List Int) (x : Int × Int) : List Int := cd.set (P x.1.toNat + 1).toNat (2 * P x.2.toNat + 1)
def patch (P : Nat → Int) (ads : List (Int × Int)) (code : List Int) : List Int := ads.foldl (patch1 P) code
theorem patch_len (P : Nat → Int) : ∀ (ads : List (Int × Int)) (code : List Int), (patch P ads code).length = code.length
  | [], code => rfl
  | x :: ads, code => by
    have h := patch_len P ads (patch1 P code x)
    unfold patch at h ⊢
    rw [List.foldl_cons, h]
    unfold patch1
    simp
def repsL (c : Nat → Nat) (n : Nat) : List Nat := (List.range n).filter fun i => c i == i
theorem repsL_succ (c : Nat → Nat) (n : Nat) : repsL c (n + 1) = repsL c n ++ (if c n = n then [n] else []) := by
  unfold repsL
  rw [List.range_succ, List.filter_append]
  by_cases h : c n = n
  · simp [h]
  · simp [h]
theorem repsL_len (c : Nat → Nat) (n : Nat) : (repsL c n).length ≤ n := by
  unfold repsL
  exact Nat.le_trans (List.length_filter_le _ _) (by simp)
theorem came_sub {w : World} {g m b k : Nat} {z : Nat → Int} (h : Blk w g 3 (rowL m fun i => .int .i64 (z i))) (hb : b + k ≤ m) (hm : m ≤ 9223372036854775807) (cap : Nat) (hc : k ≤ cap) (hc2 : cap ≤ 9223372036854775807) :
    Came w (some ⟨g, b, none⟩) k cap 1 (((List.range k).map fun i => z (b + i)).map intCells) := by
  refine ⟨by simp, hc, hc2, fun h => (by cases h), ?_, fun _ _ => ⟨g, b, rfl, h.lt, fun i v hv j hj => ?_⟩⟩
  · intro v hv
    obtain ⟨y, _, rfl⟩ := List.mem_map.1 hv
    rfl
  · obtain rfl : j = 0 := by omega
    rw [List.getElem?_map] at hv
    obtain ⟨y, hy, rfl⟩ := Option.map_eq_some_iff.1 hv
    have hi : i < k := by have := (List.getElem?_eq_some_iff.1 hy).1; simpa using this
    rw [List.getElem?_map, List.getElem?_range hi] at hy
    have hy' : z (b + i) = y := by simpa using hy
    have h1 := h.row (i := b + i) (by omega)
    rw [hy'] at h1
    have e : b + (i * 1 + 0) = b + i := by omega
    rw [e, h1]
    rfl
def zImg : List Value := [.slice none 0 0, .int .i64 0, .slice none 0 0, .slice none 0 0, .slice none 0 0]
/-- the images of an error -/
def NoImage (c : Int) (w : World) (e : Ending) (w' : World) : Prop := e = .returned (.tuple #[.agg #[.slice none 0 0, .int .i64 0, .slice none 0 0, .slice none 0 0, .slice none 0 0], .slice none 0 0, .int .i64 c]) ∧ Below w.heap.size w w'
structure ImgOk (its : List Item) (ads : List (Int × Int)) (long : Bool) (n : Nat) (c b : Nat → Nat) (base : Nat) (w' : World) (L : Nat → Bool) (vc vs vm : Value) (ga : Nat) : Prop where
  sizes : SizesOf its its.length L
  fits : posL (allL its long L) its.length ≤ 16384
  code : w'.ownsRow base 3 1 vc (patch (posL (allL its long L)) ads (codeTo its (allL its long L) its.length)).length ((patch (posL (allL its long L)) ads (codeTo its (allL its long L) its.length)).map (Value.int .i64))
  starts : w'.ownsRow base 3 1 vs ((repsL c n).map fun r => posL (allL its long L) (b r)).length (((repsL c n).map fun r => posL (allL its long L) (b r)).map (Value.int .i64))
  maps : ∃ a m k, vm = .slice a m k
  row : Blk w' ga 3 (rowL n fun i => .int .i64 (posL (allL its long L) (b (c i))))
def ImgPost (its : List Item) (ads : List (Int × Int)) (long : Bool) (n : Nat) (c b : Nat → Nat) (w : World) (e : Ending) (w' : World) : Prop :=
  ((16384 < its.length ∨ ∃ L, SizesOf its its.length L ∧ 16384 < posL (allL its long L) its.length) ∧ NoImage 2 w e w') ∨ (its.length ≤ 16384 ∧ Below w.heap.size w w' ∧ ∃ L vc vs vm ga, e = .returned (.tuple #[.agg #[vc, .int .i64 0, vs, vm, .slice none 0 0], .slice (some ⟨ga, 0, none⟩) n n, .int .i64 0]) ∧ ImgOk its ads long n c b w.heap.size w' L vc vs vm ga)
theorem results_row_twoL {P : Program} {fn : Func} {p u v : Tmp} {ty : TypeId} (h : fn.results = #[.cell p ty, .tmp u, .tmp v]) (tmps : Array Value) (w : World) (g : Nat) (t : TypeId) (cs : Array Value) (fr : Nat × Nat) (d : TypeDesc)
    (hp : tmps.getD p undef = .pointer (some ⟨g, 0, none⟩)) (hg : w.heap[g]? = some (.cells cs t fr))
    (hu : P.underlying ty = some d) (hd : (match d with | .struct _ | .array _ _ => true | _ => false) = true) (hi : (P.info? ty).map (·.size) = some cs.size) :
    (results fn tmps).run P w = .ok (.tuple #[.agg cs, tmps.getD u undef, tmps.getD v undef]) w := by
  have hp' : tmps[p]?.getD undef = .pointer (some ⟨g, 0, none⟩) := by simpa using hp
  simp [results, h, hp', asAddr, run_loadVar_row w g t ty cs fr d hg hu hd hi]
theorem setRowBlkL {w : World} {g : Nat} {t : TypeId} {old : List Value} (h : Blk w g t old) (cs : List Value) : Blk (w.setRow g cs.toArray) g t cs := by
  unfold Blk at h ⊢
  simp [World.setRow, Array.getElem?_modify, h]
theorem setRow_rest (w : World) (g : Nat) (cs : Array Value) : Rest1 g w (w.setRow g cs) := ⟨rfl, rfl, rfl, by simp [World.setRow], fun k _ hk => by simp only [World.setRow, Array.getElem?_modify]; rw [if_neg (fun e => hk (by rw [e]))]⟩
theorem ads_long {its : List Item} {n : Nat} {L : Nat → Bool} (h : SizesOf its n L) (hl : its.length = n) {long : Bool} {i : Nat} (hi : i < n) (hb : baseL its i = true) : 0 ≤ posL (allL its long L) i ∧ posL (allL its long L) i + 1 < posL (allL its long L) n := by
  have h1 := (posL_bd (allL its long L) i).1
  have h2 : allL its long L i = true := by unfold allL; rw [h.holds.base i hi hb]; rfl
  have h3 := pos_lt (allL its long L) (i + 1) (n - (i + 1))
  rw [show i + 1 + (n - (i + 1)) = n by omega] at h3
  have h4 : posL (allL its long L) (i + 1) = posL (allL its long L) i + 2 := by
    show posL (allL its long L) i + (if allL its long L i = true then 2 else 1) = _
    rw [if_pos h2]
  omega

set_option maxRecDepth 100000 in
theorem run_appM (w : World) (ty : TypeId) (v : Value) (base n : Nat) (xs : List Value) (h : w.ownsRow base 121 4 v n xs) (u : Value) (base' m : Nat) (ys : List Value) (h' : w.ownsRow base' 121 4 u m ys) (hone : ∀ x ∈ ys, x.oneCell' = true) (hb : n + m ≤ 100000000) (hbase : base ≤ w.heap.size) :
    ∃ v' w', (Builtin.append_ #[57, 57] ty #[v, u]).run Try.prog w = .ok v' w' ∧ w'.ownsRow base 121 4 v' (n + m) (xs ++ ys) ∧ w.grownBy w' v.ownBlock := by
  obtain ⟨i, hi, hz, hs, hby⟩ := info_parts Try.infoM121
  rcases h'.2 with ⟨rfl, rfl⟩ | ⟨g, c, cur, rfl, h1, h2, h3, h4, h5, h6⟩
  · have hy : ys = [] := List.eq_nil_of_length_eq_zero (by have := h'.1; omega)
    subst hy
    exact ⟨v, w, run_append_owned_none (P := Try.prog) (w := w) base 57 ty 121 i 4 Try.underlying57 hi v n _ h, by simpa using h, ⟨rfl, rfl, rfl, Nat.le_refl _, fun _ _ _ => rfl⟩⟩
  · obtain ⟨v', w', e1, e2, e3, _⟩ := run_append_own (P := Try.prog) w base 57 ty 121 i (.agg #[.int .i64 0, .int .i64 0, .slice none 0 0, .int .i64 0]) 4 48 Try.underlying57 hi hz hs hby rfl (by decide) v n _ h ⟨g, 0, none⟩ m c ys h'.1 (fun j u hu => by
      have hj : j < m * 4 := by have := (List.getElem?_eq_some_iff.1 hu).1; have := h'.1; omega
      rw [Addr.add_lit, Nat.zero_add, (ownG_cellAt h' hj).1]
      exact hu) hone (by unfold maxLen; omega) (by omega) hbase
    exact ⟨v', w', e1, e2, e3⟩

def rowsB (P : Nat → Int) (b : Nat → Nat) (c : Nat → Nat) (i : Nat) : List Int := (repsL c i).map fun r => P (b r)
theorem rowsB_len (P : Nat → Int) (b : Nat → Nat) (c : Nat → Nat) (i : Nat) : (rowsB P b c i).length ≤ i := by unfold rowsB; simpa using repsL_len c i
theorem rowsB_next (P : Nat → Int) (b : Nat → Nat) (c : Nat → Nat) (i : Nat) (h : ¬ c i = i) : rowsB P b c (i + 1) = rowsB P b c i := by unfold rowsB; rw [repsL_succ, if_neg h, List.append_nil]
theorem rowsB_rep (P : Nat → Int) (b : Nat → Nat) (c : Nat → Nat) (i : Nat) (h : c i = i) : rowsB P b c (i + 1) = rowsB P b c i ++ [P (b i)] := by unfold rowsB; rw [repsL_succ, if_pos h, List.map_append]; rfl
structure ImgSt (w3 wr : World) (S n : Nat) (vcode : Value) (P : Nat → Int) (c b : Nat → Nat) (i j k : Nat) (vs vm : Value) (lm : List Value) : Prop where
  be : Below S w3 wr
  box : Blk wr S 60 [vcode, .int .i64 0, vs, vm, .slice none 0 0]
  row : Blk wr (S + 1) 3 (rowL n fun q => .int .i64 (if q < i then P (b (c q)) else 0))
  st : wr.ownsRow (S + 2) 3 1 vs (rowsB P b c j).length ((rowsB P b c j).map (Value.int .i64))
  mp : wr.ownsRow (S + 2) 121 4 vm k lm
  one : ∀ u ∈ lm, u.oneCell' = true
theorem ImgSt.later {w3 wr wx : World} {S n : Nat} {vcode : Value} {P : Nat → Int} {c b : Nat → Nat} {i j k : Nat} {vs vm : Value} {lm : List Value} (h : ImgSt w3 wr S n vcode P c b i j k vs vm lm) (hb : Below wr.heap.size wr wx) : ImgSt w3 wx S n vcode P c b i j k vs vm lm :=
  ⟨h.be.trans (hb.mono (Nat.le_of_lt h.box.lt)), h.box.below hb h.box.lt, h.row.below hb h.row.lt, ownG_below h.st hb, ownG_below h.mp hb, h.one⟩
theorem ImgSt.lt {w3 wr : World} {S n : Nat} {vcode : Value} {P : Nat → Int} {c b : Nat → Nat} {i j k : Nat} {vs vm : Value} {lm : List Value} (h : ImgSt w3 wr S n vcode P c b i j k vs vm lm) : S < wr.heap.size ∧ S + 1 < wr.heap.size ∧ S + 2 ≤ wr.heap.size := ⟨h.box.lt, h.row.lt, h.row.lt⟩
theorem ImgSt.putRow {w3 wr : World} {S n : Nat} {vcode : Value} {P : Nat → Int} {c b : Nat → Nat} {i j k : Nat} {vs vm : Value} {lm : List Value} (h : ImgSt w3 wr S n vcode P c b i j k vs vm lm) (q : Int) (hq : P (b (c i)) = q) : ImgSt w3 (wr.setCell ⟨S + 1, i, none⟩ (.int .i64 q)) S n vcode P c b (i + 1) j k vs vm lm := by
  refine ⟨h.be.setCell (p := (⟨S + 1, i, none⟩ : Addr)) (Nat.le_succ S) _, Blk.setOther h.box (a := ⟨S + 1, i, none⟩) (by show S ≠ S + 1; omega) _, ?_, ?_, ?_, h.one⟩
  · refine Blk.rowCongr (Blk.rowSet h.row i (.int .i64 q)) fun r hr => ?_
    by_cases e : r = i
    · subst e; simp [hq]
    · rw [if_neg e]
      by_cases e2 : r < i
      · rw [if_pos e2, if_pos (by omega)]
      · rw [if_neg e2, if_neg (by omega)]
  · exact ownG_other (a := ⟨S + 1, i, none⟩) h.st (fun e => by have := (h.st.lt _ e).1; simp at this <;> omega) _
  · exact ownG_other (a := ⟨S + 1, i, none⟩) h.mp (fun e => by have := (h.mp.lt _ e).1; simp at this <;> omega) _
theorem ImgSt.growS {w3 wr w' : World} {S n : Nat} {vcode : Value} {P : Nat → Int} {c b : Nat → Nat} {i j k : Nat} {vs vm : Value} {lm : List Value} (h : ImgSt w3 wr S n vcode P c b i j k vs vm lm) {v' : Value} {j' : Nat} (hown : w'.ownsRow (S + 2) 3 1 v' (rowsB P b c j').length ((rowsB P b c j').map (Value.int .i64))) (hg : wr.grownBy w' vs.ownBlock) :
    ImgSt w3 (w'.setCell ⟨S, 2, none⟩ v') S n vcode P c b i j' k v' vm lm := by
  have hS := h.lt
  have hne : ∀ q, q < S + 2 → q < wr.heap.size → w'.heap[q]? = wr.heap[q]? := fun q hq hw => hg.block q hw (fun e => by have := (h.st.lt _ e.symm).1; omega)
  have hbe : Below S w3 w' := h.be.grown hg (by omega) (fun q e => by have := (h.st.lt _ e).1; omega)
  have hbx := (h.box.of_heap (hne S (by omega) hS.1)).set 2 v'
  refine ⟨hbe.setCell (p := (⟨S, 2, none⟩ : Addr)) (Nat.le_refl S) _, hbx, Blk.setOther (h.row.of_heap (hne (S + 1) (by omega) hS.2.1)) (a := ⟨S, 2, none⟩) (by show S + 1 ≠ S; omega) _, ?_, ?_, h.one⟩
  · exact ownG_other (a := ⟨S, 2, none⟩) hown (fun e => by have := (hown.lt _ e).1; simp at this <;> omega) _
  · refine ownG_other (a := ⟨S, 2, none⟩) (ownG_kept h.mp fun g hgb => hg.block g (h.mp.lt g hgb).2 fun e => own_ty2 h.mp h.st (by decide) g hgb e.symm) (fun e => by have := (h.mp.lt _ e).1; simp at this <;> omega) _
theorem ImgSt.growM {w3 wr w' : World} {S n : Nat} {vcode : Value} {P : Nat → Int} {c b : Nat → Nat} {i j k k' : Nat} {vs vm : Value} {lm lm' : List Value} (h : ImgSt w3 wr S n vcode P c b i j k vs vm lm) {v' : Value} (hown : w'.ownsRow (S + 2) 121 4 v' k' lm') (hone : ∀ u ∈ lm', u.oneCell' = true) (hg : wr.grownBy w' vm.ownBlock) :
    ImgSt w3 (w'.setCell ⟨S, 3, none⟩ v') S n vcode P c b i j k' vs v' lm' := by
  have hS := h.lt
  have hne : ∀ q, q < S + 2 → q < wr.heap.size → w'.heap[q]? = wr.heap[q]? := fun q hq hw => hg.block q hw (fun e => by have := (h.mp.lt _ e.symm).1; omega)
  have hbe : Below S w3 w' := h.be.grown hg (by omega) (fun q e => by have := (h.mp.lt _ e).1; omega)
  have hbx := (h.box.of_heap (hne S (by omega) hS.1)).set 3 v'
  refine ⟨hbe.setCell (p := (⟨S, 3, none⟩ : Addr)) (Nat.le_refl S) _, hbx, Blk.setOther (h.row.of_heap (hne (S + 1) (by omega) hS.2.1)) (a := ⟨S, 3, none⟩) (by show S + 1 ≠ S; omega) _, ?_, ?_, hone⟩
  · refine ownG_other (a := ⟨S, 3, none⟩) (ownG_kept h.st fun g hgb => hg.block g (h.st.lt g hgb).2 fun e => own_ty2 h.st h.mp (by decide) g hgb e.symm) (fun e => by have := (h.st.lt _ e).1; simp at this <;> omega) _
  · exact ownG_other (a := ⟨S, 3, none⟩) hown (fun e => by have := (hown.lt _ e).1; simp at this <;> omega) _

theorem zero5 : (#[.slice none 0 0, .int .i64 0, .slice none 0 0, .slice none 0 0, .slice none 0 0] : Array Value).all (·.oneCell') = true := by kernel_rfl
theorem five_one (a : Option Addr) (n c : Nat) (a2 : Option Addr) (n2 c2 : Nat) (a3 : Option Addr) (n3 c3 : Nat) : (#[.slice a n c, .int .i64 0, .slice a2 n2 c2, .slice a3 n3 c3, .slice none 0 0] : Array Value).all (·.oneCell') = true := by simp [Value.oneCell']
/-- what is known where image is called -/
structure ImgIn (w0 w : World) (B p : Nat) (vi vb va : Value) (its : List Item) (bg : List Int) (ads : List (Int × Int)) (a : Option Addr) (n cp : Nat) (l : List LF) (gc : Nat) (c b : Nat → Nat) : Prop where
  lk : LK B w p vi vb va its bg ads
  fns : Lnk w0 a n cp l
  hB : w0.heap.size ≤ B
  below : Below w0.heap.size w0 w
  cls : ClsAt w0 gc n c
  crep : ∀ i, i < n → c i < n ∧ c (c i) = c i
  bgl : bg.length = n
  bgv : ∀ i, i < n → c i = i → bg[i]? = some ((b i : Nat) : Int)
  bgf : ∀ i (hi : i < l.length), c i = i → b i + l[i].il ≤ its.length
  fok : ∀ f ∈ l, mapsE f.il (-1) f.maps = 0 ∧ 0 < f.il ∧ f.il ≤ 16384
  hn : n ≤ 256
  items : its.length ≤ 16384 → itemsE its = 0
  adok : ∀ x ∈ ads, 0 ≤ x.1 ∧ x.1.toNat < its.length ∧ baseL its x.1.toNat = true ∧ 0 ≤ x.2 ∧ x.2.toNat < its.length
  adl : ads.length ≤ 100000000
  itl : its.length ≤ 100000000

set_option maxRecDepth 100000 in
set_option maxHeartbeats 8000000 in
theorem image_any (w0 w : World) (B p : Nat) (vi vb va : Value) (its : List Item) (bg : List Int) (ads : List (Int × Int)) (a : Option Addr) (n cp : Nat) (l : List LF) (gc : Nat) (c b : Nat → Nat) (long : Bool) (h : ImgIn w0 w B p vi vb va its bg ads a n cp l gc c b) :
    Calls Try.prog 50 #[.pointer (some ⟨p, 0, none⟩), .slice a n cp, .slice (some ⟨gc, 0, none⟩) n n, .bool long] w (ImgPost its ads long n c b w) := by
  have H := Lib.hid h
  obtain ⟨ai, ci, ab, cb, aa, ca, rfl, rfl, rfl⟩ := h.lk.shapes
  have hpl := h.lk.box.lt
  obtain ⟨nt, hnt⟩ : ∃ nt, nt = its.length := ⟨_, rfl⟩
  obtain ⟨na, hna⟩ : ∃ na, na = ads.length := ⟨_, rfl⟩
  have hnab : na ≤ 100000000 := by rw [hna]; exact h.adl
  have hntb : nt ≤ 100000000 := by rw [hnt]; exact h.itl
  have hnn := h.hn
  have hnl := h.fns.len
  have hnm := h.fns.came.le
  have hnx := h.fns.came.max
  have hbl := h.bgl
  have p0 : w.cell? ⟨p, 0, none⟩ = some (.slice ai its.length ci) := h.lk.box.cell 0
  have p2 : w.cell? ⟨p, 2, none⟩ = some (.slice aa ads.length ca) := h.lk.box.cell 2
  rw [← hnt] at p0
  rw [← hna] at p2
  have HNT := Lib.hid hnt
  have HNA := Lib.hid hna
  have HB1 : Hid (Below w.heap.size w (w.alloc (.cells #[.slice none 0 0, .int .i64 0, .slice none 0 0, .slice none 0 0, .slice none 0 0] 60))) := (Below.refl _ _).alloc (Nat.le_refl _) _
  have HR1 : Hid (Blk (w.alloc (.cells #[.slice none 0 0, .int .i64 0, .slice none 0 0, .slice none 0 0, .slice none 0 0] 60)) w.heap.size 60 zImg) := Blk.new w zImg 60
  have hcm := came_of_ownsG (w := w) (sz := 6) (E := itemCells) (zs := its) (by omega) itC_len hnt.symm (by rw [hnt]; exact h.lk.oi)
  obtain ⟨ai', ci', hv, hcame⟩ := hcm
  rw [← hnt] at hv
  injection hv with e1 e2 e3
  subst e1 e3
  have HCI := Lib.hid (hcame.below HB1.out)
  have HSZ : Hid ((Try.prog.info? 60).map (·.size) = some 5) := by unfold Hid; kernel_rfl
  clear h hnt hna hcame
  go_enter Try.func50, Try.ntmps50
  go_wp2_with fail
  generalize hw1 : (w.alloc (.cells #[.slice none 0 0, .int .i64 0, .slice none 0 0, .slice none 0 0, .slice none 0 0] 60)) = w1 at HB1 HR1 HCI ⊢
  have HW1S : Hid (w1.heap.size = w.heap.size + 1) := by show _ = _; rw [← hw1]; simp
  have HBW1 : Hid (Below w.heap.size w w1) := HB1.out
  have HNL : Hid (l.length = n ∧ bg.length = n) := ⟨hnl, hbl⟩
  clear hw1 hnl hbl
  have HENC : Hid (Calls Try.prog 64 #[.slice ai nt ci, .bool long] w1 (fun e w' => ((16384 < nt ∨ ∃ L, SizesOf its nt L ∧ 16384 < posL (allL its long L) nt) ∧ NoCode 2 w1 e w') ∨ ((nt ≤ 16384 ∧ itemsE its = 0) ∧ EncPostX its nt long w1 e w'))) := by
    by_cases hbig : 16384 < nt
    · have h2 : itemsE its = 2 := by unfold itemsE; rw [if_pos (by rw [← HNT.out]; exact hbig)]
      have h3 := renc_err ai nt ci its long w1 HCI.out (by rw [h2]; decide)
      rw [h2] at h3
      exact h3.mono fun e w' h => .inl ⟨.inl hbig, h⟩
    · have h2 := H.out.items (by rw [← HNT.out]; omega)
      refine (renc_okX ai nt ci its long w1 HCI.out h2).mono fun e w' h => ?_
      rcases h with h | ⟨hy, h⟩
      · exact .inr ⟨⟨by omega, h2⟩, h⟩
      · exact .inl ⟨.inr hy, h⟩
  clear HCI
  refine HENC.out.mono ?_
  rintro e w2 (⟨hwhy, rfl, hb2⟩ | ⟨⟨h16, hi0⟩, ⟨vc, gs, L, rfl, hsz, hfit, hcode, hgs, hgsw, hb2, hgcp⟩⟩)
  · have HR2 := Lib.hid (HR1.out.below hb2 HR1.out.lt)
    have HB2 := Lib.hid (HB1.out.trans (hb2.mono HB1.out.size))
    have HWHY := Lib.hid hwhy
    clear hb2 HENC p0 p2 hwhy
    go_wp2_with (refine wpList_store_rowTo rfl 60 _ _ rfl rfl w.heap.size #[.slice none 0 0, .int .i64 0, .slice none 0 0, .slice none 0 0, .slice none 0 0] rfl rfl _ _ HR2.out HSZ.out rfl zero5 ?_)
    have hr4 := setRowBlkL HR2.out [.slice none 0 0, .int .i64 0, .slice none 0 0, .slice none 0 0, .slice none 0 0]
    exact bodyPost_ret (results_row_twoL rfl _ _ w.heap.size _ _ _ _ rfl hr4 Try.underlying60 rfl HSZ.out) rfl (.inl ⟨by rw [← HNT.out]; exact HWHY.out, rfl, HB2.out.trans ((setRow_rest w2 w.heap.size _).below (Nat.le_refl _) (by have := HB2.out.size; omega))⟩)
  · obtain ⟨M, hM⟩ : ∃ M, M = allL its long L := ⟨_, rfl⟩
    rw [← hM] at hfit hcode hgs
    have HSO := Lib.hid hsz
    have HFIT := Lib.hid hfit
    have HMM := Lib.hid hM
    have HI0 := Lib.hid hi0
    have HR2 := Lib.hid (HR1.out.below hb2 HR1.out.lt)
    have HB2 : Hid (Below w1.heap.size w1 w2) := hb2
    have HGS := Lib.hid hgs
    have HR8 : Hid (Blk w1 w.heap.size 60 zImg) := HR1.out
    have p2' : w2.cell? ⟨p, 2, none⟩ = some (.slice aa na ca) := ((HB1.out.trans (hb2.mono HB1.out.size)).cell (p := ⟨p, 2, none⟩) hpl).trans p2
    obtain ⟨code, hcd⟩ : ∃ code, code = codeTo its M nt := ⟨_, rfl⟩
    rw [← hcd] at hcode
    have HCD := Lib.hid hcd
    have hcl : code.length = posL M nt := by rw [hcd]; exact codeTo_len its M nt
    obtain ⟨ac, cc, hvc⟩ := ownG_shape hcode
    subst hvc
    have HGC : Hid (∀ q, ac = some ⟨q, 0, none⟩ → q ≠ gs) := fun q hq => hgcp q (by rw [hq]; rfl)
    clear hgcp
    have HAD : Hid (∀ x ∈ ads, ∃ x0 x1 q0 q1 : Nat, x.1 = (x0 : Int) ∧ x.2 = (x1 : Int) ∧ x0 < nt ∧ x1 < nt ∧ posL M x0 = (q0 : Int) ∧ posL M x1 = (q1 : Int) ∧ q0 + 1 < code.length ∧ q1 ≤ 40000) := fun x hx => by
      obtain ⟨h1, h2, h3, h4, h5⟩ := H.out.adok x hx
      rw [← HNT.out] at h2 h5
      have h6 := ads_long hsz HNT.out.symm (long := long) h2 h3
      rw [← hM] at h6
      have h7 := posL_bd M x.2.toNat
      exact ⟨x.1.toNat, x.2.toNat, (posL M x.1.toNat).toNat, (posL M x.2.toNat).toNat, by omega, by omega, h2, h5, by omega, by omega, by omega, by omega⟩
    have HCL := Lib.hid hcl
    obtain ⟨m, hm⟩ : ∃ m, m = code.length := ⟨_, rfl⟩
    have hmb : m ≤ 16384 := by have := hfit; omega
    rw [← hm] at HAD hcode
    have HM9 := Lib.hid hm
    clear hcl
    rw [hm] at hcode
    have HCO := Lib.hid hcode
    rw [← hm]
    clear hb2 hsz hfit hM hgs hcode hcd hi0 HENC p0 p2 HB1 HR1 hm
    go_wp2_with fail
    clear p2'
    go_loopw [40] (fun u wr => ∃ k : Nat, k ≤ na ∧ u = .int .i64 (k : Int) ∧ wr.ownsRow w1.heap.size 3 1 (.slice ac m cc) m ((patch (posL M) (ads.take k) code).map (Value.int .i64)) ∧ Below w1.heap.size w1 wr ∧ Blk wr gs 3 (rowL (nt + 1) (fun i => .int .i64 (posL M i)))) (fun u _ => na - (intOf u).toNat)
    case atStart => exact ⟨0, Nat.zero_le _, rfl, by have := HCO.out; rw [← HM9.out] at this; exact this, HB2.out, HGS.out⟩
    case round =>
      clear HCO HGS HR2
      obtain ⟨k, hk, rfl, hco, hbe, hgs⟩ := hrel
      have HCO := Lib.hid hco
      have HBE := Lib.hid hbe
      have HGS := Lib.hid hgs
      clear hco hbe hgs
      by_cases hlt : k < na
      · have hk' : k < ads.length := by have := HNA.out; omega
        obtain ⟨gA, caA, hvA, _, _, _, _⟩ := ownG_has H.out.lk.oa (by omega)
        injection hvA with hvA _ hvA3
        subst hvA hvA3
        have had := H.out.lk.addr hk'
        have hww : Below w.heap.size w wr := HBW1.out.trans (HBE.out.mono HBW1.out.size)
        have e0 := (hww.cell (p := ⟨gA, k * 2, none⟩) had.2.2.2).trans had.1
        have e1 := (hww.cell (p := ⟨gA, k * 2 + 1, none⟩) had.2.2.2).trans had.2.1
        have hgA : gA < wr.heap.size := Nat.lt_of_lt_of_le had.2.2.2 hww.size
        obtain ⟨x0, x1, q0, q1, hx0, hx1, hl0, hl1, hp0, hp1, hq0, hq1⟩ := HAD.out _ (List.getElem_mem hk')
        have HTK : Hid (patch (posL M) (ads.take (k + 1)) code = (patch (posL M) (ads.take k) code).set (q0 + 1) (2 * (q1 : Int) + 1)) := by
          show _ = _
          unfold patch
          rw [List.take_succ_eq_append_getElem hk', List.foldl_append]
          show patch1 _ _ _ = _
          unfold patch1
          rw [hx0, hx1, Int.toNat_natCast, Int.toNat_natCast, hp0, hp1]
          rfl
        rw [hx0] at e0
        rw [hx1] at e1
        obtain ⟨gC, cC, hvC, hgC1, hgC2, _, _⟩ := ownG_has HCO.out (by omega)
        injection hvC with hvC _ hvC3
        subst hvC hvC3
        have hcc9 := ownG_cellAt HCO.out (j := q0 + 1) (by omega)
        have hpl9 : (patch (posL M) (ads.take k) code).length = m := by rw [patch_len, HM9.out]
        rw [List.getElem?_map, List.getElem?_eq_getElem (show q0 + 1 < (patch (posL M) (ads.take k) code).length by omega)] at hcc9
        generalize (patch (posL M) (ads.take k) code)[q0 + 1]'(by omega) = old at hcc9
        have g0 : wr.cell? ⟨gs, x0, none⟩ = some (.int .i64 (q0 : Int)) := by rw [HGS.out.row (show x0 < nt + 1 by omega), hp0]
        have g1 : wr.cell? ⟨gs, x1, none⟩ = some (.int .i64 (q1 : Int)) := by rw [HGS.out.row (show x1 < nt + 1 by omega), hp1]
        have hgsl := HGS.out.lt
        have hq0I : (q0 : Int) + 1 < (m : Int) := by omega
        have hx0I : (x0 : Int) < (nt : Int) := by omega
        have hx1I : (x1 : Int) < (nt : Int) := by omega
        have HPL9 := Lib.hid hpl9
        have hbzy : Below wr.heap.size wr (wr.alloc (.cells #[.int .i64 (x0 : Int), .int .i64 (x1 : Int)] 111)) := (Below.refl _ _).alloc (Nat.le_refl _) _
        have hboxy : Blk (wr.alloc (.cells #[.int .i64 (x0 : Int), .int .i64 (x1 : Int)] 111)) wr.heap.size 111 [.int .i64 (x0 : Int), .int .i64 (x1 : Int)] := Blk.new wr _ _
        have HP0 := Lib.hid (And.intro hp0 hp1)
        clear had hww hx0 hx1 hp0 hp1 hpl9
        go_wp2_with fail
        generalize (wr.alloc (.cells #[.int .i64 (x0 : Int), .int .i64 (x1 : Int)] 111)) = wy at hbzy hboxy ⊢
        have b0 := hboxy.cell 0
        have b1 := hboxy.cell 1
        simp only [List.getElem?_cons_zero, List.getElem?_cons_succ] at b0 b1
        replace g0 := (hbzy.cell (p := ⟨gs, x0, none⟩) hgsl).trans g0
        replace g1 := (hbzy.cell (p := ⟨gs, x1, none⟩) hgsl).trans g1
        have r0 := fun z : AfterR (Kept2 wr.heap.size gs) wy.drew => (World.cell?_of_block (a := ⟨wr.heap.size, 0, none⟩) z.rel.1).trans b0
        have r1 := fun z : AfterR (Kept2 wr.heap.size gs) wy.drew => (World.cell?_of_block (a := ⟨wr.heap.size, 1, none⟩) z.rel.1).trans b1
        have r2 := fun z : AfterR (Kept2 wr.heap.size gs) wy.drew => (World.cell?_of_block (a := ⟨gs, x0, none⟩) z.rel.2).trans g0
        have r3 := fun z : AfterR (Kept2 wr.heap.size gs) wy.drew => (World.cell?_of_block (a := ⟨gs, x1, none⟩) z.rel.2).trans g1
        have HCY := Lib.hid (ownG_below HCO.out hbzy)
        have HBY := Lib.hid (HBE.out.trans (hbzy.mono HBE.out.size))
        have HGY := Lib.hid (HGS.out.below hbzy hgsl)
        have hcy := ownG_cellAt HCY.out (j := q0 + 1) (by omega)
        have f0 : wy.frozen? ⟨gC, q0 + 1, none⟩ = false := hcy.2
        have f1 : wy.cell? ⟨gC, q0 + 1, none⟩ = some (.int .i64 old) := (hbzy.cell (p := ⟨gC, q0 + 1, none⟩) hgC2).trans hcc9.1
        have hGne : gC ≠ gs := HGC.out gC rfl
        clear hcy hcc9 hboxy hbzy b0 b1 g0 g1 e0 e1 HCO HGS
        refine wp_region_eagerRT (Kept2 wr.heap.size gs) [(0, true), (1, true), (2, true), (3, true), (4, true), (5, true), (6, true), (7, true), (8, true), (9, true), (10, true), (11, true), (12, true), (13, true), (14, true), (15, false)] (by kernel_rfl) (by kernel_rfl) ?_
        repeat (refine eagR_readT rfl ?_; go_big_quiet_step (fail); refine wpQuiet_nil ?_)
        clear r0 r1 r2 r3
        refine eagR_freeT rfl rfl (by kernel_rfl) ?_
        intro K hK
        go_simp
        refine hK _ _ ?_
        clear hK K f0 f1
        go_simp
        refine eagR_endT ?_
        have HN : Hid ((wy.setCell ⟨gC, q0 + 1, none⟩ (.int .i64 (2 * (q1 : Int) + 1))).ownsRow w1.heap.size 3 1 (.slice (some ⟨gC, 0, none⟩) m cc) m ((patch (posL M) (ads.take (k + 1)) code).map (Value.int .i64))) := by
          have h9 := ownG_set HCY.out (q0 + 1) (.int .i64 (2 * (q1 : Int) + 1)) (by omega)
          rw [← List.map_set, ← HTK.out] at h9
          exact h9
        go_wp2_with fail
        go_roundw
        case rel => exact ⟨k + 1, by omega, by go_num, HN.out, HBY.out.drew.setCell (p := (⟨gC, q0 + 1, none⟩ : Addr)) hgC1 _, Blk.setOther HGY.out (a := ⟨gC, q0 + 1, none⟩) (fun e => hGne e.symm) _⟩
        case measure => simp [intOf]; omega
      · have HALL : Hid (ads.take k = ads) := List.take_of_length_le (by have := HNA.out; omega)
        obtain ⟨w3, hw3⟩ : ∃ w3, w3 = wr := ⟨_, rfl⟩
        rw [← hw3] at HCO HBE HGS ⊢
        clear hw3
        have hmk : ∀ w : World, (Instr.makeSlice 24 (.int .i64 (n : Int)) (.int .i64 (n : Int))).run Try.prog w = .ok (.slice (some ⟨w.heap.size, 0, none⟩) n n) (w.alloc (.cells (rowL n fun _ => .int .i64 0).toArray 3)) := fun w => run_make_rep (P := Try.prog) 24 3 (.int .i64 0) 8 Try.underlying24 Try.infoT3 rfl n (by omega) (by omega) w
        have hST : ImgSt w3 ((w3.alloc (.cells #[.slice ac m cc, .int .i64 0, .slice none 0 0, .slice none 0 0, .slice none 0 0] 60)).alloc (.cells (rowL n fun _ => .int .i64 0).toArray 3)) w3.heap.size n (.slice ac m cc) (posL M) c b 0 0 0 (.slice none 0 0) (.slice none 0 0) [] := by
          refine ⟨((Below.refl _ _).alloc (Nat.le_refl _) _).alloc (by simp) _, (Blk.new w3 [.slice ac m cc, .int .i64 0, .slice none 0 0, .slice none 0 0, .slice none 0 0] 60).alloc _, ?_, World.ownsRow_nil _ _ _ _, World.ownsRow_nil _ _ _ _, fun u hu => by cases hu⟩
          have h9 := Blk.new (w3.alloc (.cells #[.slice ac m cc, .int .i64 0, .slice none 0 0, .slice none 0 0, .slice none 0 0] 60)) (rowL n fun _ => .int .i64 0) 3
          rw [World.size_alloc] at h9
          exact h9
        have HST := Lib.hid hST
        clear hST
        go_wp2_with fail
        generalize ((w3.alloc (.cells #[.slice ac m cc, .int .i64 0, .slice none 0 0, .slice none 0 0, .slice none 0 0] 60)).alloc (.cells (rowL n fun _ => .int .i64 0).toArray 3)) = w4 at HST ⊢
        obtain ⟨S, hS⟩ : ∃ S, S = w3.heap.size := ⟨_, rfl⟩
        rw [← hS] at HST ⊢
        have HSS := Lib.hid hS
        clear hS
        obtain ⟨is0, his0, hzs0, hzs1, hzs2⟩ := info_parts Try.infoT3
        go_loopw [67] (fun u wr => ∃ (i k : Nat) (vs vm : Value) (lm : List Value), i ≤ n ∧ u = .int .i64 (i : Int) ∧ ImgSt w3 wr S n (.slice ac m cc) (posL M) c b i i k vs vm lm ∧ k ≤ i * 16384) (fun u _ => n - (intOf u).toNat)
        case atStart => exact ⟨0, 0, _, _, _, Nat.zero_le _, rfl, HST.out, Nat.zero_le _⟩
        case round =>
          clear HST
          obtain ⟨i, k, vs, vm, lm, hi, rfl, hst, hkb⟩ := hrel
          by_cases hin : i < n
          · have hw3 : Below w.heap.size w w3 := HBW1.out.trans (HBE.out.mono HBW1.out.size)
            have hwS : w.heap.size ≤ S := by rw [HSS.out]; exact hw3.size
            have hw3r : Below w.heap.size w wr := hw3.trans (hst.be.mono hwS)
            have hw0r : Below w0.heap.size w0 wr := H.out.below.trans (hw3r.mono H.out.below.size)
            have hil : i < l.length := by have := HNL.out; omega
            obtain ⟨gl, off, rfl, hgl, hlc⟩ := came_lfs H.out.fns.came (by omega)
            obtain ⟨c0, c1, c2, c3, c4⟩ := (hlc i hil).later hw0r hgl
            have hglr : gl < wr.heap.size := Nat.lt_of_lt_of_le hgl hw0r.size
            have HFO := Lib.hid (H.out.fns.ok _ (List.getElem_mem hil))
            have hfx := H.out.fok _ (List.getElem_mem hil)
            have HBF : Hid (c i = i → b i + l[i].il ≤ its.length) := H.out.bgf i hil
            have hfx2 := hfx.2
            have HFX := Lib.hid hfx.1
            generalize l[i] = f at c0 c1 c2 c3 c4 HFO HFX HBF hfx2
            have hcr := H.out.crep i hin
            have hbv := H.out.bgv (c i) hcr.1 hcr.2
            have hbf := H.out.bgf (c i) (by have := HNL.out; omega) hcr.2
            have hfo2 := H.out.fok _ (List.getElem_mem (show c i < l.length by have := HNL.out; omega))
            obtain ⟨ci', hci'⟩ : ∃ ci', ci' = c i := ⟨_, rfl⟩
            obtain ⟨bi, hbi⟩ : ∃ bi, bi = b (c i) := ⟨_, rfl⟩
            have hbit : bi < nt := by rw [HNT.out, hbi]; omega
            obtain ⟨q, hq⟩ : ∃ q : Nat, posL M bi = (q : Int) := ⟨(posL M bi).toNat, by have := (posL_bd M bi).1; omega⟩
            obtain ⟨gB, cB, hvB, _, hgB2, _, _⟩ := ownG_has H.out.lk.ob (by have := HNL.out; omega)
            injection hvB with hvB _ hvB3
            subst hvB hvB3
            have hbg := H.out.lk.begin (i := c i) (by have := HNL.out; omega)
            rw [List.getElem?_eq_getElem (show c i < bg.length by have := HNL.out; omega), Option.some.injEq] at hbv
            rw [hbv, ← hbi, ← hci'] at hbg
            have pB := H.out.lk.box.cell 1
            simp only [List.getElem?_cons_zero, List.getElem?_cons_succ] at pB
            rw [HNL.out.2] at pB
            have hcl0 := H.out.cls.cell hin
            rw [← hci'] at hcl0
            have hgcl : gc < w0.heap.size := Blk.lt H.out.cls
            have hciI : (ci' : Int) < (n : Int) := by rw [hci']; have := hcr.1; omega
            have hiI : (i : Int) < (n : Int) := by omega
            have hbiI : (bi : Int) < (nt : Int) := by omega
            have gsq : w3.cell? ⟨gs, bi, none⟩ = some (.int .i64 (q : Int)) := by rw [HGS.out.row (show bi < nt + 1 by omega), hq]
            have hgs3 : gs < S := by rw [HSS.out]; exact HGS.out.lt
            have HPQ : Hid (posL M (b (c i)) = (q : Int)) := by rw [← hbi]; exact hq
            have HQ := Lib.hid hq
            have HBI := Lib.hid hbi
            have HCI' := Lib.hid hci'
            have hby : Below wr.heap.size wr (wr.alloc (.cells #[.int .i64 f.name, .slice f.ia f.il f.ic, .slice f.ca f.cl f.cc, .slice f.ma f.ml f.mc, .int .i64 f.size] 53)) := (Below.refl _ _).alloc (Nat.le_refl _) _
            have hbx : Blk (wr.alloc (.cells #[.int .i64 f.name, .slice f.ia f.il f.ic, .slice f.ca f.cl f.cc, .slice f.ma f.ml f.mc, .int .i64 f.size] 53)) wr.heap.size 53 (lfC f) := Blk.new wr _ _
            have hSw : S ≤ wr.heap.size := Nat.le_of_lt hst.lt.1
            have hSl1 : S + 1 < wr.heap.size := hst.lt.2.1
            have HSTR := Lib.hid hst
            have HKB := Lib.hid hkb
            clear hbf hfo2 hbv hcr hbi hq hci' hlc hfx hkb
            go_wp2_with fail
            generalize (wr.alloc (.cells #[.int .i64 f.name, .slice f.ia f.il f.ic, .slice f.ca f.cl f.cc, .slice f.ma f.ml f.mc, .int .i64 f.size] 53)) = wy at hby hbx ⊢
            have HSTY := Lib.hid (HSTR.out.later hby)
            have HBX := Lib.hid hbx
            have hyw : Below w.heap.size w wy := hw3r.trans (hby.mono (Nat.le_trans hwS hSw))
            have hyS : Below S w3 wy := HSTY.out.be
            have hy0 : Below w0.heap.size w0 wy := hw0r.trans (hby.mono (Nat.le_trans (Nat.le_trans H.out.below.size hwS) hSw))
            have hpS : p < S := Nat.lt_of_lt_of_le hpl hwS
            have hgBS : gB < S := Nat.lt_of_lt_of_le hgB2 hwS
            have hgcS : gc < S := Nat.lt_of_lt_of_le hgcl (Nat.le_trans H.out.below.size hwS)
            have k0 := (hyw.cell (p := ⟨p, 1, none⟩) hpl).trans pB
            have k1 := (hyw.cell (p := ⟨gB, ci', none⟩) hgB2).trans hbg.1
            have k2 := (hy0.cell (p := ⟨gc, i, none⟩) hgcl).trans hcl0
            have k3 := (hyS.cell (p := ⟨gs, bi, none⟩) hgs3).trans gsq
            have HYW := Lib.hid hyw
            have HY0 := Lib.hid hy0
            clear hby hbx hw3 hw3r hw0r hst hbg pB hcl0 gsq hyw hyS hy0 c0 c1 c2 c3 c4
            have r0 := fun z : After S wy.drew => (z.below.cell (p := ⟨p, 1, none⟩) hpS).trans k0
            have r1 := fun z : After S wy.drew => (z.below.cell (p := ⟨gB, ci', none⟩) hgBS).trans k1
            have r2 := fun z : After S wy.drew => (z.below.cell (p := ⟨gc, i, none⟩) hgcS).trans k2
            have r3 := fun z : After S wy.drew => (z.below.cell (p := ⟨gs, bi, none⟩) hgs3).trans k3
            have f0 := Blk.free HSTY.out.row i
            have f1 := HSTY.out.row.row hin
            rw [if_neg (Nat.lt_irrefl i)] at f1
            refine wp_region_eager S [(0, true), (1, true), (2, true), (3, true), (4, true), (5, true), (6, true), (7, true), (8, true), (9, true), (10, true), (11, true), (12, true), (13, true), (14, true), (15, true), (16, false)] (by kernel_rfl) (by kernel_rfl) ?_
            repeat (refine eag_read rfl ?_; go_big_quiet_step (fail); refine wpQuiet_nil ?_)
            clear r0 r1 r2 r3
            refine eag_does rfl rfl ?_
            intro K hK
            go_simp
            refine hK _ _ ((Below.refl S wy.drew).setCell (p := (⟨S + 1, i, none⟩ : Addr)) (Nat.le_succ S) _) ?_
            clear hK K f0 f1
            go_simp
            refine eag_end ?_
            have HSTZ : Hid (ImgSt w3 (wy.setCell ⟨S + 1, i, none⟩ (.int .i64 (q : Int))).drew S n (.slice ac m cc) (posL M) c b (i + 1) i k vs vm lm) := (HSTY.out.putRow (q : Int) HPQ.out).later (Below.refl _ _).drew
            have HZY : Hid (Below S wy (wy.setCell ⟨S + 1, i, none⟩ (.int .i64 (q : Int))).drew) := ((Below.refl S wy).setCell (p := (⟨S + 1, i, none⟩ : Addr)) (Nat.le_succ S) _).drew
            have HBXZ : Hid (Blk (wy.setCell ⟨S + 1, i, none⟩ (.int .i64 (q : Int))).drew wr.heap.size 53 (lfC f)) := Blk.setOther HBX.out (a := ⟨S + 1, i, none⟩) (fun e => by
              have h1 : wy.heap[wr.heap.size]? = _ := HBX.out
              have h2 : wy.heap[S + 1]? = _ := HSTY.out.row
              have e' : wr.heap.size = S + 1 := e
              rw [e', h2] at h1
              injection h1 with h1
              injection h1 with _ h1 _
              exact absurd h1 (by decide)) _
            generalize (wy.setCell ⟨S + 1, i, none⟩ (.int .i64 (q : Int))).drew = wz at HSTZ HZY HBXZ ⊢
            replace k0 := (HZY.out.cell (p := ⟨p, 1, none⟩) hpS).trans k0
            replace k1 := (HZY.out.cell (p := ⟨gB, ci', none⟩) hgBS).trans k1
            replace k2 := (HZY.out.cell (p := ⟨gc, i, none⟩) hgcS).trans k2
            replace k3 := (HZY.out.cell (p := ⟨gs, bi, none⟩) hgs3).trans k3
            by_cases hci : ci' = i
            · have t1 : ((ci' : Int) == (i : Int)) = true := by simp [hci]
              rw [hci] at k1 k2 t1
              have HCII : Hid (c i = i) := by show _ = _; rw [← HCI'.out, hci]
              have HBII : Hid (bi = b i) := by show _ = _; rw [HBI.out, HCII.out]
              have HFITB : Hid (bi + f.il ≤ nt) := by show _ ≤ _; rw [HNT.out, HBII.out]; exact HBF.out HCII.out
              clear hci
              go_wp2_with fail
              clear k0 k1 k2
              have hrs := rowsB_len (posL M) b c i
              obtain ⟨vsa, vsc, hvs⟩ := ownG_shape HSTZ.out.st
              obtain ⟨ns, hns⟩ : ∃ ns, ns = (rowsB (posL M) b c i).length := ⟨_, rfl⟩
              have hnsb : ns ≤ 256 := by omega
              rw [← hns] at hvs
              have HVS := Lib.hid hvs
              have HNS := Lib.hid hns
              have hlt2 := HSTZ.out.lt
              have hbxl := HBXZ.out.lt
              have bx2 : wz.cell? ⟨S, 2, none⟩ = some vs := HSTZ.out.box.cell 2
              rw [HVS.out] at bx2
              have r0 := fun z : AfterR (KeptP fun g => g < S ∨ g = S ∨ g = wr.heap.size) wz.drew => (World.cell?_of_block (a := ⟨S, 2, none⟩) (z.rel S (.inr (.inl rfl)))).trans bx2
              have r1 := fun z : AfterR (KeptP fun g => g < S ∨ g = S ∨ g = wr.heap.size) wz.drew => (World.cell?_of_block (a := ⟨gs, bi, none⟩) (z.rel gs (.inl hgs3))).trans k3
              clear hvs hns bx2 hrs
              refine wp_region_eagerRT (KeptP fun g => g < S ∨ g = S ∨ g = wr.heap.size) [(0, true), (1, true), (2, true), (3, true), (4, true), (5, true), (6, false), (7, false), (8, true), (9, false)] (by kernel_rfl) (by kernel_rfl) ?_
              repeat (refine eagR_readT rfl ?_; go_big_quiet_step (fail); refine wpQuiet_nil ?_)
              clear r0 r1
              refine eagR_doesT rfl rfl ?_
              intro K hK
              go_simp
              refine hK _ _ (fun _ g hg => Below.heap_alloc _ _ _ (by rcases hg with hg | hg | hg <;> omega)) ?_
              clear hK K
              have hbz : Below wz.heap.size wz (wz.alloc (.cells #[.int .i64 (q : Int)] 3)).drew := ((Below.refl wz.heap.size wz).alloc (Nat.le_refl _) (.cells #[.int .i64 (q : Int)] 3)).drew
              have HST5 := Lib.hid (HSTZ.out.later hbz)
              have HBX5 := Lib.hid (HBXZ.out.below hbz hbxl)
              have HNEW : Hid (Blk (wz.alloc (.cells #[.int .i64 (q : Int)] 3)).drew wz.heap.size 3 [.int .i64 (q : Int)]) := Blk.new wz _ _
              have HZ5 : Hid (Below S wy (wz.alloc (.cells #[.int .i64 (q : Int)] 3)).drew) := HZY.out.trans (hbz.mono (by omega))
              clear hbz
              generalize (wz.alloc (.cells #[.int .i64 (q : Int)] 3)).drew = w5 at HST5 HBX5 HNEW HZ5 ⊢
              have hlt5 := HST5.out.lt
              refine eagR_doesT rfl rfl ?_
              intro K hK
              have hrow := HST5.out.st
              rw [HVS.out, ← HNS.out] at hrow
              refine wp_append_lies _ _ _ 24 rfl (S + 2) 3 is0 (.int .i64 0) 1 8 Try.underlying24 his0 hzs0 hzs1 hzs2 rfl (by decide) (Value.slice vsa ns vsc) ns _ rfl hrow ⟨wz.heap.size, 0, none⟩ 1 1 [.int .i64 (q : Int)] rfl rfl ?_ ?_ (by decide) ?_ ?_ hlt5.2.2 w5.heap.size rfl ?_
              · intro j u hj
                rw [Addr.add_lit, Nat.zero_add, HNEW.out.cell]
                exact hj
              · intro u hu
                simp at hu
                subst hu
                rfl
              · unfold maxLen; omega
              · omega
              intro g' cap' w6 hown' hgrow hwh hlt9
              have hown6 : w6.ownsRow (S + 2) 3 1 (.slice (some ⟨g', 0, none⟩) (ns + 1) cap') (rowsB (posL M) b c (i + 1)).length ((rowsB (posL M) b c (i + 1)).map (Value.int .i64)) := by
                rw [rowsB_rep _ _ _ _ HCII.out, List.length_append, ← HNS.out, List.map_append, ← HBII.out, HQ.out]
                exact hown'
              have hgrw : w5.grownBy w6 vs.ownBlock := by rw [HVS.out]; exact hgrow
              have HST6 := Lib.hid (HST5.out.growS hown6 hgrw)
              have hkeep : ∀ g, g < S + 2 → g < w5.heap.size → w6.heap[g]? = w5.heap[g]? := fun g h1 h2 => hgrw.block g h2 (fun e => by have := (HST5.out.st.lt _ e.symm).1; omega)
              have hfk : w6.heap[wr.heap.size]? = w5.heap[wr.heap.size]? := hgrw.block _ HBX5.out.lt (fun e => own_ty HST5.out.st HBX5.out (by decide) e.symm)
              have hbx6 := (HST5.out.box.of_heap (hkeep S (by omega) hlt5.1))
              have g2 := hbx6.free 2
              have g2c := hbx6.cell 2
              simp only [List.getElem?_cons_zero, List.getElem?_cons_succ] at g2c
              have hl6 := hbx6.lt
              have hrw5 : wr.heap.size < w5.heap.size := HBX5.out.lt
              have HBX6 := Lib.hid (Blk.setOther (HBX5.out.of_heap hfk) (a := ⟨S, 2, none⟩) (by show wr.heap.size ≠ S; omega) (.slice (some ⟨g', 0, none⟩) (ns + 1) cap'))
              have HZ6 := Lib.hid ((HZ5.out.grown hgrw (by omega) (fun q e => by have := (HST5.out.st.lt _ e).1; omega)).setCell (p := (⟨S, 2, none⟩ : Addr)) (Nat.le_refl S) (.slice (some ⟨g', 0, none⟩) (ns + 1) cap'))
              go_simp
              refine hK _ _ (fun _ g hg => by
                rcases hg with hg | hg | hg
                · exact hkeep g (by omega) (by omega)
                · exact hkeep g (by omega) (by omega)
                · rw [hg]; exact hfk) ?_
              clear hK K hown' hgrow hwh hown6 hgrw hkeep hfk hbx6 hrow
              repeat (refine eagR_readT rfl ?_; go_big_quiet_step (fail); refine wpQuiet_nil ?_)
              refine eagR_freeT rfl rfl (by kernel_rfl) ?_
              intro K hK
              go_simp
              refine hK _ _ ?_
              clear hK K g2 g2c
              go_simp
              refine eagR_endT ?_
              go_wp2_with fail
              generalize (w6.setCell ⟨S, 2, none⟩ (.slice (some ⟨g', 0, none⟩) (ns + 1) cap')) = w7 at HST6 HBX6 HZ6 ⊢
              generalize (Value.slice (some ⟨g', 0, none⟩) (ns + 1) cap') = vs2 at HST6 ⊢
              clear HST5 HBX5 HZ5 HSTZ HBXZ HZY k3 HNEW hrw5 hl6 hlt5 hlt9 hbxl hlt2
              have hlt7 := HST6.out.lt
              obtain ⟨vma, vmc, hvm⟩ := ownG_shape HST6.out.mp
              have HVM := Lib.hid hvm
              have bx3 : w7.cell? ⟨S, 3, none⟩ = some vm := HST6.out.box.cell 3
              rw [HVM.out] at bx3
              have hbl7 := HBX6.out.lt
              have e0 : w7.cell? ⟨wr.heap.size, 0, none⟩ = some (.int .i64 f.name) := HBX6.out.cell 0
              have e1 : w7.cell? ⟨wr.heap.size, 1, none⟩ = some (.slice f.ia f.il f.ic) := HBX6.out.cell 1
              have e2 : w7.cell? ⟨wr.heap.size, 2, none⟩ = some (.slice f.ca f.cl f.cc) := HBX6.out.cell 2
              have e3 : w7.cell? ⟨wr.heap.size, 3, none⟩ = some (.slice f.ma f.ml f.mc) := HBX6.out.cell 3
              have e4 : w7.cell? ⟨wr.heap.size, 4, none⟩ = some (.int .i64 f.size) := HBX6.out.cell 4
              have r0 := fun z : AfterR (KeptP fun g => g < S ∨ g = S ∨ g = wr.heap.size) w7.drew => (World.cell?_of_block (a := ⟨S, 3, none⟩) (z.rel S (.inr (.inl rfl)))).trans bx3
              have r1 := fun z : AfterR (KeptP fun g => g < S ∨ g = S ∨ g = wr.heap.size) w7.drew => (World.cell?_of_block (a := ⟨wr.heap.size, 0, none⟩) (z.rel wr.heap.size (.inr (.inr rfl)))).trans e0
              have r2 := fun z : AfterR (KeptP fun g => g < S ∨ g = S ∨ g = wr.heap.size) w7.drew => (World.cell?_of_block (a := ⟨wr.heap.size, 1, none⟩) (z.rel wr.heap.size (.inr (.inr rfl)))).trans e1
              have r3 := fun z : AfterR (KeptP fun g => g < S ∨ g = S ∨ g = wr.heap.size) w7.drew => (World.cell?_of_block (a := ⟨wr.heap.size, 2, none⟩) (z.rel wr.heap.size (.inr (.inr rfl)))).trans e2
              have r4 := fun z : AfterR (KeptP fun g => g < S ∨ g = S ∨ g = wr.heap.size) w7.drew => (World.cell?_of_block (a := ⟨wr.heap.size, 3, none⟩) (z.rel wr.heap.size (.inr (.inr rfl)))).trans e3
              have r5 := fun z : AfterR (KeptP fun g => g < S ∨ g = S ∨ g = wr.heap.size) w7.drew => (World.cell?_of_block (a := ⟨wr.heap.size, 4, none⟩) (z.rel wr.heap.size (.inr (.inr rfl)))).trans e4
              have hfitb := HFITB.out
              have h16I : (nt : Int) ≤ 16384 := by omega
              have hsl1 : (bi : Int) + (f.il : Int) ≤ (nt : Int) := by omega
              clear hvm bx3 e0 e1 e2 e3 e4
              refine wp_region_eagerRT (KeptP fun g => g < S ∨ g = S ∨ g = wr.heap.size) [(0, true), (1, true), (2, true), (3, true), (4, true), (5, true), (6, true), (7, true), (8, true), (9, true), (10, true), (11, false), (12, false), (13, true), (14, false)] (by kernel_rfl) (by kernel_rfl) ?_
              repeat (refine eagR_readT rfl ?_; go_big_quiet_step (fail); refine wpQuiet_nil ?_)
              clear r0 r1 r2 r3 r4 r5
              refine eagR_doesT rfl rfl ?_
              intro K hK
              go_simp
              have hwS2 : w0.heap.size ≤ S := Nat.le_trans H.out.below.size hwS
              have hFO7 : f.Ok w7.drew := HFO.out.below (HY0.out.trans (HZ6.out.mono hwS2)).drew
              have hGS7 : Blk w7.drew gs 3 (rowL (nt + 1) fun i => .int .i64 (posL M i)) := (Blk.below HGS.out HST6.out.be hgs3).drew
              have hml : f.ml ≤ 16384 := by
                have h1 := mapsE_len f.il f.maps (-1) (by omega) (by omega) HFX.out
                have h2 := hFO7.mlen
                omega
              refine (maps_any w7.drew f hFO7 _ _ _ (came_sub hGS7 (b := bi) (k := f.il) (by omega) (by omega) (nt + 1 - bi) (by omega) (by omega)) HFX.out (by omega)).mono ?_
              rintro e w8 ⟨vm9, lm9, rfl, hown9, hone9, hb9⟩
              refine hK _ _ (fun _ g hg => hb9.block g (by show g < w7.heap.size; rcases hg with hg | hg | hg <;> omega)) ?_
              have hb78 : Below w7.heap.size w7 w8 := (Below.refl w7.heap.size w7).drew.trans hb9
              have HST8 := Lib.hid (HST6.out.later hb78)
              have HBX8 := Lib.hid (HBX6.out.below hb78 hbl7)
              have HOWN9 := Lib.hid hown9
              have HONE9 := Lib.hid hone9
              have h78 := hb78.size
              clear hK K hb9 hb78 hown9 hone9 hFO7 hGS7
              go_simp
              refine eagR_doesT rfl rfl ?_
              intro K hK
              have hrow := HST8.out.mp
              rw [HVM.out] at hrow
              obtain ⟨v', w9, hrun, hownM, hgrM⟩ := run_appM w8 57 (.slice vma k vmc) (S + 2) k lm hrow vm9 _ f.ml lm9 HOWN9.out HONE9.out (by have := HKB.out; omega) HST8.out.lt.2.2
              obtain ⟨va9, vc9, rfl⟩ := ownG_shape hownM
              refine wp_append_eq _ _ _ 57 57 rfl _ _ rfl rfl hrun ?_
              have hgr9 : w8.grownBy w9 vm.ownBlock := by rw [HVM.out]; exact hgrM
              have hlt8 := HST8.out.lt
              have hkeep : ∀ g, g < S + 2 → g < w8.heap.size → w9.heap[g]? = w8.heap[g]? := fun g h1 h2 => hgr9.block g h2 (fun e => by have := (HST8.out.mp.lt _ e.symm).1; omega)
              have hfk : w9.heap[wr.heap.size]? = w8.heap[wr.heap.size]? := hgr9.block _ HBX8.out.lt (fun e => own_ty HST8.out.mp HBX8.out (by decide) e.symm)
              have HST9 := Lib.hid (HST8.out.growM hownM (fun u hu => by
                rcases List.mem_append.1 hu with hu | hu
                · exact HST8.out.one u hu
                · exact HONE9.out u hu) hgr9)
              have hbx9 := (HST8.out.box.of_heap (hkeep S (by omega) hlt8.1))
              have g3 := hbx9.free 3
              have g3c := hbx9.cell 3
              simp only [List.getElem?_cons_zero, List.getElem?_cons_succ] at g3c
              have hl9 := hbx9.lt
              go_simp
              refine hK _ _ (fun _ g hg => by
                rcases hg with hg | hg | hg
                · exact hkeep g (by omega) (by omega)
                · exact hkeep g (by omega) (by omega)
                · rw [hg]; exact hfk) ?_
              clear hK K hownM hgrM hgr9 hkeep hfk hbx9 hrow hrun
              repeat (refine eagR_readT rfl ?_; go_big_quiet_step (fail); refine wpQuiet_nil ?_)
              refine eagR_freeT rfl rfl (by kernel_rfl) ?_
              intro K hK
              go_simp
              refine hK _ _ ?_
              clear hK K g3 g3c
              go_simp
              refine eagR_endT ?_
              go_wp2_with fail
              go_roundw
              case rel => exact ⟨i + 1, k + f.ml, vs2, _, lm ++ lm9, by omega, by go_num, HST9.out, by have := HKB.out; omega⟩
              case measure => simp [intOf]; omega
            · have t1 : ((ci' : Int) == (i : Int)) = false := by simp; omega
              have HN : Hid (ImgSt w3 wz S n (.slice ac m cc) (posL M) c b (i + 1) (i + 1) k vs vm lm) := by
                have h9 := HSTZ.out
                refine ⟨h9.be, h9.box, h9.row, ?_, h9.mp, h9.one⟩
                rw [rowsB_next _ _ _ _ (fun e => hci (by rw [HCI'.out, e]))]
                exact h9.st
              clear hci
              go_wp2_with fail
              go_roundw
              case rel => exact ⟨i + 1, k, vs, vm, lm, by omega, by go_num, HN.out, by have := HKB.out; omega⟩
              case measure => simp [intOf]; omega
          · have hin2 : i = n := by omega
            subst hin2
            have hw3 : Below w.heap.size w w3 := HBW1.out.trans (HBE.out.mono HBW1.out.size)
            have hwS : w.heap.size ≤ S := by rw [HSS.out]; exact hw3.size
            have hw1S : w1.heap.size ≤ S := by rw [HSS.out]; exact HBE.out.size
            have hrr : Below w.heap.size w wr := hw3.trans (hst.be.mono hwS)
            have e0 : wr.cell? ⟨S, 0, none⟩ = some (.slice ac m cc) := hst.box.cell 0
            have e1 : wr.cell? ⟨S, 1, none⟩ = some (.int .i64 0) := hst.box.cell 1
            have e2 : wr.cell? ⟨S, 2, none⟩ = some vs := hst.box.cell 2
            have e3 : wr.cell? ⟨S, 3, none⟩ = some vm := hst.box.cell 3
            have e4 : wr.cell? ⟨S, 4, none⟩ = some (.slice none 0 0) := hst.box.cell 4
            have h8 : w.heap.size < w1.heap.size := by have := HW1S.out; omega
            have HRES : Hid (Blk wr w.heap.size 60 zImg) := Blk.of_heap HR8.out ((hst.be.block w.heap.size (by omega)).trans (HBE.out.block w.heap.size h8))
            have HRR := Lib.hid hrr
            have HST9 := Lib.hid hst
            obtain ⟨vsa, vsc, hvs⟩ := ownG_shape hst.st
            obtain ⟨vma, vmc, hvm⟩ := ownG_shape hst.mp
            have HVS := Lib.hid hvs
            have HVM := Lib.hid hvm
            rw [HVS.out] at e2
            rw [HVM.out] at e3
            obtain ⟨ns, hns⟩ : ∃ ns, ns = (rowsB (posL M) b c i).length := ⟨_, rfl⟩
            rw [← hns] at e2
            have HNS := Lib.hid hns
            clear hw3 hrr hst hvs hvm hns
            go_wp2_with (refine wpList_store_rowTo rfl 60 _ _ rfl rfl w.heap.size #[.slice ac m cc, .int .i64 0, .slice vsa ns vsc, .slice vma k vmc, .slice none 0 0] rfl rfl _ _ HRES.out HSZ.out rfl (five_one _ _ _ _ _ _ _ _ _) ?_)
            have hr4 := setRowBlkL HRES.out [.slice ac m cc, .int .i64 0, .slice vsa ns vsc, .slice vma k vmc, .slice none 0 0]
            have hkp : ∀ g, g ≠ w.heap.size → g < wr.heap.size → (wr.setRow w.heap.size #[.slice ac m cc, .int .i64 0, .slice vsa ns vsc, .slice vma k vmc, .slice none 0 0]).heap[g]? = wr.heap[g]? := fun g hg hl => (setRow_rest wr w.heap.size _).block g hl hg
            refine bodyPost_ret (results_row_twoL rfl _ _ w.heap.size _ _ _ _ rfl hr4 Try.underlying60 rfl HSZ.out) rfl (.inr ⟨by rw [← HNT.out]; exact h16, HRR.out.trans ((setRow_rest wr w.heap.size _).below (Nat.le_refl _) (by have := HRR.out.size; omega)), L, .slice ac m cc, .slice vsa ns vsc, .slice vma k vmc, S + 1, rfl, ?_⟩)
            refine ⟨by rw [← HNT.out]; exact HSO.out, by rw [← HNT.out, ← HMM.out]; exact HFIT.out, ?_, ?_, ⟨_, _, _, rfl⟩, ?_⟩
            · rw [← HNT.out, ← HMM.out, ← HCD.out]
              have h9 := HCO.out
              rw [HALL.out] at h9
              have hl9 : (patch (posL M) ads code).length = m := by rw [patch_len, HM9.out]
              rw [hl9]
              refine ownG_base (ownG_kept h9 fun g hg => ?_) HBW1.out.size
              have hg1 := (h9.lt g hg)
              exact (hkp g (by have := HW1S.out; omega) (Nat.lt_of_lt_of_le hg1.2 (by rw [← HSS.out]; exact Nat.le_of_lt HST9.out.lt.1))).trans (HST9.out.be.block g (by rw [HSS.out]; exact hg1.2))
            · rw [← HMM.out]
              have h9 := HST9.out.st
              rw [HVS.out] at h9
              rw [HNS.out] at hkp ⊢
              refine ownG_base (ownG_kept h9 fun g hg => ?_) (Nat.le_trans hwS (Nat.le_add_right S 2))
              have hg1 := (h9.lt g hg)
              exact hkp g (by omega) hg1.2
            · rw [← HMM.out]
              refine Blk.of_heap (Blk.rowCongr HST9.out.row fun q hq => by rw [if_pos hq]) (hkp (S + 1) (by omega) HST9.out.lt.2.1)
end Go.Proofs.Ytkafbihlmhdjeab
