/- unwind's Function and debug's Find. -/
import Derived.Test.YtnfgjcdiophphabDebugWhere
import Derived.Test.YtnfgjcdiophphabCloneVars
import Derived.Test.YtnfgjcdiophphabSearch
import Derived.Test.YtnfgjcdiophphabEagerF
import Derived.Great.BuildSlice
import Derived.Deep.Cut
namespace Go.Proofs.Ytnfgjcdiophphab
open Go.RowKit
set_option linter.unusedVariables false
set_option linter.unusedSimpArgs false

def Keep1 (a : Nat) (w w' : World) : Prop := w'.heap[a]? = w.heap[a]?
instance (a : Nat) : PreR (Keep1 a) := ⟨fun w => rfl, fun h k => Eq.trans k h⟩
theorem Keep1.cell {a i : Nat} {w w' : World} (h : Keep1 a w w') : w'.cell? ⟨a, i, none⟩ = w.cell? ⟨a, i, none⟩ := World.cell?_of_block (a := ⟨a, i, none⟩) h

def funcOf (nc : Nat) (zs : List Int) (pc : Int) : Int :=
  if pc < 0 ∨ (nc : Int) ≤ pc then -1 else if zs.contains pc = true then ((zs.countP (· < pc) : Nat) : Int) else ((zs.countP (· < pc) : Nat) : Int) - 1

set_option maxRecDepth 100000 in
set_option maxHeartbeats 1000000 in
theorem function_any (ca : Option Addr) (cl cc : Nat) (entry : Int) (sa : Option Addr) (sl sc : Nat) (pa : Option Addr) (pl pc : Nat) (ma : Option Addr) (ml mc : Nat) (zs : List Int) (x : Int) (w : World) (h : Came w sa sl sc 1 (zs.map intCells)) (hbig : sl < 1000) (hcl : cl ≤ 4611686018427387904) (hs : zs.Pairwise (· ≤ ·)) :
    Calls Try.prog 51 #[.agg #[.slice ca cl cc, .int .i64 entry, .slice sa sl sc, .slice pa pl pc, .slice ma ml mc], .int .i64 x] w fun e w' => e = .returned (.int .i64 (funcOf cl zs x)) ∧ Below w.heap.size w w' := by
  have hb0 : Below w.heap.size w (w.alloc (.cells #[.slice ca cl cc, .int .i64 entry, .slice sa sl sc, .slice pa pl pc, .slice ma ml mc] 51)) := (Below.refl _ _).alloc (Nat.le_refl _) _
  have HB := Lib.hid hb0
  have HSE := Lib.hid (search_ints _ sa sl sc zs x (h.below hb0) (by omega) hs)
  unfold SearchPost at HSE
  have HF : Hid (funcOf cl zs x = if x < 0 ∨ (cl : Int) ≤ x then -1 else if zs.contains x = true then ((zs.countP (· < x) : Nat) : Int) else ((zs.countP (· < x) : Nat) : Int) - 1) := rfl
  obtain ⟨r, hr⟩ : ∃ r, r = funcOf cl zs x := ⟨_, rfl⟩
  rw [← hr] at HF ⊢
  have hcb : zs.countP (· < x) ≤ 1000 := by
    have := List.countP_le_length (p := fun y => decide (y < x)) (l := zs)
    have := h.count
    simp at this
    omega
  clear hr hb0 h hs
  obtain ⟨c, hc⟩ : ∃ c, c = zs.countP (· < x) := ⟨_, rfl⟩
  rw [← hc] at HF HSE hcb
  clear hc
  obtain ⟨t, ht⟩ : ∃ t, t = zs.contains x := ⟨_, rfl⟩
  rw [← ht] at HF HSE
  clear ht
  by_cases h1 : x < 0
  · have d1 : decide (x < 0) = true := decide_eq_true h1
    have HR : Hid (r = -1) := by unfold Hid; rw [HF.out, if_pos (.inl h1)]
    go_enter Try.func51, Try.ntmps51
    go_wp2_with fail
    go_ret
    exact ⟨ret_int HR.out.symm, HB.out⟩
  · by_cases h2 : (cl : Int) ≤ x
    · have d1 : decide (x < 0) = false := decide_eq_false h1
      have d2 : decide ((cl : Int) ≤ x) = true := decide_eq_true h2
      have HR : Hid (r = -1) := by unfold Hid; rw [HF.out, if_pos (.inr h2)]
      go_enter Try.func51, Try.ntmps51
      go_wp2_with fail
      go_ret
      exact ⟨ret_int HR.out.symm, HB.out⟩
    · have d1 : decide (x < 0) = false := decide_eq_false h1
      have d2 : decide ((cl : Int) ≤ x) = false := decide_eq_false h2
      rw [if_neg (by omega)] at HF
      go_enter Try.func51, Try.ntmps51
      go_wp2_with fail
      refine HSE.out.mono ?_
      rintro e w' ⟨n, rfl, rfl⟩
      cases t
      · rw [if_neg (by simp)] at HF
        go_wp2_with fail
        go_ret
        exact ⟨ret_int HF.out.symm, HB.out.trans (below_drewN_self _ _ _)⟩
      · rw [if_pos rfl] at HF
        go_wp2_with fail
        go_ret
        exact ⟨ret_int HF.out.symm, HB.out.trans (below_drewN_self _ _ _)⟩

def findL (fn st pc : Int) : Int → List MarkD → Int
  | cur, [] => cur
  | cur, m :: r => if m.pc ≤ pc ∧ st ≤ m.pc ∧ m.fn = fn then findL fn st pc m.line r else findL fn st pc cur r
theorem findL_at {fn st pc cur : Int} {k : Nat} {ms : List MarkD} (hk : k < ms.length) : findL fn st pc cur (ms.drop k) =
    if ms[k].pc ≤ pc ∧ st ≤ ms[k].pc ∧ ms[k].fn = fn then findL fn st pc ms[k].line (ms.drop (k + 1)) else findL fn st pc cur (ms.drop (k + 1)) := by
  rw [List.drop_eq_getElem_cons hk]; rfl

/-- the variables of a mark can be read -/
def VarsOk (w : World) (m : MarkD) : Prop := ∃ vs, Came w m.va m.vl m.vc 3 vs ∧ (∀ v ∈ vs, ∀ u ∈ v, u.oneCell' = true) ∧ m.vl * 32 ≤ 140737488355328
theorem VarsOk.below {w w' : World} {m : MarkD} (h : VarsOk w m) (hb : Below w.heap.size w w') : VarsOk w' m := by
  obtain ⟨vs, h1, h2, h3⟩ := h
  exact ⟨vs, h1.below hb, h2, h3⟩

theorem results_row_one {P : Program} {fn : Func} {p u : Tmp} {ty : TypeId} (h : fn.results = #[.cell p ty, .tmp u]) (tmps : Array Value) (w : World) (g : Nat) (t : TypeId) (cs : Array Value) (fr : Nat × Nat) (d : TypeDesc)
    (hp : tmps.getD p undef = .pointer (some ⟨g, 0, none⟩)) (hg : w.heap[g]? = some (.cells cs t fr))
    (hu : P.underlying ty = some d) (hd : (match d with | .struct _ | .array _ _ => true | _ => false) = true) (hi : (P.info? ty).map (·.size) = some cs.size) :
    (results fn tmps).run P w = .ok (.tuple #[.agg cs, tmps.getD u undef]) w := by
  have hp' : tmps[p]?.getD undef = .pointer (some ⟨g, 0, none⟩) := by simpa using hp
  simp [results, h, hp', asAddr, run_loadVar_row w g t ty cs fr d hg hu hd hi]

theorem setRowBlk3 {w : World} {g : Nat} {t : TypeId} {old : List Value} (h : Blk w g t old) (cs : List Value) : Blk (w.setRow g cs.toArray) g t cs := by
  unfold Blk at h ⊢
  simp [World.setRow, Array.getElem?_modify, h]
theorem setRowOther {w : World} {g k : Nat} {t : TypeId} {cs : List Value} (h : Blk w k t cs) (hk : k ≠ g) (xs : Array Value) : Blk (w.setRow g xs) k t cs := by
  unfold Blk at h ⊢
  simp only [World.setRow, Array.getElem?_modify]
  rw [if_neg (fun e => hk e.symm)]
  exact h
theorem setRowBelow {B : Nat} {w w' : World} (h : Below B w w') {g : Nat} (hg : B ≤ g) (xs : Array Value) : Below B w (w'.setRow g xs) :=
  h.trans ⟨rfl, rfl, rfl, by simp [World.setRow], fun k hk => by simp only [World.setRow, Array.getElem?_modify]; rw [if_neg (by omega)]⟩
theorem zero3 : (#[.int .i64 0, .int .i64 0, .slice none 0 0] : Array Value).all (·.oneCell') = true := by kernel_rfl
theorem one3 (x y : Int) (a : Option Addr) (n c : Nat) : (#[.int .i64 x, .int .i64 y, .slice a n c] : Array Value).all (·.oneCell') = true := by simp [Value.oneCell']

def FindErr (c : Int) (w : World) (e : Ending) (w' : World) : Prop := e = .returned (.tuple #[.agg #[.int .i64 0, .int .i64 0, .slice none 0 0], .int .i64 c]) ∧ Below w.heap.size w w'
def FindOk (fn line : Int) (w : World) (e : Ending) (w' : World) : Prop := ∃ a m c, e = .returned (.tuple #[.agg #[.int .i64 fn, .int .i64 line, .slice a m c], .int .i64 0]) ∧ Below w.heap.size w w'

set_option maxRecDepth 100000 in
set_option maxHeartbeats 4000000 in
theorem find_err (ca : Option Addr) (cl cc : Nat) (entry : Int) (sa : Option Addr) (sl sc : Nat) (pa : Option Addr) (pl pc : Nat) (ma : Option Addr) (ml mc : Nat) (ms : List MarkD) (x : Int) (w : World) (h : Came w ma ml mc 4 (ms.map markCells)) (he : checkM cl sl ms ≠ 0) :
    Calls Try.prog 19 #[.agg #[.slice ca cl cc, .int .i64 entry, .slice sa sl sc, .slice pa pl pc, .slice ma ml mc], .int .i64 x] w (FindErr (checkM cl sl ms) w) := by
  have HC := fun wx (hx : Below w.heap.size w wx) => Lib.hid (debugCheck_any ca cl cc entry sa sl sc pa pl pc ma ml mc ms wx (h.below hx))
  obtain ⟨c, hc⟩ : ∃ c, c = checkM cl sl ms := ⟨_, rfl⟩
  rw [← hc] at HC he ⊢
  have hcn : (c != 0) = true := by rw [bne_iff_ne]; exact he
  clear hc he h
  have hb2 : Below w.heap.size w ((w.alloc (.cells #[.slice ca cl cc, .int .i64 entry, .slice sa sl sc, .slice pa pl pc, .slice ma ml mc] 51)).alloc (.cells #[.int .i64 0, .int .i64 0, .slice none 0 0] 54)) := ((Below.refl _ _).alloc (Nat.le_refl _) _).alloc (by simp) _
  have hr2 := Blk.new (w.alloc (.cells #[.slice ca cl cc, .int .i64 entry, .slice sa sl sc, .slice pa pl pc, .slice ma ml mc] 51)) [.int .i64 0, .int .i64 0, .slice none 0 0] 54
  rw [World.size_alloc] at hr2
  have HB2 := Lib.hid hb2
  have HR2 := Lib.hid hr2
  clear hb2 hr2
  go_enter Try.func19, Try.ntmps19
  go_wp2_with fail
  refine (HC _ HB2.out).out.mono ?_
  rintro e w1 ⟨rfl, hb⟩
  have HR3 := Lib.hid (HR2.out.below hb HR2.out.lt)
  have HB3 := Lib.hid (HB2.out.trans (hb.mono HB2.out.size))
  have HSZ : Hid ((Try.prog.info? 54).map (·.size) = some 3) := by unfold Hid; kernel_rfl
  clear hb
  go_wp2_with (refine wpList_store_rowTo rfl 54 _ _ rfl rfl (w.heap.size + 1) #[.int .i64 0, .int .i64 0, .slice none 0 0] rfl rfl _ _ HR3.out HSZ.out rfl zero3 ?_)
  have hr4 := setRowBlk3 HR3.out [.int .i64 0, .int .i64 0, .slice none 0 0]
  exact bodyPost_ret (results_row_one rfl _ _ (w.heap.size + 1) _ _ _ _ rfl hr4 Try.underlying54 rfl HSZ.out) rfl ⟨rfl, setRowBelow HB3.out (Nat.le_succ _) _⟩

set_option maxRecDepth 100000 in
set_option maxHeartbeats 4000000 in
theorem find_none (ca : Option Addr) (cl cc : Nat) (entry : Int) (sa : Option Addr) (sl sc : Nat) (pa : Option Addr) (pl pc : Nat) (ma : Option Addr) (ml mc : Nat) (ms : List MarkD) (zs : List Int) (x : Int) (w : World) (h : Came w ma ml mc 4 (ms.map markCells)) (he : checkM cl sl ms = 0)
    (hz : Came w sa sl sc 1 (zs.map intCells)) (hbig : sl < 1000) (hcl : cl ≤ 4611686018427387904) (hs : zs.Pairwise (· ≤ ·)) (hf : funcOf cl zs x < 0) :
    Calls Try.prog 19 #[.agg #[.slice ca cl cc, .int .i64 entry, .slice sa sl sc, .slice pa pl pc, .slice ma ml mc], .int .i64 x] w (FindErr 12 w) := by
  have HC := fun wx (hx : Below w.heap.size w wx) => Lib.hid (debugCheck_any ca cl cc entry sa sl sc pa pl pc ma ml mc ms wx (h.below hx))
  rw [he] at HC
  have HFN := fun wx (hx : Below w.heap.size w wx) => Lib.hid (function_any ca cl cc entry sa sl sc pa pl pc ma ml mc zs x wx (hz.below hx) hbig hcl hs)
  obtain ⟨f, hff⟩ : ∃ f, f = funcOf cl zs x := ⟨_, rfl⟩
  rw [← hff] at HFN hf
  clear hff he h hz hs
  have hb2 : Below w.heap.size w ((w.alloc (.cells #[.slice ca cl cc, .int .i64 entry, .slice sa sl sc, .slice pa pl pc, .slice ma ml mc] 51)).alloc (.cells #[.int .i64 0, .int .i64 0, .slice none 0 0] 54)) := ((Below.refl _ _).alloc (Nat.le_refl _) _).alloc (by simp) _
  have hr2 := Blk.new (w.alloc (.cells #[.slice ca cl cc, .int .i64 entry, .slice sa sl sc, .slice pa pl pc, .slice ma ml mc] 51)) [.int .i64 0, .int .i64 0, .slice none 0 0] 54
  rw [World.size_alloc] at hr2
  have hi2 := (Blk.new w [.slice ca cl cc, .int .i64 entry, .slice sa sl sc, .slice pa pl pc, .slice ma ml mc] 51).alloc (.cells #[.int .i64 0, .int .i64 0, .slice none 0 0] 54)
  have HB2 := Lib.hid hb2
  have HR2 := Lib.hid hr2
  have HI2 := Lib.hid hi2
  have HSZ : Hid ((Try.prog.info? 54).map (·.size) = some 3) := by unfold Hid; kernel_rfl
  have HSI : Hid ((Try.prog.info? 51).map (·.size) = some 5) := by unfold Hid; kernel_rfl
  clear hb2 hr2 hi2
  go_enter Try.func19, Try.ntmps19
  go_wp2_with fail
  refine (HC _ HB2.out).out.mono ?_
  rintro e w1 ⟨rfl, hb⟩
  have HR3 := Lib.hid (HR2.out.below hb HR2.out.lt)
  have HI3 := Lib.hid (HI2.out.below hb HI2.out.lt)
  have HB3 := Lib.hid (HB2.out.trans (hb.mono HB2.out.size))
  clear hb HC HR2 HI2 HB2
  go_wp2_with (refine wpList_load_row rfl 51 _ rfl w.heap.size rfl _ #[.slice ca cl cc, .int .i64 entry, .slice sa sl sc, .slice pa pl pc, .slice ma ml mc] _ _ HI3.out Try.underlying51 rfl HSI.out ?_)
  refine (HFN _ HB3.out).out.mono ?_
  rintro e w2 ⟨rfl, hb⟩
  have HR4 := Lib.hid (HR3.out.below hb HR3.out.lt)
  have HB4 := Lib.hid (HB3.out.trans (hb.mono HB3.out.size))
  have hd : decide (f < 0) = true := decide_eq_true hf
  clear hb HFN
  go_wp2_with (refine wpList_store_rowTo rfl 54 _ _ rfl rfl (w.heap.size + 1) #[.int .i64 0, .int .i64 0, .slice none 0 0] rfl rfl _ _ HR4.out HSZ.out rfl zero3 ?_)
  have hr4 := setRowBlk3 HR4.out [.int .i64 0, .int .i64 0, .slice none 0 0]
  exact bodyPost_ret (results_row_one rfl _ _ (w.heap.size + 1) _ _ _ _ rfl hr4 Try.underlying54 rfl HSZ.out) rfl ⟨rfl, setRowBelow HB4.out (Nat.le_succ _) _⟩

set_option maxRecDepth 100000 in
set_option maxHeartbeats 4000000 in
theorem find_ok (ca : Option Addr) (cl cc : Nat) (entry : Int) (sa : Option Addr) (sl sc : Nat) (pa : Option Addr) (pl pc : Nat) (ma : Option Addr) (ml mc : Nat) (ms : List MarkD) (zs : List Int) (x : Int) (w : World) (h : Came w ma ml mc 4 (ms.map markCells)) (he : checkM cl sl ms = 0)
    (hz : Came w sa sl sc 1 (zs.map intCells)) (hbig : sl < 1000) (hcl : cl ≤ 4611686018427387904) (hs : zs.Pairwise (· ≤ ·)) (hv : ∀ m ∈ ms, VarsOk w m) (f : Nat) (hf : funcOf cl zs x = (f : Int)) (hfl : f < zs.length) :
    Calls Try.prog 19 #[.agg #[.slice ca cl cc, .int .i64 entry, .slice sa sl sc, .slice pa pl pc, .slice ma ml mc], .int .i64 x] w (FindOk (f : Int) (findL (f : Int) (zs[f]) x 0 ms) w) := by
  have HC := fun wx (hx : Below w.heap.size w wx) => Lib.hid (debugCheck_any ca cl cc entry sa sl sc pa pl pc ma ml mc ms wx (h.below hx))
  rw [he] at HC
  have HFN := fun wx (hx : Below w.heap.size w wx) => Lib.hid (function_any ca cl cc entry sa sl sc pa pl pc ma ml mc zs x wx (hz.below hx) hbig hcl hs)
  rw [hf] at HFN
  have hl : ms.length = ml := by simpa using h.count
  have HL := Lib.hid hl
  have hle := h.le
  have hmx := h.max
  have HCM := Lib.hid h
  have HZ := Lib.hid hz
  have HV := Lib.hid hv
  have hsl : zs.length = sl := by simpa using hz.count
  have hzle := hz.le
  have hzmx := hz.max
  obtain ⟨sb, so, hsa, hsb, hscell⟩ := hz.ints (by omega)
  subst hsa
  have SC := Lib.hid (hscell f hfl)
  obtain ⟨st, hst⟩ : ∃ st, st = zs[f] := ⟨_, rfl⟩
  rw [← hst] at SC ⊢
  have HFL : Hid (∀ cur k, (hk : k < ms.length) → findL (f : Int) st x cur (ms.drop k) = if ms[k].pc ≤ x ∧ st ≤ ms[k].pc ∧ ms[k].fn = (f : Int) then findL (f : Int) st x ms[k].line (ms.drop (k + 1)) else findL (f : Int) st x cur (ms.drop (k + 1))) := fun cur k hk => findL_at hk
  clear hscell hst hf he h hz hs hl hv
  have hb2 : Below w.heap.size w ((w.alloc (.cells #[.slice ca cl cc, .int .i64 entry, .slice (some ⟨sb, so, none⟩) sl sc, .slice pa pl pc, .slice ma ml mc] 51)).alloc (.cells #[.int .i64 0, .int .i64 0, .slice none 0 0] 54)) := ((Below.refl _ _).alloc (Nat.le_refl _) _).alloc (by simp) _
  have hr2 := Blk.new (w.alloc (.cells #[.slice ca cl cc, .int .i64 entry, .slice (some ⟨sb, so, none⟩) sl sc, .slice pa pl pc, .slice ma ml mc] 51)) [.int .i64 0, .int .i64 0, .slice none 0 0] 54
  rw [World.size_alloc] at hr2
  have hi2 := (Blk.new w [.slice ca cl cc, .int .i64 entry, .slice (some ⟨sb, so, none⟩) sl sc, .slice pa pl pc, .slice ma ml mc] 51).alloc (.cells #[.int .i64 0, .int .i64 0, .slice none 0 0] 54)
  have HB2 := Lib.hid hb2
  have HR2 := Lib.hid hr2
  have HI2 := Lib.hid hi2
  have HSZ : Hid ((Try.prog.info? 54).map (·.size) = some 3) := by unfold Hid; kernel_rfl
  have HSI : Hid ((Try.prog.info? 51).map (·.size) = some 5) := by unfold Hid; kernel_rfl
  clear hb2 hr2 hi2
  go_enter Try.func19, Try.ntmps19
  go_wp2_with fail
  refine (HC _ HB2.out).out.mono ?_
  rintro e w1 ⟨rfl, hb⟩
  have HR3 := Lib.hid (HR2.out.below hb HR2.out.lt)
  have HI3 := Lib.hid (HI2.out.below hb HI2.out.lt)
  have HB3 := Lib.hid (HB2.out.trans (hb.mono HB2.out.size))
  clear hb HC HR2 HI2 HB2
  go_wp2_with (refine wpList_load_row rfl 51 _ rfl w.heap.size rfl _ #[.slice ca cl cc, .int .i64 entry, .slice (some ⟨sb, so, none⟩) sl sc, .slice pa pl pc, .slice ma ml mc] _ _ HI3.out Try.underlying51 rfl HSI.out ?_)
  refine (HFN _ HB3.out).out.mono ?_
  rintro e w2 ⟨rfl, hb⟩
  have HR4 := Lib.hid (HR3.out.below hb HR3.out.lt)
  have HB4 := Lib.hid (HB3.out.trans (hb.mono HB3.out.size))
  have hd : decide ((f : Int) < 0) = false := decide_eq_false (by omega)
  have HI4 := Lib.hid (HI3.out.below hb HI3.out.lt)
  clear hb HFN HR3 HB3 HI3
  have hl4 := HR4.out.lt
  have HO5 := Lib.hid (Blk.new w2 [.int .i64 (f : Int), .int .i64 0, .slice none 0 0] 54)
  have HB5 := Lib.hid (HB4.out.alloc HB4.out.size (.cells #[.int .i64 (f : Int), .int .i64 0, .slice none 0 0] 54))
  have HI5 := Lib.hid (HI4.out.alloc (.cells #[.int .i64 (f : Int), .int .i64 0, .slice none 0 0] 54))
  have HR5 := Lib.hid (HR4.out.alloc (.cells #[.int .i64 (f : Int), .int .i64 0, .slice none 0 0] 54))
  go_upto_region 8 with fail
  have hO : w.heap.size + 1 < w2.heap.size := hl4
  obtain ⟨O, hOe⟩ : ∃ O, O = w2.heap.size := ⟨_, rfl⟩
  rw [← hOe] at HO5 hO ⊢
  generalize w2.alloc (.cells #[.int .i64 (f : Int), .int .i64 0, .slice none 0 0] 54) = w3 at HO5 HB5 HI5 HR5 ⊢
  clear hOe HR4 HB4 HI4 hl4 hd
  have i4 := HI5.out.cell 4
  simp only [List.getElem?_cons_succ, List.getElem?_cons_zero] at i4
  go_wp2_with fail
  clear i4
  have hI3 := HI5.out.lt
  go_loopw [28] (fun u wr => ∃ (k : Nat) (cur : Int) (va : Option Addr) (vl vc : Nat), k ≤ ml ∧ u = .int .i64 (k : Int) ∧ findL (f : Int) st x 0 ms = findL (f : Int) st x cur (ms.drop k) ∧ Blk wr O 54 [.int .i64 (f : Int), .int .i64 cur, .slice va vl vc] ∧ Blk wr w.heap.size 51 [.slice ca cl cc, .int .i64 entry, .slice (some ⟨sb, so, none⟩) sl sc, .slice pa pl pc, .slice ma ml mc] ∧ Blk wr (w.heap.size + 1) 54 [.int .i64 0, .int .i64 0, .slice none 0 0] ∧ Below w.heap.size w wr) (fun u _ => ml - (intOf u).toNat)
  case atStart => exact ⟨0, 0, none, 0, 0, Nat.zero_le _, rfl, rfl, HO5.out, HI5.out, HR5.out, HB5.out⟩
  case round =>
    clear HO5 HI5 HR5 HB5
    obtain ⟨k, cur, ova, ovl, ovc, hk, rfl, hm, hout, him, hres, hbel⟩ := hrel
    have HM := Lib.hid hm
    have HO := Lib.hid hout
    have HI := Lib.hid him
    have HR := Lib.hid hres
    have HB := Lib.hid hbel
    have hOl := hout.lt
    clear hm hout him hres hbel
    by_cases hlt : k < ml
    · have hkl : k < ms.length := by have := HL.out; omega
      obtain ⟨b0, off, ea, hbl, hcell⟩ := came_marks (HCM.out.below HB.out) (by omega)
      subst ea
      have hcs := hcell k hkl
      have HAT := Lib.hid (HFL.out cur k hkl)
      have HVK := Lib.hid ((HV.out _ (List.getElem_mem hkl)).below HB.out)
      obtain ⟨m, hmk⟩ : ∃ m, m = ms[k] := ⟨_, rfl⟩
      rw [← hmk] at hcs HAT HVK
      clear hmk hcell hkl
      obtain ⟨pcv, mfn, mline, va, vl, vc⟩ := m
      obtain ⟨c0, c1, c2, c3⟩ := hcs
      simp only at c0 c1 c2 c3 HAT
      have scl := (HB.out.cell (p := ⟨sb, so + f, none⟩) hsb).trans SC.out
      have hba : Below wr.heap.size wr (wr.alloc (.cells #[.int .i64 pcv, .int .i64 mfn, .int .i64 mline, .slice va vl vc] 58)) := (Below.refl _ _).alloc (Nat.le_refl _) _
      have HBA := Lib.hid hba
      have HMB := Lib.hid (Blk.new wr [.int .i64 pcv, .int .i64 mfn, .int .i64 mline, .slice va vl vc] 58)
      have SC2 := Lib.hid ((hba.cell (p := ⟨sb, so + f, none⟩) (by have := HB.out.size; show sb < _; omega)).trans scl)
      go_upto_region 11 with fail
      clear c0 c1 c2 c3 scl hba
      obtain ⟨M, hMe⟩ : ∃ M, M = wr.heap.size := ⟨_, rfl⟩
      rw [← hMe] at HMB HBA hOl ⊢
      generalize wr.alloc (.cells #[.int .i64 pcv, .int .i64 mfn, .int .i64 mline, .slice va vl vc] 58) = w4 at HMB HBA SC2 ⊢
      have HO4 := Lib.hid (HO.out.below HBA.out hOl)
      have HI4 := Lib.hid (HI.out.below HBA.out (by omega))
      have HR4 := Lib.hid (HR.out.below HBA.out (by omega))
      have HB4 := Lib.hid (HB.out.trans (HBA.out.mono (by have := HB.out.size; omega)))
      have HV4 := Lib.hid (HVK.out.below (by rw [← hMe]; exact HBA.out))
      have hMl := HMB.out.lt
      have hMw := HB.out.size
      rw [← hMe] at hMw
      have m0 := HMB.out.cell 0
      have m1 := HMB.out.cell 1
      have i2 := HI4.out.cell 2
      simp only [List.getElem?_cons_succ, List.getElem?_cons_zero] at m0 m1 i2
      have sc4 := SC2.out
      clear HO HI HR HB HVK SC2 hMe HBA hbl
      have hcases : ¬ pcv ≤ x ∨ (pcv ≤ x ∧ ¬ st ≤ pcv) ∨ (pcv ≤ x ∧ st ≤ pcv ∧ ¬ mfn = (f : Int)) ∨ (pcv ≤ x ∧ st ≤ pcv ∧ mfn = (f : Int)) := by omega
      rcases hcases with h1 | ⟨h1, h2⟩ | ⟨h1, h2, h3⟩ | ⟨h1, h2, h3⟩
      case' inl =>
        have d1 : decide (pcv ≤ x) = false := decide_eq_false h1
        have HN : Hid (findL (f : Int) st x 0 ms = findL (f : Int) st x cur (ms.drop (k + 1))) := by unfold Hid; rw [HM.out, HAT.out, if_neg (fun e => h1 e.1)]
        clear h1
      case' inr.inl =>
        have d1 : decide (pcv ≤ x) = true := decide_eq_true h1
        have d2 : decide (st ≤ pcv) = false := decide_eq_false h2
        have HN : Hid (findL (f : Int) st x 0 ms = findL (f : Int) st x cur (ms.drop (k + 1))) := by unfold Hid; rw [HM.out, HAT.out, if_neg (fun e => h2 e.2.1)]
        clear h1 h2
      case' inr.inr.inl =>
        have d1 : decide (pcv ≤ x) = true := decide_eq_true h1
        have d2 : decide (st ≤ pcv) = true := decide_eq_true h2
        have d3 : (mfn == (f : Int)) = false := by rw [beq_eq_false_iff_ne]; exact h3
        have HN : Hid (findL (f : Int) st x 0 ms = findL (f : Int) st x cur (ms.drop (k + 1))) := by unfold Hid; rw [HM.out, HAT.out, if_neg (fun e => h3 e.2.2)]
        clear h1 h2 h3
      case' inr.inr.inr =>
        have d1 : decide (pcv ≤ x) = true := decide_eq_true h1
        have d2 : decide (st ≤ pcv) = true := decide_eq_true h2
        have d3 : (mfn == (f : Int)) = true := by rw [beq_iff_eq]; exact h3
        have HN : Hid (findL (f : Int) st x 0 ms = findL (f : Int) st x mline (ms.drop (k + 1))) := by unfold Hid; rw [HM.out, HAT.out, if_pos ⟨h1, h2, h3⟩]
        clear h1 h2 h3
      case' inl | inr.inl | inr.inr.inl =>
        go_quiet (fail)
        go_wp2_with fail
        go_roundw
        case rel =>
          have hd4 := below_drewN_self w4.heap.size w4 nq
          exact ⟨k + 1, cur, ova, ovl, ovc, by omega, by go_num, HN.out, HO4.out.below hd4 HO4.out.lt, HI4.out.below hd4 HI4.out.lt, HR4.out.below hd4 HR4.out.lt, HB4.out.trans (below_drewN_self _ _ _)⟩
        case measure => simp [intOf]; omega
      case' inr.inr.inr =>
        go_quiet (fail)
        go_wp2_with fail
        have hd4 := below_drewN_self w4.heap.size w4 nq
        have hd4' := below_drewN_self w.heap.size w4 nq
        generalize w4.drewN nq = w5 at hd4 hd4' ⊢
        have HO5 := Lib.hid (HO4.out.below hd4 HO4.out.lt)
        have HI5 := Lib.hid (HI4.out.below hd4 HI4.out.lt)
        have HR5 := Lib.hid (HR4.out.below hd4 HR4.out.lt)
        have HM5 := Lib.hid (HMB.out.below hd4 hMl)
        have HB5 := Lib.hid (HB4.out.trans hd4')
        have HV5 := Lib.hid (HV4.out.below hd4)
        have m2 := HM5.out.cell 2
        have m3 := HM5.out.cell 3
        simp only [List.getElem?_cons_succ, List.getElem?_cons_zero] at m2 m3
        clear m0 m1 i2 sc4 d1 d2 d3 HO4 HI4 HR4 HMB HB4 HV4 hd4 hd4' hMl
        have r2 : ∀ y : AfterR (Keep1 M) w5.drew, y.world.cell? ⟨M, 2, none⟩ = some (.int .i64 mline) := fun y => (Keep1.cell y.rel).trans m2
        have r3 : ∀ y : AfterR (Keep1 M) w5.drew, y.world.cell? ⟨M, 3, none⟩ = some (.slice va vl vc) := fun y => (Keep1.cell y.rel).trans m3
        refine wp_region_eagerRF (Keep1 M) [(0, true), (1, true), (2, true), (3, true), (5, true), (4, false), (6, false), (7, true), (8, false)] (by kernel_rfl) (by kernel_rfl) ?_
        have hde : Below w5.heap.size w5 w5.drew := (Below.refl _ _).drew
        have hde' : Below w.heap.size w5 w5.drew := (Below.refl _ _).drew
        have HO6 := Lib.hid (HO5.out.below hde HO5.out.lt)
        have HI6 := Lib.hid (HI5.out.below hde HI5.out.lt)
        have HR6 := Lib.hid (HR5.out.below hde HR5.out.lt)
        have HM6 := Lib.hid (HM5.out.below hde HM5.out.lt)
        have HB6 := Lib.hid (HB5.out.trans hde')
        have HV6 := Lib.hid (HV5.out.below hde)
        clear HO5 HI5 HR5 HM5 HB5 HV5 hde hde' m2 m3
        generalize w5.drew = w6 at *
        repeat (refine eagR_readF rfl ?_; go_big_quiet_step (fail); refine wpQuiet_nil ?_)
        clear r2 r3
        refine eagR_doesF rfl rfl ?_
        intro K hK
        go_simp
        obtain ⟨vs, hv1, hv2, hv3⟩ := HV6.out
        refine (clone_vars va vl vc vs w6 hv1 hv2 hv3).mono ?_
        rintro e w7 ⟨⟨na, nl, nc, rfl⟩, hb7⟩
        have HO7 := Lib.hid (HO6.out.below hb7 HO6.out.lt)
        have HI7 := Lib.hid (HI6.out.below hb7 HI6.out.lt)
        have HR7 := Lib.hid (HR6.out.below hb7 HR6.out.lt)
        have HB7 := Lib.hid (HB6.out.trans (hb7.mono HB6.out.size))
        refine hK _ _ (fun _ => hb7.block M HM6.out.lt) ?_
        clear hK K hv1 hv2 hv3 hb7 HO6 HI6 HR6 HB6 HV6 HM6
        have f1 := HO7.out.free 1
        have f2 := HO7.out.free 2
        have o1 := HO7.out.cell 1
        have o2 := HO7.out.cell 2
        simp only [List.getElem?_cons_succ, List.getElem?_cons_zero] at o1 o2
        go_simp
        refine eagR_doesF rfl rfl ?_
        intro K hK
        go_simp
        refine hK _ _ (fun _ => Below.heap_setCell _ ⟨O, 1, none⟩ _ _ (fun e => by have e2 : M = O := e; omega)) ?_
        clear hK K
        go_simp
        refine eagR_readF rfl ?_
        go_big_quiet_step (fail)
        refine wpQuiet_nil ?_
        refine eagR_doesF rfl rfl ?_
        intro K hK
        go_simp
        refine hK _ _ (fun _ => Below.heap_setCell _ ⟨O, 2, none⟩ _ _ (fun e => by have e2 : M = O := e; omega)) ?_
        clear hK K
        go_simp
        refine eagR_endF ?_
        go_wp2_with fail
        go_roundw
        case rel =>
          refine ⟨k + 1, mline, na, nl, nc, by omega, by go_num, HN.out, (HO7.out.set 1 _).set 2 _, (HI7.out.setOther (a := ⟨O, 1, none⟩) (fun e => by have e2 : _ = O := e; omega) _).setOther (a := ⟨O, 2, none⟩) (fun e => by have e2 : _ = O := e; omega) _, (HR7.out.setOther (a := ⟨O, 1, none⟩) (fun e => by have e2 : _ = O := e; omega) _).setOther (a := ⟨O, 2, none⟩) (fun e => by have e2 : _ = O := e; omega) _, (HB7.out.setCell (p := ⟨O, 1, none⟩) (by show _ ≤ O; omega) _).setCell (p := ⟨O, 2, none⟩) (by show _ ≤ O; omega) _⟩
        case measure => simp [intOf]; omega
    · have h9 : ms.drop k = [] := List.drop_eq_nil_of_le (by have := HL.out; omega)
      have HE : Hid (findL (f : Int) st x 0 ms = cur) := by unfold Hid; rw [HM.out, h9]; rfl
      clear h9 HM
      go_wp2_with (first
        | (refine wpList_load_row rfl 54 _ rfl O rfl _ #[.int .i64 (f : Int), .int .i64 cur, .slice ova ovl ovc] _ _ HO.out Try.underlying54 rfl HSZ.out ?_)
        | (refine wpList_store_rowTo rfl 54 _ _ rfl rfl (w.heap.size + 1) #[.int .i64 (f : Int), .int .i64 cur, .slice ova ovl ovc] rfl rfl _ _ HR.out HSZ.out rfl (one3 _ _ _ _ _) ?_))
      have hr4 := setRowBlk3 HR.out [.int .i64 (f : Int), .int .i64 cur, .slice ova ovl ovc]
      rw [HE.out]
      exact bodyPost_ret (results_row_one rfl _ _ (w.heap.size + 1) _ _ _ _ rfl hr4 Try.underlying54 rfl HSZ.out) rfl ⟨_, _, _, rfl, setRowBelow HB.out (Nat.le_succ _) _⟩
end Go.Proofs.Ytnfgjcdiophphab
