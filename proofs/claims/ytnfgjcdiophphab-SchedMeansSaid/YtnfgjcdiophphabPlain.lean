/- The reference's Set and Plain. -/
import Derived.Test.YtnfgjcdiophphabPlainOps
import Derived.Test.YtnfgjcdiophphabSchedLaw
import Derived.Test.YtnfgjcdiophphabRefB
import Derived.Test.YtnfgjcdiophphabIssue
namespace Go.Proofs.Ytnfgjcdiophphab
open Go.RowKit
set_option linter.unusedVariables false
set_option linter.unusedSimpArgs false

def SetQ (w : World) (gm : Nat) (m : List Int) (x v : Int) (e : Ending) (w' : World) : Prop :=
  (goodAddr m x ∧ e = .returned (.bool true) ∧ w' = w.setCell ⟨gm, (x / 2).toNat, none⟩ (.int .i64 v)) ∨ (¬ goodAddr m x ∧ e = .returned (.bool false) ∧ w' = w)
set_option maxHeartbeats 2000000 in
theorem memSet_any (w : World) (q gm : Nat) (m : List Int) (x v : Int) (h : MemAt w q gm m) (hm : m.length ≤ 1000000) (hx : -8589934592 ≤ x ∧ x ≤ 8589934592) :
    Calls Try.prog 75 #[.pointer (some ⟨q, 0, none⟩), .int .i64 x, .int .i64 v] w (SetQ w gm m x v) := by
  have HG := Lib.hid (memGet_any w q gm m x h hm hx)
  have q0 := h.q.cell 0
  simp only [List.getElem?_cons_zero] at q0
  by_cases h1 : goodAddr m x
  · obtain ⟨h2, h3, h4⟩ := id h1
    have hq : x.tdiv 2 = x / 2 := Int.tdiv_eq_ediv_of_nonneg (by omega)
    have hgr : getR m x = .tuple #[.int .i64 (m.getD (x / 2).toNat 0), .bool true] := by
      unfold getR getM
      rw [if_pos h1]
    rw [hgr] at HG
    obtain ⟨i, hi⟩ : ∃ i : Nat, x / 2 = (i : Int) := ⟨(x / 2).toNat, by omega⟩
    have hib : i ≤ 4294967296 := by omega
    have hil : i < m.length := by omega
    have cl := h.cell hil
    have fr := h.g.free i
    obtain ⟨z, hz⟩ : ∃ z, z = m[i] := ⟨_, rfl⟩
    rw [← hz] at cl
    have HX := Lib.hid h1
    have HI : Hid ((x / 2).toNat = i) := by unfold Hid; omega
    rw [hi] at hq
    clear hgr hz h4 h1 h2 hi h
    go_enter Try.func75, Try.ntmps75
    go_wp2_with fail
    refine HG.out.mono ?_
    rintro e w' ⟨rfl, rfl⟩
    go_wp2
    go_ret
    exact .inl ⟨HX.out, rfl, by rw [HI.out]⟩
  · have hgr : getR m x = .tuple #[.int .i64 0, .bool false] := by
      unfold getR getM
      rw [if_neg h1]
    rw [hgr] at HG
    have HX := Lib.hid h1
    clear hgr h1 h
    go_enter Try.func75, Try.ntmps75
    go_wp2_with fail
    refine HG.out.mono ?_
    rintro e w' ⟨rfl, rfl⟩
    go_wp2
    go_ret
    exact .inr ⟨HX.out, rfl, rfl⟩

/-- what lies in the memory while Plain runs -/
structure PlIn (q gm : Nat) (w : World) (k l : Nat) (wx : World) (v : Value) (st : PS) : Prop where
  rb : ∀ i, S32 (st.r i)
  mb : ∀ x ∈ st.m, S32 x
  ml : st.m.length = l
  pl : st.p.length ≤ k
  own : OwnI wx (w.heap.size + 2) v st.p
  mem : MemAt wx q gm st.m
  reg : Blk wx w.heap.size 93 (rowL 16 fun i => .int .i64 (st.r i))
  res : Blk wx (w.heap.size + 1) 93 (rowL 16 fun _ => .int .i64 0)
  gr : w.grownBy wx (some gm)
  sz : w.heap.size + 2 ≤ wx.heap.size
theorem grown_of_below {w w' : World} (h : Below w.heap.size w w') (row : Option Nat) : w.grownBy w' row := ⟨h.os, h.tape, h.output, h.size, fun k hk _ => h.block k hk⟩
theorem PlIn.fr {q gm : Nat} {w : World} {k l : Nat} {wx : World} {v : Value} {st : PS} (h : PlIn q gm w k l wx v st) : ∀ b, b < w.heap.size → b ≠ gm → wx.heap[b]? = w.heap[b]? := fun b h1 h2 => h.gr.block b h1 (fun e => h2 (by injection e))
theorem PlIn.below {q gm : Nat} {w : World} {k l : Nat} {wx wy : World} {v : Value} {st : PS} (h : PlIn q gm w k l wx v st) (hb : Below wx.heap.size wx wy) : PlIn q gm w k l wy v st :=
  ⟨h.rb, h.mb, h.ml, h.pl, ownsRow_below h.own hb, h.mem.below hb, h.reg.below hb h.reg.lt, h.res.below hb h.res.lt, h.gr.trans (grown_of_below hb _), by have := h.sz; have := hb.size; omega⟩
theorem PlIn.reg' {q gm : Nat} {w : World} {k l : Nat} {wx : World} {v : Value} {st : PS} (h : PlIn q gm w k l wx v st) (hgm : gm < w.heap.size) (hq : q < w.heap.size) (d x : Int) (hd : 0 ≤ d ∧ d ≤ 15) (hx : S32 x) (h0 : d ≠ 0) :
    PlIn q gm w k l (wx.setCell ⟨w.heap.size, d.toNat, none⟩ (.int .i64 x)) v ⟨updR st.r d x, st.m, st.p⟩ := by
  refine ⟨fun i => ?_, h.mb, h.ml, h.pl, ownI_setOther h.own (show w.heap.size < w.heap.size + 2 by omega) _, ⟨h.mem.q.setOther (a := ⟨w.heap.size, d.toNat, none⟩) (show q ≠ w.heap.size by omega) _, h.mem.g.setOther (a := ⟨w.heap.size, d.toNat, none⟩) (show gm ≠ w.heap.size by omega) _⟩, ?_, h.res.setOther (a := ⟨w.heap.size, d.toNat, none⟩) (show w.heap.size + 1 ≠ w.heap.size by omega) _, ⟨h.gr.os, h.gr.tape, h.gr.output, by have := h.sz; simp; omega, fun b h1 h2 => ?_⟩, by have := h.sz; simpa using this⟩
  · unfold updR
    rw [if_neg h0]
    show S32 (if i = d.toNat then x else st.r i)
    by_cases e : i = d.toNat
    · rw [if_pos e]; exact hx
    · rw [if_neg e]; exact h.rb i
  · refine (h.reg.rowSet d.toNat (.int .i64 x)).rowCongr fun i _ => ?_
    show _ = Value.int .i64 (updR st.r d x i)
    unfold updR
    rw [if_neg h0]
    show _ = Value.int .i64 (if i = d.toNat then x else st.r i)
    by_cases e : i = d.toNat
    · rw [if_pos e, if_pos e]
    · rw [if_neg e, if_neg e]
  · exact (Below.heap_setCell _ _ _ _ (show b ≠ w.heap.size by omega)).trans (h.gr.block b h1 h2)
theorem PlIn.memSet {q gm : Nat} {w : World} {k l : Nat} {wx : World} {v : Value} {st : PS} (h : PlIn q gm w k l wx v st) (hgm : gm < w.heap.size) (hne : q ≠ gm) (i : Nat) (x : Int) (hx : S32 x) :
    PlIn q gm w k l (wx.setCell ⟨gm, i, none⟩ (.int .i64 x)) v ⟨st.r, st.m.set i x, st.p⟩ := by
  refine ⟨h.rb, fun y hy => ?_, by rw [List.length_set]; exact h.ml, h.pl, ownI_setOther h.own (show gm < w.heap.size + 2 by omega) _, h.mem.set hne i x, h.reg.setOther (a := ⟨gm, i, none⟩) (show w.heap.size ≠ gm by omega) _, h.res.setOther (a := ⟨gm, i, none⟩) (show w.heap.size + 1 ≠ gm by omega) _, ⟨h.gr.os, h.gr.tape, h.gr.output, by have := h.sz; simp; omega, fun b h1 h2 => ?_⟩, by have := h.sz; simpa using this⟩
  · rcases List.mem_or_eq_of_mem_set hy with h1 | rfl
    · exact h.mb y h1
    · exact hx
  · exact (Below.heap_setCell _ _ _ _ (fun e => h2 (by rw [e]))).trans (h.gr.block b h1 h2)
structure PlOut (q gm : Nat) (w : World) (k l : Nat) (wx : World) (v : Value) (st : PS) : Prop where
  rb : ∀ i, S32 (st.r i)
  mb : ∀ x ∈ st.m, S32 x
  ml : st.m.length = l
  pl : st.p.length ≤ k
  own : OwnI wx w.heap.size v st.p
  mem : MemAt wx q gm st.m
  gr : w.grownBy wx (some gm)
  sz : w.heap.size ≤ wx.heap.size
def PlainPost (os : List Op5) (s0 : PS) (q gm : Nat) (w : World) (e : Ending) (w' : World) : Prop :=
  ∃ (E : Int) (st : PS) (v : Value), e = .returned (.tuple #[.agg (rowL 16 fun i => .int .i64 (st.r i)).toArray, v, .int .i64 E]) ∧ PlOut q gm w os.length s0.m.length w' v st ∧ ((E = 0 ∧ execP os s0 = some st) ∨ (E ≠ 0 ∧ execP os s0 = none))
theorem PlIn.out {q gm : Nat} {w : World} {k l k' : Nat} {wx : World} {v : Value} {st : PS} (h : PlIn q gm w k l wx v st) (hk : k ≤ k') (hgm : gm < w.heap.size) (hq : q < w.heap.size) (cs : Array Value) : PlOut q gm w k' l (wx.setRow (w.heap.size + 1) cs) v st := by
  have hb : Below (w.heap.size + 1) wx (wx.setRow (w.heap.size + 1) cs) := ⟨rfl, rfl, rfl, by simp [World.setRow], fun b hb => by simp only [World.setRow, Array.getElem?_modify]; rw [if_neg (by omega)]⟩
  have hgr : wx.grownBy (wx.setRow (w.heap.size + 1) cs) (some (w.heap.size + 1)) := ⟨rfl, rfl, rfl, by simp [World.setRow], fun k _ hk => by simp only [World.setRow, Array.getElem?_modify]; rw [if_neg (fun e => hk (by rw [e]))]⟩
  refine ⟨h.rb, h.mb, h.ml, by have := h.pl; omega, ?_, ⟨h.mem.q.below hb (by omega), h.mem.g.below hb (by omega)⟩, ⟨h.gr.os, h.gr.tape, h.gr.output, by have := h.sz; have := hb.size; omega, fun b h1 h2 => (hb.block b (by omega)).trans (h.gr.block b h1 h2)⟩, by have := h.sz; have := hb.size; omega⟩
  have hk := World.ownsRow.kept h.own hgr (by
    cases hv : v.ownBlock with
    | none => exact .inl rfl
    | some q => exact .inr (fun e => by have := (World.ownsRow.lt h.own q hv).1; simp at e; omega))
  exact owns_base hk (by omega)

theorem getM_bd {m : List Int} {x v : Int} (hm : ∀ y ∈ m, S32 y) (h : getM m x = some v) : S32 v := by
  unfold getM at h
  split at h
  · rename_i hg
    obtain rfl := Option.some.inj h
    have hl : (x / 2).toNat < m.length := by have := hg.2.1; have := hg.2.2; omega
    rw [List.getD_eq_getElem?_getD, List.getElem?_eq_getElem hl]
    exact hm _ (List.getElem_mem hl)
  · exact absurd h (by simp)

theorem exec_none {os : List Op5} {k : Nat} (hk : k < os.length) {s0 st : PS} (h : execP (os.take k) s0 = some st) (hn : stepP os[k] st = none) : execP os s0 = none := by
  have e : os = os.take k ++ os[k] :: os.drop (k + 1) := by rw [List.getElem_cons_drop, List.take_append_drop]
  rw [e, execP_append, h]
  show (stepP os[k] st).bind _ = none
  rw [hn]; rfl
theorem exec_next {os : List Op5} {k : Nat} (hk : k < os.length) {s0 st t : PS} (h : execP (os.take k) s0 = some st) (hn : stepP os[k] st = some t) : execP (os.take (k + 1)) s0 = some t := by
  rw [List.take_succ_eq_append_getElem hk, execP_append, h]
  show (stepP os[k] st).bind _ = some t
  rw [hn]; rfl
theorem eff12 (n a b : Int) (m p : List Int) : eff 12 n a b m p = (getM m (a + n)).map (fun v => (v, m, p)) := by unfold eff; rw [if_pos rfl]
theorem eff13 (n a b : Int) (m p : List Int) : eff 13 n a b m p = (setM m (a + n) b).map (fun m' => (0, m', p)) := by unfold eff; rw [if_neg (by decide), if_pos rfl]
theorem eff23 (n a b : Int) (m p : List Int) : eff 23 n a b m p = if a % 2 = 1 then some (0, m, p ++ [(a - 1) / 2]) else none := by unfold eff; rw [if_neg (by decide), if_neg (by decide), if_pos rfl]
theorem shlN_bd : ∀ (k : Nat) {a : Int}, S32 a → S32 (shlN k a)
  | 0, a, h => h
  | k + 1, a, h => shlN_bd k (wrap32_bd _)
theorem sarN_bd : ∀ (k : Nat) {a : Int}, S32 a → S32 (sarN k a)
  | 0, a, h => h
  | k + 1, a, h => sarN_bd k (by unfold S32 at *; omega)
theorem mathF_bd {op a b n v : Int} (ha : S32 a) (hn : S32 n) (h : mathF op a b n = some v) : S32 v := by
  unfold mathF at h
  repeat' split at h
  all_goals first
    | (obtain rfl := Option.some.inj h; first | exact wrap32_bd _ | exact shlN_bd _ ha | exact sarN_bd _ ha | exact hn | (unfold S32; omega))
    | exact absurd h (by simp)
def CutR (os : List Op5) (s0 : PS) (q gm : Nat) (w : World) (k L O : Nat) (D op d an bn nn : Int) (st : PS) (v xx okv : Value) (wx : World) : Prop :=
  Blk wx O 92 [.int .i64 op, .int .i64 d, .int .i64 an, .int .i64 bn, .int .i64 nn] ∧
  ((okv = .bool true ∧ ∃ V st', xx = .int .i64 V ∧ S32 V ∧ PlIn q gm w (k + 1) L wx v st' ∧ execP (os.take (k + 1)) s0 = some ⟨updR st'.r D V, st'.m, st'.p⟩) ∨
   (okv = .bool false ∧ ∃ V, xx = .int .i64 V ∧ PlIn q gm w k L wx v st ∧ execP os s0 = none))
theorem PlIn.more {q gm : Nat} {w : World} {k l : Nat} {wx : World} {v : Value} {st : PS} (h : PlIn q gm w k l wx v st) : PlIn q gm w (k + 1) l wx v st :=
  ⟨h.rb, h.mb, h.ml, by have := h.pl; omega, h.own, h.mem, h.reg, h.res, h.gr, h.sz⟩
theorem row16_one (f : Nat → Int) : (rowL 16 fun i => Value.int .i64 (f i)).toArray.all (·.oneCell') = true := by
  rw [List.all_toArray, List.all_eq_true]
  intro x hx
  obtain ⟨i, _, rfl⟩ := List.mem_map.1 hx
  rfl
theorem setRow_blk16 {w : World} {b : Nat} {t : TypeId} {cs0 : List Value} (h : Blk w b t cs0) (cs : Array Value) : (w.setRow b cs).heap[b]? = some (.cells cs t (0, 0)) := by
  unfold Blk at h
  simp [World.setRow, Array.getElem?_modify, h]

set_option maxRecDepth 100000 in
set_option maxHeartbeats 4000000 in
theorem plain_ok (os : List Op5) (a : Option Addr) (n c : Nat) (r0 : Nat → Int) (q gm : Nat) (m0 : List Int) (w : World) (h : Came w a n c 5 (os.map opC)) (hn : n ≤ 256) (hok : ∀ o ∈ os, OkP o ∧ S32 o.n)
    (hr : ∀ i, S32 (r0 i)) (hmb : ∀ x ∈ m0, S32 x) (hml : m0.length ≤ 1000000) (hm : MemAt w q gm m0) (hne : q ≠ gm) (hag : ∀ b o, 0 < n → a = some ⟨b, o, none⟩ → b ≠ gm) :
    Calls Try.prog 43 #[.slice a n c, .agg (rowL 16 fun i => .int .i64 (r0 i)).toArray, .pointer (some ⟨q, 0, none⟩)] w (PlainPost os ⟨r0, m0, []⟩ q gm w) := by
  have hl : os.length = n := by simpa using h.count
  have HL := Lib.hid hl
  have HC := Lib.hid h
  have hle := h.le
  have hmx := h.max
  have hgl := hm.g.lt
  have hql := hm.q.lt
  obtain ⟨s0, hs0⟩ : ∃ s0 : PS, s0 = ⟨r0, m0, []⟩ := ⟨_, rfl⟩
  have HI0 : Hid (PlIn q gm w 0 s0.m.length ((w.alloc (.cells (rowL 16 fun i => .int .i64 (r0 i)).toArray 93)).alloc (.cells (rowL 16 fun _ => .int .i64 0).toArray 93)) (.slice none 0 0) s0) := by
    rw [hs0]
    have hb : Below w.heap.size w ((w.alloc (.cells (rowL 16 fun i => .int .i64 (r0 i)).toArray 93)).alloc (.cells (rowL 16 fun _ => .int .i64 0).toArray 93)) := ((Below.refl _ _).alloc (Nat.le_refl _) _).alloc (by simp) _
    refine ⟨hr, hmb, rfl, Nat.le_refl _, World.ownsRow_nil _ _ _ _, ⟨hm.q.below hb hql, hm.g.below hb hgl⟩, (Blk.new w _ _).alloc _, ?_, grown_of_below hb _, by simp⟩
    have := Blk.new (w.alloc (.cells (rowL 16 fun i => .int .i64 (r0 i)).toArray 93)) (rowL 16 fun _ => .int .i64 0) 93
    simpa using this
  obtain ⟨L, hL⟩ : ∃ L, L = s0.m.length := ⟨_, rfl⟩
  have hLb : L ≤ 1000000 := by rw [hL, hs0]; exact hml
  rw [← hs0]
  rw [← hL] at HI0
  have HOK := Lib.hid hok
  have HLE := Lib.hid hL
  have HAG := Lib.hid hag
  have HS0 : Hid (execP (os.take 0) s0 = some s0) := rfl
  have HSZ : Hid ((Try.prog.info? 93).map (·.size) = some 16) := by unfold Hid; kernel_rfl
  clear h hl hs0 hm hmb hr hok hL hag hml
  obtain ⟨i0, hi0, hz0, hz1, hz2⟩ := info_parts Try.infoT3
  go_enter Try.func43, Try.ntmps43
  go_wp2_with fail
  go_loopw [7, 18] (fun v u wx => ∃ (k : Nat) (st : PS), k ≤ n ∧ u = .int .i64 (k : Int) ∧ execP (os.take k) s0 = some st ∧ PlIn q gm w k L wx v st) (fun _ u _ => n - (intOf u).toNat)
  case atStart => exact ⟨0, s0, Nat.zero_le _, rfl, HS0.out, HI0.out⟩
  case round =>
    clear HI0 HS0
    obtain ⟨k, st, hk, rfl, hex, hin⟩ := hrel
    have HE := Lib.hid hex
    have HI := Lib.hid hin
    obtain ⟨pa, pl, pc, rfl⟩ := owns_shape hin.own
    have hsz := hin.sz
    by_cases hlt : k < n
    · obtain ⟨b1, o1, ea, hbl, hcell⟩ := came_ops HC.out (by omega)
      subst ea
      have hko : k < os.length := by have := HL.out; omega
      have hb1 : b1 ≠ gm := HAG.out b1 o1 (by omega) rfl
      have hcc : ∀ i, wr.cell? ⟨b1, i, none⟩ = w.cell? ⟨b1, i, none⟩ := fun i => World.cell?_of_block (a := ⟨b1, i, none⟩) (hin.fr b1 hbl hb1)
      have ho := hcell k hko
      obtain ⟨⟨hop, hd, ha, hb⟩, hnn⟩ := HOK.out _ (List.getElem_mem hko)
      have HN0 := Lib.hid (fun hn => exec_none hko hex hn)
      have HN1 := Lib.hid (fun t hn => exec_next (t := t) hko hex hn)
      unfold stepP at HN0 HN1
      generalize os[k] = o at ho hop hd ha hb hnn HN0 HN1
      obtain ⟨op, d, aa, bb, nn⟩ := o
      obtain ⟨c0, c1, c2, c3, c4⟩ := ho
      simp only [] at c0 c1 c2 c3 c4 hop hd ha hb hnn HN0 HN1
      rw [← hcc] at c0 c1 c2 c3 c4
      obtain ⟨an, rfl⟩ : ∃ an : Nat, aa = (an : Int) := ⟨aa.toNat, by omega⟩
      obtain ⟨bn, rfl⟩ : ∃ bn : Nat, bb = (bn : Int) := ⟨bb.toNat, by omega⟩
      rw [Int.toNat_natCast, Int.toNat_natCast] at HN0 HN1
      have ha16 : an < 16 := by omega
      have hb16 : bn < 16 := by omega
      have hai : (an : Int) < 16 := by omega
      have hbi : (bn : Int) < 16 := by omega
      have hal := hin.below ((Below.refl wr.heap.size wr).alloc (Nat.le_refl _) (.cells #[.int .i64 op, .int .i64 d, .int .i64 (an : Int), .int .i64 (bn : Int), .int .i64 nn] 92))
      have ra := hal.reg.row ha16
      have rbb := hal.reg.row hb16
      have hxa := hin.rb an
      have hxb := hin.rb bn
      obtain ⟨x, hx⟩ : ∃ x, x = st.r an := ⟨_, rfl⟩
      obtain ⟨y, hy⟩ : ∃ y, y = st.r bn := ⟨_, rfl⟩
      rw [← hx] at ra hxa HN0 HN1
      rw [← hy] at rbb hxb HN0 HN1
      have HOW := fun w => Lib.hid (opw_any op d an bn nn w)
      obtain ⟨D, hD⟩ : ∃ D, D = wrOf op d := ⟨_, rfl⟩
      have hDb : 0 ≤ D ∧ D ≤ 15 := by rw [hD]; exact wrOf_bd hd
      rw [← hD] at HOW HN1
      clear hcell hcc hex hin hx hy hb1 hko hD hal
      have hq := Blk.new wr [.int .i64 op, .int .i64 d, .int .i64 (an : Int), .int .i64 (bn : Int), .int .i64 nn] 92
      go_wp2_with fail
      go_quiet (fail)
      have hba := ((Below.refl wr.heap.size wr).alloc (Nat.le_refl _) (.cells #[.int .i64 op, .int .i64 d, .int .i64 (an : Int), .int .i64 (bn : Int), .int .i64 nn] 92)).trans (below_drewN_self _ _ nq)
      have HIA := Lib.hid (HI.out.below hba)
      have HOB := Lib.hid (hq.drewN nq)
      have hml := HI.out.ml
      have hOl := (hq.drewN nq).lt
      clear c0 c1 c2 c3 c4 ra rbb hq hba
      generalize (wr.alloc (.cells #[.int .i64 op, .int .i64 d, .int .i64 (an : Int), .int .i64 (bn : Int), .int .i64 nn] 92)).drewN nq = wq at HIA HOB hOl ⊢
      have hOw : w.heap.size + 2 ≤ wr.heap.size := hsz
      have HNO : Hid (∀ g, (Value.slice pa pl pc).ownBlock = some g → g ≠ wr.heap.size) := fun g hg e => by have := (World.ownsRow.lt HI.out.own g hg).2; omega
      obtain ⟨O, hO⟩ : ∃ O, O = wr.heap.size := ⟨_, rfl⟩
      rw [← hO] at HOB hOl hOw HNO ⊢
      have HOE := Lib.hid hO
      clear hO
      go_upto_region 5 with fail
      iterate 11 (first | go_step | go_simp)
      go_cut [7, 13, 14] from 19 to 89 (CutR os s0 q gm w k L O D op d an bn nn st)
      case first =>
        obtain ⟨p0, p1, p2, p3, p4⟩ := op_cells5 HOB.out
        clear HOW
        have hs : op = 12 ∨ op = 13 ∨ op = 23 ∨ (1 ≤ op ∧ op ≤ 11) := by omega
        rcases hs with rfl | rfl | rfl | hs
        · have HG := Lib.hid (memGet_any wq q gm st.m (x + nn) HIA.out.mem (by omega) (by unfold S32 at hxa hnn; omega))
          have hxn : -8589934592 ≤ x + nn ∧ x + nn ≤ 8589934592 := by unfold S32 at hxa hnn; omega
          rw [eff12] at HN0 HN1
          obtain ⟨g, hg⟩ : ∃ g, g = getM st.m (x + nn) := ⟨_, rfl⟩
          have HBD := Lib.hid (fun v (e : getM st.m (x + nn) = some v) => getM_bd HIA.out.mb e)
          unfold getR at HG
          rw [← hg] at HN0 HN1 HG HBD
          clear hg
          cases g with
          | none =>
            have HEN := Lib.hid (HN0.out rfl)
            clear HN0 HN1
            simp only [] at HG
            go_wp2_with fail
            refine HG.out.mono ?_
            rintro e w' ⟨rfl, rfl⟩
            go_wp2
            go_meet
            exact ⟨HOB.out, .inr ⟨rfl, 0, rfl, HIA.out, HEN.out⟩⟩
          | some V =>
            have HEN := Lib.hid (HN1.out _ rfl)
            have HVB := Lib.hid (HBD.out _ rfl)
            clear HN0 HN1
            simp only [] at HG
            go_wp2_with fail
            refine HG.out.mono ?_
            rintro e w' ⟨rfl, rfl⟩
            go_wp2
            go_meet
            exact ⟨HOB.out, .inl ⟨rfl, V, st, rfl, HVB.out, HIA.out.more, HEN.out⟩⟩
        · have HSQ := Lib.hid (memSet_any wq q gm st.m (x + nn) y HIA.out.mem (by omega) (by unfold S32 at hxa hnn; omega))
          have hxn : -8589934592 ≤ x + nn ∧ x + nn ≤ 8589934592 := by unfold S32 at hxa hnn; omega
          rw [eff13] at HN0 HN1
          unfold setM at HN0 HN1
          have HPS := Lib.hid (fun i => HIA.out.memSet hgl hne i y hxb)
          go_wp2_with fail
          refine HSQ.out.mono ?_
          rintro e w' (⟨hga, rfl, rfl⟩ | ⟨hga, rfl, rfl⟩)
          · rw [if_pos hga] at HN1
            have HEN := Lib.hid (HN1.out _ rfl)
            have HOB2 := Lib.hid (HOB.out.setOther (a := ⟨gm, ((x + nn) / 2).toNat, none⟩) (show O ≠ gm by omega) (.int .i64 y))
            have HZ := Lib.hid (show S32 0 by unfold S32; omega)
            clear HN0 HN1 hga p0 p1 p2 p3 p4
            go_wp2
            go_meet
            exact ⟨HOB2.out, .inl ⟨rfl, 0, _, rfl, HZ.out, (HPS.out _).more, HEN.out⟩⟩
          · rw [if_neg hga] at HN0
            have HEN := Lib.hid (HN0.out rfl)
            clear HN0 HN1 hga HPS
            go_wp2
            go_meet
            exact ⟨HOB.out, .inr ⟨rfl, 0, rfl, HIA.out, HEN.out⟩⟩
        · rw [eff23] at HN0 HN1
          have HMO := Lib.hid (modulo_any x 2 wq (by omega) (by omega))
          obtain ⟨z, hz⟩ : ∃ z, z = x % 2 := ⟨_, rfl⟩
          rw [← hz] at HMO HN0 HN1
          by_cases hz1' : z = 1
          · rw [if_pos hz1'] at HN1
            have HEN := Lib.hid (HN1.out _ rfl)
            have t1 : (z == 1) = true := by simp [hz1']
            have hxb' : -2147483649 ≤ x - 1 ∧ x - 1 ≤ 2147483646 := by unfold S32 at hxa; omega
            have HQ : Hid ((x - 1).tdiv 2 = (x - 1) / 2) := by
              unfold Hid
              have hd : (2 : Int) ∣ (x - 1) := ⟨x / 2, by omega⟩
              exact Int.tdiv_eq_ediv_of_dvd hd
            have hqb : -2147483649 ≤ (x - 1).tdiv 2 ∧ (x - 1).tdiv 2 ≤ 2147483646 := by rw [HQ.out]; omega
            have hpl : st.p.length ≤ 256 := by have := HIA.out.pl; omega
            have HPW := Lib.hid HIA.out.own
            have hplE : pl = st.p.length := by have := (ownI_came HIA.out.own).1; exact this
            subst hplE
            clear HN0 HN1 hz hz1'
            have HAL := Lib.hid (World.ownsRow.alloc HPW.out (.cells #[.int .i64 ((x - 1).tdiv 2)] 3))
            have HA2 : Hid (∀ j u, [Value.int .i64 ((x - 1).tdiv 2)][j]? = some u → (wq.alloc (.cells #[.int .i64 ((x - 1).tdiv 2)] 3)).cell? ((⟨wq.heap.size, 0, none⟩ : Addr).add j) = some u) := cell_one_new _ _ _
            have HA3 : Hid (∀ u ∈ ([.int .i64 ((x - 1).tdiv 2)] : List Value), u.oneCell' = true) := by intro u hu; simp at hu; subst hu; rfl
            have HIAl := Lib.hid (HIA.out.below ((Below.refl _ _).alloc (Nat.le_refl _) (.cells #[.int .i64 ((x - 1).tdiv 2)] 3)))
            have HOBl := Lib.hid (HOB.out.alloc (.cells #[.int .i64 ((x - 1).tdiv 2)] 3))
            have hwq := HIA.out.sz
            go_wp2_with fail
            refine HMO.out.mono ?_
            rintro e w' ⟨rfl, rfl⟩
            go_wp2_with (at_builtin; refine wpList_append_own _ rfl _ _ 24 rfl (w.heap.size + 2) 3 i0 (.int .i64 0) 1 8 Try.underlying24 hi0 hz0 hz1 hz2 rfl (by decide) _ _ _ rfl HAL.out ⟨wq.heap.size, 0, none⟩ 1 1 [.int .i64 ((x - 1).tdiv 2)] rfl rfl HA2.out HA3.out (by unfold maxLen; omega) (by omega) (by simp; omega) ?_)
            intro v' w3 hown' hgrow _
            have hvb : ∀ q, (Value.slice pa st.p.length pc).ownBlock = some q → w.heap.size + 2 ≤ q ∧ q ≠ O := fun q hq => ⟨(World.ownsRow.lt HPW.out q hq).1, HNO.out q hq⟩
            have hw3 : OwnI w3 (w.heap.size + 2) v' (st.p ++ [(x - 1) / 2]) := by
              unfold OwnI
              rw [List.length_append, intVs_append, ← HQ.out]
              simpa [intVs] using hown'
            have hbl3 : ∀ b, b < w.heap.size + 2 → w3.heap[b]? = (wq.alloc (.cells #[.int .i64 ((x - 1).tdiv 2)] 3)).heap[b]? := fun b hb => hgrow.block b (by simp; omega) (fun e => by have := (hvb b e.symm).1; omega)
            have hin3 : PlIn q gm w (k + 1) L w3 v' ⟨st.r, st.m, st.p ++ [(x - 1) / 2]⟩ := by
              have hi := HIAl.out
              refine ⟨hi.rb, hi.mb, hi.ml, by have := HIA.out.pl; simp; omega, hw3, ⟨hi.mem.q.of_heap (hbl3 q (by omega)), hi.mem.g.of_heap (hbl3 gm (by omega))⟩, hi.reg.of_heap (hbl3 _ (by omega)), hi.res.of_heap (hbl3 _ (by omega)), ⟨hgrow.os.trans hi.gr.os, hgrow.tape.trans hi.gr.tape, hgrow.output.trans hi.gr.output, Nat.le_trans hi.gr.size hgrow.size, fun b h1 h2 => (hbl3 b (by omega)).trans (hi.gr.block b h1 h2)⟩, ?_⟩
              have := hgrow.size
              simp at this
              omega
            have hob3 : Blk w3 O 92 [.int .i64 23, .int .i64 d, .int .i64 (an : Int), .int .i64 (bn : Int), .int .i64 nn] := HOBl.out.of_heap (hgrow.block O (by simp; omega) (fun e => (hvb O e.symm).2 rfl))
            obtain ⟨va, vl, vc, rfl⟩ := owns_shape hown'
            have HI5 := Lib.hid hin3
            have HO5 := Lib.hid hob3
            have HZ := Lib.hid (show S32 0 by unfold S32; omega)
            clear hown' hgrow hvb hw3 hbl3 hin3 hob3 HAL HA2 HA3 HIAl HOBl p0 p1 p2 p3 p4
            go_wp2
            go_meet
            exact ⟨HO5.out, .inl ⟨rfl, 0, _, rfl, HZ.out, HI5.out, HEN.out⟩⟩
          · rw [if_neg hz1'] at HN0
            have HEN := Lib.hid (HN0.out rfl)
            have t1 : (z == 1) = false := by simp [hz1']
            clear HN0 HN1 hz hz1'
            go_wp2_with fail
            refine HMO.out.mono ?_
            rintro e w' ⟨rfl, rfl⟩
            go_wp2
            go_meet
            exact ⟨HOB.out, .inr ⟨rfl, 0, rfl, HIA.out, HEN.out⟩⟩
        · have HMA := Lib.hid (math_any op x y nn wq hs hxa hxb hnn)
          unfold mathR at HMA
          rw [eff_plain _ _ _ _ _ ⟨by omega, by omega, by omega⟩] at HN0 HN1
          have HBD := Lib.hid (fun v (e : mathF op x y nn = some v) => mathF_bd hxa hnn e)
          obtain ⟨g, hg⟩ : ∃ g, g = mathF op x y nn := ⟨_, rfl⟩
          rw [← hg] at HMA HN0 HN1 HBD
          have t12 : (op == 12) = false := beq_eq_false_iff_ne.2 (by omega)
          have t13 : (op == 13) = false := beq_eq_false_iff_ne.2 (by omega)
          have t23 : (op == 23) = false := beq_eq_false_iff_ne.2 (by omega)
          clear hg
          cases g with
          | none =>
            have HEN := Lib.hid (HN0.out rfl)
            clear HN0 HN1
            simp only [] at HMA
            go_wp2_with fail
            refine HMA.out.mono ?_
            rintro e w' ⟨rfl, rfl⟩
            have HSZ2 : Hid ((Try.prog.info? 93).map (·.size) = some (rowL 16 fun i => Value.int .i64 (st.r i)).toArray.size) := HSZ.out
            have HOUT := Lib.hid (HIA.out.out (k' := os.length) (by have := HL.out; omega) hgl hql (rowL 16 fun i => Value.int .i64 (st.r i)).toArray)
            have e1 := setRow_blk16 HIA.out.res (rowL 16 fun i => Value.int .i64 (st.r i)).toArray
            have E1 := Lib.hid e1
            clear e1
            go_wp2_with (first
              | (refine wpList_load_row rfl 93 _ rfl w.heap.size rfl _ (rowL 16 fun i => Value.int .i64 (st.r i)).toArray _ _ HIA.out.reg Try.underlying93 rfl HSZ2.out ?_)
              | (refine wpList_store_rowTo rfl 93 _ _ rfl rfl (w.heap.size + 1) (rowL 16 fun i => Value.int .i64 (st.r i)).toArray rfl rfl _ _ HIA.out.res HSZ2.out rfl (row16_one _) ?_))
            refine bodyPost_ret (results_row_two rfl _ _ (w.heap.size + 1) _ _ _ _ rfl E1.out Try.underlying93 rfl HSZ2.out) rfl ⟨1, st, _, rfl, ?_, .inr ⟨by decide, HEN.out⟩⟩
            have := HOUT.out
            rw [← HLE.out]
            exact this
          | some V =>
            have HEN := Lib.hid (HN1.out _ rfl)
            have HVB := Lib.hid (HBD.out _ rfl)
            clear HN0 HN1
            simp only [] at HMA
            go_wp2_with fail
            refine HMA.out.mono ?_
            rintro e w' ⟨rfl, rfl⟩
            go_wp2
            go_meet
            exact ⟨HOB.out, .inl ⟨rfl, V, st, rfl, HVB.out, HIA.out.more, HEN.out⟩⟩
      case rest =>
        obtain ⟨hob, hc⟩ := hcut
        have HOB2 := Lib.hid hob
        obtain ⟨p0, p1, p2, p3, p4⟩ := op_cells5 hob
        have hOl2 := hob.lt
        clear hob HOB HIA
        rcases hc with ⟨rfl, V, st', rfl, hV, hin', hex'⟩ | ⟨rfl, V, rfl, hin', hex'⟩
        · have HI2 := Lib.hid hin'
          have HEX := Lib.hid hex'
          have HV := Lib.hid hV
          obtain ⟨qa, ql, qc, rfl⟩ := owns_shape hin'.own
          clear hin' hex' hV
          go_wp2_with fail
          refine (HOW _).out.mono ?_
          rintro e w2 ⟨rfl, hb2⟩
          have HI3 := Lib.hid (HI2.out.below hb2)
          clear hb2 HI2 p0 p1 p2 p3 p4
          by_cases hD0 : D = 0
          · have t1 : (D != 0) = false := by simp [hD0]
            have HZ : Hid ((⟨updR st'.r D V, st'.m, st'.p⟩ : PS) = st') := by unfold Hid updR; rw [if_pos hD0]
            rw [HZ.out] at HEX
            clear hD0 HZ
            go_wp2_with fail
            go_roundw
            case rel => exact ⟨k + 1, st', by omega, by go_num, HEX.out, HI3.out⟩
            case measure => simp [intOf]; omega
          · have t1 : (D != 0) = true := by simp [hD0]
            have HI4 := Lib.hid (HI3.out.reg' hgl hql D V hDb HV.out hD0)
            obtain ⟨dn, rfl⟩ : ∃ dn : Nat, D = (dn : Int) := ⟨D.toNat, by omega⟩
            have hd16 : dn < 16 := by omega
            have hdi : (dn : Int) < 16 := by omega
            rw [Int.toNat_natCast] at HI4
            have ra := HI3.out.reg.row hd16
            have fa := HI3.out.reg.free dn
            clear hD0
            go_wp2_with fail
            go_roundw
            case rel => exact ⟨k + 1, _, by omega, by go_num, HEX.out, HI4.out⟩
            case measure => simp [intOf]; omega
        · have HI2 := Lib.hid hin'
          have HEN := Lib.hid hex'
          clear hin' hex'
          have HSZ2 : Hid ((Try.prog.info? 93).map (·.size) = some (rowL 16 fun i => Value.int .i64 (st.r i)).toArray.size) := HSZ.out
          have HOUT := Lib.hid (HI2.out.out (k' := os.length) (by have := HL.out; omega) hgl hql (rowL 16 fun i => Value.int .i64 (st.r i)).toArray)
          have e1 := setRow_blk16 HI2.out.res (rowL 16 fun i => Value.int .i64 (st.r i)).toArray
          have E1 := Lib.hid e1
          clear e1
          go_wp2_with (first
            | (refine wpList_load_row rfl 93 _ rfl w.heap.size rfl _ (rowL 16 fun i => Value.int .i64 (st.r i)).toArray _ _ HI2.out.reg Try.underlying93 rfl HSZ2.out ?_)
            | (refine wpList_store_rowTo rfl 93 _ _ rfl rfl (w.heap.size + 1) (rowL 16 fun i => Value.int .i64 (st.r i)).toArray rfl rfl _ _ HI2.out.res HSZ2.out rfl (row16_one _) ?_))
          refine bodyPost_ret (results_row_two rfl _ _ (w.heap.size + 1) _ _ _ _ rfl E1.out Try.underlying93 rfl HSZ2.out) rfl ⟨5, st, _, rfl, ?_, .inr ⟨by decide, HEN.out⟩⟩
          have := HOUT.out
          rw [← HLE.out]
          exact this
    · have ek : k = n := by omega
      subst ek
      have HEN : Hid (execP os s0 = some st) := by
        have := HE.out
        rw [List.take_of_length_le (by have := HL.out; omega)] at this
        exact this
      clear hex hin HE
      have HSZ2 : Hid ((Try.prog.info? 93).map (·.size) = some (rowL 16 fun i => Value.int .i64 (st.r i)).toArray.size) := HSZ.out
      have HOUT := Lib.hid (HI.out.out (k' := os.length) (by have := HL.out; omega) hgl hql (rowL 16 fun i => Value.int .i64 (st.r i)).toArray)
      have e1 := setRow_blk16 HI.out.res (rowL 16 fun i => Value.int .i64 (st.r i)).toArray
      have E1 := Lib.hid e1
      clear e1
      go_wp2_with (first
        | (refine wpList_load_row rfl 93 _ rfl w.heap.size rfl _ (rowL 16 fun i => Value.int .i64 (st.r i)).toArray _ _ HI.out.reg Try.underlying93 rfl HSZ2.out ?_)
        | (refine wpList_store_rowTo rfl 93 _ _ rfl rfl (w.heap.size + 1) (rowL 16 fun i => Value.int .i64 (st.r i)).toArray rfl rfl _ _ HI.out.res HSZ2.out rfl (row16_one _) ?_))
      refine bodyPost_ret (results_row_two rfl _ _ (w.heap.size + 1) _ _ _ _ rfl E1.out Try.underlying93 rfl HSZ2.out) rfl ⟨0, st, _, rfl, ?_, .inl ⟨rfl, HEN.out⟩⟩
      have := HOUT.out
      rw [← HLE.out]
      exact this
end Go.Proofs.Ytnfgjcdiophphab
