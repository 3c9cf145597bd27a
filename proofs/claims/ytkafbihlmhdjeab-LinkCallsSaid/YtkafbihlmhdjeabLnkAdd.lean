/- The linker's add: the items of a function, moved. -/
import Derived.Test.YtkafbihlmhdjeabLnkLK
import Derived.Deep.AppendLies
namespace Go.Proofs.Ytkafbihlmhdjeab
open Go.RowKit
set_option linter.unusedVariables false
set_option linter.unusedSimpArgs false

theorem Try.infoI68 : (Try.prog.info? 68).map (fun i => (i.zero, i.size, i.bytes)) = some (some (.agg #[.int .i64 0, .int .i64 0, .int .i64 0, .int .i64 0, .int .i64 0, .int .i64 0]), 6, 48) := by kernel_rfl
def shiftI (base : Nat) (x : Item) : Item := if 0 ≤ x.tg then ⟨x.op, x.d, x.a, x.b, x.n, x.tg + base⟩ else x
def AddPostL (B p : Nat) (vb va : Value) (its : List Item) (bg : List Int) (ads : List (Int × Int)) (w : World) (e : Ending) (w' : World) : Prop :=
  ∃ v vi, e = .returned v ∧ LK B w' p vi vb va its bg ads ∧ Below B w w'

set_option maxRecDepth 100000 in
set_option maxHeartbeats 8000000 in
theorem lkAdd_any (w0 w : World) (B p : Nat) (vi vb va : Value) (its : List Item) (bg : List Int) (ads : List (Int × Int)) (h : LK B w p vi vb va its bg ads) (f : LF) (hf : f.Ok w0) (hB : w0.heap.size ≤ B) (hb : Below w0.heap.size w0 w) (ht : ∀ x ∈ f.its, x.tg ≤ 100000) (hs : its.length ≤ 10000000) (hl : f.il ≤ 100000) :
    Calls Try.prog 48 #[.pointer (some ⟨p, 0, none⟩), f.v] w (AddPostL B p vb va (its ++ f.its.map (shiftI its.length)) bg ads w) := by
  obtain ⟨ai, ci, ab, cb, aa, ca, rfl, rfl, rfl⟩ := h.shapes
  have hBw : B ≤ w.heap.size := Nat.le_trans h.hp (Nat.le_of_lt h.box.lt)
  have HL := Lib.hid h
  have HF := Lib.hid hf
  have HT := Lib.hid ht
  have hil := hf.ilen
  have hpl := h.box.lt
  have c0 := h.box.cell 0
  simp only [List.getElem?_cons_zero] at c0
  have HB := Lib.hid hb
  obtain ⟨n0, hn0⟩ : ∃ n0, n0 = its.length := ⟨_, rfl⟩
  rw [← hn0] at c0 hs ⊢
  have HN0 := Lib.hid hn0
  have HLA : Hid (LK B (w.alloc (.cells #[.int .i64 f.name, .slice f.ia f.il f.ic, .slice f.ca f.cl f.cc, .slice f.ma f.ml f.mc, .int .i64 f.size] 53)) p (.slice ai its.length ci) (.slice ab bg.length cb) (.slice aa ads.length ca) its bg ads) := h.below ((Below.refl _ _).alloc (Nat.le_refl _) _)
  have HBA : Hid (Below B w (w.alloc (.cells #[.int .i64 f.name, .slice f.ia f.il f.ic, .slice f.ca f.cl f.cc, .slice f.ma f.ml f.mc, .int .i64 f.size] 53))) := (Below.refl _ _).alloc hBw _
  clear h hf ht hb hn0
  unfold LF.v
  generalize hia : f.ia = ia at HLA HBA ⊢
  have HCI : Hid (Came w0 ia f.il f.ic 6 (f.its.map itemCells)) := by rw [← hia]; exact HF.out.icame
  clear hia
  go_enter Try.func48, Try.ntmps48
  go_wp2_with fail
  generalize hw1 : (w.alloc (.cells #[.int .i64 f.name, .slice ia f.il f.ic, .slice f.ca f.cl f.cc, .slice f.ma f.ml f.mc, .int .i64 f.size] 53)) = w1 at HLA HBA ⊢
  clear hw1 c0 HL
  obtain ⟨i0, hi0, hz0, hz1, hz2⟩ := info_parts Try.infoI68
  go_loopw [15] (fun u wr => ∃ (k : Nat) (vi : Value), k ≤ f.il ∧ u = .int .i64 (k : Int) ∧ LK B wr p vi (.slice ab bg.length cb) (.slice aa ads.length ca) (its ++ (f.its.take k).map (shiftI n0)) bg ads ∧ Below B w wr) (fun u _ => f.il - (intOf u).toNat)
  case atStart => exact ⟨0, _, Nat.zero_le _, rfl, by simpa using HLA.out, HBA.out⟩
  case round =>
    clear HLA HBA
    obtain ⟨k, vi, hk, rfl, hlk, hbe⟩ := hrel
    have HBE := Lib.hid hbe
    by_cases hlt : k < f.il
    · have hbw : Below w0.heap.size w0 wr := HB.out.trans (hbe.mono hB)
      obtain ⟨g, off, rfl, hg, hci⟩ := came_items HCI.out (by omega)
      obtain ⟨d0, d1, d2, d3, d4, d5⟩ := (hci k (by omega)).later hbw hg
      have hgr : g < wr.heap.size := Nat.lt_of_lt_of_le hg hbw.size
      have hk' : k < f.its.length := by omega
      have HTK : Hid (its ++ (f.its.take (k + 1)).map (shiftI n0) = (its ++ (f.its.take k).map (shiftI n0)) ++ [shiftI n0 f.its[k]]) := by
        show _ = _
        rw [List.take_succ_eq_append_getElem hk', List.map_append, List.append_assoc]
        rfl
      have hx9 := HT.out _ (List.getElem_mem hk')
      generalize f.its[k] = x at d0 d1 d2 d3 d4 d5 HTK hx9
      obtain ⟨cur, hcur⟩ : ∃ cur, cur = its ++ (f.its.take k).map (shiftI n0) := ⟨_, rfl⟩
      have hcl : cur.length = n0 + k := by rw [hcur, HN0.out]; simp; omega
      rw [← hcur] at hlk HTK
      obtain ⟨nc, hnc⟩ : ∃ nc, nc = cur.length := ⟨_, rfl⟩
      have hncb : nc ≤ 10100000 := by omega
      have HNC := Lib.hid hnc
      have HLK := Lib.hid hlk
      clear hci hbw hcur hcl hbe hnc hlk
      obtain ⟨xo, xd, xa, xb, xn, xt⟩ := x
      simp only at d0 d1 d2 d3 d4 d5 hx9
      obtain ⟨y, hy⟩ : ∃ y, y = shiftI n0 ⟨xo, xd, xa, xb, xn, xt⟩ := ⟨_, rfl⟩
      rw [← hy] at HTK
      by_cases hxt : 0 ≤ xt
      case' pos =>
        have HY : Hid (itemCells y = [.int .i64 xo, .int .i64 xd, .int .i64 xa, .int .i64 xb, .int .i64 xn, .int .i64 (xt + n0)]) := by
          show _ = _
          rw [hy]; unfold shiftI; rw [if_pos hxt]; rfl
        clear hy
        go_wp2_with fail
        obtain ⟨wy, hwy⟩ : ∃ wy, wy = wr.alloc (.cells #[.int .i64 xo, .int .i64 xd, .int .i64 xa, .int .i64 xb, .int .i64 xn, .int .i64 (xt + n0)] 68) := ⟨_, rfl⟩
        have HBX : Hid (Blk wy wr.heap.size 68 (itemCells y)) := by rw [hwy, HY.out]; exact Blk.new wr _ _
        have hbz : Below wr.heap.size wr wy := by rw [hwy]; exact (Below.refl _ _).alloc (Nat.le_refl _) _
        rw [← hwy]
      case' neg =>
        have HY : Hid (itemCells y = [.int .i64 xo, .int .i64 xd, .int .i64 xa, .int .i64 xb, .int .i64 xn, .int .i64 xt]) := by
          show _ = _
          rw [hy]; unfold shiftI; rw [if_neg hxt]; rfl
        clear hy
        go_wp2_with fail
        obtain ⟨wy, hwy⟩ : ∃ wy, wy = wr.alloc (.cells #[.int .i64 xo, .int .i64 xd, .int .i64 xa, .int .i64 xb, .int .i64 xn, .int .i64 xt] 68) := ⟨_, rfl⟩
        have HBX : Hid (Blk wy wr.heap.size 68 (itemCells y)) := by rw [hwy, HY.out]; exact Blk.new wr _ _
        have hbz : Below wr.heap.size wr wy := by rw [hwy]; exact (Below.refl _ _).alloc (Nat.le_refl _) _
        rw [← hwy]
      all_goals
        have HLY := Lib.hid (HLK.out.below hbz)
        have HNE : Hid (vi.ownBlock ≠ some wr.heap.size) := fun e => Nat.lt_irrefl _ (HLK.out.oi.lt _ e).2
        have HBY := Lib.hid (HBE.out.trans (hbz.mono (Nat.le_trans hBw HBE.out.size)))
        clear hwy hbz HY d0 d1 d2 d3 d4 d5 HLK
        have hpy := HLY.out.box.lt
        have hqy := HBX.out.lt
        have c0 : wy.cell? ⟨p, 0, none⟩ = some vi := HLY.out.box.cell 0
        obtain ⟨ai, ci, hvi⟩ := ownG_shape HLY.out.oi
        rw [← HNC.out] at hvi
        have HVI := Lib.hid hvi
        have r0 := fun x : AfterR (Kept2 p wr.heap.size) wy.drew => (World.cell?_of_block (a := ⟨p, 0, none⟩) x.rel.1).trans c0
        rw [HVI.out] at r0
        have s0 := fun x : AfterR (Kept2 p wr.heap.size) wy.drew => (World.cell?_of_block (a := ⟨wr.heap.size, 0, none⟩) x.rel.2).trans (show wy.cell? ⟨wr.heap.size, 0, none⟩ = some (.int .i64 y.op) from HBX.out.cell 0)
        have s1 := fun x : AfterR (Kept2 p wr.heap.size) wy.drew => (World.cell?_of_block (a := ⟨wr.heap.size, 1, none⟩) x.rel.2).trans (show wy.cell? ⟨wr.heap.size, 1, none⟩ = some (.int .i64 y.d) from HBX.out.cell 1)
        have s2 := fun x : AfterR (Kept2 p wr.heap.size) wy.drew => (World.cell?_of_block (a := ⟨wr.heap.size, 2, none⟩) x.rel.2).trans (show wy.cell? ⟨wr.heap.size, 2, none⟩ = some (.int .i64 y.a) from HBX.out.cell 2)
        have s3 := fun x : AfterR (Kept2 p wr.heap.size) wy.drew => (World.cell?_of_block (a := ⟨wr.heap.size, 3, none⟩) x.rel.2).trans (show wy.cell? ⟨wr.heap.size, 3, none⟩ = some (.int .i64 y.b) from HBX.out.cell 3)
        have s4 := fun x : AfterR (Kept2 p wr.heap.size) wy.drew => (World.cell?_of_block (a := ⟨wr.heap.size, 4, none⟩) x.rel.2).trans (show wy.cell? ⟨wr.heap.size, 4, none⟩ = some (.int .i64 y.n) from HBX.out.cell 4)
        have s5 := fun x : AfterR (Kept2 p wr.heap.size) wy.drew => (World.cell?_of_block (a := ⟨wr.heap.size, 5, none⟩) x.rel.2).trans (show wy.cell? ⟨wr.heap.size, 5, none⟩ = some (.int .i64 y.tg) from HBX.out.cell 5)
        clear hvi c0
        refine wp_region_eagerRT (Kept2 p wr.heap.size) [(0, true), (1, true), (2, true), (3, true), (4, true), (5, true), (6, false), (7, false), (8, true), (9, true), (10, false)] (by kernel_rfl) (by kernel_rfl) ?_
        repeat (refine eagR_readT rfl ?_; go_big_quiet_step (fail); refine wpQuiet_nil ?_)
        clear r0 s0 s1 s2 s3 s4 s5
        refine eagR_doesT rfl rfl ?_
        intro K hK
        go_simp
        refine hK _ _ (fun _ => ⟨Below.heap_alloc _ _ _ hpy, Below.heap_alloc _ _ _ hqy⟩) ?_
        clear hK K
        have hbz : Below wy.heap.size wy (wy.alloc (.cells #[.int .i64 y.op, .int .i64 y.d, .int .i64 y.a, .int .i64 y.b, .int .i64 y.n, .int .i64 y.tg] 68)).drew := ((Below.refl wy.heap.size wy).alloc (Nat.le_refl _) (.cells #[.int .i64 y.op, .int .i64 y.d, .int .i64 y.a, .int .i64 y.b, .int .i64 y.n, .int .i64 y.tg] 68)).drew
        have HLZ := Lib.hid (HLY.out.below hbz)
        have HBZ := Lib.hid (HBY.out.trans (hbz.mono (Nat.le_trans hBw HBY.out.size)))
        have HNEW : Hid (Blk (wy.alloc (.cells #[.int .i64 y.op, .int .i64 y.d, .int .i64 y.a, .int .i64 y.b, .int .i64 y.n, .int .i64 y.tg] 68)).drew wy.heap.size 68 (itemCells y)) := Blk.new wy (itemCells y) 68
        have hBz : B ≤ (wy.alloc (.cells #[.int .i64 y.op, .int .i64 y.d, .int .i64 y.a, .int .i64 y.b, .int .i64 y.n, .int .i64 y.tg] 68)).drew.heap.size := Nat.le_trans hBw HBZ.out.size
        have hyz : wy.heap.size ≤ (wy.alloc (.cells #[.int .i64 y.op, .int .i64 y.d, .int .i64 y.a, .int .i64 y.b, .int .i64 y.n, .int .i64 y.tg] 68)).drew.heap.size := hbz.size
        clear hbz
        generalize (wy.alloc (.cells #[.int .i64 y.op, .int .i64 y.d, .int .i64 y.a, .int .i64 y.b, .int .i64 y.n, .int .i64 y.tg] 68)).drew = wz at HLZ HBZ HNEW hBz hyz ⊢
        refine eagR_doesT rfl rfl ?_
        intro K hK
        have hrow := HLZ.out.oi
        rw [HVI.out, ← HNC.out] at hrow
        refine wp_append_lies _ _ _ 49 rfl B 68 i0 (.agg #[.int .i64 0, .int .i64 0, .int .i64 0, .int .i64 0, .int .i64 0, .int .i64 0]) 6 48 Try.underlying49 hi0 hz0 hz1 hz2 rfl (by decide) (Value.slice ai nc ci) nc _ rfl hrow ⟨wy.heap.size, 0, none⟩ 1 1 (itemCells y) rfl rfl ?_ ?_ (by decide) ?_ ?_ hBz wz.heap.size rfl ?_
        · intro j u hj
          rw [Addr.add_lit, Nat.zero_add, HNEW.out.cell]
          exact hj
        · intro u hu
          simp [itemCells] at hu
          rcases hu with rfl | rfl | rfl | rfl | rfl | rfl <;> rfl
        · unfold maxLen; omega
        · omega
        intro g' cap' w9 hown' hgrow hwh hlt9
        have hown9 : w9.ownsRow B 68 6 (.slice (some ⟨g', 0, none⟩) (nc + 1) cap') (cur ++ [y]).length ((cur ++ [y]).flatMap itemCells) := by
          rw [List.length_append, ← HNC.out, List.flatMap_append]
          simpa using hown'
        have hgrw : wz.grownBy w9 vi.ownBlock := by rw [HVI.out]; exact hgrow
        have HL9 := Lib.hid (HLZ.out.growI hown9 hgrw)
        have hpk : w9.heap[p]? = wz.heap[p]? := hgrw.block p HLZ.out.box.lt (fun e => own_ty HLZ.out.oi HLZ.out.box (by decide) e.symm)
        have hbx := HLZ.out.box.of_heap hpk
        have f0 := hbx.free 0
        have f0c := hbx.cell 0
        simp only [List.getElem?_cons_zero] at f0c
        have hlp := hbx.lt
        have hqk : w9.heap[wr.heap.size]? = wz.heap[wr.heap.size]? := hgrw.block _ (Nat.lt_of_lt_of_le hqy (by omega)) (fun e => HNE.out e.symm)
        have HB9 := Lib.hid (HBZ.out.grown hgrw hBz (fun q hq => (HLZ.out.oi.lt q hq).1))
        go_simp
        refine hK _ _ (fun _ => ⟨hpk, hqk⟩) ?_
        clear hqk hK K hown' hgrow hwh hown9 hgrw hpk hbx hrow
        repeat (refine eagR_readT rfl ?_; go_big_quiet_step (fail); refine wpQuiet_nil ?_)
        refine eagR_freeT rfl rfl (by kernel_rfl) ?_
        intro K hK
        go_simp
        refine hK _ _ ?_
        clear hK K f0 f0c
        go_simp
        refine eagR_endT ?_
        go_wp2_with fail
        go_roundw
        case rel => exact ⟨k + 1, _, by omega, by go_num, by rw [HTK.out]; exact HL9.out, HB9.out.setCell HLZ.out.hp _⟩
        case measure => simp [intOf]; omega
    · have HLK := Lib.hid hlk
      have HALL : Hid (f.its.take k = f.its) := List.take_of_length_le (by omega)
      clear hlk hbe
      go_wp2_with fail
      refine bodyPost_ret (v := .tuple #[]) (by simp [results, Try.results48, go_sem]) rfl ⟨_, vi, rfl, ?_, HBE.out⟩
      have := HLK.out
      rwa [HALL.out] at this
end Go.Proofs.Ytkafbihlmhdjeab
