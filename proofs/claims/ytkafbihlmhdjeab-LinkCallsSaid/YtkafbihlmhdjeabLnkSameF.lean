/- When are two functions the same: link's same. -/
import Derived.Test.YtkafbihlmhdjeabLnkSame
import Derived.Test.YtkafbihlmhdjeabLnkCheck
namespace Go.Proofs.Ytkafbihlmhdjeab
open Go.RowKit
set_option linter.unusedVariables false
set_option linter.unusedSimpArgs false

/-- the boxes of same -/
structure SameSt (w wx : World) (f h : LF) (g n : Nat) (c : Nat → Nat) : Prop where
  be : Below w.heap.size w wx
  bf : Blk wx w.heap.size 53 (lfC f)
  bh : Blk wx (w.heap.size + 1) 53 (lfC h)
  bc : Blk wx (w.heap.size + 1 + 1) 24 [.slice (some ⟨g, 0, none⟩) n n]
  fo : f.Ok wx
  ho : h.Ok wx
  cl : ClsAt wx g n c
theorem SameSt.later {w wx wy : World} {f h : LF} {g n : Nat} {c : Nat → Nat} (s : SameSt w wx f h g n c) (hb : Below wx.heap.size wx wy) : SameSt w wy f h g n c :=
  ⟨s.be.trans (hb.mono s.be.size), s.bf.below hb s.bf.lt, s.bh.below hb s.bh.lt, s.bc.below hb s.bc.lt, s.fo.below hb, s.ho.below hb, s.cl.below hb⟩
structure SameCells (w wx : World) (f h : LF) : Prop where
  c1 : wx.cell? ⟨w.heap.size, 1, none⟩ = some (.slice f.ia f.il f.ic)
  c2 : wx.cell? ⟨w.heap.size, 2, none⟩ = some (.slice f.ca f.cl f.cc)
  c3 : wx.cell? ⟨w.heap.size, 3, none⟩ = some (.slice f.ma f.ml f.mc)
  d1 : wx.cell? ⟨w.heap.size + 1, 1, none⟩ = some (.slice h.ia h.il h.ic)
  d2 : wx.cell? ⟨w.heap.size + 1, 2, none⟩ = some (.slice h.ca h.cl h.cc)
  d3 : wx.cell? ⟨w.heap.size + 1, 3, none⟩ = some (.slice h.ma h.ml h.mc)
theorem SameSt.cells {w wx : World} {f h : LF} {g n : Nat} {c : Nat → Nat} (s : SameSt w wx f h g n c) : SameCells w wx f h := ⟨s.bf.cell 1, s.bf.cell 2, s.bf.cell 3, s.bh.cell 1, s.bh.cell 2, s.bh.cell 3⟩

set_option maxRecDepth 100000 in
set_option maxHeartbeats 8000000 in
theorem same_any (w : World) (f h : LF) (hf : f.Ok w) (hh : h.Ok w) (g n : Nat) (c : Nat → Nat) (hg : ClsAt w g n c) (k1 : FnsIn n f.calls) (k2 : FnsIn n h.calls) :
    Calls Try.prog 32 #[f.v, h.v, .slice (some ⟨g, 0, none⟩) n n] w (BoolB (sameL (kerC c) f h) w) := by
  obtain ⟨w1, hw1⟩ : ∃ w1, w1 = ((w.alloc (.cells #[.int .i64 f.name, .slice f.ia f.il f.ic, .slice f.ca f.cl f.cc, .slice f.ma f.ml f.mc, .int .i64 f.size] 53)).alloc (.cells #[.int .i64 h.name, .slice h.ia h.il h.ic, .slice h.ca h.cl h.cc, .slice h.ma h.ml h.mc, .int .i64 h.size] 53)).alloc (.cells #[.slice (some ⟨g, 0, none⟩) n n] 24) := ⟨_, rfl⟩
  have hb : Below w.heap.size w w1 := by rw [hw1]; exact (((Below.refl _ _).alloc (Nat.le_refl _) _).alloc (by simp) _).alloc (by simp; omega) _
  have bf : Blk w1 w.heap.size 53 (lfC f) := by rw [hw1]; exact ((Blk.new w _ _).alloc _).alloc _
  have bh : Blk w1 (w.heap.size + 1) 53 (lfC h) := by
    have := (Blk.new (w.alloc (.cells #[.int .i64 f.name, .slice f.ia f.il f.ic, .slice f.ca f.cl f.cc, .slice f.ma f.ml f.mc, .int .i64 f.size] 53)) (lfC h) 53).alloc (.cells #[.slice (some ⟨g, 0, none⟩) n n] 24)
    rw [World.size_alloc] at this
    rw [hw1]; exact this
  have bc : Blk w1 (w.heap.size + 1 + 1) 24 [.slice (some ⟨g, 0, none⟩) n n] := by
    have := Blk.new ((w.alloc (.cells #[.int .i64 f.name, .slice f.ia f.il f.ic, .slice f.ca f.cl f.cc, .slice f.ma f.ml f.mc, .int .i64 f.size] 53)).alloc (.cells #[.int .i64 h.name, .slice h.ia h.il h.ic, .slice h.ca h.cl h.cc, .slice h.ma h.ml h.mc, .int .i64 h.size] 53)) [.slice (some ⟨g, 0, none⟩) n n] 24
    rw [World.size_alloc, World.size_alloc] at this
    rw [hw1]; exact this
  have HS : Hid (SameSt w w1 f h g n c) := ⟨hb, bf, bh, bc, hf.below hb, hh.below hb, hg.below hb⟩
  have K1 := Lib.hid k1
  have K2 := Lib.hid k2
  obtain ⟨R, hR⟩ : ∃ R, R = sameL (kerC c) f h := ⟨_, rfl⟩
  rw [← hR]
  have HR : Hid (R = ((f.size == h.size) && (decide (f.its.map itKey = h.its.map itKey) && (decide (f.maps.map lmKey = h.maps.map lmKey) && callsEq (kerC c) f.calls h.calls)))) := hR
  clear hb bf bh bc hf hh hg k1 k2 hR
  unfold LF.v
  by_cases hs : f.size = h.size
  · have t1 : (f.size == h.size) = true := by simp [hs]
    have HR1 : Hid (R = (decide (f.its.map itKey = h.its.map itKey) && (decide (f.maps.map lmKey = h.maps.map lmKey) && callsEq (kerC c) f.calls h.calls))) := by show _ = _; rw [HR.out, t1]; rfl
    have HEI := Lib.hid (equal_items w1 f.ia f.il f.ic f.its h.ia h.il h.ic h.its HS.out.fo.icame HS.out.ho.icame)
    clear hs HR
    generalize f.size = fs at t1 hw1 ⊢
    generalize h.size = hs at t1 hw1 ⊢
    go_enter Try.func32, Try.ntmps32
    go_wp2_with fail
    rw [← hw1]
    clear hw1
    refine HEI.out.mono ?_
    rintro e w2 ⟨m, rfl, hw2⟩
    have HS2 : Hid (SameSt w w2 f h g n c) := HS.out.later (by rw [hw2]; exact below_drewN_self _ _ _)
    clear hw2 HEI HS
    generalize decide (f.its.map itKey = h.its.map itKey) = d at HR1 ⊢
    obtain ⟨c1, c2, c3, d1, d2, d3⟩ := HS2.out.cells
    cases d
    · have HE : Hid (R = false) := HR1.out
      go_wp2_with fail
      go_ret
      exact ⟨ret_bool HE.out.symm, HS2.out.be⟩
    · have HR2 : Hid (R = (decide (f.maps.map lmKey = h.maps.map lmKey) && callsEq (kerC c) f.calls h.calls)) := HR1.out
      have HEM := Lib.hid (eqMaps_any w2 f.ma f.ml f.mc f.maps h.ma h.ml h.mc h.maps HS2.out.fo.mcame HS2.out.ho.mcame HS2.out.fo.maps HS2.out.ho.maps)
      clear HR1
      go_wp2_with fail
      refine HEM.out.mono ?_
      rintro e w3 ⟨rfl, hb3⟩
      have HS3 : Hid (SameSt w w3 f h g n c) := HS2.out.later hb3
      clear hb3 HEM HS2 c1 c2 c3 d1 d2 d3
      generalize decide (f.maps.map lmKey = h.maps.map lmKey) = d at HR2 ⊢
      obtain ⟨c1, c2, c3, d1, d2, d3⟩ := HS3.out.cells
      cases d
      · have HE : Hid (R = false) := HR2.out
        go_wp2_with fail
        go_ret
        exact ⟨ret_bool HE.out.symm, HS3.out.be⟩
      · have HR3 : Hid (R = callsEq (kerC c) f.calls h.calls) := HR2.out
        have HEC := Lib.hid (eqCalls_any w3 (w.heap.size + 1 + 1) g n c HS3.out.bc HS3.out.cl f.ca f.cl f.cc f.calls h.ca h.cl h.cc h.calls HS3.out.fo.ccame HS3.out.ho.ccame K1.out K2.out)
        clear HR2
        go_wp2_with fail
        refine HEC.out.mono ?_
        rintro e w4 ⟨rfl, hb4⟩
        have HS4 : Hid (SameSt w w4 f h g n c) := HS3.out.later hb4
        clear hb4 HEC HS3 c1 c2 c3 d1 d2 d3
        generalize callsEq (kerC c) f.calls h.calls = d at HR3 ⊢
        go_wp2_with fail
        go_ret
        exact ⟨ret_bool HR3.out.symm, HS4.out.be⟩
  · have t1 : (f.size == h.size) = false := by simp [hs]
    have HE : Hid (R = false) := by show _ = _; rw [HR.out, t1]; rfl
    clear hs HR
    go_enter Try.func32, Try.ntmps32
    go_wp2_with fail
    go_ret
    rw [← hw1]
    exact ⟨ret_bool HE.out.symm, HS.out.be⟩
end Go.Proofs.Ytkafbihlmhdjeab
