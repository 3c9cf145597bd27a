/- The fact that FrameMaps states: what Emit makes of the function of one parameter. -/
import Derived.Test.YtdnpoomagjcpfaaGreatRetAl
import Derived.Test.YtdnpoomagjcpfaaGreatVFact
import Derived.Great.BuildSlice
namespace Go.Proofs.YtdnpoomagjcpfaaGreat
open Go.RowKit
set_option linter.unusedVariables false
set_option linter.unusedSimpArgs false

def a1V (ga gb : Nat) : AL := ⟨some ⟨ga, 0, none⟩, 2, 2, [-1, 1], some ⟨gb, 0, none⟩, 2, 2, [-1, -1], 0⟩
theorem came_two {w : World} {g : Nat} {x y : Int} (h : Blk w g 3 [.int .i64 x, .int .i64 y]) : Came w (some ⟨g, 0, none⟩) 2 2 1 ([x, y].map intCells) := by
 refine ⟨rfl, Nat.le_refl _, by omega, fun h => (by cases h), fun v hv => (by simp at hv; rcases hv with rfl | rfl <;> rfl), fun _ _ => ⟨g, 0, rfl, h.lt, fun i v hv j hj => ?_⟩⟩
 obtain rfl : j = 0 := by omega
 rcases i with _ | _ | i
 ·simp at hv
  subst hv
  exact h.cell 0
 ·simp at hv
  subst hv
  exact h.cell 1
 ·simp at hv
theorem a1V_ok {w : World} {ga gb : Nat} (ha : Blk w ga 3 [.int .i64 (-1), .int .i64 1]) (hb : Blk w gb 3 [.int .i64 (-1), .int .i64 (-1)]) : (a1V ga gb).Ok w := by
 have i0 : ∀ z : Int, -1 ≤ z ∧ z ≤ 5 → I64 z := fun z h => by unfold I64; omega
 refine ⟨came_two ha, by show 2 * 8 ≤ _; omega, fun z hz => ?_, came_two hb, by show 2 * 8 ≤ _; omega, fun z hz => ?_, i0 0 (by omega)⟩
 ·simp [a1V] at hz; rcases hz with rfl | rfl <;> exact i0 _ (by omega)
 ·simp [a1V] at hz; subst hz; exact i0 _ (by omega)
theorem a1V_placed (p q ga gb : Nat) {n nb : Nat} (hok : FnOk (f1V p q) n nb) : PlacedA (f1V p q) n nb 10 (a1V ga gb) := by
 have hn : n = 2 := by
  have h1 : (2 : Int) = (n : Int) := hok.regs
  omega
 have hnb : nb = 1 := hok.nbl
 subst hn hnb
 refine ⟨?_, fun r hr => ?_, fun r hr => ?_, fun r h1 h2 hk => ?_, fun x y hx hy hxy _ _ => absurd hxy (by omega)⟩
 ·unfold allocE
  rw [f1V_fn]
  exact (by decide : (if (0 : Int) ≠ 0 then (0 : Int) else if ((2 : Nat) : Int) ≠ 2 ∨ ((2 : Nat) : Int) ≠ 2 then 3 else if (0 : Int) < 0 ∨ (8192 : Int) < 0 then 2 else pairsE 0 [-1, 1] [-1, -1]) = 0)
 ·have hr' : r = 0 ∨ r = 1 := by omega
  rcases hr' with rfl | rfl
  ·simp [plc]
  ·constructor
   ·intro _
    exact ⟨Nat.le_refl _, .inl (by show ((1 : Nat) : Int) ∈ [(1 : Int)]; simp)⟩
   ·intro _
    exact (by decide : plc 100 (a1V 0 0) 1 ≠ 0)
 ·have hr' : r = 0 ∨ r = 1 := by omega
  rcases hr' with rfl | rfl
  ·exact (by decide : (a1V 0 0).reg.getD 0 0 ≤ 10)
  ·exact (by decide : (a1V 0 0).reg.getD 1 0 ≤ 10)
 ·obtain ⟨i, hi, k', x, h9, _⟩ := hk
  obtain rfl : i = 0 := by omega
  have : ([] : List VI)[k']? = some x := h9
  simp at this
set_option maxRecDepth 100000 in
set_option maxHeartbeats 8000000 in
theorem frameFact_ok (w : World) : Calls Tryz.prog 5 #[] w (fun e w' => e = .returned (.bool true) ∧ Below w.heap.size w w') := by
 have HS := same1_ok w
 go_enter Tryz.func5, Tryz.ntmps5
 go_wp2_with fail
 refine HS.mono ?_
 rintro e w1 ⟨p, q, rfl, hok, hb1⟩
 obtain ⟨n, hfo⟩ := fnOk hok (f1V_fn p q)
 have hn : n = 2 := by
  have h1 : (2 : Int) = (n : Int) := hfo.regs
  omega
 subst hn
 have hb2 : Below w1.heap.size w1 ((w1.alloc (.cells #[.int .i64 (-1), .int .i64 1] 3)).alloc (.cells #[.int .i64 (-1), .int .i64 (-1)] 3)) := ((Below.refl _ _).alloc (Nat.le_refl _) _).alloc (by simp) _
 have hA := (Blk.new w1 [.int .i64 (-1), .int .i64 1] 3).alloc (.cells #[.int .i64 (-1), .int .i64 (-1)] 3)
 have hB := Blk.new (w1.alloc (.cells #[.int .i64 (-1), .int .i64 1] 3)) [.int .i64 (-1), .int .i64 (-1)] 3
 rw [World.size_alloc] at hB
 have HE := Lib.hid (emitA_any _ (f1V p q) (hok.below hb2) (a1V w1.heap.size (w1.heap.size + 1)) (a1V_ok hA hB) hfo (f1V_fn p q) (a1V_placed p q _ _ hfo) rfl rfl (by show (0 : Int) ≤ 2048; omega) (by decide : emW [b1V] ≤ 8000000))
 have HB2 := Lib.hid (hb1.trans (hb2.mono hb1.size))
 clear HS hok hb1 hb2 hA hB hfo
 go_wp2_with fail
 refine HE.out.mono ?_
 rintro e w2 ⟨XL, v, pp, hXL, rfl, hb3, hm⟩
 have HB3 := Lib.hid (HB2.out.trans (hb3.mono HB2.out.size))
 obtain ⟨ai, ci, ac, cc, am, cm, az, cz, aj, cj, e1, e2, e3, e4, e5⟩ := hm.shapes
 dsimp only at e1 e2 e3
 have hd : (emitS (f1V p q) (a1V w1.heap.size (w1.heap.size + 1)) 2 XL (f1V p q).blocks.length).done.length = 5 := (done_len _).trans rfl
 have hl2 : (emitS (f1V p q) (a1V w1.heap.size (w1.heap.size + 1)) 2 XL (f1V p q).blocks.length).maps.length = 0 := rfl
 rw [hd] at e1
 rw [hl2] at e3
 have hoi := hm.oi
 dsimp only at hoi
 rw [e1, hd] at hoi
 obtain ⟨gi, ci', hgi, _, _, hci1, hci2⟩ := ownG_has hoi (by omega)
 injection hgi with x1 x2 x3
 subst x3
 unfold maxLen at hci2
 have hom := hm.om
 dsimp only at hom
 rw [e3] at hom
 unfold lkV
 rw [e1, e2, e3, show (a1V w1.heap.size (w1.heap.size + 1)).k + 1 = 1 from rfl, show (f1V p q).name = 0 from rfl]
 have hci : 5 ≤ ci ∧ ci ≤ 9223372036854775807 := ⟨hci1, by omega⟩
 have HCI := Lib.hid hci
 obtain ⟨nc, hnc⟩ : ∃ z, z = (emitS (f1V p q) (a1V w1.heap.size (w1.heap.size + 1)) 2 XL (f1V p q).blocks.length).calls.length := ⟨_, rfl⟩
 rw [← hnc]
 clear hm hb3 hoi hom hd hl2 e1 e2 e3 e4 e5 hci hci1 hci2 hnc HE HB2 hXL
 have hb4 : Below w2.heap.size w2 (w2.alloc (.cells #[.int .i64 0, .slice (some ⟨gi, 0, none⟩) 5 ci, .slice ac nc cc, .slice am 0 cm, .int .i64 1] 39)) := (Below.refl _ _).alloc (Nat.le_refl _) _
 have HB4 := Lib.hid (HB3.out.trans (hb4.mono HB3.out.size))
 have HBX := Lib.hid (Blk.new w2 [.int .i64 0, .slice (some ⟨gi, 0, none⟩) 5 ci, .slice ac nc cc, .slice am 0 cm, .int .i64 1] 39)
 clear hb4 HB3
 go_upto_region 2 with fail
 obtain ⟨bo, hbo⟩ : ∃ z, z = w2.heap.size := ⟨_, rfl⟩
 rw [← hbo] at HBX ⊢
 change Code.wp _ _ _ _ (w2.alloc (.cells #[.int .i64 0, .slice (some ⟨gi, 0, none⟩) 5 ci, .slice ac nc cc, .slice am 0 cm, .int .i64 1] 39))
 change Hid (Blk (w2.alloc (.cells #[.int .i64 0, .slice (some ⟨gi, 0, none⟩) 5 ci, .slice ac nc cc, .slice am 0 cm, .int .i64 1] 39)) bo _ _) at HBX
 clear hbo
 generalize w2.alloc (.cells #[.int .i64 0, .slice (some ⟨gi, 0, none⟩) 5 ci, .slice ac nc cc, .slice am 0 cm, .int .i64 1] 39) = w3 at HB4 HBX ⊢
 have o1 := HBX.out.cell 1
 have o3 := HBX.out.cell 3
 have o4 := HBX.out.cell 4
 simp only [List.getElem?_cons_zero, List.getElem?_cons_succ] at o1 o3 o4
 go_wp2_with fail
 go_ret
 exact ⟨rfl, HB4.out⟩
end Go.Proofs.YtdnpoomagjcpfaaGreat
