/- The fact that the laws on allocators state (keep4): one parameter gets the one register, from colour and from the scan. -/
import Derived.Test.YtdnpoomagjcpfaaGreatColAlloc
import Derived.Test.YtdnpoomagjcpfaaGreatLinTwo
import Derived.Test.YtdnpoomagjcpfaaGreatSmallK
namespace Go.Proofs.YtdnpoomagjcpfaaGreat
open Go.RowKit
set_option linter.unusedVariables false
set_option linter.unusedSimpArgs false

set_option maxRecDepth 100000 in
set_option maxHeartbeats 2000000 in
theorem same1K_ok (w : World) : Calls Tryz.prog 32 #[] w (fun e w' => ∃ p q, e = .returned (f1V p q).v ∧ (f1V p q).Ok w' ∧ Below w.heap.size w w') := by
 go_enter Tryz.func32, Tryz.ntmps32
 go_wp2
 refine bodyPost_ret (v := (f1V (w.heap.size + 1) (w.heap.size + 2)).v) (by simp [results, Tryz.results32, go_sem, VF.v, f1V]) rfl ⟨_, _, rfl, f1V_ok ?_ ?_, ?_⟩
 ·have := Blk.new (w.alloc (.cells #[.int .i64 0, .slice (some ⟨w.heap.size + 1, 0, none⟩) 1 1, .int .i64 2, .slice (some ⟨w.heap.size + 1 + 1, 0, none⟩) 1 1] 25)) [.int .i64 1] 3
  rw [World.size_alloc] at this
  exact this.alloc _
 ·have := Blk.new ((w.alloc (.cells #[.int .i64 0, .slice (some ⟨w.heap.size + 1, 0, none⟩) 1 1, .int .i64 2, .slice (some ⟨w.heap.size + 1 + 1, 0, none⟩) 1 1] 25)).alloc (.cells #[.int .i64 1] 3)) (vbC b1V) 46
  rwa [World.size_alloc, World.size_alloc] at this
 ·exact (((Below.refl _ _).alloc (Nat.le_refl _) _).alloc (by simp) _).alloc (by simp; omega) _
/-- what stands of an allocation for same1 -/
theorem AL.Ok.one {a : AL} {w : World} (ha : a.Ok w) {n : Nat} (hn : n = 2) (hrn : a.rn = n) (hr : a.reg[1]? = some 1) : ∃ g off, a.ra = some ⟨g, off, none⟩ ∧ g < w.heap.size ∧ w.cell? ⟨g, off + 1, none⟩ = some (.int .i64 1) ∧ a.rn = 2 ∧ 2 ≤ a.rc ∧ a.rc ≤ 9223372036854775807 := by
 subst hn
 have hc := ha.rcame
 rw [hrn] at hc
 have hrl : a.reg.length = 2 := by have := ha.rcame.count; rw [hrn] at this; simpa using this
 obtain ⟨g, off, hra, hg, hcell⟩ := hc.ints (by omega)
 have c1 := hcell 1 (by omega)
 rw [List.getElem?_eq_getElem (by omega)] at hr
 injection hr with hr
 rw [hr] at c1
 exact ⟨g, off, hra, hg, c1, hrn, hc.le, hc.max⟩
set_option maxRecDepth 100000 in
set_option maxHeartbeats 4000000 in
theorem allocFact_ok (w : World) : Calls Tryz.prog 13 #[] w (fun e w' => e = .returned (.bool true) ∧ Below w.heap.size w w') := by
 have HS := Lib.hid same1K_ok
 go_enter Tryz.func13, Tryz.ntmps13
 go_wp2_with fail
 refine (HS.out w).mono ?_
 rintro e w1 ⟨p, q, rfl, hok, hb1⟩
 have HA := Lib.hid (allocate_any w1 (f1V p q) hok 1 (by unfold I64; omega))
 have HB1 := Lib.hid hb1
 clear hok hb1
 go_wp2_with fail
 refine HA.out.mono ?_
 rintro e w2 ⟨hb2, h⟩
 have HB2 := Lib.hid (HB1.out.trans (hb2.mono HB1.out.size))
 rcases h with ⟨h, _⟩ | ⟨_, h, _⟩ | ⟨_, _, n, nb, a, hfo, rfl, hao, hrn, hsn, hlaw⟩
 ·exact absurd (f1V_fn p q) h
 ·exact absurd (by omega) h
 ·obtain ⟨hn, hK, hr⟩ := f1V_law (by omega) hfo hlaw
  obtain ⟨g, off, hra, hg, c1, hrn2, hle, hmx⟩ := hao.one hn hrn hr
  have hbx := Blk.new w2 [.slice a.ra a.rn a.rc, .slice a.sa a.sn a.sc, .int .i64 a.k] 31
  have hb2' : Below w2.heap.size w2 (w2.alloc (.cells #[.slice a.ra a.rn a.rc, .slice a.sa a.sn a.sc, .int .i64 a.k] 31)) := (Below.refl _ _).alloc (Nat.le_refl _) _
  rw [hra, hrn2] at hbx hb2'
  unfold AL.v
  rw [hra, hrn2]
  have HG := Lib.hid hg
  have HC1 := Lib.hid c1
  have HL := Lib.hid (And.intro hle hmx)
  have HBX := Lib.hid hbx
  have HB2' := Lib.hid hb2'
  clear hb2 hfo hao hsn hlaw hr hK hra hrn HA HB1 hg c1 hle hmx hbx hb2' hn hrn2
  go_upto_region 2 with fail
  obtain ⟨w2h, hw2h⟩ : ∃ x, x = w2.heap.size := ⟨_, rfl⟩
  have HBX' : Hid (Blk (w2.alloc (.cells #[.slice (some ⟨g, off, none⟩) 2 a.rc, .slice a.sa a.sn a.sc, .int .i64 a.k] 31)) w2h 31 [.slice (some ⟨g, off, none⟩) 2 a.rc, .slice a.sa a.sn a.sc, .int .i64 a.k]) := by rw [hw2h]; exact HBX.out
  rw [← hw2h]
  change Code.wp _ _ _ _ (w2.alloc (.cells #[.slice (some ⟨g, off, none⟩) 2 a.rc, .slice a.sa a.sn a.sc, .int .i64 a.k] 31))
  have HB3 : Hid (Below w.heap.size w (w2.alloc (.cells #[.slice (some ⟨g, off, none⟩) 2 a.rc, .slice a.sa a.sn a.sc, .int .i64 a.k] 31))) := HB2.out.trans (HB2'.out.mono HB2.out.size)
  have HG3 : Hid (g < (w2.alloc (.cells #[.slice (some ⟨g, off, none⟩) 2 a.rc, .slice a.sa a.sn a.sc, .int .i64 a.k] 31)).heap.size) := Nat.lt_of_lt_of_le HG.out HB2'.out.size
  have HC3 : Hid ((w2.alloc (.cells #[.slice (some ⟨g, off, none⟩) 2 a.rc, .slice a.sa a.sn a.sc, .int .i64 a.k] 31)).cell? ⟨g, off + 1, none⟩ = some (.int .i64 1)) := (HB2'.out.cell (p := ⟨g, off + 1, none⟩) HG.out).trans HC1.out
  clear HBX HB2' HC1 HG HB2 hw2h
  generalize w2.alloc (.cells #[.slice (some ⟨g, off, none⟩) 2 a.rc, .slice a.sa a.sn a.sc, .int .i64 a.k] 31) = w3 at HBX' HB3 HG3 HC3 ⊢
  go_wp2_with fail
  refine (HS.out w3).mono ?_
  rintro e w4 ⟨p2, q2, rfl, hok, hb4⟩
  have HA := Lib.hid (lal1_any w4 p2 q2 hok)
  have HB4 := Lib.hid hb4
  clear hok hb4 HS
  unfold VF.v
  go_wp2_with fail
  refine HA.out.mono ?_
  rintro e w5 ⟨g2, t2, rfl, hg, c1, hb5⟩
  have HB5 := Lib.hid (HB4.out.trans (hb5.mono HB4.out.size))
  have hbx := Blk.new w5 [.slice (some ⟨g2, 0, none⟩) 2 2, .slice (some ⟨t2, 0, none⟩) 2 2, .int .i64 0] 31
  have hb2' : Below w5.heap.size w5 (w5.alloc (.cells #[.slice (some ⟨g2, 0, none⟩) 2 2, .slice (some ⟨t2, 0, none⟩) 2 2, .int .i64 0] 31)) := (Below.refl _ _).alloc (Nat.le_refl _) _
  have HB6 : Hid (Below w3.heap.size w3 (w5.alloc (.cells #[.slice (some ⟨g2, 0, none⟩) 2 2, .slice (some ⟨t2, 0, none⟩) 2 2, .int .i64 0] 31))) := HB5.out.trans (hb2'.mono HB5.out.size)
  have HC2 : Hid ((w5.alloc (.cells #[.slice (some ⟨g2, 0, none⟩) 2 2, .slice (some ⟨t2, 0, none⟩) 2 2, .int .i64 0] 31)).cell? ⟨g2, 1, none⟩ = some (.int .i64 1)) := (hb2'.cell (p := ⟨g2, 1, none⟩) hg).trans c1
  have HBX2 := Lib.hid hbx
  clear hb5 HA HB4 hg c1 hbx hb2' HB5
  go_upto_region 3 with fail
  obtain ⟨w5h, hw5h⟩ : ∃ x, x = w5.heap.size := ⟨_, rfl⟩
  have HBX2' : Hid (Blk (w5.alloc (.cells #[.slice (some ⟨g2, 0, none⟩) 2 2, .slice (some ⟨t2, 0, none⟩) 2 2, .int .i64 0] 31)) w5h 31 [.slice (some ⟨g2, 0, none⟩) 2 2, .slice (some ⟨t2, 0, none⟩) 2 2, .int .i64 0]) := by rw [hw5h]; exact HBX2.out
  rw [← hw5h]
  change Code.wp _ _ _ _ (w5.alloc (.cells #[.slice (some ⟨g2, 0, none⟩) 2 2, .slice (some ⟨t2, 0, none⟩) 2 2, .int .i64 0] 31))
  clear HBX2 hw5h
  generalize (w5.alloc (.cells #[.slice (some ⟨g2, 0, none⟩) 2 2, .slice (some ⟨t2, 0, none⟩) 2 2, .int .i64 0] 31)) = w6 at HBX2' HB6 HC2 ⊢
  have b0 := (HBX'.out.below HB6.out (Blk.lt HBX'.out)).cell 0
  have d0 := HBX2'.out.cell 0
  simp only [List.getElem?_cons_zero, List.getElem?_cons_succ] at b0 d0
  have b1 := (HB6.out.cell (p := ⟨g, off + 1, none⟩) HG3.out).trans HC3.out
  have d1 := HC2.out
  have l1 := HL.out.1
  have l2 := HL.out.2
  have HE : Hid (Below w.heap.size w w6) := HB3.out.trans (HB6.out.mono HB3.out.size)
  go_wp2_with fail
  go_ret
  exact ⟨rfl, HE.out⟩
end Go.Proofs.YtdnpoomagjcpfaaGreat
