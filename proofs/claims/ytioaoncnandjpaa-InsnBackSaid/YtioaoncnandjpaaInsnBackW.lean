/- The walk of InsnBack. -/
import Derived.Test.YtioaoncnandjpaaDecLaws
import Derived.Test.YtioaoncnandjpaaInsnFact
import Derived.Test.YtioaoncnandjpaaSlicesEq
namespace Go.Proofs.Ytioaoncnandjpaa
open Go.RowKit
set_option linter.unusedVariables false

set_option maxHeartbeats 2000000 in
theorem back_bad (a : Option Addr) (len cap : Nat) (zs : List Int) (w : World) (hc : Came w a len cap 1 (zs.map intCells)) (e : Int) (he : decode zs = decBad e) (h3 : e = 3 ∨ e = 12) :
    Calls Try.prog 9 #[.slice a len cap] w fun e w' => e = .returned (.bool true) ∧ Below w.heap.size w w' := by
  have hD := decode_any w a len cap zs hc
  rw [he] at hD
  have HD := Lib.hid hD
  have HF := fun w => Lib.hid (insnFact_ok w)
  have hen : (e != 0) = true := by rw [bne_iff_ne]; omega
  clear hD hc he h3
  go_enter Try.func9, Try.ntmps9
  go_wp2_with fail
  refine HD.out.mono ?_
  rintro e1 w1 ⟨rfl, hb⟩
  have HB := Lib.hid hb
  clear hb
  simp only [Dec.val, decBad]
  go_wp2_with (go_at_call 25; refine (HF _).out.mono ?_; rintro e w3 ⟨rfl, hb⟩; have HB3 := Lib.hid hb; clear hb)
  go_ret
  exact ⟨rfl, (HB.out.alloc HB.out.size _).trans (HB3.out.mono (by have := HB.out.size; simp; omega))⟩

theorem opbox_at {w1 wx : World} {op d a b n : Int} (hx : Below (w1.heap.size + 1) (w1.alloc (.cells (opCells op d a b n).toArray 37)) wx) : OpAt wx w1.heap.size op d a b n := opAt_blk ((Blk.new w1 (opCells op d a b n) _).below hx (by omega))

set_option maxHeartbeats 4000000 in
theorem back_ok (b0 off len cap sz : Nat) (zs : List Int) (w : World) (hc : Came w (some ⟨b0, off, none⟩) len cap 1 (zs.map intCells)) (q : Dec) (hq : decode zs = q) (he : q.err = 0) (hs : q.size = (sz : Int)) (hs2 : sz = 1 ∨ sz = 2) (hl : sz ≤ zs.length) (hk : checkE q.op q.d q.a q.b q.n = 0)
    (hw : zs.take sz = encWords q.op q.d q.a q.b q.n ∨ zs.take sz = longWords q.op q.d q.a q.b q.n) :
    Calls Try.prog 9 #[.slice (some ⟨b0, off, none⟩) len cap] w fun e w' => e = .returned (.bool true) ∧ Below w.heap.size w w' := by
  have hD := decode_any w _ len cap zs hc
  rw [hq] at hD
  obtain ⟨op, d, a, b, n, size, err⟩ := q
  simp only at he hs hk hw
  subst he
  subst hs
  have HD := Lib.hid hD
  have HF := fun w => Lib.hid (insnFact_ok w)
  have HE := fun w => Lib.hid (enc_ok op d a b n w hk)
  have HL := fun w => Lib.hid (long_ok op d a b n w hk)
  have hlen : zs.length = len := by simpa using hc.count
  have hle := hc.le
  have hmx := hc.max
  have hl1 : (encWords op d a b n).length ≤ 2 := by unfold encWords longWords; split <;> simp
  have hl2 : (longWords op d a b n).length ≤ 2 := by unfold longWords; simp
  obtain ⟨ws, hws⟩ : ∃ ws, ws = encWords op d a b n := ⟨_, rfl⟩
  obtain ⟨wl, hwl⟩ : ∃ wl, wl = longWords op d a b n := ⟨_, rfl⟩
  rw [← hws] at HE hl1 hw
  rw [← hwl] at HL hl2 hw
  have HC := Lib.hid (hc.take sz (by omega) (by omega))
  rw [← List.map_take] at HC
  obtain ⟨zt, hzt⟩ : ∃ zt, zt = zs.take sz := ⟨_, rfl⟩
  rw [← hzt] at HC hw
  have HW := Lib.hid hw
  have hsl : sz ≤ len := by omega
  have hsp : 1 ≤ sz := by omega
  have hn0 : ((sz : Int) ≤ (len : Int)) := by omega
  clear hD hc hq hk hw hws hwl hzt hlen hl hs2
  go_enter Try.func9, Try.ntmps9
  go_wp2_with fail
  refine HD.out.mono ?_
  rintro e1 w1 ⟨rfl, hb⟩
  have HB := Lib.hid hb
  clear hb
  simp only [Dec.val]
  go_wp2_with fail
  refine (HE _).out.mono ?_
  rintro e w2 ⟨g1, rfl, hs1, _, hb⟩
  rw [World.size_alloc] at hb
  obtain ⟨q0, q1, q2, q3, q4⟩ := opbox_at hb
  have HB1 := Lib.hid hb
  have HS1 := Lib.hid hs1
  clear hb hs1
  go_wp2_with fail
  refine (HL _).out.mono ?_
  rintro e w3 ⟨g2, rfl, hs2, _, hb⟩
  have HS1' := Lib.hid (HS1.out.below hb HS1.out.lt)
  have HS2 := Lib.hid hs2
  have HB2 := Lib.hid (HB1.out.trans (hb.mono (B' := w1.heap.size + 1) (by have := HB1.out.size; simpa using this)))
  clear hb hs2 q0 q1 q2 q3 q4
  go_wp2_with (go_at_call 25; refine (HF _).out.mono ?_; rintro e w4 ⟨rfl, hb⟩; have HB3 := Lib.hid hb; clear hb)
  have hbw : Below w.heap.size w w4 := ((HB.out.alloc HB.out.size _).trans (HB2.out.mono (B' := w.heap.size) (by have := HB.out.size; omega))).trans (HB3.out.mono (B' := w.heap.size) (by have := HB.out.size; have h2 := HB2.out.size; simp at h2; omega))
  have HBW := Lib.hid hbw
  have HEQ1 := fun m => Lib.hid (equal_ints (w4.drewN m) _ _ _ zt _ _ _ ws ((HC.out.below (HBW.out)).below (below_drewN_self _ _ m)) (came_of_blk ((HS1'.out.below HB3.out HS1'.out.lt).drewN m) (by omega)))
  have HEQ2 := fun m => Lib.hid (equal_ints (w4.drewN m) _ _ _ zt _ _ _ wl ((HC.out.below (HBW.out)).below (below_drewN_self _ _ m)) (came_of_blk ((HS2.out.below HB3.out HS2.out.lt).drewN m) (by omega)))
  clear hbw
  refine (HEQ1 0).out.mono ?_
  rintro e w5 ⟨m1, rfl, rfl⟩
  by_cases h1 : zt = ws
  · rw [decide_eq_true h1]
    clear h1
    go_wp2
    go_ret
    exact ⟨rfl, HBW.out.trans (below_drewN_self _ _ _)⟩
  · rw [decide_eq_false h1]
    have h2 : zt = wl := HW.out.resolve_left h1
    have HD2 : Hid (decide (zt = wl) = true) := decide_eq_true h2
    clear h1 h2
    go_wp2_with fail
    refine (HEQ2 m1).out.mono ?_
    rintro e w6 ⟨m2, rfl, rfl⟩
    rw [HD2.out]
    go_wp2
    go_ret
    exact ⟨rfl, HBW.out.trans (below_drewN_self _ _ _)⟩

theorem insnBack_walk (a : Option Addr) (len cap : Nat) (zs : List Int) (w : World) (h : Came w a len cap 1 (zs.map intCells) ∧ ∀ z ∈ zs, I64 z) :
    Calls Try.prog 9 #[.slice a len cap] w fun e w' => e = .returned (.bool true) ∧ Below w.heap.size w w' := by
  obtain ⟨hc, _⟩ := h
  have hlen : zs.length = len := by simpa using hc.count
  rcases decode_cases zs with ⟨e, he, h3⟩ | ⟨q, hq, he, hs, hl, hk, _, hw⟩ | ⟨q, hq, he, hs, hl, hk, hw⟩
  · exact back_bad a len cap zs w hc e he h3
  · obtain ⟨b0, off, rfl, _⟩ := hc.ints (by omega)
    exact back_ok b0 off len cap 1 zs w hc q hq he hs (.inl rfl) hl hk (.inl hw)
  · obtain ⟨b0, off, rfl, _⟩ := hc.ints (by omega)
    exact back_ok b0 off len cap 2 zs w hc q hq he hs (.inr rfl) hl hk (.inr hw)
end Go.Proofs.Ytioaoncnandjpaa
