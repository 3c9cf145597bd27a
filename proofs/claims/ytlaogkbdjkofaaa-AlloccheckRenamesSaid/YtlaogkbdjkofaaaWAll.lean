/- The reference's Where: pairs of a place and a register; holds. The reference's Where.equal. The reference's Where.without. The reference's Where.put. -/
import Derived.Test.YtlaogkbdjkofaaaAccLaw
import Derived.Test.YtlaogkbdjkofaaaBase
namespace Go.Proofs.Ytlaogkbdjkofaaa
open Go.RowKit
set_option linter.unusedVariables false
set_option linter.unusedSimpArgs false

def wpC (z : Int × Int) : List Value := [.int .i64 z.1, .int .i64 z.2]
theorem came_pairs {w : World} {a : Option Addr} {len cap : Nat} {zs : List (Int × Int)} (h : Came w a len cap 2 (zs.map wpC)) (h0 : 0 < len) :
    ∃ b off, a = some ⟨b, off, none⟩ ∧ b < w.heap.size ∧ ∀ i (hi : i < zs.length), w.cell? ⟨b, off + i * 2, none⟩ = some (.int .i64 zs[i].1) ∧ w.cell? ⟨b, off + i * 2 + 1, none⟩ = some (.int .i64 zs[i].2) := by
  obtain ⟨b, off, ha, hb, hc⟩ := h.cells h0 (by omega)
  refine ⟨b, off, ha, hb, fun i hi => ?_⟩
  have hv : (zs.map wpC)[i]? = some (wpC zs[i]) := by rw [List.getElem?_map, List.getElem?_eq_getElem hi]; rfl
  exact ⟨hc i _ hv 0 (by omega), hc i _ hv 1 (by omega)⟩

set_option maxRecDepth 100000 in
set_option maxHeartbeats 4000000 in
theorem wholds_any (w : World) (wa : Option Addr) (wl wc0 : Nat) (zs : List (Int × Int)) (h : Came w wa wl wc0 2 (zs.map wpC)) (hn : wl ≤ 1000000) (p r : Int) :
    Calls Try.prog 53 #[.slice wa wl wc0, .int .i64 p, .int .i64 r] w (UsedPost (decide ((p, r) ∈ zs)) w) := by
  have hzl : zs.length = wl := by simpa using h.count
  have HZ := Lib.hid hzl
  have hle := h.le
  have hmx := h.max
  have HC := Lib.hid h
  obtain ⟨res, hres⟩ : ∃ x, x = decide ((p, r) ∈ zs) := ⟨_, rfl⟩
  rw [← hres]
  have HRES := Lib.hid hres
  clear h hzl hres
  go_enter Try.func53, Try.ntmps53
  go_wp2_with fail
  go_loopw [11] (fun u wr => ∃ k : Nat, k ≤ wl ∧ u = .int .i64 (k : Int) ∧ Below w.heap.size w wr ∧ (p, r) ∉ zs.take k) (fun u _ => wl - (intOf u).toNat)
  case atStart => exact ⟨0, Nat.zero_le _, rfl, Below.refl _ _, by simp⟩
  case round =>
    obtain ⟨k, hk, rfl, hbe, hno⟩ := hrel
    have HBE := Lib.hid hbe
    have HNO := Lib.hid hno
    clear hbe hno
    by_cases hlt : k < wl
    · obtain ⟨b', off, ea, _, hcell⟩ := came_pairs (HC.out.below HBE.out) (by omega)
      subst ea
      have hkl : k < zs.length := by have := HZ.out; omega
      obtain ⟨cl, cl1⟩ := hcell k hkl
      have HT := Lib.hid (List.take_succ_eq_append_getElem hkl)
      have HM : Hid (zs[k] ∈ zs) := List.getElem_mem hkl
      obtain ⟨z, hz⟩ : ∃ z, z = zs[k] := ⟨_, rfl⟩
      rw [← hz] at cl cl1 HT HM
      obtain ⟨z1, z2⟩ := z
      simp only [] at cl cl1
      have HB2 : Hid (Below w.heap.size w (wr.alloc (.cells #[.int .i64 z1, .int .i64 z2] 41))) := HBE.out.alloc HBE.out.size _
      have hstep : (z1, z2) ≠ (p, r) → (p, r) ∉ zs.take (k + 1) := fun hne hm => by
        rw [HT.out] at hm
        rcases List.mem_append.1 hm with hm | hm
        · exact HNO.out hm
        · simp at hm; exact hne (by rw [hm.1, hm.2])
      have HST := Lib.hid hstep
      clear hcell hz hstep
      by_cases e1 : z1 = p
      · have q1 : (z1 == p) = true := by simp [e1]
        by_cases e2 : z2 = r
        · have q2 : (z2 == r) = true := by simp [e2]
          have HF : Hid (res = true) := by show _ = _; rw [HRES.out]; exact decide_eq_true (by rw [← e1, ← e2]; exact HM.out)
          clear e1 e2
          go_wp2_with fail
          go_ret
          exact ⟨ret_bool HF.out.symm, HB2.out⟩
        · have q2 : (z2 == r) = false := by simp [e2]
          have HN : Hid ((p, r) ∉ zs.take (k + 1)) := HST.out (fun e => e2 (by injection e))
          clear e1 e2
          go_wp2_with fail
          go_roundw
          case rel => exact ⟨k + 1, by omega, by go_num, HB2.out, HN.out⟩
          case measure => simp [intOf]; omega
      · have q1 : (z1 == p) = false := by simp [e1]
        have HN : Hid ((p, r) ∉ zs.take (k + 1)) := HST.out (fun e => e1 (by injection e))
        clear e1
        go_wp2_with fail
        go_roundw
        case rel => exact ⟨k + 1, by omega, by go_num, HB2.out, HN.out⟩
        case measure => simp [intOf]; omega
    · have ek : k = wl := by omega
      subst ek
      have HF : Hid (res = false) := by
        show _ = _
        have := HNO.out
        rw [List.take_of_length_le (by have := HZ.out; omega)] at this
        rw [HRES.out]; exact decide_eq_false this
      go_wp2_with fail
      go_ret
      exact ⟨ret_bool HF.out.symm, HBE.out⟩

def eqW (ws vs : List (Int × Int)) : Bool := decide (ws.length = vs.length ∧ ∀ z ∈ ws, z ∈ vs)
set_option maxRecDepth 100000 in
set_option maxHeartbeats 4000000 in
theorem wequal_any (w : World) (wa va : Option Addr) (wl wc0 vl vc : Nat) (zs ys : List (Int × Int)) (h : Came w wa wl wc0 2 (zs.map wpC)) (hv : Came w va vl vc 2 (ys.map wpC)) (hn : wl ≤ 1000000 ∧ vl ≤ 1000000) :
    Calls Try.prog 57 #[.slice wa wl wc0, .slice va vl vc] w (UsedPost (eqW zs ys) w) := by
  have hzl : zs.length = wl := by simpa using h.count
  have hyl : ys.length = vl := by simpa using hv.count
  have HZ := Lib.hid hzl
  have HY := Lib.hid hyl
  have hle := h.le
  have hmx := h.max
  have hle2 := hv.le
  have hmx2 := hv.max
  have HC := Lib.hid h
  have HV := Lib.hid hv
  obtain ⟨res, hres⟩ : ∃ x, x = eqW zs ys := ⟨_, rfl⟩
  rw [← hres]
  have HRES := Lib.hid hres
  clear h hv hzl hyl hres
  go_enter Try.func57, Try.ntmps57
  by_cases hlv : wl = vl
  case neg =>
    have q1 : ((wl : Int) != (vl : Int)) = true := by simp; omega
    have HF : Hid (res = false) := by
      show _ = _
      rw [HRES.out]; exact decide_eq_false (fun e => hlv (by rw [← HZ.out, ← HY.out]; exact e.1))
    go_wp2_with fail
    go_ret
    exact ⟨ret_bool HF.out.symm, Below.refl _ _⟩
  case pos =>
  have q1 : ((wl : Int) != (vl : Int)) = false := by simp; omega
  have HLV := Lib.hid hlv
  clear hlv
  go_wp2_with fail
  clear q1
  go_loopw [14] (fun u wr => ∃ k : Nat, k ≤ wl ∧ u = .int .i64 (k : Int) ∧ Below w.heap.size w wr ∧ ∀ z ∈ zs.take k, z ∈ ys) (fun u _ => wl - (intOf u).toNat)
  case atStart => exact ⟨0, Nat.zero_le _, rfl, Below.refl _ _, by simp⟩
  case round =>
    obtain ⟨k, hk, rfl, hbe, hno⟩ := hrel
    have HBE := Lib.hid hbe
    have HNO := Lib.hid hno
    clear hbe hno
    by_cases hlt : k < wl
    · obtain ⟨b', off, ea, _, hcell⟩ := came_pairs (HC.out.below HBE.out) (by omega)
      subst ea
      have hkl : k < zs.length := by have := HZ.out; omega
      obtain ⟨cl, cl1⟩ := hcell k hkl
      have HT := Lib.hid (List.take_succ_eq_append_getElem hkl)
      have HM : Hid (zs[k] ∈ zs) := List.getElem_mem hkl
      obtain ⟨z, hz⟩ : ∃ z, z = zs[k] := ⟨_, rfl⟩
      rw [← hz] at cl cl1 HT HM
      obtain ⟨z1, z2⟩ := z
      simp only [] at cl cl1
      have HB2 : Hid (Below w.heap.size w (wr.alloc (.cells #[.int .i64 z1, .int .i64 z2] 41))) := HBE.out.alloc HBE.out.size _
      have HWH := Lib.hid (wholds_any (wr.alloc (.cells #[.int .i64 z1, .int .i64 z2] 41)) va vl vc ys (HV.out.below HB2.out) (by omega) z1 z2)
      obtain ⟨hb, hhb⟩ : ∃ x, x = decide ((z1, z2) ∈ ys) := ⟨_, rfl⟩
      rw [← hhb] at HWH
      have HHB := Lib.hid hhb
      clear hcell hz hhb
      go_wp2_with fail
      refine HWH.out.mono ?_
      rintro e w3 ⟨rfl, hb3⟩
      have HB3 : Hid (Below w.heap.size w w3) := HB2.out.trans (hb3.mono HB2.out.size)
      clear hb3 HWH
      cases hb with
      | false =>
        have HF : Hid (res = false) := by
          show _ = _
          rw [HRES.out]
          exact decide_eq_false (fun e => of_decide_eq_false HHB.out.symm (e.2 _ HM.out))
        go_wp2_with fail
        go_ret
        exact ⟨ret_bool HF.out.symm, HB3.out⟩
      | true =>
        have HN : Hid (∀ z ∈ zs.take (k + 1), z ∈ ys) := by
          intro z hz
          rw [HT.out] at hz
          rcases List.mem_append.1 hz with hz | hz
          · exact HNO.out z hz
          · simp at hz; subst hz; exact of_decide_eq_true HHB.out.symm
        go_wp2_with fail
        go_roundw
        case rel => exact ⟨k + 1, by omega, by go_num, HB3.out, HN.out⟩
        case measure => simp [intOf]; omega
    · have ek : k = wl := by omega
      subst ek
      have HF : Hid (res = true) := by
        show _ = _
        have h1 := HNO.out
        rw [List.take_of_length_le (by have := HZ.out; omega)] at h1
        rw [HRES.out]; exact decide_eq_true ⟨by rw [HZ.out, HY.out]; exact HLV.out, h1⟩
      go_wp2_with fail
      go_ret
      exact ⟨ret_bool HF.out.symm, HBE.out⟩

def outW (lo hi : Int) (zs : List (Int × Int)) : List (Int × Int) := zs.filter (fun z => decide (z.1 < lo) || decide (hi < z.1))
def RowW (w0 : World) (zs : List (Int × Int)) (e : Ending) (w' : World) : Prop :=
  ∃ v, e = .returned v ∧ w'.ownsRow w0.heap.size 41 2 v zs.length (zs.flatMap wpC) ∧ Below w0.heap.size w0 w'
theorem cells_new2 (w : World) {B : Nat} (hB : w.heap.size = B) (v0 v1 : Value) (t : TypeId) : ∀ j u, [v0, v1][j]? = some u → (w.alloc (.cells #[v0, v1] t)).cell? (Addr.add ⟨B, 0, none⟩ j) = some u := by
  intro j u h
  subst hB
  rw [Addr.add_lit, Nat.zero_add, World.cell?_alloc_new]
  simpa using h
theorem outW_succ {lo hi : Int} {zs : List (Int × Int)} {k : Nat} {z : Int × Int} (h : zs.take (k + 1) = zs.take k ++ [z]) : outW lo hi (zs.take (k + 1)) = outW lo hi (zs.take k) ++ (if z.1 < lo ∨ hi < z.1 then [z] else []) := by
  rw [h]; unfold outW; rw [List.filter_append]
  congr 1
  by_cases h1 : z.1 < lo <;> by_cases h2 : hi < z.1 <;> simp [h1, h2]
theorem outW_len (lo hi : Int) (zs : List (Int × Int)) : (outW lo hi zs).length ≤ zs.length := List.length_filter_le _ _
theorem infoPair : ∃ i, Try.prog.info? 41 = some i ∧ i.zero = some (.agg #[.int .i64 0, .int .i64 0]) ∧ i.size = 2 ∧ i.bytes = 16 := info_partsV (by kernel_rfl)
set_option maxRecDepth 100000 in
set_option maxHeartbeats 4000000 in
theorem wwithout_any (w : World) (wa : Option Addr) (wl wc0 : Nat) (zs : List (Int × Int)) (h : Came w wa wl wc0 2 (zs.map wpC)) (hn : wl ≤ 1000000) (lo hi : Int) :
    Calls Try.prog 55 #[.slice wa wl wc0, .int .i64 lo, .int .i64 hi] w (RowW w (outW lo hi zs)) := by
  have hzl : zs.length = wl := by simpa using h.count
  have HZ := Lib.hid hzl
  have hle := h.le
  have hmx := h.max
  have HC := Lib.hid h
  obtain ⟨i0, hi0, hz0, hz1, hz2⟩ := infoPair
  clear h hzl
  go_enter Try.func55, Try.ntmps55
  go_wp2_with fail
  go_loopw [7, 12] (fun v u wr => ∃ k : Nat, k ≤ wl ∧ u = .int .i64 (k : Int) ∧ wr.ownsRow w.heap.size 41 2 v (outW lo hi (zs.take k)).length ((outW lo hi (zs.take k)).flatMap wpC) ∧ Below w.heap.size w wr) (fun _ u _ => wl - (intOf u).toNat)
  case atStart => exact ⟨0, Nat.zero_le _, rfl, World.ownsRow_nil _ _ _ _, Below.refl _ _⟩
  case round =>
    obtain ⟨k, hk, rfl, hown, hbe⟩ := hrel
    have HBE := Lib.hid hbe
    have HOWN := Lib.hid hown
    clear hbe hown
    by_cases hlt : k < wl
    · obtain ⟨b', off, ea, _, hcell⟩ := came_pairs (HC.out.below HBE.out) (by omega)
      subst ea
      have hkl : k < zs.length := by have := HZ.out; omega
      obtain ⟨cl, cl1⟩ := hcell k hkl
      have HT := Lib.hid (List.take_succ_eq_append_getElem hkl)
      obtain ⟨z, hz⟩ : ∃ z, z = zs[k] := ⟨_, rfl⟩
      rw [← hz] at cl cl1 HT
      obtain ⟨z1, z2⟩ := z
      simp only [] at cl cl1
      have HB2 : Hid (Below w.heap.size w (wr.alloc (.cells #[.int .i64 z1, .int .i64 z2] 41))) := HBE.out.alloc HBE.out.size _
      have HLE : Hid ((outW lo hi (zs.take k)).length ≤ 1000000) := Nat.le_trans (outW_len lo hi _) (by rw [List.length_take]; omega)
      clear hcell hz
      by_cases e1 : z1 < lo
      · have HB3 := Lib.hid (Blk.new wr [.int .i64 z1, .int .i64 z2] 41)
        have HSZ : Hid ((Try.prog.info? 41).map (·.size) = some 2) := by unfold Hid; kernel_rfl
        have q1 : decide (z1 < lo) = true := by simp [e1]
        have HB4 := Lib.hid (Blk.new (wr.alloc (.cells #[.int .i64 z1, .int .i64 z2] 41)) [.int .i64 z1, .int .i64 z2] 41)
        go_wp2_with (first | refine wpList_load_row rfl 41 _ rfl wr.heap.size rfl _ #[.int .i64 z1, .int .i64 z2] _ _ HB3.out Try.underlying41 rfl HSZ.out ?_ | (at_builtin; refine wpList_append_own _ rfl _ _ 89 rfl w.heap.size 41 i0 (.agg #[.int .i64 0, .int .i64 0]) 2 16 Try.underlying89 hi0 hz0 hz1 hz2 rfl (by decide) _ _ _ rfl ((HOWN.out.alloc _).alloc _) ⟨wr.heap.size + 1, 0, none⟩ 1 1 [.int .i64 z1, .int .i64 z2] rfl rfl ?a2 ?a3 ?a4 ?a5 ?a6 ?_))
        case a2 => exact cells_new2 _ (by simp) _ _ _
        case a3 => intro u hu; simp at hu; rcases hu with rfl | rfl <;> rfl
        case a4 => have := HLE.out; unfold maxLen; omega
        case a5 => have := HLE.out; omega
        case a6 => have := HBE.out.size; simp; omega
        · intro v' w3 hown' hgrow _
          have HOW := Lib.hid hown'
          have HB5 := Lib.hid ((HB2.out.alloc HB2.out.size (.cells #[.int .i64 z1, .int .i64 z2] 41)).grown hgrow (by have := HB2.out.size; simp at this; simp; omega) (fun q hq => (HOWN.out.lt q hq).1))
          have HS := Lib.hid ((outW_succ (lo := lo) (hi := hi) HT.out).trans (by rw [if_pos (.inl e1)]))
          clear hown' hgrow
          go_wp2_with fail
          go_roundw
          case rel => exact ⟨k + 1, by omega, by go_num, by rw [HS.out, List.length_append, List.flatMap_append]; simpa [wpC] using HOW.out, HB5.out⟩
          case measure => simp [intOf]; omega
      · by_cases e2 : hi < z1
        · have HB3 := Lib.hid (Blk.new wr [.int .i64 z1, .int .i64 z2] 41)
          have HSZ : Hid ((Try.prog.info? 41).map (·.size) = some 2) := by unfold Hid; kernel_rfl
          have q1 : decide (z1 < lo) = false := by simp; omega
          have q2 : decide (hi < z1) = true := by simp [e2]
          have HB4 := Lib.hid (Blk.new (wr.alloc (.cells #[.int .i64 z1, .int .i64 z2] 41)) [.int .i64 z1, .int .i64 z2] 41)
          go_wp2_with (first | refine wpList_load_row rfl 41 _ rfl wr.heap.size rfl _ #[.int .i64 z1, .int .i64 z2] _ _ HB3.out Try.underlying41 rfl HSZ.out ?_ | (at_builtin; refine wpList_append_own _ rfl _ _ 89 rfl w.heap.size 41 i0 (.agg #[.int .i64 0, .int .i64 0]) 2 16 Try.underlying89 hi0 hz0 hz1 hz2 rfl (by decide) _ _ _ rfl ((HOWN.out.alloc _).alloc _) ⟨wr.heap.size + 1, 0, none⟩ 1 1 [.int .i64 z1, .int .i64 z2] rfl rfl ?b2 ?b3 ?b4 ?b5 ?b6 ?_))
          case b3 => exact ⟨rfl, rfl⟩
          case b4 => have := HLE.out; unfold maxLen; omega
          case b5 => have := HLE.out; omega
          case b6 => have := HBE.out.size; simp; omega
          · intro v' w3 hown' hgrow _
            have HOW := Lib.hid hown'
            have HB5 := Lib.hid ((HB2.out.alloc HB2.out.size (.cells #[.int .i64 z1, .int .i64 z2] 41)).grown hgrow (by have := HB2.out.size; simp at this; simp; omega) (fun q hq => (HOWN.out.lt q hq).1))
            have HS := Lib.hid ((outW_succ (lo := lo) (hi := hi) HT.out).trans (by rw [if_pos (.inr e2)]))
            clear hown' hgrow
            go_wp2_with fail
            go_roundw
            case rel => exact ⟨k + 1, by omega, by go_num, by rw [HS.out, List.length_append, List.flatMap_append]; simpa [wpC] using HOW.out, HB5.out⟩
            case measure => simp [intOf]; omega
        · have q1 : decide (z1 < lo) = false := by simp; omega
          have q2 : decide (hi < z1) = false := by simp; omega
          have HS := Lib.hid ((outW_succ (lo := lo) (hi := hi) HT.out).trans (by rw [if_neg (by rintro (h | h); exact e1 h; exact e2 h), List.append_nil]))
          have HO2 := Lib.hid (HOWN.out.alloc (.cells #[.int .i64 z1, .int .i64 z2] 41))
          go_wp2_with fail
          go_roundw
          case rel => exact ⟨k + 1, by omega, by go_num, by rw [HS.out]; exact HO2.out, HB2.out⟩
          case measure => simp [intOf]; omega
    · have ek : zs.take k = zs := List.take_of_length_le (by have := HZ.out; omega)
      rw [ek] at HOWN
      go_wp2_with fail
      go_ret
      exact ⟨_, rfl, HOWN.out, HBE.out⟩

/-- the pairs that stay -/
def keepW (p r : Int) (zs : List (Int × Int)) : List (Int × Int) := zs.filter (fun z => decide (z.1 ≠ p) && decide (z.2 ≠ r))
/-- the pairs of a place that are put behind -/
def addW (p : Int) (out : List (Int × Int)) : List Int → List (Int × Int)
  | [] => out
  | s :: ss => addW p (if (p, s) ∈ out then out else out ++ [(p, s)]) ss
def putW (p r : Int) (also : List Int) (zs : List (Int × Int)) : List (Int × Int) := if p = 0 then keepW p r zs else addW p (keepW p r zs) (also ++ [r])
theorem keepW_succ {p r : Int} {zs : List (Int × Int)} {k : Nat} {z : Int × Int} (h : zs.take (k + 1) = zs.take k ++ [z]) : keepW p r (zs.take (k + 1)) = keepW p r (zs.take k) ++ (if z.1 ≠ p ∧ z.2 ≠ r then [z] else []) := by
  rw [h]; unfold keepW; rw [List.filter_append]
  congr 1
  by_cases h1 : z.1 = p <;> by_cases h2 : z.2 = r <;> simp [h1, h2]
theorem keepW_len (p r : Int) (zs : List (Int × Int)) : (keepW p r zs).length ≤ zs.length := List.length_filter_le _ _
theorem addW_len (p : Int) : ∀ (ss : List Int) (out : List (Int × Int)), (addW p out ss).length ≤ out.length + ss.length
  | [], out => Nat.le_refl _
  | s :: ss, out => by
    have h1 := addW_len p ss out
    have h2 := addW_len p ss (out ++ [(p, s)])
    show (addW p (if (p, s) ∈ out then out else out ++ [(p, s)]) ss).length ≤ _
    by_cases h : (p, s) ∈ out
    · rw [if_pos h]; simp only [List.length_cons]; omega
    · rw [if_neg h]; simp only [List.length_append, List.length_cons, List.length_nil] at h2 ⊢; omega
theorem addW_snoc (p s : Int) : ∀ (ss : List Int) (out : List (Int × Int)), addW p out (ss ++ [s]) = if (p, s) ∈ addW p out ss then addW p out ss else addW p out ss ++ [(p, s)]
  | [], out => rfl
  | t :: ss, out => by
    show addW p (if (p, t) ∈ out then out else out ++ [(p, t)]) (ss ++ [s]) = _
    rw [addW_snoc p s ss]
    rfl
theorem flat_getN {α : Type} (E : α → List Value) (sz : Nat) (hE : ∀ z, (E z).length = sz) : ∀ (zs : List α) (i j : Nat), j < sz → (zs.flatMap E)[i * sz + j]? = (zs[i]?).bind fun z => (E z)[j]?
  | [], i, j, _ => by simp
  | z :: zs, i, j, hj => by
    rw [List.flatMap_cons]
    cases i with
    | zero => rw [List.getElem?_append_left (by rw [hE]; omega)]; simp
    | succ i =>
      rw [List.getElem?_append_right (by rw [hE, Nat.succ_mul]; omega), hE, show (i + 1) * sz + j - sz = i * sz + j by rw [Nat.succ_mul]; omega, flat_getN E sz hE zs i j hj]
      simp
/-- an own row as a slice that is handed on -/
theorem came_ofN {w : World} {base : Nat} {e : TypeId} {v : Value} {n sz : Nat} {α : Type} {E : α → List Value} {zs : List α} (hsz : 0 < sz) (hE : ∀ z, (E z).length = sz) (hn : zs.length = n) (h : w.ownsRow base e sz v n (zs.flatMap E)) :
    ∃ a cap, v = .slice a n cap ∧ Came w a n cap sz (zs.map E) := by
  obtain ⟨hl, hr⟩ := h
  have hall : ∀ v ∈ zs.map E, v.length = sz := by
    intro v hv
    obtain ⟨z, _, rfl⟩ := List.mem_map.1 hv
    exact hE z
  rcases hr with ⟨rfl, hx⟩ | ⟨g, c, cur, rfl, hg, hgg, hnc, hcm, hcs, htake⟩
  · subst hx
    exact ⟨none, 0, rfl, by simpa using hn, Nat.le_refl _, by omega, fun _ => ⟨rfl, rfl⟩, hall, fun h => by omega⟩
  · refine ⟨some ⟨g, 0, none⟩, c, rfl, by simpa using hn, hnc, by unfold maxLen at hcm; omega, fun h => by simp at h, hall, fun h0 _ => ⟨g, 0, rfl, lt_of_block hgg, fun i v hv j hj => ?_⟩⟩
    rw [List.getElem?_map] at hv
    obtain ⟨z, hz, rfl⟩ := Option.map_eq_some_iff.1 hv
    have hil : i < zs.length := (List.getElem?_eq_some_iff.1 hz).1
    have hlt : i * sz + j < n * sz := by
      have : (i + 1) * sz ≤ n * sz := Nat.mul_le_mul_right sz (by omega)
      rw [Nat.succ_mul] at this; omega
    have h2 : (cur.toList.take (n * sz))[i * sz + j]? = (E z)[j]? := by rw [htake, flat_getN E sz hE zs i j hj, hz]; rfl
    rw [List.getElem?_take, if_pos hlt] at h2
    simp only [World.cell?, hgg, Nat.zero_add]
    simpa using h2
theorem own_tyN {w : World} {base base' : Nat} {e e' : TypeId} {size size' : Nat} {v v' : Value} {n n' : Nat} {l l' : List Value} (h : w.ownsRow base e size v n l) (h' : w.ownsRow base' e' size' v' n' l') (hne : e ≠ e') : ∀ g, v.ownBlock = some g → v'.ownBlock ≠ some g := by
  intro g hg hg'
  rcases h.2 with ⟨rfl, _⟩ | ⟨g1, c, cur, rfl, _, hb, _⟩
  · simp [Value.ownBlock] at hg
  rcases h'.2 with ⟨rfl, _⟩ | ⟨g2, c', cur', rfl, _, hb', _⟩
  · simp [Value.ownBlock] at hg'
  have e1 : g1 = g := by simpa [Value.ownBlock] using hg
  have e2 : g2 = g := by simpa [Value.ownBlock] using hg'
  subst e1 e2
  rw [hb] at hb'
  injection hb' with hb'
  injection hb' with _ hb' _
  exact hne hb'
/-- what put answers: a row of its own; only the row that came with it may have grown -/
def PutPost (w0 : World) (av : Value) (zs : List (Int × Int)) (e : Ending) (w' : World) : Prop :=
  ∃ v, e = .returned v ∧ w'.ownsRow w0.heap.size 41 2 v zs.length (zs.flatMap wpC) ∧ RestS (fun k => av.ownBlock = some k) w0 w'
/-- what stands in the second loop -/
structure PutI (w0 w : World) (B0 : Nat) (av v l : Value) (out : List (Int × Int)) (ls : List Int) : Prop where
  own : w.ownsRow w0.heap.size 41 2 v out.length (out.flatMap wpC)
  row : w.ownsRow B0 3 1 l ls.length (ls.map (Value.int .i64))
  rest : RestS (fun k => av.ownBlock = some k) w0 w
theorem PutI.below {w0 w w' : World} {B0 : Nat} {av v l : Value} {out : List (Int × Int)} {ls : List Int} (h : PutI w0 w B0 av v l out ls) (hb : Below w.heap.size w w') : PutI w0 w' B0 av v l out ls :=
  ⟨ownG_below h.own hb, ownG_below h.row hb, h.rest.trans ⟨hb.os, hb.tape, hb.output, hb.size, fun k hk _ => hb.block k hk⟩⟩
theorem PutI.grow {w0 w w' : World} {B0 : Nat} {av v l : Value} {out : List (Int × Int)} {ls : List Int} (h : PutI w0 w B0 av v l out ls) {v' : Value} {out' : List (Int × Int)} (hown : w'.ownsRow w0.heap.size 41 2 v' out'.length (out'.flatMap wpC)) (hg : w.grownBy w' v.ownBlock) : PutI w0 w' B0 av v' l out' ls := by
  refine ⟨hown, ownG_kept h.row fun g hgl => hg.block g (h.row.lt g hgl).2 fun e => own_tyN h.row h.own (by decide) g hgl e.symm, ?_⟩
  have hr := h.rest
  refine ⟨hg.os.trans hr.os, hg.tape.trans hr.tape, hg.output.trans hr.output, Nat.le_trans hr.size hg.size, fun k hk hs => (hg.block k (Nat.lt_of_lt_of_le hk hr.size) fun e => ?_).trans (hr.block k hk hs)⟩
  have := (h.own.lt k e.symm).1
  omega

set_option maxRecDepth 100000 in
set_option maxHeartbeats 8000000 in
theorem wput_any (w : World) (wa : Option Addr) (wl wc0 : Nat) (zs : List (Int × Int)) (h : Came w wa wl wc0 2 (zs.map wpC)) (hn : wl ≤ 400000) (p r : Int) (B0 : Nat) (hB0 : B0 ≤ w.heap.size) (av : Value) (al : List Int) (ha : w.ownsRow B0 3 1 av al.length (al.map (Value.int .i64))) (hal : al.length ≤ 400000) :
    Calls Try.prog 51 #[.slice wa wl wc0, .int .i64 p, .int .i64 r, av] w (PutPost w av (putW p r al zs)) := by
  have hzl : zs.length = wl := by simpa using h.count
  have HZ := Lib.hid hzl
  have hle := h.le
  have hmx := h.max
  have HC := Lib.hid h
  have HA := Lib.hid ha
  obtain ⟨i0, hi0, hz0, hz1, hz2⟩ := infoPair
  obtain ⟨i1, hi1, hy0, hy1, hy2⟩ : ∃ i, Try.prog.info? 3 = some i ∧ i.zero = some (.int .i64 0) ∧ i.size = 1 ∧ i.bytes = 8 := info_partsV (by kernel_rfl)
  obtain ⟨aa, ac, rfl⟩ := ownG_shape ha
  clear h hzl ha
  go_enter Try.func51, Try.ntmps51
  go_wp2_with fail
  go_loopw [9, 16] (fun v u wr => ∃ k : Nat, k ≤ wl ∧ u = .int .i64 (k : Int) ∧ wr.ownsRow w.heap.size 41 2 v (keepW p r (zs.take k)).length ((keepW p r (zs.take k)).flatMap wpC) ∧ Below w.heap.size w wr) (fun _ u _ => wl - (intOf u).toNat)
  case atStart => exact ⟨0, Nat.zero_le _, rfl, World.ownsRow_nil _ _ _ _, Below.refl _ _⟩
  case round =>
    obtain ⟨k, hk, rfl, hown, hbe⟩ := hrel
    have HBE := Lib.hid hbe
    have HOWN := Lib.hid hown
    clear hbe hown
    by_cases hlt : k < wl
    · obtain ⟨b', off, ea, _, hcell⟩ := came_pairs (HC.out.below HBE.out) (by omega)
      subst ea
      have hkl : k < zs.length := by have := HZ.out; omega
      obtain ⟨cl, cl1⟩ := hcell k hkl
      have HT := Lib.hid (List.take_succ_eq_append_getElem hkl)
      obtain ⟨z, hz⟩ : ∃ z, z = zs[k] := ⟨_, rfl⟩
      rw [← hz] at cl cl1 HT
      obtain ⟨z1, z2⟩ := z
      simp only [] at cl cl1
      have HB2 : Hid (Below w.heap.size w (wr.alloc (.cells #[.int .i64 z1, .int .i64 z2] 41))) := HBE.out.alloc HBE.out.size _
      have HLE : Hid ((keepW p r (zs.take k)).length ≤ 400000) := Nat.le_trans (keepW_len p r _) (by rw [List.length_take]; omega)
      have HO2 := Lib.hid (HOWN.out.alloc (.cells #[.int .i64 z1, .int .i64 z2] 41))
      clear hcell hz
      by_cases e1 : z1 = p
      · have q1 : (z1 != p) = false := by simp [e1]
        have HS := Lib.hid ((keepW_succ (p := p) (r := r) HT.out).trans (by rw [if_neg (by rintro ⟨h1, _⟩; exact h1 e1), List.append_nil]))
        clear e1
        go_wp2_with fail
        go_roundw
        case rel => exact ⟨k + 1, by omega, by go_num, by rw [HS.out]; exact HO2.out, HB2.out⟩
        case measure => simp [intOf]; omega
      · have q1 : (z1 != p) = true := by simp [e1]
        by_cases e2 : z2 = r
        · have q2 : (z2 != r) = false := by simp [e2]
          have HS := Lib.hid ((keepW_succ (p := p) (r := r) HT.out).trans (by rw [if_neg (by rintro ⟨_, h1⟩; exact h1 e2), List.append_nil]))
          clear e1 e2
          go_wp2_with fail
          go_roundw
          case rel => exact ⟨k + 1, by omega, by go_num, by rw [HS.out]; exact HO2.out, HB2.out⟩
          case measure => simp [intOf]; omega
        · have q2 : (z2 != r) = true := by simp [e2]
          have HS := Lib.hid ((keepW_succ (p := p) (r := r) HT.out).trans (by rw [if_pos ⟨e1, e2⟩]))
          clear e1 e2
          have HB3 := Lib.hid (Blk.new wr [.int .i64 z1, .int .i64 z2] 41)
          have HSZ : Hid ((Try.prog.info? 41).map (·.size) = some 2) := by unfold Hid; kernel_rfl
          have HB4 := Lib.hid (Blk.new (wr.alloc (.cells #[.int .i64 z1, .int .i64 z2] 41)) [.int .i64 z1, .int .i64 z2] 41)
          go_wp2_with (first | refine wpList_load_row rfl 41 _ rfl wr.heap.size rfl _ #[.int .i64 z1, .int .i64 z2] _ _ HB3.out Try.underlying41 rfl HSZ.out ?_ | (at_builtin; refine wpList_append_own _ rfl _ _ 89 rfl w.heap.size 41 i0 (.agg #[.int .i64 0, .int .i64 0]) 2 16 Try.underlying89 hi0 hz0 hz1 hz2 rfl (by decide) _ _ _ rfl ((HOWN.out.alloc _).alloc _) ⟨wr.heap.size + 1, 0, none⟩ 1 1 [.int .i64 z1, .int .i64 z2] rfl rfl ?a2 ?a3 ?a4 ?a5 ?a6 ?_))
          case a2 => exact cells_new2 _ (by simp) _ _ _
          case a3 => intro u hu; simp at hu; rcases hu with rfl | rfl <;> rfl
          case a4 => have := HLE.out; unfold maxLen; omega
          case a5 => have := HLE.out; omega
          case a6 => have := HBE.out.size; simp; omega
          · intro v' w3 hown' hgrow _
            have HOW := Lib.hid hown'
            have HB5 := Lib.hid ((HB2.out.alloc HB2.out.size (.cells #[.int .i64 z1, .int .i64 z2] 41)).grown hgrow (by have := HB2.out.size; simp at this; simp; omega) (fun q hq => (HOWN.out.lt q hq).1))
            clear hown' hgrow
            go_wp2_with fail
            go_roundw
            case rel => exact ⟨k + 1, by omega, by go_num, by rw [HS.out, List.length_append, List.flatMap_append]; simpa [wpC] using HOW.out, HB5.out⟩
            case measure => simp [intOf]; omega
    · have ek : zs.take k = zs := List.take_of_length_le (by have := HZ.out; omega)
      rw [ek] at HOWN
      have HKL : Hid ((keepW p r zs).length ≤ 400000) := Nat.le_trans (keepW_len p r _) (by have := HZ.out; omega)
      clear ek
      by_cases e0 : p = 0
      · have q0 : (p == 0) = true := by simp [e0]
        have HF : Hid (putW p r al zs = keepW p r zs) := by show _ = _; unfold putW; rw [if_pos e0]
        clear e0
        go_wp2_with fail
        go_ret
        exact ⟨_, rfl, by rw [HF.out]; exact HOWN.out, below_refl_of (HBE.out.mono (Nat.le_refl _)) _⟩
      · have q0 : (p == 0) = false := by simp [e0]
        have HF : Hid (putW p r al zs = addW p (keepW p r zs) (al ++ [r])) := by show _ = _; unfold putW; rw [if_neg e0]
        clear e0
        obtain ⟨K0, hK0⟩ : ∃ K0, K0 = keepW p r zs := ⟨_, rfl⟩
        rw [← hK0] at HOWN HF HKL
        clear hK0
        have HA2 := Lib.hid (ownG_kept HA.out (w' := wr) fun g hg => HBE.out.block g (HA.out.lt g hg).2)
        go_wp2_with (at_builtin; refine wpList_append_own _ rfl _ _ 22 rfl B0 3 i1 (.int .i64 0) 1 8 Try.underlying22 hi1 hy0 hy1 hy2 rfl (by decide) _ _ _ rfl (HA2.out.alloc _) ⟨wr.heap.size, 0, none⟩ 1 1 [.int .i64 r] rfl rfl ?a2 ?a3 ?a4 ?a5 ?a6 ?_)
        case a2 =>
          intro j u hj
          cases j with
          | zero => simp at hj; subst hj; rw [Addr.add_lit, World.cell?_alloc_new]; rfl
          | succ j => simp at hj
        case a3 => intro u hu; simp at hu; subst hu; rfl
        case a4 => unfold maxLen; omega
        case a5 => omega
        case a6 => have := HBE.out.size; simp; omega
        intro v' w3 hown' hgrow _
        have HP : Hid (PutI w w3 B0 (.slice aa al.length ac) u9 v' K0 (al ++ [r])) := by
          have hbr : Below w.heap.size w (wr.alloc (.cells #[.int .i64 r] 3)) := HBE.out.alloc HBE.out.size _
          refine ⟨ownG_kept (HOWN.out.alloc _) fun g hg => hgrow.block g ((HOWN.out.alloc _).lt g hg).2 fun e => own_tyN HOWN.out HA2.out (by decide) g hg e.symm, by simpa using hown', ⟨hgrow.os.trans hbr.os, hgrow.tape.trans hbr.tape, hgrow.output.trans hbr.output, Nat.le_trans hbr.size hgrow.size, fun k hk hs => (hgrow.block k (Nat.lt_of_lt_of_le hk hbr.size) fun e => hs e.symm).trans (hbr.block k hk)⟩⟩
        obtain ⟨la, lc, rfl⟩ := ownG_shape HP.out.row
        obtain ⟨ll, hll⟩ : ∃ ll, ll = al ++ [r] := ⟨_, rfl⟩
        obtain ⟨nl, hnl⟩ : ∃ nl, nl = al.length + 1 := ⟨_, rfl⟩
        have HNL : Hid (ll.length = nl) := by show _ = _; rw [hll, hnl]; simp
        rw [← hll] at HP HF
        rw [show (al ++ [r]).length = nl by rw [hnl]; simp]
        have hnl2 : nl ≤ 400001 := by omega
        clear hown' hgrow HOWN HA2 HBE hll hnl hlt hk q0
        rw [HNL.out] at HP
        go_wp2_with fail
        go_loopw [9, 43] (fun v u wr => ∃ k : Nat, k ≤ nl ∧ u = .int .i64 (k : Int) ∧ PutI w wr B0 (.slice aa al.length ac) v (.slice la nl lc) (addW p K0 (ll.take k)) ll) (fun _ u _ => nl - (intOf u).toNat)
        case atStart => exact ⟨0, Nat.zero_le _, rfl, HP.out⟩
        case round =>
          clear HP
          obtain ⟨k, hk, rfl, hpi⟩ := hrel
          have HPI := Lib.hid hpi
          clear hpi
          obtain ⟨out, hout⟩ : ∃ out, out = addW p K0 (ll.take k) := ⟨_, rfl⟩
          rw [← hout] at HPI
          have HOUT := Lib.hid hout
          have hol : out.length ≤ 900000 := by
            rw [hout]
            refine Nat.le_trans (addW_len p _ _) ?_
            have := HKL.out
            rw [List.length_take]; omega
          clear hout
          by_cases hlt : k < nl
          · obtain ⟨la', lc', hlv, hlc⟩ := came_ownsV HPI.out.row
            rw [HNL.out] at hlc
            injection hlv with e1 e2 e3
            subst e1 e3
            have hkl : k < ll.length := by have := HNL.out; omega
            have HHM := hlc.max
            have hlle := hlc.le
            obtain ⟨b', off, ea, _, hcell⟩ := hlc.ints (by omega)
            subst ea
            have cl := hcell k hkl
            have HT := Lib.hid (List.take_succ_eq_append_getElem hkl)
            obtain ⟨z, hz⟩ : ∃ z, z = ll[k] := ⟨_, rfl⟩
            rw [← hz] at cl HT
            have HS : Hid (addW p K0 (ll.take (k + 1)) = if (p, z) ∈ out then out else out ++ [(p, z)]) := by show _ = _; rw [HT.out, addW_snoc, ← HOUT.out]
            obtain ⟨oa, oc, rfl, hoc⟩ := came_ofN (E := wpC) (by decide : 0 < 2) (fun _ => rfl) rfl HPI.out.own
            have HWH := Lib.hid (wholds_any wr oa out.length oc out hoc (by omega) p z)
            clear hcell hlc hz e2 hoc
            by_cases hin : (p, z) ∈ out
            · rw [if_pos hin] at HS
              rw [decide_eq_true hin] at HWH
              clear hin
              go_wp2_with fail
              refine HWH.out.mono ?_
              rintro e w4 ⟨rfl, hb4⟩
              have HP4 := Lib.hid (HPI.out.below hb4)
              clear hb4 HWH
              go_wp2_with fail
              go_roundw
              case rel => exact ⟨k + 1, by omega, by go_num, by rw [HS.out]; exact HP4.out⟩
              case measure => simp [intOf]; omega
            · rw [if_neg hin] at HS
              rw [decide_eq_false hin] at HWH
              clear hin
              go_wp2_with fail
              refine HWH.out.mono ?_
              rintro e w4 ⟨rfl, hb4⟩
              have HP4 := Lib.hid (HPI.out.below hb4)
              have HP5 := Lib.hid (HP4.out.below ((Below.refl _ w4).alloc (Nat.le_refl _) (.cells #[.int .i64 p, .int .i64 z] 41)))
              have hsz4 := HP4.out.rest.size
              clear hb4 HWH
              go_wp2_with (at_builtin; refine wpList_append_own _ rfl _ _ 89 rfl w.heap.size 41 i0 (.agg #[.int .i64 0, .int .i64 0]) 2 16 Try.underlying89 hi0 hz0 hz1 hz2 rfl (by decide) _ _ _ rfl HP5.out.own ⟨w4.heap.size, 0, none⟩ 1 1 [.int .i64 p, .int .i64 z] rfl rfl ?b2 ?b3 ?b4 ?b5 ?b6 ?_)
              case b2 => exact cells_new2 _ rfl _ _ _
              case b3 => intro u hu; simp at hu; rcases hu with rfl | rfl <;> rfl
              case b4 => unfold maxLen; omega
              case b5 => omega
              case b6 => simp; omega
              intro v' w5 hown' hgrow _
              have HP6 := Lib.hid (HP5.out.grow (out' := out ++ [(p, z)]) (by rw [List.length_append, List.flatMap_append]; simpa [wpC] using hown') hgrow)
              clear hown' hgrow
              go_wp2_with fail
              go_roundw
              case rel => exact ⟨k + 1, by omega, by go_num, by rw [HS.out]; exact HP6.out⟩
              case measure => simp [intOf]; omega
          · have ek : ll.take k = ll := List.take_of_length_le (by have := HNL.out; omega)
            rw [ek] at HOUT
            clear ek
            go_wp2_with fail
            go_ret
            exact ⟨_, rfl, by rw [HF.out, ← HOUT.out]; exact HPI.out.own, HPI.out.rest⟩
end Go.Proofs.Ytlaogkbdjkofaaa
