/- The law DebugSays: the walk. -/
import Derived.Test.YtnfgjcdiophphabDebugLaw
namespace Go.Proofs.Ytnfgjcdiophphab
open Go.RowKit
set_option linter.unusedVariables false
set_option linter.unusedSimpArgs false

def factMark : MarkD := ⟨3, 0, 7, none, 0, 0⟩
theorem fact_find (w : World) (ca : Option Addr) (cc : Nat) (sa : Option Addr) (sc : Nat) (ma : Option Addr) (mc : Nat) (h : Came w ma 1 mc 4 ([factMark].map markCells)) (hz : Came w sa 1 sc 1 ([(2 : Int)].map intCells)) :
    Calls Try.prog 19 #[.agg #[.slice ca 9 cc, .int .i64 0, .slice sa 1 sc, .slice none 0 0, .slice ma 1 mc], .int .i64 5] w (FindOk 0 7 w) := by
  have hv : ∀ m ∈ [factMark], VarsOk w m := by
    intro m hm
    simp only [List.mem_cons, List.not_mem_nil, or_false] at hm
    subst hm
    exact ⟨[], ⟨rfl, Nat.le_refl _, by show 0 ≤ _; omega, fun _ => ⟨rfl, rfl⟩, fun v hv => by simp at hv, fun h => by exact absurd h (Nat.lt_irrefl 0)⟩, fun v hv => by simp at hv, by decide⟩
  exact find_ok ca 9 cc 0 sa 1 sc none 0 0 ma 1 mc [factMark] [2] 5 w h (by decide) hz (by omega) (by omega) (by decide) hv 0 (by decide) (by decide)

theorem came_new {w : World} {sz : Nat} (hsz : 0 < sz) (vs : List (List Value)) (hs : ∀ v ∈ vs, v.length = sz) (n : Nat) (hn : vs.length = n) (hb : n ≤ 1000) (t : TypeId) : Came (w.alloc (.cells vs.flatten.toArray t)) (some ⟨w.heap.size, 0, none⟩) n n sz vs := by
  refine ⟨hn, Nat.le_refl _, by omega, fun h => by simp at h, hs, fun h0 h1 => ⟨w.heap.size, 0, rfl, by simp, fun i v hv j hj => ?_⟩⟩
  have hb := Blk.new w vs.flatten t
  rw [Nat.zero_add, hb.cell]
  clear hb hn h0
  induction vs generalizing i with
  | nil => simp at hv
  | cons a r ih =>
    rw [List.flatten_cons]
    have ha := hs a List.mem_cons_self
    cases i with
    | zero =>
      simp at hv
      subst hv
      rw [Nat.zero_mul, Nat.zero_add, List.getElem?_append_left (by omega)]
    | succ i =>
      rw [List.getElem?_append_right (by rw [ha, Nat.add_mul]; omega)]
      have := ih (fun v hv => hs v (List.mem_cons_of_mem _ hv)) i (by simpa using hv)
      rw [← this]
      congr 1
      rw [ha, Nat.add_mul]; omega

theorem ownI_came3 {w : World} {base : Nat} {a : Option Addr} {m c : Nat} {zs : List Int} (h : w.ownsRow base 3 1 (.slice a m c) zs.length (zs.map (Value.int .i64))) : m = zs.length ∧ Came w a m c 1 (zs.map intCells) :=
  came_of_owns (E := intCells) (zs := zs) (fun z => ⟨_, rfl⟩) (by simpa [intCells] using h)
theorem came_take4 {w : World} {a : Option Addr} {n c : Nat} {l : List MarkD} (h : Came w a n c 4 (l.map markCells)) (k : Nat) (hk : k ≤ n) : Came w a k c 4 ((l.take k).map markCells) := by
  have hl : l.length = n := by simpa using h.count
  refine ⟨by simp; omega, by have := h.le; omega, h.max, fun e => by have := h.nil e; omega, fun v hv => ?_, fun h0 h1 => ?_⟩
  · obtain ⟨o, _, rfl⟩ := List.mem_map.1 hv
    rfl
  · obtain ⟨b, off, ha, hb, hc⟩ := h.cells (by omega) h1
    refine ⟨b, off, ha, hb, fun i v hv j hj => hc i v ?_ j hj⟩
    rw [List.getElem?_map, List.getElem?_take] at hv
    rw [List.getElem?_map]
    split at hv
    · exact hv
    · simp at hv

set_option maxRecDepth 100000 in
set_option maxHeartbeats 8000000 in
theorem debugSays_walk (a0 : Option Addr) (len0 cap0 : Nat) (z0 : List MarkD) (a1 a2 : Int) (w : World) (h0 : Came w a0 len0 cap0 4 (z0.map markCells) ∧ ∀ z ∈ z0, VarsOk w z) (_ : -9223372036854775808 ≤ a1 ∧ a1 ≤ 9223372036854775807) (_ : -9223372036854775808 ≤ a2 ∧ a2 ≤ 9223372036854775807) :
    Calls Try.prog 4 #[.slice a0 len0 cap0, .int .i64 a1, .int .i64 a2] w fun e w' => e = .returned (.bool true) ∧ Below w.heap.size w w' := by
  obtain ⟨hcm, hvm⟩ := h0
  have hmk40 : ∀ w : World, (Instr.makeSlice 24 (.int .i64 40) (.int .i64 40)).run Try.prog w = .ok (.slice (some ⟨w.heap.size, 0, none⟩) 40 40) (w.alloc (.cells (rowL 40 (fun _ => Value.int .i64 0)).toArray 3)) := run_make_rep (P := Try.prog) 24 3 (.int .i64 0) 8 Try.underlying24 Try.infoD3 rfl 40 (by omega) (by omega)
  have hmk9 : ∀ w : World, (Instr.makeSlice 24 (.int .i64 9) (.int .i64 9)).run Try.prog w = .ok (.slice (some ⟨w.heap.size, 0, none⟩) 9 9) (w.alloc (.cells (rowL 9 (fun _ => Value.int .i64 0)).toArray 3)) := run_make_rep (P := Try.prog) 24 3 (.int .i64 0) 8 Try.underlying24 Try.infoD3 rfl 9 (by omega) (by omega)
  have HCM := Lib.hid hcm
  have HVM := Lib.hid hvm
  have hle0 := hcm.le
  have hmx0 := hcm.max
  have hcnt0 : z0.length = len0 := by simpa using hcm.count
  have HCNT := Lib.hid hcnt0
  have HRE := fun w => Lib.hid (rest_any a1 45 w (by omega) (by omega))
  clear hcm hvm hcnt0
  go_enter Try.func4, Try.ntmps4
  go_upto_region 2 with fail
  clear hmk40
  have hs3 := came_new (w := w.alloc (.cells (rowL 40 (fun _ => Value.int .i64 0)).toArray 3)) (sz := 1) (by omega) (starts3.map intCells) (fun v hv => by obtain ⟨z, _, rfl⟩ := List.mem_map.1 hv; rfl) 3 rfl (by omega) 3
  rw [World.size_alloc] at hs3
  have hs4 := hs3.below ((Below.refl _ _).alloc (Nat.le_refl _) (.cells #[.slice (some ⟨w.heap.size, 0, none⟩) 40 40, .int .i64 0, .slice (some ⟨w.heap.size + 1, 0, none⟩) 3 3, .slice none 0 0, .slice none 0 0] 51))
  have hi4 := Blk.new ((w.alloc (.cells (rowL 40 (fun _ => Value.int .i64 0)).toArray 3)).alloc (.cells ((starts3.map intCells).flatten.toArray) 3)) [.slice (some ⟨w.heap.size, 0, none⟩) 40 40, .int .i64 0, .slice (some ⟨w.heap.size + 1, 0, none⟩) 3 3, .slice none 0 0, .slice none 0 0] 51
  rw [World.size_alloc, World.size_alloc] at hi4
  have hb4 : Below w.heap.size w (((w.alloc (.cells (rowL 40 (fun _ => Value.int .i64 0)).toArray 3)).alloc (.cells ((starts3.map intCells).flatten.toArray) 3)).alloc (.cells #[.slice (some ⟨w.heap.size, 0, none⟩) 40 40, .int .i64 0, .slice (some ⟨w.heap.size + 1, 0, none⟩) 3 3, .slice none 0 0, .slice none 0 0] 51)) := (((Below.refl _ _).alloc (Nat.le_refl _) _).alloc (by simp) _).alloc (by simp; omega) _
  have ef : (starts3.map intCells).flatten.toArray = #[.int .i64 2, .int .i64 9, .int .i64 20] := rfl
  rw [ef] at hs4 hi4 hb4
  clear hs3 ef
  obtain ⟨Sb, hSb⟩ : ∃ b, b = w.heap.size + 1 := ⟨_, rfl⟩
  obtain ⟨Ib, hIb⟩ : ∃ b, b = w.heap.size + 1 + 1 := ⟨_, rfl⟩
  have hSw : w.heap.size < Sb := by omega
  have hSI : Sb < Ib := by omega
  rw [← hIb] at hi4 ⊢
  rw [← hSb] at hs4 hi4 hb4 ⊢
  generalize ((w.alloc (.cells (rowL 40 (fun _ => Value.int .i64 0)).toArray 3)).alloc (.cells #[.int .i64 2, .int .i64 9, .int .i64 20] 3)).alloc (.cells #[.slice (some ⟨w.heap.size, 0, none⟩) 40 40, .int .i64 0, .slice (some ⟨Sb, 0, none⟩) 3 3, .slice none 0 0, .slice none 0 0] 51) = w3 at hs4 hi4 hb4 ⊢
  clear hSb hIb
  have HS3 := Lib.hid hs4
  have HI3 := Lib.hid hi4
  have HB3 := Lib.hid hb4
  have hI3 := hi4.lt
  clear hs4 hi4 hb4
  -- the fact's image
  have hz5 := came_new (w := w3.alloc (.cells (rowL 9 (fun _ => Value.int .i64 0)).toArray 3)) (sz := 1) (by omega) ([(2 : Int)].map intCells) (fun v hv => by obtain ⟨z, _, rfl⟩ := List.mem_map.1 hv; rfl) 1 rfl (by omega) 3
  rw [World.size_alloc] at hz5
  have hm6 := came_new (w := (w3.alloc (.cells (rowL 9 (fun _ => Value.int .i64 0)).toArray 3)).alloc (.cells (([(2 : Int)].map intCells).flatten.toArray) 3)) (sz := 4) (by omega) ([factMark].map markCells) (fun v hv => by obtain ⟨z, _, rfl⟩ := List.mem_map.1 hv; rfl) 1 rfl (by omega) 58
  rw [World.size_alloc, World.size_alloc] at hm6
  have hz6 := hz5.below ((Below.refl _ _).alloc (Nat.le_refl _) (.cells (([factMark].map markCells).flatten.toArray) 58))
  have hb6 : Below w3.heap.size w3 (((w3.alloc (.cells (rowL 9 (fun _ => Value.int .i64 0)).toArray 3)).alloc (.cells (([(2 : Int)].map intCells).flatten.toArray) 3)).alloc (.cells (([factMark].map markCells).flatten.toArray) 58)) := (((Below.refl _ _).alloc (Nat.le_refl _) _).alloc (by simp) _).alloc (by simp; omega) _
  have e1 : ([(2 : Int)].map intCells).flatten.toArray = #[.int .i64 2] := rfl
  have e2 : ([factMark].map markCells).flatten.toArray = #[.int .i64 3, .int .i64 0, .int .i64 7, .slice none 0 0] := rfl
  rw [e1, e2] at hm6 hz6 hb6
  clear hz5 e1 e2
  have HFF := Lib.hid (fact_find _ (some ⟨w3.heap.size, 0, none⟩) 9 _ 1 _ 1 hm6 hz6)
  unfold FindOk at HFF
  have HB6 := Lib.hid hb6
  clear hm6 hz6 hb6
  go_wp2_with fail
  refine HFF.out.mono ?_
  rintro e w6 ⟨da, dm, dk, rfl, hb6⟩
  have hb36 := HB6.out.trans (hb6.mono (by simp; omega))
  have HS6 := Lib.hid (HS3.out.below hb36)
  have HI6 := Lib.hid (HI3.out.below hb36 hI3)
  have HB7 := Lib.hid (HB3.out.trans (hb36.mono HB3.out.size))
  clear hb6 hb36 HFF HB6 HS3 HI3 HB3 hI3 hmk9
  have hI6 := HI6.out.lt
  have HD7 := Lib.hid (Blk.new w6 [.int .i64 0, .int .i64 7, .slice da dm dk] 54)
  have HI7 := Lib.hid (HI6.out.alloc (.cells #[.int .i64 0, .int .i64 7, .slice da dm dk] 54))
  have HS7 := Lib.hid (HS6.out.below ((Below.refl _ _).alloc (Nat.le_refl _) (.cells #[.int .i64 0, .int .i64 7, .slice da dm dk] 54)))
  have HB8 := Lib.hid (HB7.out.alloc HB7.out.size (.cells #[.int .i64 0, .int .i64 7, .slice da dm dk] 54))
  go_upto_region 5 with fail
  clear HS6 HI6 HB7
  obtain ⟨Db, hDb⟩ : ∃ b, b = w6.heap.size := ⟨_, rfl⟩
  rw [← hDb] at HD7 hI6 ⊢
  generalize w6.alloc (.cells #[.int .i64 0, .int .i64 7, .slice da dm dk] 54) = w7 at HD7 HI7 HS7 HB8 ⊢
  clear hDb
  have h20 : max (20 : Int) 0 = 20 := rfl
  obtain ⟨m, hm⟩ : ∃ m, m = min len0 20 := ⟨_, rfl⟩
  have hm20 : m ≤ 20 ∧ m ≤ len0 := by omega
  have HM := Lib.hid hm
  clear hm
  have f4 := HI7.out.free 4
  have c4 := HI7.out.cell 4
  simp only [List.getElem?_cons_succ, List.getElem?_cons_zero] at c4
  have HC7 := Lib.hid (came_take4 HCM.out m hm20.2)
  have HV7 := Lib.hid (fun z (h : z ∈ z0.take m) => HVM.out z (List.mem_of_mem_take h))
  have hml : (z0.take m).length = m := by have := HCNT.out; rw [List.length_take]; omega
  obtain ⟨ms, hms⟩ : ∃ ms, ms = z0.take m := ⟨_, rfl⟩
  rw [← hms] at HC7 HV7 hml
  have HCM0 := Lib.hid HC7.out
  have HML := Lib.hid hml
  clear hms hml HCM HVM HCNT
  go_upto_region 6 with fail
  have hmi : (if (20 : Int) < (len0 : Int) then (20 : Int) else (len0 : Int)) = (m : Int) := by have := HM.out; split <;> omega
  rw [hmi, Int.toNat_natCast]
  have hi8 : Blk (w7.setCell ⟨Ib, 4, none⟩ (.slice a0 m cap0)) Ib 51 [.slice (some ⟨w.heap.size, 0, none⟩) 40 40, .int .i64 0, .slice (some ⟨Sb, 0, none⟩) 3 3, .slice none 0 0, .slice a0 m cap0] := HI7.out.set 4 (.slice a0 m cap0)
  have hd8 := HD7.out.setOther (a := ⟨Ib, 4, none⟩) (fun e => by have e2 : _ = Ib := e; omega) (.slice a0 m cap0)
  have hb8 : Below w.heap.size w (w7.setCell ⟨Ib, 4, none⟩ (.slice a0 m cap0)) := HB8.out.setCell (p := ⟨Ib, 4, none⟩) (by show _ ≤ Ib; omega) _
  have hb8' : Below Ib w7 (w7.setCell ⟨Ib, 4, none⟩ (.slice a0 m cap0)) := (Below.refl _ _).setCell (p := ⟨Ib, 4, none⟩) (Nat.le_refl _) _
  have hsc7 := fun k (hk : k < 3) => HS7.out.cells (by omega) (by omega)
  clear f4 c4 hmi h20 HM HI7 HD7 HB8
  generalize w7.setCell ⟨Ib, 4, none⟩ (.slice a0 m cap0) = w8 at hi8 hd8 hb8 hb8' ⊢
  obtain ⟨sb', so', hsa, _, hsv⟩ := HS7.out.ints (by omega)
  simp only [Option.some.injEq, Addr.mk.injEq, and_true] at hsa
  obtain ⟨rfl, rfl⟩ := hsa
  have HSV : Hid (∀ i (hi : i < starts3.length), w8.cell? ⟨Sb, i, none⟩ = some (.int .i64 starts3[i])) := fun i hi => by
    have h1 := hsv i hi
    rw [Nat.zero_add] at h1
    exact (hb8'.cell (p := ⟨Sb, i, none⟩) hSI).trans h1
  have HS8 : Hid (Came w8 (some ⟨Sb, 0, none⟩) 3 3 1 (starts3.map intCells)) := by
    refine ⟨rfl, Nat.le_refl _, by omega, fun h => by simp at h, fun v hv => by obtain ⟨z, _, rfl⟩ := List.mem_map.1 hv; rfl, fun _ _ => ⟨Sb, 0, rfl, by have := hi8.lt; omega, fun i v hv j hj => ?_⟩⟩
    have hil : i < starts3.length := by have := (List.getElem?_eq_some_iff.1 hv).1; simpa using this
    have ej : j = 0 := by omega
    subst ej
    rw [List.getElem?_map, List.getElem?_eq_getElem hil] at hv
    simp at hv
    subst hv
    rw [Nat.zero_add, Nat.mul_one, Nat.add_zero, HSV.out i hil]
    rfl
  have HI8 := Lib.hid hi8
  have HD8 := Lib.hid hd8
  have HB8 := Lib.hid hb8
  have HC8 := Lib.hid (HC7.out.below hb8)
  have HV8 := Lib.hid (fun z h => (HV7.out z h).below hb8)
  have hI8 := hi8.lt
  have hD8 := hd8.lt
  have i4 := hi8.cell 4
  simp only [List.getElem?_cons_succ, List.getElem?_cons_zero] at i4
  clear hi8 hd8 hb8 hb8' hsv hsc7 HS7 HC7 HV7
  go_wp2_with fail
  clear i4
  have HCK : Hid (checkM 40 3 ms = marksE 40 3 (-1) ms) := by unfold Hid checkM; rw [if_neg (by have := HML.out; omega)]
  obtain ⟨W, hW⟩ : ∃ W, W = checkM 40 3 ms := ⟨_, rfl⟩
  have HW := Lib.hid hW
  rw [← hW] at HCK
  clear hW
  go_loopw [10, 56] (fun v u wr => ∃ (k : Nat) (want : Int), k ≤ m ∧ u = .int .i64 (k : Int) ∧ v = .int .i64 want ∧ ((want = 0 ∧ W = marksE 40 3 (lastOf ms k) (ms.drop k)) ∨ (want ≠ 0 ∧ W = want)) ∧ Below w8.heap.size w8 wr) (fun _ u _ => m - (intOf u).toNat)
  case atStart => exact ⟨0, 0, Nat.zero_le _, rfl, rfl, .inl ⟨rfl, HCK.out⟩, Below.refl _ _⟩
  case round =>
    obtain ⟨k, want, hk, rfl, rfl, hwant, hbel⟩ := hrel
    have HWA := Lib.hid hwant
    have HB := Lib.hid hbel
    have hsz := hbel.size
    clear hwant hbel
    by_cases hlt : k < m
    · have hkl : k < ms.length := by have := HML.out; omega
      obtain ⟨b0, off, ea, hbl, hcell⟩ := came_marks (HC8.out.below HB.out) (by omega)
      subst ea
      have hcs := hcell k hkl
      have HAT := Lib.hid (marksE_at (nc := 40) (ns := 3) (last := lastOf ms k) hkl)
      have HLS := Lib.hid (lastOf_succ hkl)
      have HCELL := Lib.hid hcell
      obtain ⟨mk, hmk⟩ : ∃ mk, mk = ms[k] := ⟨_, rfl⟩
      rw [← hmk] at hcs HAT HLS
      clear hmk hcell
      obtain ⟨pcv, mfn, mline, va, vl, vc⟩ := mk
      obtain ⟨c0, c1, c2, c3⟩ := hcs
      simp only at c0 c1 c2 c3 HAT HLS
      have HBA := Lib.hid (HB.out.alloc hsz (.cells #[.int .i64 pcv, .int .i64 mfn, .int .i64 mline, .slice va vl vc] 58))
      by_cases hw0 : want = 0
      · subst hw0
        have HWE : Hid (W = marksE 40 3 (lastOf ms k) (ms.drop k)) := by
          rcases HWA.out with h | h
          · exact h.2
          · exact absurd rfl h.1
        clear HWA
        rcases mark_cases 40 3 pcv mfn mline with h | h | h | h | h | h
        case' inr.inr.inr.inr.inr =>
          by_cases hk0 : k = 0
          · subst hk0
            have HR : Hid (W = marksE 40 3 (lastOf ms (0 + 1)) (ms.drop (0 + 1))) := by
              unfold Hid
              rw [HWE.out, HAT.out, if_neg (by omega), if_neg (by unfold lastOf; rw [if_pos rfl]; omega), HLS.out]
            clear HWE HAT HLS HCELL
            simp only [Nat.zero_mul, Nat.add_zero] at c0 c1 c2 c3
            go_upto_region 13 with fail
            go_quiet (fail)
            go_wp2_with fail
            go_roundw
            case rel => exact ⟨0 + 1, 0, by omega, by go_num, rfl, .inl ⟨rfl, HR.out⟩, HBA.out.trans (below_drewN_self _ _ _)⟩
            case measure => simp [intOf]; omega
          · obtain ⟨q, rfl⟩ : ∃ q, k = q + 1 := ⟨k - 1, by omega⟩
            have hql : q < ms.length := by omega
            have hq0 := (HCELL.out q hql).c0
            have HLQ := Lib.hid (lastOf_succ hql)
            obtain ⟨pq, hpq⟩ : ∃ pq, pq = ms[q].pc := ⟨_, rfl⟩
            rw [← hpq] at hq0 HLQ
            have hi8w := HI8.out.below HB.out hI8
            have i4 := hi8w.cell 4
            simp only [List.getElem?_cons_succ, List.getElem?_cons_zero] at i4
            have hq1 : ((q + 1 : Nat) : Int) - 1 = (q : Int) := by omega
            have hIr : Ib < wr.heap.size := by omega
            clear hpq hi8w HCELL
            go_upto_region 13 with fail
            by_cases hlt2 : pcv < pq
            · have d1 : decide (pcv < pq) = true := decide_eq_true hlt2
              have HR : Hid (W = 3) := by
                unfold Hid
                rw [HWE.out, HAT.out, if_neg (by omega), HLQ.out, if_pos hlt2]
              clear HWE HAT HLS hlt2
              go_quiet (fail)
              go_wp2_with fail
              go_roundw
              case rel => exact ⟨q + 1 + 1, 3, by omega, by go_num, rfl, .inr ⟨by omega, HR.out⟩, HBA.out.trans (below_drewN_self _ _ _)⟩
              case measure => simp [intOf]; omega
            · have d1 : decide (pcv < pq) = false := decide_eq_false hlt2
              have HR : Hid (W = marksE 40 3 (lastOf ms (q + 1 + 1)) (ms.drop (q + 1 + 1))) := by
                unfold Hid
                rw [HWE.out, HAT.out, if_neg (by omega), HLQ.out, if_neg hlt2, HLS.out]
              clear HWE HAT HLS hlt2
              go_quiet (fail)
              go_wp2_with fail
              go_roundw
              case rel => exact ⟨q + 1 + 1, 0, by omega, by go_num, rfl, .inl ⟨rfl, HR.out⟩, HBA.out.trans (below_drewN_self _ _ _)⟩
              case measure => simp [intOf]; omega
        all_goals
          have HR : Hid (W = 4) := by unfold Hid; rw [HWE.out, HAT.out, if_pos (by omega)]
          clear HWE HAT HLS HCELL
          go_wp2_with fail
          go_roundw
          case rel => exact ⟨k + 1, 4, by omega, by go_num, rfl, .inr ⟨by omega, HR.out⟩, HBA.out⟩
          case measure => simp [intOf]; omega
      · have HWE : Hid (W = want) := by
          rcases HWA.out with h | h
          · exact absurd h.1 hw0
          · exact h.2
        have z0 : (want != 0) = true := by rw [bne_iff_ne]; exact hw0
        have HW0 := Lib.hid hw0
        clear HWA hw0 HAT HLS HCELL
        go_wp2_with fail
        go_roundw
        case rel => exact ⟨k + 1, want, by omega, by go_num, rfl, .inr ⟨HW0.out, HWE.out⟩, HBA.out⟩
        case measure => simp [intOf]; omega
    · have ek : k = m := by omega
      subst ek
      have HWE : Hid (W = want) := by
        rcases HWA.out with h | h
        · rw [h.2, List.drop_of_length_le (by have := HML.out; omega), h.1]; rfl
        · exact h.2
      have e := HWE.out
      subst e
      clear HWA HWE hlt
      have HI9 := Lib.hid (HI8.out.below HB.out hI8)
      have HD9 := Lib.hid (HD8.out.below HB.out hD8)
      have HS9 := Lib.hid (HS8.out.below HB.out)
      have HC9 := Lib.hid (HC8.out.below HB.out)
      have HV9 := Lib.hid (fun z h => (HV8.out z h).below HB.out)
      have HSV9 : Hid (∀ i (hi : i < starts3.length), wr.cell? ⟨Sb, i, none⟩ = some (.int .i64 starts3[i])) := fun i hi => (HB.out.cell (p := ⟨Sb, i, none⟩) (by show Sb < _; omega)).trans (HSV.out i hi)
      have HB9 := Lib.hid (HB8.out.trans (HB.out.mono HB8.out.size))
      have hI9 := HI9.out.lt
      have hD9 := HD9.out.lt
      have HSI : Hid ((Try.prog.info? 51).map (·.size) = some 5) := by unfold Hid; kernel_rfl
      have HSZ : Hid ((Try.prog.info? 54).map (·.size) = some 3) := by unfold Hid; kernel_rfl
      have HCHK := Lib.hid (debugCheck_any (some ⟨w.heap.size, 0, none⟩) 40 40 0 (some ⟨Sb, 0, none⟩) 3 3 none 0 0 a0 k cap0 ms wr HC9.out)
      unfold IntPostD at HCHK
      rw [← HW.out] at HCHK
      clear HI8 HD8 HS8 HC8 HV8 HSV HB8 HB hsz hI8 hD8 HCK hk
      go_wp2_with (refine wpList_load_row rfl 51 _ rfl Ib rfl _ #[.slice (some ⟨w.heap.size, 0, none⟩) 40 40, .int .i64 0, .slice (some ⟨Sb, 0, none⟩) 3 3, .slice none 0 0, .slice a0 k cap0] _ _ HI9.out Try.underlying51 rfl HSI.out ?_)
      refine HCHK.out.mono ?_
      rintro e w10 ⟨rfl, hb10⟩
      have HI10 := Lib.hid (HI9.out.below hb10 hI9)
      have HD10 := Lib.hid (HD9.out.below hb10 hD9)
      have HS10 := Lib.hid (HS9.out.below hb10)
      have HC10 := Lib.hid (HC9.out.below hb10)
      have HV10 := Lib.hid (fun z h => (HV9.out z h).below hb10)
      have HSV10 : Hid (∀ i (hi : i < starts3.length), w10.cell? ⟨Sb, i, none⟩ = some (.int .i64 starts3[i])) := fun i hi => (hb10.cell (p := ⟨Sb, i, none⟩) (by show Sb < _; omega)).trans (HSV9.out i hi)
      have HB10 := Lib.hid (HB9.out.trans (hb10.mono HB9.out.size))
      clear HI9 HD9 HS9 HC9 HV9 HSV9 HB9 HCHK hI9 hD9 hb10
      have hI10 := HI10.out.lt
      have hD10 := HD10.out.lt
      obtain ⟨r, hr⟩ : ∃ r, r = a1 % 45 := ⟨_, rfl⟩
      have hrb : 0 ≤ r ∧ r < 45 := by rw [hr]; exact ⟨Int.emod_nonneg _ (by omega), Int.emod_lt_of_pos _ (by omega)⟩
      rw [← hr] at HRE
      clear hr
      go_wp2_with fail
      refine (HRE _).out.mono ?_
      rintro e w' ⟨rfl, rfl⟩
      obtain ⟨p, hp⟩ : ∃ p, p = r - 2 := ⟨_, rfl⟩
      have hpb : -2 ≤ p ∧ p ≤ 42 := by omega
      have i2 := HI10.out.cell 2
      simp only [List.getElem?_cons_succ, List.getElem?_cons_zero] at i2
      go_upto_region 20 with fail
      rw [← hp]
      clear hp hrb HRE
      go_wp2_with fail
      clear i2
      go_loop [13, 114] (fun v u => ∃ j : Nat, j ≤ 3 ∧ u = .int .i64 (j : Int) ∧ v = .int .i64 (fnK p j)) (fun _ u => 3 - (intOf u).toNat)
      case atStart => exact ⟨0, by omega, rfl, rfl⟩
      case round =>
        obtain ⟨j, hj, rfl, rfl⟩ := hrel
        by_cases hlt : j < 3
        · have cl := HSV10.out j hlt
          have hfk : Hid (fnK p (j + 1) = if starts3.getD j 0 ≤ p ∧ p < 40 then (j : Int) else fnK p j) := rfl
          have hgd : starts3.getD j 0 = starts3[j]'hlt := by rw [List.getD_eq_getElem?_getD, List.getElem?_eq_getElem hlt]; rfl
          rw [hgd] at hfk
          obtain ⟨st, hst⟩ : ∃ st, st = starts3[j]'hlt := ⟨_, rfl⟩
          rw [← hst] at cl hfk
          obtain ⟨fk, hfkk⟩ : ∃ fk, fk = fnK p j := ⟨_, rfl⟩
          rw [← hfkk] at hfk ⊢
          clear hgd hst hfkk
          by_cases h1 : st ≤ p
          · have d1 : decide (st ≤ p) = true := decide_eq_true h1
            by_cases h2 : p < 40
            · have d2 : decide (p < 40) = true := decide_eq_true h2
              rw [if_pos ⟨h1, h2⟩] at hfk
              clear h1 h2
              go_wp2_with fail
              go_round
              case rel => exact ⟨j + 1, by omega, by go_num, by rw [hfk.out]⟩
              case measure => simp [intOf]; omega
            · have d2 : decide (p < 40) = false := decide_eq_false h2
              rw [if_neg (fun e => h2 e.2)] at hfk
              clear h1 h2
              go_wp2_with fail
              go_round
              case rel => exact ⟨j + 1, by omega, by go_num, by rw [hfk.out]⟩
              case measure => simp [intOf]; omega
          · have d1 : decide (st ≤ p) = false := decide_eq_false h1
            rw [if_neg (fun e => h1 e.1)] at hfk
            clear h1
            go_wp2_with fail
            go_round
            case rel => exact ⟨j + 1, by omega, by go_num, by rw [hfk.out]⟩
            case measure => simp [intOf]; omega
        · have ej : j = 3 := by omega
          subst ej
          have hfb := fnK_bd p 3
          have HFI := Lib.hid (find_law (some ⟨w.heap.size, 0, none⟩) 40 0 (some ⟨Sb, 0, none⟩) 3 none 0 0 a0 k cap0 ms p w10 HC10.out HS10.out HV10.out hpb)
          unfold FindLaw at HFI
          rw [← HW.out] at HFI
          obtain ⟨F, hF⟩ : ∃ F, F = fnK p 3 := ⟨_, rfl⟩
          rw [← hF] at HFI hfb ⊢
          clear hF hj hlt
          go_wp2_with (refine wpList_load_row rfl 51 _ rfl Ib rfl _ #[.slice (some ⟨w.heap.size, 0, none⟩) 40 40, .int .i64 0, .slice (some ⟨Sb, 0, none⟩) 3 3, .slice none 0 0, .slice a0 k cap0] _ _ HI10.out Try.underlying51 rfl HSI.out ?_)
          refine HFI.out.mono ?_
          rintro e w11 ⟨fe, dfn, dline, va, vm, vk, rfl, hb11, hE1, hE2, hE3⟩
          have HE1 := Lib.hid hE1
          have HE2 := Lib.hid hE2
          have HE3 := Lib.hid hE3
          have HI11 := Lib.hid (HI10.out.below hb11 hI10)
          have HD11 := Lib.hid (HD10.out.below hb11 hD10)
          have HC11 := Lib.hid (HC10.out.below hb11)
          have HSV11 : Hid (∀ i (hi : i < starts3.length), w11.cell? ⟨Sb, i, none⟩ = some (.int .i64 starts3[i])) := fun i hi => (hb11.cell (p := ⟨Sb, i, none⟩) (by show Sb < _; omega)).trans (HSV10.out i hi)
          have HB11 := Lib.hid (HB10.out.trans (hb11.mono HB10.out.size))
          clear HI10 HD10 HS10 HC10 HV10 HSV10 HB10 HFI hI10 hD10 hb11 hE1 hE2 hE3
          have hI11 := HI11.out.lt
          have hD11 := HD11.out.lt
          go_upto_region 27 with (refine wpList_store_rowTo rfl 54 _ _ rfl rfl Db #[.int .i64 dfn, .int .i64 dline, .slice va vm vk] rfl rfl _ _ HD11.out HSZ.out rfl (one3 _ _ _ _ _) ?_)
          have hd12 := setRowBlk3 HD11.out [.int .i64 dfn, .int .i64 dline, .slice va vm vk]
          have hi12 := setRowOther HI11.out (g := Db) (by omega) #[.int .i64 dfn, .int .i64 dline, .slice va vm vk]
          have hb12 := setRowBelow HB11.out (g := Db) (by omega) #[.int .i64 dfn, .int .i64 dline, .slice va vm vk]
          have hb12' : Below Db w11 (w11.setRow Db #[.int .i64 dfn, .int .i64 dline, .slice va vm vk]) := setRowBelow (Below.refl _ _) (Nat.le_refl _) _
          have hb12'' : Below w.heap.size w11 (w11.setRow Db #[.int .i64 dfn, .int .i64 dline, .slice va vm vk]) := setRowBelow (Below.refl _ _) (by omega) _
          have hcm12 : Came (w11.setRow Db #[.int .i64 dfn, .int .i64 dline, .slice va vm vk]) a0 k cap0 4 (ms.map markCells) := HCM0.out.below hb12
          have hsv12 : ∀ i (hi : i < starts3.length), (w11.setRow Db #[.int .i64 dfn, .int .i64 dline, .slice va vm vk]).cell? ⟨Sb, i, none⟩ = some (.int .i64 starts3[i]) := fun i hi => (hb12'.cell (p := ⟨Sb, i, none⟩) (by show Sb < _; omega)).trans (HSV11.out i hi)
          change Blk (w11.setRow Db #[.int .i64 dfn, .int .i64 dline, .slice va vm vk]) _ _ _ at hd12
          generalize w11.setRow Db #[.int .i64 dfn, .int .i64 dline, .slice va vm vk] = w12 at hd12 hi12 hb12 hb12' hcm12 hsv12 ⊢
          have HD12 := Lib.hid hd12
          have HI12 := Lib.hid hi12
          have HB12 := Lib.hid hb12
          have HC12 := Lib.hid hcm12
          have HSV12 := Lib.hid hsv12
          have HWH := Lib.hid (where_law (some ⟨w.heap.size, 0, none⟩) 40 0 (some ⟨Sb, 0, none⟩) 3 none 0 0 a0 k cap0 ms a2 w12 hcm12)
          unfold WhereLaw at HWH
          rw [← HW.out] at HWH
          have hI12 := hi12.lt
          have hD12 := hd12.lt
          clear hd12 hi12 hb12 hb12' hb12'' hcm12 hsv12 HD11 HI11 HB11 HC11 HSV11 hI11 hD11
          go_wp2_with (refine wpList_load_row rfl 51 _ rfl Ib rfl _ #[.slice (some ⟨w.heap.size, 0, none⟩) 40 40, .int .i64 0, .slice (some ⟨Sb, 0, none⟩) 3 3, .slice none 0 0, .slice a0 k cap0] _ _ HI12.out Try.underlying51 rfl HSI.out ?_)
          refine HWH.out.mono ?_
          rintro e w13 ⟨lv, c, l, rfl, hown, hb13, hL1, hL2⟩
          obtain ⟨la, ll, lc, rfl⟩ := owns_shape hown
          have HD13 := Lib.hid (HD12.out.below hb13 hD12)
          have HI13 := Lib.hid (HI12.out.below hb13 hI12)
          have HC13 := Lib.hid (HC12.out.below hb13)
          have HSV13 : Hid (∀ i (hi : i < starts3.length), w13.cell? ⟨Sb, i, none⟩ = some (.int .i64 starts3[i])) := fun i hi => (hb13.cell (p := ⟨Sb, i, none⟩) (by show Sb < _; omega)).trans (HSV12.out i hi)
          have HB13 := Lib.hid (HB12.out.trans (hb13.mono HB12.out.size))
          have hI13 := HI13.out.lt
          have hD13 := HD13.out.lt
          have HLO := Lib.hid (ownI_came3 hown)
          have HL1 := Lib.hid hL1
          have HL2 := Lib.hid hL2
          clear HD12 HI12 HC12 HSV12 HB12 HWH hI12 hD12 hb13 hown hL1 hL2
          by_cases hw0 : W = 0
          · subst hw0
            obtain ⟨rfl, rfl⟩ := HL2.out rfl
            clear HL1 HL2 HE1
            go_upto_region 30 with fail
            have i4 := HI13.out.cell 4
            simp only [List.getElem?_cons_succ, List.getElem?_cons_zero] at i4
            go_wp2_with fail
            clear i4
            obtain ⟨i0, hi0, hz0, hz1, hz2⟩ := info_parts Try.infoD3
            go_loopw [18, 19, 20, 158] (fun v x y u wx => ∃ (j : Nat) (was now : Int) (out : List Int), j ≤ k ∧ u = .int .i64 (j : Int) ∧ x = .int .i64 was ∧ y = .int .i64 now ∧ out.length ≤ j ∧ whereT 1 a2 0 ms = out ++ whereT 1 a2 was (ms.drop j) ∧ nowL F p 0 ms = nowL F p now (ms.drop j) ∧ wx.ownsRow w13.heap.size 3 1 v out.length (out.map (Value.int .i64)) ∧ Below w13.heap.size w13 wx) (fun _ _ _ u _ => k - (intOf u).toNat)
            case atStart => exact ⟨0, 0, 0, [], Nat.zero_le _, rfl, rfl, rfl, Nat.le_refl _, rfl, rfl, World.ownsRow_nil _ _ _ _, Below.refl _ _⟩
            case round =>
              obtain ⟨j, was, now, out, hj, rfl, rfl, rfl, hol, hm1, hm2, hown, hbel⟩ := hrel
              obtain ⟨oa, ol, oc, rfl⟩ := owns_shape hown
              have HM1 := Lib.hid hm1
              have HM2 := Lib.hid hm2
              have HOWN := Lib.hid hown
              have HB := Lib.hid hbel
              have hsz := hbel.size
              clear hm1 hm2 hown hbel
              by_cases hlt : j < k
              · have hkl : j < ms.length := by have := HML.out; omega
                obtain ⟨b0, off, ea, hbl, hcell⟩ := came_marks (HC13.out.below HB.out) (by omega)
                subst ea
                have hcs := hcell j hkl
                have HA1 := Lib.hid (whereT_at (fn := 1) (line := a2) (last := was) hkl)
                have HA2 := Lib.hid (nowL_at (fn := F) (p := p) (cur := now) hkl)
                obtain ⟨mk, hmk⟩ : ∃ mk, mk = ms[j] := ⟨_, rfl⟩
                rw [← hmk] at hcs HA1 HA2
                clear hmk hcell
                obtain ⟨pcv, mfn, mline, va3, vl3, vc3⟩ := mk
                obtain ⟨c0, c1, c2, c3⟩ := hcs
                simp only at c0 c1 c2 c3 HA1 HA2
                have hba0 : Below wr.heap.size wr (wr.alloc (.cells #[.int .i64 pcv, .int .i64 mfn, .int .i64 mline, .slice va3 vl3 vc3] 58)) := (Below.refl _ _).alloc (Nat.le_refl _) _
                have HBA := Lib.hid (HB.out.alloc hsz (.cells #[.int .i64 pcv, .int .i64 mfn, .int .i64 mline, .slice va3 vl3 vc3] 58))
                have HMA := Lib.hid (Blk.new wr [.int .i64 pcv, .int .i64 mfn, .int .i64 mline, .slice va3 vl3 vc3] 58)
                have HOA := Lib.hid (World.ownsRow.alloc HOWN.out (.cells #[.int .i64 pcv, .int .i64 mfn, .int .i64 mline, .slice va3 vl3 vc3] 58))
                obtain ⟨M, hMe⟩ : ∃ M, M = wr.heap.size := ⟨_, rfl⟩
                have hMO : ∀ q, (Value.slice oa ol oc).ownBlock = some q → q < M := fun q hq => by rw [hMe]; exact (World.ownsRow.lt HOWN.out q hq).2
                have HMO := Lib.hid hMO
                have hMsz : w13.heap.size ≤ M := by omega
                clear hMO
                have hcs : (mfn = 1 ∧ (mline ≠ was ∧ mline = a2)) ∨ (mfn = 1 ∧ ¬ (mline ≠ was ∧ mline = a2)) ∨ ¬ mfn = 1 := by
                  by_cases h1 : mfn = 1
                  · by_cases h2 : mline ≠ was ∧ mline = a2
                    · exact .inl ⟨h1, h2⟩
                    · exact .inr (.inl ⟨h1, h2⟩)
                  · exact .inr (.inr h1)
                rcases hcs with ⟨hf1, hp1⟩ | ⟨hf1, hp1⟩ | hf1
                case' inl =>
                  have y1 : (mfn == 1) = true := by rw [beq_iff_eq]; exact hf1
                  have y2 : (mline == a2) = true := by rw [beq_iff_eq]; exact hp1.2
                  have y3 : (was != a2) = true := by rw [bne_iff_ne]; exact fun e => hp1.1 (by rw [hp1.2, e])
                  have HN1 : Hid (whereT 1 a2 0 ms = (out ++ [pcv]) ++ whereT 1 a2 mline (ms.drop (j + 1))) := by unfold Hid; rw [HM1.out, HA1.out, if_pos hf1, if_pos hp1, List.append_assoc]; rfl
                  clear HM1 HA1 hp1 hf1
                  have HAL := Lib.hid (World.ownsRow.alloc HOA.out (.cells #[.int .i64 pcv] 3))
                  have HA3 : Hid (∀ j u, ([Value.int .i64 pcv] : List Value)[j]? = some u → ((wr.alloc (.cells #[.int .i64 pcv, .int .i64 mfn, .int .i64 mline, .slice va3 vl3 vc3] 58)).alloc (.cells #[.int .i64 pcv] 3)).cell? ((⟨wr.heap.size + 1, 0, none⟩ : Addr).add j) = some u) := by
                    have := cell_one_new (wr.alloc (.cells #[.int .i64 pcv, .int .i64 mfn, .int .i64 mline, .slice va3 vl3 vc3] 58)) (.int .i64 pcv) 3
                    rw [World.size_alloc] at this
                    exact this
                  have HA4 : Hid (∀ u ∈ ([Value.int .i64 pcv] : List Value), u.oneCell' = true) := by intro u hu; simp at hu; subst hu; rfl
                  have HMA2 := Lib.hid (HMA.out.alloc (.cells #[.int .i64 pcv] 3))
                  have HBA2 := Lib.hid (HBA.out.alloc (by simp; omega) (.cells #[.int .i64 pcv] 3))
                  go_wp2_with (at_builtin; refine wpList_append_own _ rfl _ _ 24 rfl w13.heap.size 3 i0 (.int .i64 0) 1 8 Try.underlying24 hi0 hz0 hz1 hz2 rfl (by decide) _ _ _ rfl HAL.out ⟨wr.heap.size + 1, 0, none⟩ 1 1 [.int .i64 pcv] rfl rfl HA3.out HA4.out (by unfold maxLen; omega) (by omega) (by simp; omega) ?_)
                  intro v' w7 hown' hgrow _
                  obtain ⟨na, nl, nc, rfl⟩ := owns_shape hown'
                  have hown7 : w7.ownsRow w13.heap.size 3 1 (.slice na nl nc) (out ++ [pcv]).length ((out ++ [pcv]).map (Value.int .i64)) := by rw [List.length_append, List.map_append]; exact hown'
                  have HBX := Lib.hid (HBA2.out.grown hgrow (by simp; omega) (fun q hq => (World.ownsRow.lt HOWN.out q hq).1))
                  have HMX := Lib.hid (HMA2.out.of_heap (hgrow.block wr.heap.size (by simp; omega) (fun e => by have := HMO.out _ e.symm; omega)))
                  have HOX := Lib.hid hown7
                  have HLX : Hid ((out ++ [pcv]).length ≤ j + 1) := by unfold Hid; simp; omega
                  clear hown' hgrow hown7 HAL HA3 HA4 HMA2 HBA2 HOA HMA HBA c0 c1 c2 c3 y1 y2 y3
                  have m2 := HMX.out.cell 2
                  simp only [List.getElem?_cons_succ, List.getElem?_cons_zero] at m2
                  go_upto_region 39 with fail
                  clear m2
                  generalize w7 = wY at HBX HMX HOX ⊢
                  generalize out ++ [pcv] = outY at HOX HLX HN1
                  generalize mline = wasY at HN1 ⊢
                case' inr.inl =>
                  have y1 : (mfn == 1) = true := by rw [beq_iff_eq]; exact hf1
                  have HN1 : Hid (whereT 1 a2 0 ms = out ++ whereT 1 a2 mline (ms.drop (j + 1))) := by unfold Hid; rw [HM1.out, HA1.out, if_pos hf1, if_neg hp1]
                  have y2 : (mline == a2) = false ∨ ((mline == a2) = true ∧ (was != a2) = false) := by
                    by_cases e : mline = a2
                    · right
                      refine ⟨by rw [beq_iff_eq]; exact e, ?_⟩
                      have e2 : mline = was := Classical.not_not.1 (fun h => hp1 ⟨h, e⟩)
                      rw [← e2, e]
                      simp
                    · left; rw [beq_eq_false_iff_ne]; exact e
                  clear HM1 HA1 hp1 hf1
                  have HBX := HBA
                  have HMX := HMA
                  have HOX := HOA
                  have HLX : Hid (out.length ≤ j + 1) := by unfold Hid; omega
                  clear HBA HMA HOA
                  rcases y2 with y2 | ⟨y2, y3⟩
                case' inr.inl.inl | inr.inl.inr =>
                  go_upto_region 39 with fail
                  clear c0 c1 c2 c3
                  generalize wr.alloc (.cells #[.int .i64 pcv, .int .i64 mfn, .int .i64 mline, .slice va3 vl3 vc3] 58) = wY at HBX HMX HOX ⊢
                  generalize mline = wasY at HN1 ⊢
                case' inr.inr =>
                  have y1 : (mfn == 1) = false := by rw [beq_eq_false_iff_ne]; exact hf1
                  have HN1 : Hid (whereT 1 a2 0 ms = out ++ whereT 1 a2 was (ms.drop (j + 1))) := by unfold Hid; rw [HM1.out, HA1.out, if_neg hf1]
                  clear HM1 HA1 hf1
                  have HBX := HBA
                  have HMX := HMA
                  have HOX := HOA
                  have HLX : Hid (out.length ≤ j + 1) := by unfold Hid; omega
                  clear HBA HMA HOA
                  go_upto_region 39 with fail
                  clear c0 c1 c2 c3 y1
                  generalize wr.alloc (.cells #[.int .i64 pcv, .int .i64 mfn, .int .i64 mline, .slice va3 vl3 vc3] 58) = wY at HBX HMX HOX ⊢
                all_goals
                  have hi := HI13.out.below HBX.out hI13
                  have i2 := hi.cell 2
                  have m0 := HMX.out.cell 0
                  have m1 := HMX.out.cell 1
                  have m2 := HMX.out.cell 2
                  simp only [List.getElem?_cons_succ, List.getElem?_cons_zero] at i2 m0 m1 m2
                  clear hi
                  by_cases g1 : mfn = F
                  · have d1 : (mfn == F) = true := by rw [beq_iff_eq]; exact g1
                    by_cases g2 : 0 ≤ F
                    · have d2 : decide (0 ≤ F) = true := decide_eq_true g2
                      obtain ⟨f, hf⟩ : ∃ f : Nat, F = (f : Int) := ⟨F.toNat, by omega⟩
                      have hf3 : f < 3 := by omega
                      have sv := (HBX.out.cell (p := ⟨Sb, f, none⟩) (by show Sb < _; omega)).trans (HSV13.out f hf3)
                      have hst : stOf F = starts3[f]'hf3 := by
                        unfold stOf
                        rw [hf, Int.toNat_natCast, List.getD_eq_getElem?_getD, List.getElem?_eq_getElem hf3]
                        rfl
                      rw [← hst] at sv
                      clear hst
                      subst hf
                      have HSL : Hid ((f : Int) < 3) := by unfold Hid; omega
                      generalize stOf (f : Int) = st at sv HA2
                      by_cases g3 : st ≤ pcv
                      · have d3 : decide (st ≤ pcv) = true := decide_eq_true g3
                        by_cases g4 : pcv ≤ p
                        · have d4 : decide (pcv ≤ p) = true := decide_eq_true g4
                          have HN2 : Hid (nowL (f : Int) p 0 ms = nowL (f : Int) p mline (ms.drop (j + 1))) := by unfold Hid; rw [HM2.out, HA2.out, if_pos ⟨g1, g2, g3, g4⟩]
                          clear HM2 HA2 g1 g2 g3 g4
                          go_quiet (fail)
                          go_wp2_with fail
                          go_roundw
                          case rel => exact ⟨j + 1, _, _, _, by omega, by go_num, rfl, rfl, HLX.out, HN1.out, HN2.out, HOX.out, HBX.out.trans (below_drewN_self _ _ _)⟩
                          case measure => simp [intOf]; omega
                        · have d4 : decide (pcv ≤ p) = false := decide_eq_false g4
                          have HN2 : Hid (nowL (f : Int) p 0 ms = nowL (f : Int) p now (ms.drop (j + 1))) := by unfold Hid; rw [HM2.out, HA2.out, if_neg (fun e => g4 e.2.2.2)]
                          clear HM2 HA2 g1 g2 g3 g4
                          go_quiet (fail)
                          go_wp2_with fail
                          go_roundw
                          case rel => exact ⟨j + 1, _, _, _, by omega, by go_num, rfl, rfl, HLX.out, HN1.out, HN2.out, HOX.out, HBX.out.trans (below_drewN_self _ _ _)⟩
                          case measure => simp [intOf]; omega
                      · have d3 : decide (st ≤ pcv) = false := decide_eq_false g3
                        have HN2 : Hid (nowL (f : Int) p 0 ms = nowL (f : Int) p now (ms.drop (j + 1))) := by unfold Hid; rw [HM2.out, HA2.out, if_neg (fun e => g3 e.2.2.1)]
                        clear HM2 HA2 g1 g2 g3
                        go_quiet (fail)
                        go_wp2_with fail
                        go_roundw
                        case rel => exact ⟨j + 1, _, _, _, by omega, by go_num, rfl, rfl, HLX.out, HN1.out, HN2.out, HOX.out, HBX.out.trans (below_drewN_self _ _ _)⟩
                        case measure => simp [intOf]; omega
                    · have d2 : decide (0 ≤ F) = false := decide_eq_false g2
                      have HN2 : Hid (nowL F p 0 ms = nowL F p now (ms.drop (j + 1))) := by unfold Hid; rw [HM2.out, HA2.out, if_neg (fun e => g2 e.2.1)]
                      clear HM2 HA2 g1 g2
                      go_quiet (fail)
                      go_wp2_with fail
                      go_roundw
                      case rel => exact ⟨j + 1, _, _, _, by omega, by go_num, rfl, rfl, HLX.out, HN1.out, HN2.out, HOX.out, HBX.out.trans (below_drewN_self _ _ _)⟩
                      case measure => simp [intOf]; omega
                  · have d1 : (mfn == F) = false := by rw [beq_eq_false_iff_ne]; exact g1
                    have HN2 : Hid (nowL F p 0 ms = nowL F p now (ms.drop (j + 1))) := by unfold Hid; rw [HM2.out, HA2.out, if_neg (fun e => g1 e.1)]
                    clear HM2 HA2 g1
                    go_quiet (fail)
                    go_wp2_with fail
                    go_roundw
                    case rel => exact ⟨j + 1, _, _, _, by omega, by go_num, rfl, rfl, HLX.out, HN1.out, HN2.out, HOX.out, HBX.out.trans (below_drewN_self _ _ _)⟩
                    case measure => simp [intOf]; omega
              · have h9 : ms.drop j = [] := List.drop_eq_nil_of_le (by have := HML.out; omega)
                have hE1 : whereT 1 a2 0 ms = out := by rw [HM1.out, h9]; simp [whereT]
                have hE2 : nowL F p 0 ms = now := by rw [HM2.out, h9]; rfl
                rw [hE1] at HLO
                rw [hE2] at HE3
                obtain ⟨hll, hlc⟩ := HLO.out
                have HSA := fun n => Lib.hid (same_ints (wr.drewN n) la ll lc out oa ol oc out ((hlc.below HB.out).below (below_drewN_self _ _ _)) ((ownI_came3 HOWN.out).2.below (below_drewN_self _ _ _)))
                have HSA0 := Lib.hid (same_ints wr la ll lc out oa ol oc out (hlc.below HB.out) (ownI_came3 HOWN.out).2)
                unfold BoolQ at HSA0
                simp only [decide_true] at HSA0
                have HDX := Lib.hid (HD13.out.below HB.out hD13)
                have HBZ := Lib.hid (HB13.out.trans (HB.out.mono HB13.out.size))
                have d0 := HDX.out.cell 0
                have d1 := HDX.out.cell 1
                simp only [List.getElem?_cons_succ, List.getElem?_cons_zero] at d0 d1
                clear hE1 hE2 h9 hll hlc HLO HSA HM1 HM2 HOWN HB HD13 HI13 HC13 HSV13 HB13
                go_wp2_with fail
                refine HSA0.out.mono ?_
                rintro e w' ⟨n, rfl, rfl⟩
                by_cases g : F < 0
                · have z1 : decide (F < 0) = true := decide_eq_true g
                  have hfe := HE2.out trivial g
                  subst hfe
                  clear HE2 HE3
                  go_wp2_with fail
                  go_ret
                  exact ⟨rfl, HBZ.out.trans (below_drewN_self _ _ _)⟩
                · have z1 : decide (F < 0) = false := decide_eq_false g
                  obtain ⟨rfl, rfl, rfl⟩ := HE3.out trivial (by omega)
                  clear HE2 HE3
                  go_wp2_with fail
                  go_ret
                  exact ⟨rfl, HBZ.out.trans (below_drewN_self _ _ _)⟩
          · have z0 : (W != 0) = true := by rw [bne_iff_ne]; exact hw0
            obtain ⟨rfl, rfl⟩ := HL1.out hw0
            have hfe := HE1.out hw0
            subst hfe
            obtain ⟨rfl, _⟩ := HLO.out
            clear HL1 HL2 HE1 HE2 HE3 hw0 HW
            go_wp2_with fail
            go_ret
            exact ⟨rfl, HB13.out⟩
end Go.Proofs.Ytnfgjcdiophphab
