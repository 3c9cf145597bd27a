/- sched's pick. -/
import Derived.Test.YtnfgjcdiophphabSchedMath
import Derived.Test.YtnfgjcdiophphabMade
import Derived.BigQuiet
import Derived.Deep.QuietTactic
import Derived.Great.BuildSlice
namespace Go.Proofs.Ytnfgjcdiophphab
open Go.RowKit
set_option linter.unusedVariables false
set_option linter.unusedSimpArgs false

def PickAt (n : Nat) (done : Nat → Bool) (op : Nat → Int) (r : Int) : Prop := (r = -1 ∧ ∀ i, i < n → done i = true ∨ 0 < op i) ∨ ∃ i : Nat, r = (i : Int) ∧ i < n ∧ done i = false ∧ ¬ 0 < op i
theorem PickAt.skip {n : Nat} {done : Nat → Bool} {op : Nat → Int} {r : Int} (h : PickAt n done op r) (hn : done n = true ∨ 0 < op n) : PickAt (n + 1) done op r := by
  rcases h with ⟨h1, h2⟩ | ⟨i, h1, h2, h3⟩
  · refine .inl ⟨h1, fun i hi => ?_⟩
    by_cases e : i = n
    · rw [e]; exact hn
    · exact h2 i (by omega)
  · exact .inr ⟨i, h1, by omega, h3⟩
theorem PickAt.keep {n : Nat} {done : Nat → Bool} {op : Nat → Int} {i : Nat} (h2 : i < n) (h3 : done i = false) (h4 : ¬ 0 < op i) : PickAt (n + 1) done op (i : Int) := .inr ⟨i, rfl, by omega, h3, h4⟩
theorem PickAt.take {n : Nat} {done : Nat → Bool} {op : Nat → Int} (h3 : done n = false) (h4 : ¬ 0 < op n) : PickAt (n + 1) done op (n : Int) := .inr ⟨n, rfl, by omega, h3, h4⟩
def PickPost (n : Nat) (done : Nat → Bool) (op : Nat → Int) (w : World) (e : Ending) (w' : World) : Prop := ∃ r : Int, e = .returned (.int .i64 r) ∧ Below w.heap.size w w' ∧ PickAt n done op r

theorem setRowBelowP {B : Nat} {w w' : World} (h : Below B w w') {g : Nat} (hg : B ≤ g) (xs : Array Value) : Below B w (w'.setRow g xs) :=
  h.trans ⟨rfl, rfl, rfl, by simp [World.setRow], fun k hk => by simp only [World.setRow, Array.getElem?_modify]; rw [if_neg (by omega)]⟩

set_option maxRecDepth 100000 in
set_option maxHeartbeats 4000000 in
theorem pick_ok (os : List Op5) (a : Option Addr) (n c : Nat) (S : TS) (wv : Value) (go ga gf gd : Nat) (op far : Nat → Int) (done : Nat → Bool) (B : Nat) (w : World) (h : Came w a n c 5 (os.map opC)) (hn : n ≤ 4096) (hg : ∀ o ∈ os, GoodOp o) (hB : B ≤ 1152921504606846976) (ok : S.Ok B) (hw : WrAt w wv S.wr)
    (hgo : Blk w go 3 (rowL n fun i => .int .i64 (op i))) (hgf : Blk w gf 3 (rowL n fun i => .int .i64 (far i))) (hgd : Blk w gd 4 (rowL n fun i => .bool (done i))) :
    Calls Try.prog 112 #[.slice a n c, .agg #[.slice (some ⟨go, 0, none⟩) n n, .slice (some ⟨ga, 0, none⟩) n n, .slice (some ⟨gf, 0, none⟩) n n], .agg (stCells S wv).toArray, .slice (some ⟨gd, 0, none⟩) n n] w (PickPost n done op w) := by
  have hl : os.length = n := by simpa using h.count
  have HL := Lib.hid hl
  have HC := Lib.hid h
  have HG := Lib.hid hg
  have HW := Lib.hid hw
  have HGO := Lib.hid hgo
  have HGF := Lib.hid hgf
  have HGD := Lib.hid hgd
  have HOK := Lib.hid ok
  have hle := h.le
  have hmx := h.max
  have hgol := hgo.lt
  have hgfl := hgf.lt
  have hgdl := hgd.lt
  have hb0 : Below w.heap.size w ((w.alloc (.cells #[.slice (some ⟨go, 0, none⟩) n n, .slice (some ⟨ga, 0, none⟩) n n, .slice (some ⟨gf, 0, none⟩) n n] 195)).alloc (.cells (stCells S wv).toArray 190)) := ((Below.refl _ _).alloc (Nat.le_refl _) _).alloc (by simp) _
  have hg0 := (Blk.new w [.slice (some ⟨go, 0, none⟩) n n, .slice (some ⟨ga, 0, none⟩) n n, .slice (some ⟨gf, 0, none⟩) n n] 195).alloc (.cells (stCells S wv).toArray 190)
  have hs0 := Blk.new (w.alloc (.cells #[.slice (some ⟨go, 0, none⟩) n n, .slice (some ⟨ga, 0, none⟩) n n, .slice (some ⟨gf, 0, none⟩) n n] 195)) (stCells S wv) 190
  rw [World.size_alloc] at hs0
  have HB0 := Lib.hid hb0
  have HG0 := Lib.hid hg0
  have HS0 := Lib.hid hs0
  clear h hl hg hw hgo hgf hgd ok hb0 hg0 hs0
  go_enter Try.func112, Try.ntmps112
  go_upto_region 3 with fail
  generalize (w.alloc (.cells #[.slice (some ⟨go, 0, none⟩) n n, .slice (some ⟨ga, 0, none⟩) n n, .slice (some ⟨gf, 0, none⟩) n n] 195)).alloc (.cells (stCells S wv).toArray 190) = w1 at HB0 HG0 HS0 ⊢
  have hs1 := HS0.out.lt
  have HSZ : Hid ((Try.prog.info? 190).map (·.size) = some (stCells S wv).toArray.size) := by unfold Hid; kernel_rfl
  have HC1 := Lib.hid (HC.out.below HB0.out)
  have HGO1 := Lib.hid (HGO.out.below HB0.out hgol)
  have HGF1 := Lib.hid (HGF.out.below HB0.out hgfl)
  have HGD1 := Lib.hid (HGD.out.below HB0.out hgdl)
  have HW1 := Lib.hid (HW.out.below HB0.out)
  have hg1 := HGO1.out.lt
  have hf1 := HGF1.out.lt
  have hd1 := HGD1.out.lt
  clear HC HGO HGF HGD HW
  go_loopw [9, 10, 18] (fun v x u wx => ∃ (k : Nat) (best start : Int), k ≤ n ∧ u = .int .i64 (k : Int) ∧ v = .int .i64 best ∧ x = .int .i64 start ∧ PickAt k done op best ∧ Below w1.heap.size w1 wx) (fun _ _ u _ => n - (intOf u).toNat)
  case atStart => exact ⟨0, -1, 0, Nat.zero_le _, rfl, rfl, rfl, .inl ⟨rfl, fun i hi => by omega⟩, Below.refl _ _⟩
  case round =>
    obtain ⟨k, best, start, hk, rfl, rfl, rfl, hpk, hbel⟩ := hrel
    have HPK := Lib.hid hpk
    have HB := Lib.hid hbel
    have hsz := hbel.size
    clear hpk hbel
    by_cases hlt : k < n
    · have hcr := HC1.out.below HB.out
      obtain ⟨b', off, ea, hbl, hcell⟩ := came_ops hcr (by omega)
      subst ea
      have hkl : k < os.length := by have := HL.out; omega
      have ho := hcell k hkl
      have hgo := HG.out _ (List.getElem_mem hkl)
      generalize os[k] = oo at ho hgo
      obtain ⟨o, d, aa, bb, nn⟩ := oo
      obtain ⟨c0, c1, c2, c3, c4⟩ := ho
      obtain ⟨hck, _⟩ := hgo
      simp only [] at c0 c1 c2 c3 c4 hck
      have ed := (HGD1.out.below HB.out hd1).row hlt
      have eo := (HGO1.out.below HB.out hg1).row hlt
      have g0 := (HG0.out.below HB.out HG0.out.lt).cell 0
      simp only [List.getElem?_cons_zero] at g0
      have HBA := Lib.hid (HB.out.alloc hsz (.cells #[.int .i64 o, .int .i64 d, .int .i64 aa, .int .i64 bb, .int .i64 nn] 92))
      have l1 : gd < wr.heap.size := by omega
      have l2 : go < wr.heap.size := by omega
      have l3 : gf < wr.heap.size := by omega
      have l4 : w.heap.size < wr.heap.size := by omega
      clear hcr hcell hkl
      cases hdk : done k
      case' true =>
        rw [hdk] at ed
        have HN := Lib.hid (HPK.out.skip (.inl hdk))
        clear HPK hdk
        go_wp2_with fail
        go_roundw
        case rel => exact ⟨k + 1, best, start, by omega, by go_num, rfl, rfl, HN.out, HBA.out⟩
        case measure => simp [intOf]; omega
      case' false =>
        rw [hdk] at ed
        have HDK := Lib.hid hdk
        clear hdk
        by_cases hop : 0 < op k
        · have d0 : decide (0 < op k) = true := decide_eq_true hop
          have HN := Lib.hid (HPK.out.skip (.inr hop))
          clear HPK hop
          go_wp2_with fail
          go_roundw
          case rel => exact ⟨k + 1, best, start, by omega, by go_num, rfl, rfl, HN.out, HBA.out⟩
          case measure => simp [intOf]; omega
        · have d0 : decide (0 < op k) = false := decide_eq_false hop
          have HOP := Lib.hid hop
          clear hop
          have hs2 := (HS0.out.below HB.out hs1).alloc (.cells #[.int .i64 o, .int .i64 d, .int .i64 aa, .int .i64 bb, .int .i64 nn] 92)
          have HS2 := Lib.hid hs2
          obtain ⟨rd, ra, rb⟩ := good_regs hck
          have HI := fun w h => Lib.hid (issue_ok S wv o d aa bb nn 0 w B hB (by omega) hck rd ra rb HOK.out h)
          unfold IssuePost at HI
          simp only [show ((0 : Nat) : Int) = 0 from rfl] at HI
          have HWR := Lib.hid ((HW1.out.below HB.out).below ((Below.refl _ _).alloc (Nat.le_refl _) (.cells #[.int .i64 o, .int .i64 d, .int .i64 aa, .int .i64 bb, .int .i64 nn] 92)))
          obtain ⟨S', hS'⟩ : ∃ S', S' = nextS S o d aa bb 0 := ⟨_, rfl⟩
          obtain ⟨t, ht⟩ : ∃ t, t = startOf S o d aa bb (latOf o + 0) := ⟨_, rfl⟩
          rw [← hS', ← ht] at HI
          clear hS' ht hck rd ra rb hs2
          go_wp2_with (refine wpList_load_row rfl 190 _ rfl (w.heap.size + 1) rfl _ (stCells S wv).toArray _ _ HS2.out Try.underlying190 rfl HSZ.out ?_)
          refine (HI _ HWR.out).out.mono ?_
          rintro e w5 ⟨wv', rfl, _, hb5⟩
          have HB5 := Lib.hid (HBA.out.trans (hb5.mono (by simp; omega)))
          have HQ5 := Lib.hid (Blk.new w5 zCells 190)
          have HSZ5 : Hid ((Try.prog.info? 190).map (·.size) = some (stCells S' wv').toArray.size) := by unfold Hid; kernel_rfl
          have hwo : wv'.oneCell' = true := by
            rename_i ho5
            obtain ⟨_, _, _, rfl⟩ := owns_shape ho5
            rfl
          have HWO := Lib.hid hwo
          clear hb5 hwo HS2 HWR HI c0 c1 c2 c3 c4 g0 ed eo d0
          go_upto_region 7 with (refine wpList_store_rowTo rfl 190 _ _ rfl rfl w5.heap.size (stCells S' wv').toArray rfl rfl _ _ HQ5.out HSZ5.out rfl (st_one _ _ HWO.out) ?_)
          have hb6 : Below w1.heap.size w1 ((w5.alloc (.cells #[.int .i64 0, .int .i64 0, .int .i64 0, .int .i64 0, .int .i64 0, .int .i64 0, .int .i64 0, .int .i64 0, .int .i64 0, .int .i64 0, .int .i64 0, .int .i64 0, .int .i64 0, .int .i64 0, .int .i64 0, .int .i64 0, .int .i64 0, .int .i64 0, .int .i64 0, .slice none 0 0] 190)).setRow w5.heap.size (stCells S' wv').toArray) := setRowBelowP (HB5.out.alloc HB5.out.size _) HB5.out.size _
          generalize (w5.alloc (.cells #[.int .i64 0, .int .i64 0, .int .i64 0, .int .i64 0, .int .i64 0, .int .i64 0, .int .i64 0, .int .i64 0, .int .i64 0, .int .i64 0, .int .i64 0, .int .i64 0, .int .i64 0, .int .i64 0, .int .i64 0, .int .i64 0, .int .i64 0, .int .i64 0, .int .i64 0, .slice none 0 0] 190)).setRow w5.heap.size (stCells S' wv').toArray = w6 at hb6 ⊢
          have HB6 := Lib.hid hb6
          have g2 := (HG0.out.below hb6 HG0.out.lt).cell 2
          simp only [List.getElem?_cons_zero, List.getElem?_cons_succ] at g2
          have fk := (HGF1.out.below hb6 hf1).row hlt
          have HFR := Lib.hid (HGF1.out.below hb6 hf1)
          clear hb6 HQ5 HSZ5 HWO HB5
          rcases HPK.out with ⟨hb1, _⟩ | ⟨i, hb1, hik, hi1, hi2⟩
          · subst hb1
            clear HPK
            go_quiet (fail)
            go_wp2_with fail
            go_roundw
            case rel => exact ⟨k + 1, (k : Int), (t : Int), by omega, by go_num, rfl, rfl, PickAt.take HDK.out (by have := HOP.out; omega), HB6.out.trans (below_drewN_self _ _ _)⟩
            case measure => simp [intOf]; omega
          · subst hb1
            have HIK := Lib.hid (And.intro hi1 hi2)
            have fi := HFR.out.row (show i < n by omega)
            have y1 : decide ((i : Int) < 0) = false := decide_eq_false (by omega)
            clear HPK hi1 hi2
            by_cases h2 : (t : Int) < start
            · have y2 : decide ((t : Int) < start) = true := decide_eq_true h2
              clear h2
              go_quiet (fail)
              go_wp2_with fail
              go_roundw
              case rel => exact ⟨k + 1, (k : Int), (t : Int), by omega, by go_num, rfl, rfl, PickAt.take HDK.out (by have := HOP.out; omega), HB6.out.trans (below_drewN_self _ _ _)⟩
              case measure => simp [intOf]; omega
            · have y2 : decide ((t : Int) < start) = false := decide_eq_false h2
              clear h2
              by_cases h3 : (t : Int) = start
              · have y3 : ((t : Int) == start) = true := by rw [beq_iff_eq]; exact h3
                have HST := Lib.hid h3
                clear h3
                by_cases h4 : far i < far k
                · have y4 : decide (far i < far k) = true := decide_eq_true h4
                  clear h4
                  go_quiet (fail)
                  go_wp2_with fail
                  go_roundw
                  case rel => exact ⟨k + 1, (k : Int), (t : Int), by omega, by go_num, rfl, rfl, PickAt.take HDK.out (by have := HOP.out; omega), HB6.out.trans (below_drewN_self _ _ _)⟩
                  case measure => simp [intOf]; omega
                · have y4 : decide (far i < far k) = false := decide_eq_false h4
                  clear h4
                  go_quiet (fail)
                  go_wp2_with fail
                  go_roundw
                  case rel => exact ⟨k + 1, (i : Int), start, by omega, by go_num, rfl, rfl, PickAt.keep hik HIK.out.1 (by have := HIK.out.2; omega), HB6.out.trans (below_drewN_self _ _ _)⟩
                  case measure => simp [intOf]; omega
              · have y3 : ((t : Int) == start) = false := by rw [beq_eq_false_iff_ne]; exact h3
                clear h3
                go_quiet (fail)
                go_wp2_with fail
                go_roundw
                case rel => exact ⟨k + 1, (i : Int), start, by omega, by go_num, rfl, rfl, PickAt.keep hik HIK.out.1 (by have := HIK.out.2; omega), HB6.out.trans (below_drewN_self _ _ _)⟩
                case measure => simp [intOf]; omega
    · have ek : k = n := by omega
      subst ek
      have HBZ := Lib.hid (HB0.out.trans (HB.out.mono HB0.out.size))
      clear HB HG0 HS0 HC1 HGO1 HGF1 HGD1 HW1
      go_wp2_with fail
      go_ret
      exact ⟨best, rfl, HBZ.out, HPK.out⟩
end Go.Proofs.Ytnfgjcdiophphab
