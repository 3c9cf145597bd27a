/- The contract of debug's Check. -/
import Derived.Test.YtnfgjcdiophphabOpens
import Derived.Test.YtnfgjcdiophphabHeadW
import Derived.Test.YtnfgjcdiophphabBlk
namespace Go.Proofs.Ytnfgjcdiophphab
open Go.RowKit
set_option linter.unusedVariables false

def IntPostD (c : Int) (w : World) (e : Ending) (w' : World) : Prop := e = .returned (.int .i64 c) ∧ Below w.heap.size w w'

structure MarkD where
  (pc fn line : Int)
  va : Option Addr
  (vl vc : Nat)
def markCells (m : MarkD) : List Value := [.int .i64 m.pc, .int .i64 m.fn, .int .i64 m.line, .slice m.va m.vl m.vc]
theorem markCells_len (m : MarkD) : (markCells m).length = 4 := rfl
structure MarkAt (w : World) (b o : Nat) (m : MarkD) : Prop where
  c0 : w.cell? ⟨b, o, none⟩ = some (.int .i64 m.pc)
  c1 : w.cell? ⟨b, o + 1, none⟩ = some (.int .i64 m.fn)
  c2 : w.cell? ⟨b, o + 2, none⟩ = some (.int .i64 m.line)
  c3 : w.cell? ⟨b, o + 3, none⟩ = some (.slice m.va m.vl m.vc)
theorem MarkAt.later {w w' : World} {b o B : Nat} {m : MarkD} (h : MarkAt w b o m) (hb : Below B w w') (hB : b < B) : MarkAt w' b o m :=
  ⟨(hb.cell (by exact hB)).trans h.c0, (hb.cell (by exact hB)).trans h.c1, (hb.cell (by exact hB)).trans h.c2, (hb.cell (by exact hB)).trans h.c3⟩
theorem came_marks {w : World} {a : Option Addr} {len cap : Nat} {ms : List MarkD} (h : Came w a len cap 4 (ms.map markCells)) (h0 : 0 < len) :
    ∃ b off, a = some ⟨b, off, none⟩ ∧ b < w.heap.size ∧ ∀ i (hi : i < ms.length), MarkAt w b (off + i * 4) ms[i] := by
  obtain ⟨b, off, ha, hb, hc⟩ := h.cells h0 (by omega)
  refine ⟨b, off, ha, hb, fun i hi => ?_⟩
  have hcl := hc i (markCells ms[i]) (by rw [List.getElem?_map, List.getElem?_eq_getElem hi]; rfl)
  exact ⟨hcl 0 (by omega), hcl 1 (by omega), hcl 2 (by omega), hcl 3 (by omega)⟩

/-- what Check says of marks in code of nc words with ns functions -/
def marksE (nc ns : Nat) : Int → List MarkD → Int
  | _, [] => 0
  | last, m :: r => if m.pc < 0 ∨ (nc : Int) ≤ m.pc ∨ m.fn < 0 ∨ (ns : Int) ≤ m.fn ∨ m.line < 0 then 4 else if m.pc < last then 3 else marksE nc ns m.pc r
def checkM (nc ns : Nat) (ms : List MarkD) : Int := if 16384 < ms.length then 2 else marksE nc ns (-1) ms
theorem marksE_at {nc ns k : Nat} {last : Int} {ms : List MarkD} (hk : k < ms.length) : marksE nc ns last (ms.drop k) =
    if ms[k].pc < 0 ∨ (nc : Int) ≤ ms[k].pc ∨ ms[k].fn < 0 ∨ (ns : Int) ≤ ms[k].fn ∨ ms[k].line < 0 then 4 else if ms[k].pc < last then 3 else marksE nc ns ms[k].pc (ms.drop (k + 1)) := by
  rw [List.drop_eq_getElem_cons hk]; rfl
theorem mark_cases (nc ns : Nat) (pc fn line : Int) : pc < 0 ∨ (0 ≤ pc ∧ (nc : Int) ≤ pc) ∨ (0 ≤ pc ∧ pc < (nc : Int) ∧ fn < 0) ∨ (0 ≤ pc ∧ pc < (nc : Int) ∧ 0 ≤ fn ∧ (ns : Int) ≤ fn) ∨ (0 ≤ pc ∧ pc < (nc : Int) ∧ 0 ≤ fn ∧ fn < (ns : Int) ∧ line < 0) ∨ (0 ≤ pc ∧ pc < (nc : Int) ∧ 0 ≤ fn ∧ fn < (ns : Int) ∧ 0 ≤ line) := by omega

set_option maxRecDepth 100000 in
set_option maxHeartbeats 4000000 in
theorem debugCheck_any (ca : Option Addr) (cl cc : Nat) (entry : Int) (sa : Option Addr) (sl sc : Nat) (pa : Option Addr) (pl pc : Nat) (ma : Option Addr) (ml mc : Nat) (ms : List MarkD) (w : World) (h : Came w ma ml mc 4 (ms.map markCells)) :
    Calls Try.prog 20 #[.agg #[.slice ca cl cc, .int .i64 entry, .slice sa sl sc, .slice pa pl pc, .slice ma ml mc]] w (IntPostD (checkM cl sl ms) w) := by
  have hl : ms.length = ml := by simpa using h.count
  have hle := h.le
  have hmx := h.max
  have HL := Lib.hid hl
  have HCM := Lib.hid h
  have HCK : Hid (checkM cl sl ms = if 16384 < ms.length then 2 else marksE cl sl (-1) ms) := rfl
  rw [hl] at HCK
  clear hl h
  by_cases hbig : 16384 < ml
  · have HE : Hid (checkM cl sl ms = 2) := by unfold Hid; rw [HCK.out, if_pos hbig]
    go_enter Try.func20, Try.ntmps20
    go_wp2_with fail
    go_ret
    exact ⟨ret_int HE.out.symm, (Below.refl _ _).alloc (Nat.le_refl _) _⟩
  · have HE : Hid (checkM cl sl ms = marksE cl sl (-1) ms) := by unfold Hid; rw [HCK.out, if_neg hbig]
    clear HCK
    go_enter Try.func20, Try.ntmps20
    go_wp2_with fail
    have hb0 : Below w.heap.size w (w.alloc (.cells #[.slice ca cl cc, .int .i64 entry, .slice sa sl sc, .slice pa pl pc, .slice ma ml mc] 51)) := (Below.refl _ _).alloc (Nat.le_refl _) _
    have hq0 := Blk.new w [.slice ca cl cc, .int .i64 entry, .slice sa sl sc, .slice pa pl pc, .slice ma ml mc] 51
    have HB0 := Lib.hid hb0
    have HQ0 := Lib.hid hq0
    clear hb0 hq0
    obtain ⟨w1, hw1⟩ : ∃ w1, w1 = w.alloc (.cells #[.slice ca cl cc, .int .i64 entry, .slice sa sl sc, .slice pa pl pc, .slice ma ml mc] 51) := ⟨_, rfl⟩
    have HQ1 : Hid (Blk w1 w.heap.size 51 [.slice ca cl cc, .int .i64 entry, .slice sa sl sc, .slice pa pl pc, .slice ma ml mc]) := by unfold Hid; rw [hw1]; exact HQ0.out
    rw [← hw1] at HB0 ⊢
    clear hw1 HQ0
    go_loopw [3, 13] (fun l u wr => ∃ (k : Nat) (last : Int), k ≤ ml ∧ u = .int .i64 k ∧ l = .int .i64 last ∧ checkM cl sl ms = marksE cl sl last (ms.drop k) ∧ Below w1.heap.size w1 wr) (fun _ u _ => ml - (intOf u).toNat)
    case atStart => exact ⟨0, -1, Nat.zero_le _, rfl, rfl, HE.out, Below.refl _ _⟩
    case round =>
      obtain ⟨k, last, hk, rfl, rfl, hm, hb⟩ := hrel
      have HM := Lib.hid hm
      clear hm
      by_cases hlt : k < ml
      · obtain ⟨b0, off, ea, hbl, hcell⟩ := came_marks HCM.out (by omega)
        subst ea
        have hkl : k < ms.length := by have := HL.out; omega
        have hcs := (hcell k hkl).later (HB0.out.trans (hb.mono HB0.out.size)) hbl
        have HAT := Lib.hid (HM.out.trans (marksE_at hkl))
        have hq := HQ1.out.below hb HQ1.out.lt
        have q0 := hq.cell 0
        have q2 := hq.cell 2
        have q4 := hq.cell 4
        simp only [List.getElem?_cons_zero, List.getElem?_cons_succ] at q0 q2 q4
        have hwl : w.heap.size < wr.heap.size := hq.lt
        obtain ⟨m, hmk⟩ : ∃ m, m = ms[k] := ⟨_, rfl⟩
        rw [← hmk] at hcs HAT
        have HB := Lib.hid hb
        clear hmk hcell hb hq
        obtain ⟨pcv, fn, line, va, vl, vc⟩ := m
        obtain ⟨c0, c1, c2, c3⟩ := hcs
        simp only at c0 c1 c2 c3 HAT
        rcases mark_cases cl sl pcv fn line with h | h | h | h | h | h
        case' inr.inr.inr.inr.inr =>
          by_cases hl : pcv < last
          · have HR : Hid (checkM cl sl ms = 3) := by unfold Hid; rw [HAT.out, if_neg (by omega), if_pos hl]
            clear HAT HM
            go_wp2_with fail
            go_ret
            exact ⟨ret_int HR.out.symm, (HB0.out.trans (HB.out.mono HB0.out.size)).alloc (by omega) _⟩
          · have HR : Hid (checkM cl sl ms = marksE cl sl pcv (ms.drop (k + 1))) := by unfold Hid; rw [HAT.out, if_neg (by omega), if_neg hl]
            clear HAT HM
            go_wp2_with fail
            go_roundw
            case rel => exact ⟨k + 1, pcv, by omega, by go_num, rfl, HR.out, HB.out.alloc HB.out.size _⟩
            case measure => simp [intOf]; omega
        all_goals
          have HR : Hid (checkM cl sl ms = 4) := by unfold Hid; rw [HAT.out, if_pos (by omega)]
          clear HAT HM
          go_wp2_with fail
          go_ret
          exact ⟨ret_int HR.out.symm, (HB0.out.trans (HB.out.mono HB0.out.size)).alloc (by omega) _⟩
      · have HR : Hid (checkM cl sl ms = 0) := by
          have h9 : ms.drop k = [] := List.drop_eq_nil_of_le (by have := HL.out; omega)
          unfold Hid; rw [HM.out, h9]; rfl
        have HB := Lib.hid hb
        clear hb HM
        go_wp2_with fail
        go_ret
        exact ⟨ret_int HR.out.symm, HB0.out.trans (HB.out.mono HB0.out.size)⟩
end Go.Proofs.Ytnfgjcdiophphab
