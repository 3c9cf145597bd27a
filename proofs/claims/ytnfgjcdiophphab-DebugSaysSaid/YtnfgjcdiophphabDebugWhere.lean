/- The contract of debug's Where. -/
import Derived.Test.YtnfgjcdiophphabDebugChk
import Derived.Deep.OwnRows
import Derived.StillTailTactics
import Derived.BigQuiet
import Derived.Deep.QuietTactic
namespace Go.Proofs.Ytnfgjcdiophphab
open Go.RowKit
set_option linter.unusedVariables false

theorem owns_baseD {w : World} {base base' : Nat} {e : TypeId} {size : Nat} {v : Value} {n : Nat} {l : List Value} (h : w.ownsRow base e size v n l) (hb : base' ≤ base) : w.ownsRow base' e size v n l := by
  obtain ⟨h1, h2⟩ := h
  refine ⟨h1, ?_⟩
  rcases h2 with h2 | ⟨g, cap, cur, hv, hg, r⟩
  · exact .inl h2
  · exact .inr ⟨g, cap, cur, hv, Nat.le_trans hb hg, r⟩
theorem Try.infoD3 : (Try.prog.info? 3).map (fun i => (i.zero, i.size, i.bytes)) = some (some (.int .i64 0), 1, 8) := by kernel_rfl

def whereT (fn line : Int) : Int → List MarkD → List Int
  | _, [] => []
  | last, m :: r => if m.fn = fn then (if m.line ≠ last ∧ m.line = line then m.pc :: whereT fn line m.line r else whereT fn line m.line r) else whereT fn line last r
theorem whereT_at {fn line last : Int} {k : Nat} {ms : List MarkD} (hk : k < ms.length) : whereT fn line last (ms.drop k) =
    if ms[k].fn = fn then (if ms[k].line ≠ last ∧ ms[k].line = line then ms[k].pc :: whereT fn line ms[k].line (ms.drop (k + 1)) else whereT fn line ms[k].line (ms.drop (k + 1))) else whereT fn line last (ms.drop (k + 1)) := by
  rw [List.drop_eq_getElem_cons hk]; rfl

def WherePost (l : List Int) (w : World) (e : Ending) (w' : World) : Prop :=
  ∃ v, e = .returned (.tuple #[v, .int .i64 0]) ∧ w'.ownsRow w.heap.size 3 1 v l.length (l.map (Value.int .i64)) ∧ Below w.heap.size w w'

set_option maxHeartbeats 1000000 in
theorem where_err (ca : Option Addr) (cl cc : Nat) (entry : Int) (sa : Option Addr) (sl sc : Nat) (pa : Option Addr) (pl pc : Nat) (ma : Option Addr) (ml mc : Nat) (ms : List MarkD) (fn line : Int) (w : World) (h : Came w ma ml mc 4 (ms.map markCells)) (he : checkM cl sl ms ≠ 0) :
    Calls Try.prog 21 #[.agg #[.slice ca cl cc, .int .i64 entry, .slice sa sl sc, .slice pa pl pc, .slice ma ml mc], .int .i64 fn, .int .i64 line] w fun e w' => e = .returned (.tuple #[.slice none 0 0, .int .i64 (checkM cl sl ms)]) ∧ Below w.heap.size w w' := by
  have HC := fun wx (hx : Below w.heap.size w wx) => Lib.hid (debugCheck_any ca cl cc entry sa sl sc pa pl pc ma ml mc ms wx (h.below hx))
  obtain ⟨c, hc⟩ : ∃ c, c = checkM cl sl ms := ⟨_, rfl⟩
  rw [← hc] at HC he ⊢
  have hcn : (c != 0) = true := by rw [bne_iff_ne]; exact he
  clear hc he h
  go_enter Try.func21, Try.ntmps21
  go_wp2_with fail
  refine (HC _ ((Below.refl _ _).alloc (Nat.le_refl _) _)).out.mono ?_
  rintro e w1 ⟨rfl, hb⟩
  have HB := Lib.hid (((Below.refl w.heap.size w).alloc (Nat.le_refl _) (.cells #[.slice ca cl cc, .int .i64 entry, .slice sa sl sc, .slice pa pl pc, .slice ma ml mc] 51)).trans (hb.mono (by simp)))
  clear hb
  go_wp2_with fail
  go_ret2
  exact ⟨rfl, HB.out⟩

set_option maxRecDepth 100000 in
set_option maxHeartbeats 4000000 in
theorem where_ok (ca : Option Addr) (cl cc : Nat) (entry : Int) (sa : Option Addr) (sl sc : Nat) (pa : Option Addr) (pl pc : Nat) (ma : Option Addr) (ml mc : Nat) (ms : List MarkD) (fn line : Int) (w : World) (h : Came w ma ml mc 4 (ms.map markCells)) (he : checkM cl sl ms = 0) (hf : 0 ≤ fn ∧ fn < (sl : Int)) :
    Calls Try.prog 21 #[.agg #[.slice ca cl cc, .int .i64 entry, .slice sa sl sc, .slice pa pl pc, .slice ma ml mc], .int .i64 fn, .int .i64 line] w (WherePost (whereT fn line 0 ms) w) := by
  have HC := fun wx (hx : Below w.heap.size w wx) => Lib.hid (debugCheck_any ca cl cc entry sa sl sc pa pl pc ma ml mc ms wx (h.below hx))
  have hl : ms.length = ml := by simpa using h.count
  have hle := h.le
  have hmx := h.max
  have hbig : ml ≤ 16384 := by
    unfold checkM at he
    by_cases hb : 16384 < ms.length
    · rw [if_pos hb] at he; omega
    · omega
  rw [he] at HC
  have HL := Lib.hid hl
  have HCM := Lib.hid h
  obtain ⟨i0, hi0, hz0, hz1, hz2⟩ := info_parts Try.infoD3
  clear he h hl
  go_enter Try.func21, Try.ntmps21
  go_wp2_with fail
  refine (HC _ ((Below.refl _ _).alloc (Nat.le_refl _) _)).out.mono ?_
  rintro e w1 ⟨rfl, hb⟩
  have HB1 := Lib.hid (((Below.refl w.heap.size w).alloc (Nat.le_refl _) (.cells #[.slice ca cl cc, .int .i64 entry, .slice sa sl sc, .slice pa pl pc, .slice ma ml mc] 51)).trans (hb.mono (by simp)))
  have hq := (Blk.new w [.slice ca cl cc, .int .i64 entry, .slice sa sl sc, .slice pa pl pc, .slice ma ml mc] 51).below hb (by simp)
  have q2 := hq.cell 2
  have q4 := hq.cell 4
  simp only [List.getElem?_cons_zero, List.getElem?_cons_succ] at q2 q4
  clear hb hq HC
  go_wp2_with fail
  go_loopw [9, 10, 30] (fun v l u wr => ∃ (k : Nat) (last : Int) (out : List Int), k ≤ ml ∧ u = .int .i64 k ∧ l = .int .i64 last ∧ out.length ≤ k ∧ whereT fn line 0 ms = out ++ whereT fn line last (ms.drop k) ∧ wr.ownsRow w1.heap.size 3 1 v out.length (out.map (Value.int .i64)) ∧ Below w1.heap.size w1 wr) (fun _ _ u _ => ml - (intOf u).toNat)
  case atStart => exact ⟨0, 0, [], Nat.zero_le _, rfl, rfl, Nat.le_refl _, rfl, World.ownsRow_nil _ _ _ _, Below.refl _ _⟩
  case round =>
    obtain ⟨k, last, out, hk, rfl, rfl, hol, hm, hown, hb⟩ := hrel
    have HM := Lib.hid hm
    clear hm
    by_cases hlt : k < ml
    · obtain ⟨b0, off, ea, hbl, hcell⟩ := came_marks HCM.out (by omega)
      subst ea
      have hkl : k < ms.length := by have := HL.out; omega
      have hcs := (hcell k hkl).later (HB1.out.trans (hb.mono HB1.out.size)) hbl
      have HAT := Lib.hid (whereT_at (fn := fn) (line := line) (last := last) hkl)
      obtain ⟨m, hmk⟩ : ∃ m, m = ms[k] := ⟨_, rfl⟩
      rw [← hmk] at hcs HAT
      have HB := Lib.hid hb
      have HOWN := Lib.hid hown
      have hwr : w1.heap.size ≤ wr.heap.size := hb.size
      clear hmk hcell hb hown
      obtain ⟨pcv, mfn, mline, va, vl, vc⟩ := m
      obtain ⟨c0, c1, c2, c3⟩ := hcs
      simp only at c0 c1 c2 c3 HAT
      by_cases hfn : mfn = fn
      · have z1 : (mfn != fn) = false := by simp [hfn]
        by_cases hp : mline ≠ last ∧ mline = line
        · have z2 : (mline != last) = true := by simp [hp.1]
          have z3 : (mline == line) = true := by simp [hp.2]
          have HR : Hid (whereT fn line 0 ms = (out ++ [pcv]) ++ whereT fn line mline (ms.drop (k + 1))) := by unfold Hid; rw [HM.out, HAT.out, if_pos hfn, if_pos hp, List.append_assoc]; rfl
          clear HAT HM hp hfn
          go_wp2_with (at_builtin; refine wpList_append_own _ rfl _ _ 24 rfl w1.heap.size 3 i0 (.int .i64 0) 1 8 Try.underlying24 hi0 hz0 hz1 hz2 rfl (by decide) _ _ _ rfl ((HOWN.out.alloc _).alloc _) ⟨wr.heap.size + 1, 0, none⟩ 1 1 [.int .i64 pcv] rfl rfl ?a2 ?a3 ?a4 ?a5 ?a6 ?_)
          case a2 =>
            have := cell_one_new (wr.alloc (.cells #[.int .i64 pcv, .int .i64 mfn, .int .i64 mline, .slice va vl vc] 58)) (.int .i64 pcv) 3
            rw [World.size_alloc] at this
            exact this
          case a3 => intro u hu; simp at hu; subst hu; rfl
          case a4 => unfold maxLen; omega
          case a5 => omega
          case a6 => simp; omega
          · intro v' w7 hown' hgrow _
            have hb7 := ((HB.out.alloc hwr (.cells #[.int .i64 pcv, .int .i64 mfn, .int .i64 mline, .slice va vl vc] 58)).alloc (by simp; omega) (.cells #[.int .i64 pcv] 3)).grown hgrow (by simp; omega) (fun q hq => (HOWN.out.lt q hq).1)
            have hown7 : w7.ownsRow w1.heap.size 3 1 v' (out ++ [pcv]).length ((out ++ [pcv]).map (Value.int .i64)) := by rw [List.length_append, List.map_append]; exact hown'
            have hl7 : wr.heap.size < w7.heap.size := by have := hgrow.size; simp at this; omega
            have d2 := (hgrow.block wr.heap.size (by simp; omega) (fun e => by have := (HOWN.out.lt _ e.symm).2; omega))
            have d3 : w7.cell? ⟨wr.heap.size, 2, none⟩ = some (.int .i64 mline) := by
              rw [World.cell?_of_block (a := ⟨wr.heap.size, 2, none⟩) d2, World.cell?_alloc_lt _ _ _ (by simp), World.cell?_alloc_new]; rfl
            have HO7 := Lib.hid hown7
            have HB7 := Lib.hid hb7
            clear hown' hgrow hb7 hown7 d2
            go_wp2_with fail
            go_roundw
            case rel => exact ⟨k + 1, mline, out ++ [pcv], by omega, by go_num, rfl, by simp; omega, HR.out, HO7.out, HB7.out⟩
            case measure => simp [intOf]; omega
        · have HR : Hid (whereT fn line 0 ms = out ++ whereT fn line mline (ms.drop (k + 1))) := by unfold Hid; rw [HM.out, HAT.out, if_pos hfn, if_neg hp]
          have z2 : (mline != last) = false ∨ ((mline != last) = true ∧ (mline == line) = false) := by
            by_cases e : mline = last
            · left; simp [e]
            · right; exact ⟨by simp [e], by rw [beq_eq_false_iff_ne]; exact fun h => hp ⟨e, h⟩⟩
          clear HAT HM hp hfn
          rcases z2 with z2 | ⟨z2, z3⟩
          all_goals
            go_wp2_with fail
            go_roundw
            case rel => exact ⟨k + 1, mline, out, by omega, by go_num, rfl, by omega, HR.out, HOWN.out.alloc _, HB.out.alloc hwr _⟩
            case measure => simp [intOf]; omega
      · have z1 : (mfn != fn) = true := by simp [hfn]
        have HR : Hid (whereT fn line 0 ms = out ++ whereT fn line last (ms.drop (k + 1))) := by unfold Hid; rw [HM.out, HAT.out, if_neg hfn]
        clear HAT HM hfn
        go_wp2_with fail
        go_roundw
        case rel => exact ⟨k + 1, last, out, by omega, by go_num, rfl, by omega, HR.out, HOWN.out.alloc _, HB.out.alloc hwr _⟩
        case measure => simp [intOf]; omega
    · have HR : Hid (whereT fn line 0 ms = out) := by
        have h9 : ms.drop k = [] := List.drop_eq_nil_of_le (by have := HL.out; omega)
        unfold Hid; rw [HM.out, h9]; simp [whereT]
      have HB := Lib.hid hb
      have HOWN := Lib.hid hown
      clear hb hown HM
      go_wp2_with fail
      go_ret2
      rw [HR.out]
      exact ⟨_, rfl, owns_baseD HOWN.out HB1.out.size, HB1.out.trans (HB.out.mono HB1.out.size)⟩
end Go.Proofs.Ytnfgjcdiophphab
