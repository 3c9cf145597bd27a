/- The contract of timing's Reads. -/
import Derived.Test.YtgcbdndfobiphabTimingA
import Derived.Test.YtgcbdndfobiphabOpens
namespace Go.Proofs.Ytgcbdndfobiphab
open Go.RowKit
set_option linter.unusedVariables false

theorem Try.infoT3 : (Try.prog.info? 3).map (fun i => (i.zero, i.size, i.bytes)) = some (some (.int .i64 0), 1, 8) := by kernel_rfl

def nz (l : List Int) : List Int := l.filter fun x => x != 0

def AddPost (Bo bl : Nat) (zs : List Int) (w : World) (e : Ending) (w' : World) : Prop :=
  e = .returned (.tuple #[]) ∧ ∃ v, Blk w' Bo 23 [v] ∧ w'.ownsRow w.heap.size 3 1 v (nz zs).length ((nz zs).map (Value.int .i64)) ∧ ∀ B, B ≤ Bo → Below B w w'

theorem nz_take_succ (l : List Int) (k : Nat) (h : k < l.length) : nz (l.take (k + 1)) = nz (l.take k) ++ (if l[k] = 0 then [] else [l[k]]) := by
  unfold nz
  rw [List.take_succ_eq_append_getElem h, List.filter_append]
  split
  · rename_i h0; simp [h0]
  · rename_i h0; simp [h0]

theorem owns_shape {w : World} {base : Nat} {e : TypeId} {size : Nat} {v : Value} {n : Nat} {l : List Value} (h : w.ownsRow base e size v n l) : ∃ a m cap, v = .slice a m cap := by
  rcases h.2 with ⟨rfl, _⟩ | ⟨g, c, cur, rfl, _⟩
  · exact ⟨_, _, _, rfl⟩
  · exact ⟨_, _, _, rfl⟩

theorem nz_len (l : List Int) (k : Nat) : (nz (l.take k)).length ≤ k := by
  unfold nz
  have h1 := List.length_filter_le (fun x : Int => x != 0) (l.take k)
  have h2 := List.length_take_le k l
  omega

set_option maxRecDepth 100000 in
set_option maxHeartbeats 2000000 in
theorem add_any (w : World) (Bo bl n cp : Nat) (zs : List Int) (hn : zs.length = n) (hn4 : n ≤ 4) (hl : Blk w bl 3 (zs.map (Value.int .i64))) (ho : Blk w Bo 23 [.slice none 0 0]) (hne : bl ≠ Bo) :
    Calls Try.prog 24 #[.slice (some ⟨bl, 0, none⟩) n cp, .pointer (some ⟨Bo, 0, none⟩)] w (AddPost Bo bl zs w) := by
  have hlt := ho.lt
  have hlt2 := hl.lt
  have HN := Lib.hid hn
  have HL := Lib.hid hl
  have HO := Lib.hid ho
  clear hn hl ho
  obtain ⟨i0, hi0, hz0, hz1, hz2⟩ := info_parts Try.infoT3
  go_enter Try.func24, Try.ntmps24
  go_wp2
  go_loopw [7] (fun u wr => ∃ (k : Nat) (v : Value), k ≤ n ∧ u = .int .i64 k ∧ Blk wr bl 3 (zs.map (Value.int .i64)) ∧ Blk wr Bo 23 [v] ∧ wr.ownsRow w.heap.size 3 1 v (nz (zs.take k)).length ((nz (zs.take k)).map (Value.int .i64)) ∧ Below Bo w wr ∧ w.heap.size ≤ wr.heap.size) (fun u _ => n - (intOf u).toNat)
  case atStart => exact ⟨0, _, Nat.zero_le _, rfl, HL.out, HO.out, World.ownsRow_nil _ _ _ _, Below.refl _ _, Nat.le_refl _⟩
  case round =>
    clear HL HO
    obtain ⟨k, v, hk, rfl, hl, ho, hown, hb, hsz⟩ := hrel
    have HL := Lib.hid hl
    have HO := Lib.hid ho
    have HOWN := Lib.hid hown
    have HB := Lib.hid hb
    clear hl ho hown hb
    by_cases hlt3 : k < n
    · have hkz : k < zs.length := by have := HN.out; omega
      have c0 : wr.cell? ⟨bl, k, none⟩ = some (.int .i64 zs[k]) := by rw [HL.out.cell]; simp [hkz]
      have c1 := HO.out.cell 0
      have f1 := HO.out.free 0
      simp only [List.getElem?_cons_zero] at c1
      have HS := Lib.hid (nz_take_succ zs k hkz)
      have hnl := nz_len zs k
      obtain ⟨x, hx⟩ : ∃ x, x = zs[k] := ⟨_, rfl⟩
      rw [← hx] at c0 HS
      clear hx hkz
      by_cases hx0 : x = 0
      · have t1 : (x != 0) = false := by rw [bne_eq_false_iff_eq]; exact hx0
        have HS2 : Hid (nz (zs.take (k + 1)) = nz (zs.take k)) := by have := HS.out; rw [if_pos hx0, List.append_nil] at this; exact this
        clear hx0 HS
        go_wp2
        go_roundw
        case rel => exact ⟨k + 1, v, by omega, by go_num, HL.out, HO.out, by rw [HS2.out]; exact HOWN.out, HB.out, hsz⟩
        case measure => simp [intOf]; omega
      · have t1 : (x != 0) = true := by rw [bne_iff_ne]; exact hx0
        have HS2 : Hid (nz (zs.take (k + 1)) = nz (zs.take k) ++ [x]) := by have := HS.out; rw [if_neg hx0] at this; exact this
        clear hx0 HS
        go_wp2_with (at_builtin; refine wpList_append_own _ rfl _ _ 23 rfl w.heap.size 3 i0 (.int .i64 0) 1 8 Try.underlying23 hi0 hz0 hz1 hz2 rfl (by decide) _ _ _ rfl ((HOWN.out).alloc _) ⟨wr.heap.size, 0, none⟩ 1 1 [.int .i64 x] rfl rfl ?qc1 ?qc2 ?qc3 ?qc4 ?qc5 ?_)
        case qc1 => exact cell_one_new _ _ _
        case qc2 => intro u hu; simp at hu; subst hu; rfl
        case qc3 => unfold maxLen; omega
        case qc4 => omega
        case qc5 => simp; omega
        · intro v' w3 hown' hgrow _
          obtain ⟨va, vl, vc, hv'⟩ := owns_shape hown'
          subst hv'
          have hvb : ∀ q, v.ownBlock = some q → w.heap.size ≤ q := fun q hq => (HOWN.out.lt q hq).1
          have hl3 : Blk w3 bl 3 (zs.map (Value.int .i64)) := (HL.out.alloc (.cells #[.int .i64 x] 3)).of_heap (hgrow.block bl (by have := HL.out.lt; simp; omega) (fun h => by have := hvb bl h.symm; omega))
          have ho3 : Blk w3 Bo 23 [v] := (HO.out.alloc (.cells #[.int .i64 x] 3)).of_heap (hgrow.block Bo (by have := HO.out.lt; simp; omega) (fun h => by have := hvb Bo h.symm; omega))
          have hb3 : Below Bo w w3 := ((HB.out.alloc (by omega) (.cells #[.int .i64 x] 3)).grown hgrow (by simp; omega) (fun q hq => by have := hvb q hq; omega))
          have hs3 : w.heap.size ≤ w3.heap.size := by have := hgrow.size; simp at this; omega
          have c3 := ho3.cell 0
          have f3 := ho3.free 0
          simp only [List.getElem?_cons_zero] at c3
          have HL3 := Lib.hid hl3
          have HO3 := Lib.hid ho3
          have HB3 := Lib.hid hb3
          have HW3 := Lib.hid hown'
          clear hl3 ho3 hb3 hown' hgrow hvb
          go_wp2
          go_roundw
          case rel =>
            refine ⟨k + 1, .slice va vl vc, by omega, by go_num, HL3.out.setOther (by exact hne) _, by have := HO3.out.set 0 (.slice va vl vc); simpa using this, ?_, HB3.out.setCell (p := ⟨Bo, 0, none⟩) (Nat.le_refl _) _, by simpa using hs3⟩
            rw [HS2.out, List.length_append, List.map_append]
            refine ownsRow_setCell_other HW3.out ?_ _
            intro hq
            have := (HW3.out.lt _ hq).1
            simp at this; omega
          case measure => simp [intOf]; omega
    · have ek : k = n := by omega
      subst ek
      have HT : Hid (zs.take k = zs) := List.take_of_length_le (by have := HN.out; omega)
      go_wp2
      go_end0
      exact ⟨rfl, v, HO.out, by have := HOWN.out; rw [HT.out] at this; exact this, fun B hB => HB.out.mono hB⟩
end Go.Proofs.Ytgcbdndfobiphab
