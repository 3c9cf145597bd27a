/- The contract of the reference's OpReads. -/
import Derived.Test.YtgcbdndfobiphabRefB
import Derived.Test.YtgcbdndfobiphabTimingC
import Derived.Test.YtgcbdndfobiphabInsnB
import Derived.Test.YtgcbdndfobiphabOpAt
import Derived.Laws.IdiomStrings
namespace Go.Proofs.Ytgcbdndfobiphab
open Go.RowKit
set_option linter.unusedVariables false

/-- the letters of the registers that each operation reads -/
def rdL : List (List UInt8) := [[49], [65, 66], [65, 66], [65, 66], [65, 66], [65, 66], [65, 66], [65, 66], [65], [65], [65], [], [65], [65, 66], [66], [65, 66], [65, 66], [65, 66], [65, 66], [], [], [65], [70], [65], []]
def rdArr : List Value := [.string ⟨#[49]⟩, .string ⟨#[65, 66]⟩, .string ⟨#[65, 66]⟩, .string ⟨#[65, 66]⟩, .string ⟨#[65, 66]⟩, .string ⟨#[65, 66]⟩, .string ⟨#[65, 66]⟩, .string ⟨#[65, 66]⟩, .string ⟨#[65]⟩, .string ⟨#[65]⟩, .string ⟨#[65]⟩, .string ⟨#[]⟩, .string ⟨#[65]⟩, .string ⟨#[65, 66]⟩, .string ⟨#[66]⟩, .string ⟨#[65, 66]⟩, .string ⟨#[65, 66]⟩, .string ⟨#[65, 66]⟩, .string ⟨#[65, 66]⟩, .string ⟨#[]⟩, .string ⟨#[]⟩, .string ⟨#[65]⟩, .string ⟨#[70]⟩, .string ⟨#[65]⟩, .string ⟨#[]⟩]
def rdS (op : Nat) : ByteArray := ⟨(rdL.getD op []).toArray⟩
theorem rd_cell (op : Nat) (h : op < 25) : rdArr[op]'(by simpa [rdArr] using h) = .string (rdS op) := by
  rcases (show op = 0 ∨ op = 1 ∨ op = 2 ∨ op = 3 ∨ op = 4 ∨ op = 5 ∨ op = 6 ∨ op = 7 ∨ op = 8 ∨ op = 9 ∨ op = 10 ∨ op = 11 ∨ op = 12 ∨ op = 13 ∨ op = 14 ∨ op = 15 ∨ op = 16 ∨ op = 17 ∨ op = 18 ∨ op = 19 ∨ op = 20 ∨ op = 21 ∨ op = 22 ∨ op = 23 ∨ op = 24 by omega) with rfl | rfl | rfl | rfl | rfl | rfl | rfl | rfl | rfl | rfl | rfl | rfl | rfl | rfl | rfl | rfl | rfl | rfl | rfl | rfl | rfl | rfl | rfl | rfl | rfl <;> rfl
theorem rdS_size (op : Nat) (h : op < 25) : (rdS op).size ≤ 2 := by
  have : ∀ k : Fin 25, (rdL.getD k.val []).length ≤ 2 := by decide
  exact this ⟨op, h⟩

/-- the register that a letter names -/
def letR (a b : Int) (c : UInt8) : Int := if c.toNat = 65 then a else if c.toNat = 66 then b else if c.toNat = 70 then 15 else 1
theorem rd_raw (op : Nat) (h : op < 25) (a b : Int) : (rdS op).data.toList.map (letR a b) = rawReads op a b := by
  rcases (show op = 0 ∨ op = 1 ∨ op = 2 ∨ op = 3 ∨ op = 4 ∨ op = 5 ∨ op = 6 ∨ op = 7 ∨ op = 8 ∨ op = 9 ∨ op = 10 ∨ op = 11 ∨ op = 12 ∨ op = 13 ∨ op = 14 ∨ op = 15 ∨ op = 16 ∨ op = 17 ∨ op = 18 ∨ op = 19 ∨ op = 20 ∨ op = 21 ∨ op = 22 ∨ op = 23 ∨ op = 24 by omega) with rfl | rfl | rfl | rfl | rfl | rfl | rfl | rfl | rfl | rfl | rfl | rfl | rfl | rfl | rfl | rfl | rfl | rfl | rfl | rfl | rfl | rfl | rfl | rfl | rfl <;> rfl
/-- what the loop of OpReads needs of memory: the instruction and the letters -/
structure RdAt (w wr : World) (s : ByteArray) (op d a b n : Int) : Prop where
  at_ : OpAt wr w.heap.size op d a b n
  bytes : ∀ i (h : i < s.size), wr.cell? ⟨w.heap.size + 1 + 1, i, none⟩ = some (.int .u8 (s[i].toNat : Int))
  below : Below w.heap.size w wr
  size : w.heap.size + 1 + 1 + 1 ≤ wr.heap.size
theorem RdAt.step {w wr wx : World} {s : ByteArray} {op d a b n : Int} (h : RdAt w wr s op d a b n) (hb : Below (w.heap.size + 1 + 1 + 1) wr wx) : RdAt w wx s op d a b n := by
  obtain ⟨⟨q0, q1, q2, q3, q4⟩, h2, h3, h4⟩ := h
  refine ⟨⟨?_, ?_, ?_, ?_, ?_⟩, fun i hi => ?_, h3.trans (hb.mono (by omega)), Nat.le_trans h4 hb.size⟩
  · rw [hb.cell (by simp; omega)]; exact q0
  · rw [hb.cell (by simp; omega)]; exact q1
  · rw [hb.cell (by simp; omega)]; exact q2
  · rw [hb.cell (by simp; omega)]; exact q3
  · rw [hb.cell (by simp; omega)]; exact q4
  · rw [hb.cell (by simp)]; exact h2 i hi
theorem RdAt.start (w : World) (s : ByteArray) (op d a b n : Int) (t t2 t3 : TypeId) (C : Array Value) (c : Nat) (fr : Nat × Nat) :
    RdAt w (((w.alloc (.cells #[.int .i64 op, .int .i64 d, .int .i64 a, .int .i64 b, .int .i64 n] t)).alloc (.cells C t2)).alloc (.cells (bytesRow s c) t3 fr)).drew s op d a b n := by
  have h1 := (((Blk.new w (opCells op d a b n) t).alloc (.cells C t2)).alloc (.cells (bytesRow s c) t3 fr)).drew
  refine ⟨opAt_blk h1, fun i hi => ?_, ((((Below.refl _ _).alloc (Nat.le_refl _) _).alloc (by simp) _).alloc (by simp; omega) _).drew, by show _ ≤ (World.alloc _ _).heap.size; simp⟩
  have h2 := World.cell?_alloc_mark ((w.alloc (.cells #[.int .i64 op, .int .i64 d, .int .i64 a, .int .i64 b, .int .i64 n] t)).alloc (.cells C t2)) (bytesRow s c) t3 fr i
  rw [World.size_alloc, World.size_alloc] at h2
  exact h2.trans (bytesRow_at s c i hi)

/-- what an append in the loop leaves -/
theorem rd_step {w wr w3 : World} {s : ByteArray} {op d a b n : Int} {o : Obj} {v v' : Value} {m q : Nat} {xs ys : List Value} {e : TypeId} (h : RdAt w wr s op d a b n) (ho : wr.ownsRow (w.heap.size + 1 + 1 + 1) e 1 v m xs) (hq : True)
    (hown' : w3.ownsRow (w.heap.size + 1 + 1 + 1) e 1 v' q ys) (hgrow : (wr.alloc o).grownBy w3 v.ownBlock) : RdAt w w3 s op d a b n ∧ w3.ownsRow (w.heap.size + 1 + 1 + 1) e 1 v' q ys :=
  ⟨h.step (((Below.refl _ wr).alloc h.size o).grown hgrow (by have := h.size; simp; omega) (fun q hq => (ho.lt q hq).1)), hown'⟩

theorem let_cases (a b : Int) (c : UInt8) : (((c.toNat : Int) == 65) = true ∧ letR a b c = a) ∨ (((c.toNat : Int) == 65) = false ∧ ((c.toNat : Int) == 66) = true ∧ letR a b c = b) ∨
    (((c.toNat : Int) == 65) = false ∧ ((c.toNat : Int) == 66) = false ∧ ((c.toNat : Int) == 70) = true ∧ letR a b c = 15) ∨ (((c.toNat : Int) == 65) = false ∧ ((c.toNat : Int) == 66) = false ∧ ((c.toNat : Int) == 70) = false ∧ letR a b c = 1) := by
  unfold letR
  by_cases h1 : c.toNat = 65
  · left; exact ⟨by rw [h1]; rfl, by rw [if_pos h1]⟩
  have e1 : ((c.toNat : Int) == 65) = false := beq_eq_false_iff_ne.2 (by omega)
  by_cases h2 : c.toNat = 66
  · right; left; exact ⟨e1, by rw [h2]; rfl, by rw [if_neg h1, if_pos h2]⟩
  have e2 : ((c.toNat : Int) == 66) = false := beq_eq_false_iff_ne.2 (by omega)
  by_cases h3 : c.toNat = 70
  · right; right; left; exact ⟨e1, e2, by rw [h3]; rfl, by rw [if_neg h1, if_neg h2, if_pos h3]⟩
  · right; right; right; exact ⟨e1, e2, beq_eq_false_iff_ne.2 (by omega), by rw [if_neg h1, if_neg h2, if_neg h3]⟩

set_option maxRecDepth 100000 in
set_option maxHeartbeats 4000000 in
theorem opr_any (op d a b n : Int) (w : World) : Calls Try.prog 11 #[.agg #[.int .i64 op, .int .i64 d, .int .i64 a, .int .i64 b, .int .i64 n]] w (ListPost (readsOf op a b) w) := by
  by_cases hr : 0 ≤ op ∧ op ≤ 24
  · obtain ⟨k, rfl⟩ := Int.eq_ofNat_of_zero_le hr.1
    have hk : k < 25 := by omega
    have hcell : ([.string ⟨#[49]⟩, .string ⟨#[65, 66]⟩, .string ⟨#[65, 66]⟩, .string ⟨#[65, 66]⟩, .string ⟨#[65, 66]⟩, .string ⟨#[65, 66]⟩, .string ⟨#[65, 66]⟩, .string ⟨#[65, 66]⟩, .string ⟨#[65]⟩, .string ⟨#[65]⟩, .string ⟨#[65]⟩, .string ⟨#[]⟩, .string ⟨#[65]⟩, .string ⟨#[65, 66]⟩, .string ⟨#[66]⟩, .string ⟨#[65, 66]⟩, .string ⟨#[65, 66]⟩, .string ⟨#[65, 66]⟩, .string ⟨#[65, 66]⟩, .string ⟨#[]⟩, .string ⟨#[]⟩, .string ⟨#[65]⟩, .string ⟨#[70]⟩, .string ⟨#[65]⟩, .string ⟨#[]⟩] : List Value)[k]'(by simpa using hk) = .string (rdS k) := rd_cell k hk
    have b0 : (0 : Int) ≤ (k : Int) := hr.1
    have b1 : (k : Int) < 25 := by omega
    have hss := rdS_size k hk
    have HRAW : Hid (readsOf k a b = nz ((rdS k).data.toList.map (letR a b))) := by unfold Hid readsOf; rw [rd_raw k hk]
    obtain ⟨s, hs⟩ : ∃ s, s = rdS k := ⟨_, rfl⟩
    rw [← hs] at hcell hss HRAW
    clear hs hr
    obtain ⟨i0, hi0, hz0, hz1, hz2⟩ := info_parts Try.infoT3
    have hcv := fun w => run_bytes_of_string (P := Try.prog) w 9 51 5 s Try.underlying9 Try.underlying51 Try.underlying5
    have HST := fun C c fr => Lib.hid (RdAt.start w s k d a b n 27 9 5 C c fr)
    go_enter Try.func11, Try.ntmps11
    go_wp2_with fail
    go_loopw [4, 26] (fun v u wr => ∃ j : Nat, j ≤ s.size ∧ u = .int .i64 j ∧ RdAt w wr s k d a b n ∧ wr.ownsRow (w.heap.size + 1 + 1 + 1) 3 1 v (nz ((s.data.toList.map (letR a b)).take j)).length ((nz ((s.data.toList.map (letR a b)).take j)).map (Value.int .i64))) (fun _ u _ => s.size - (intOf u).toNat)
    case atStart => exact ⟨0, Nat.zero_le _, rfl, (HST _ _ _).out, World.ownsRow_nil _ _ _ _⟩
    case round =>
      clear HST hcv hcell
      obtain ⟨j, hj, rfl, hat, hown⟩ := hrel
      obtain ⟨q0, q1, q2, q3, q4⟩ := hat.at_
      have hsz := hat.size
      by_cases hlt : j < s.size
      · have hjl : j < (s.data.toList.map (letR a b)).length := by simpa using hlt
        have cb := hat.bytes j hlt
        have hel : (s.data.toList.map (letR a b))[j] = letR a b s[j] := by simp; rfl
        have hx0 : nz ((s.data.toList.map (letR a b)).take (j + 1)) = nz ((s.data.toList.map (letR a b)).take j) ++ (if letR a b s[j] = 0 then [] else [letR a b s[j]]) := by
          rw [nz_take_succ _ j hjl, hel]
        have hnl := nz_len (s.data.toList.map (letR a b)) j
        have HAT := Lib.hid hat
        have HOWN := Lib.hid hown
        have hcs := let_cases a b s[j]
        obtain ⟨zs, hzs⟩ : ∃ zs, zs = s.data.toList.map (letR a b) := ⟨_, rfl⟩
        rw [← hzs] at hx0 hnl HOWN
        obtain ⟨c, hc⟩ : ∃ c : Int, c = (s[j].toNat : Int) := ⟨_, rfl⟩
        obtain ⟨lr, hlr⟩ : ∃ lr : Int, lr = letR a b s[j] := ⟨_, rfl⟩
        rw [← hlr] at hx0
        have HX := Lib.hid hx0
        have HZS := Lib.hid hzs
        rw [← hc, ← hlr] at hcs
        rw [← hc] at cb
        clear hx0 hel hat hown hzs hc hlr hjl
        rcases hcs with ⟨t1, ht⟩ | ⟨t1, t2, ht⟩ | ⟨t1, t2, t3, ht⟩ | ⟨t1, t2, t3, ht⟩
        · rw [ht] at HX
          clear ht
          by_cases hx0 : a = 0
          · have t9 : (a != 0) = false := by rw [bne_eq_false_iff_eq]; exact hx0
            have HX2 : Hid (nz (zs.take (j + 1)) = nz (zs.take j)) := by have := HX.out; rw [if_pos hx0, List.append_nil] at this; exact this
            clear hx0
            go_wp2
            go_roundw
            case rel => exact ⟨j + 1, by omega, by go_num, HAT.out, by rw [← HZS.out, HX2.out]; exact HOWN.out⟩
            case measure => simp [intOf]; omega
          · have t9 : (a != 0) = true := by rw [bne_iff_ne]; exact hx0
            have HX2 : Hid (nz (zs.take (j + 1)) = nz (zs.take j) ++ [a]) := by have := HX.out; rw [if_neg hx0] at this; exact this
            clear hx0
            go_wp2_with (at_builtin; refine wpList_append_own _ rfl _ _ 23 rfl (w.heap.size + 1 + 1 + 1) 3 i0 (.int .i64 0) 1 8 Try.underlying23 hi0 hz0 hz1 hz2 rfl (by decide) _ _ _ rfl ((HOWN.out).alloc _) ⟨wr.heap.size, 0, none⟩ 1 1 [.int .i64 a] rfl rfl ?c01 ?c02 ?c03 ?c04 ?c05 ?_)
            case c01 => exact cell_one_new _ _ _
            case c02 => intro u hu; simp at hu; subst hu; rfl
            case c03 => unfold maxLen; omega
            case c04 => omega
            case c05 => simp; omega
            · intro v' w3 hown' hgrow _
              have R := rd_step HAT.out HOWN.out trivial hown' hgrow
              have R1 := Lib.hid R.1
              have R2 := Lib.hid R.2
              clear R hown' hgrow
              go_wp2
              go_roundw
              case rel => exact ⟨j + 1, by omega, by go_num, R1.out, by rw [← HZS.out, HX2.out, List.length_append, List.map_append]; exact R2.out⟩
              case measure => simp [intOf]; omega
        · rw [ht] at HX
          clear ht
          by_cases hx0 : b = 0
          · have t9 : (b != 0) = false := by rw [bne_eq_false_iff_eq]; exact hx0
            have HX2 : Hid (nz (zs.take (j + 1)) = nz (zs.take j)) := by have := HX.out; rw [if_pos hx0, List.append_nil] at this; exact this
            clear hx0
            go_wp2
            go_roundw
            case rel => exact ⟨j + 1, by omega, by go_num, HAT.out, by rw [← HZS.out, HX2.out]; exact HOWN.out⟩
            case measure => simp [intOf]; omega
          · have t9 : (b != 0) = true := by rw [bne_iff_ne]; exact hx0
            have HX2 : Hid (nz (zs.take (j + 1)) = nz (zs.take j) ++ [b]) := by have := HX.out; rw [if_neg hx0] at this; exact this
            clear hx0
            go_wp2_with (at_builtin; refine wpList_append_own _ rfl _ _ 23 rfl (w.heap.size + 1 + 1 + 1) 3 i0 (.int .i64 0) 1 8 Try.underlying23 hi0 hz0 hz1 hz2 rfl (by decide) _ _ _ rfl ((HOWN.out).alloc _) ⟨wr.heap.size, 0, none⟩ 1 1 [.int .i64 b] rfl rfl ?c11 ?c12 ?c13 ?c14 ?c15 ?_)
            case c11 => exact cell_one_new _ _ _
            case c12 => intro u hu; simp at hu; subst hu; rfl
            case c13 => unfold maxLen; omega
            case c14 => omega
            case c15 => simp; omega
            · intro v' w3 hown' hgrow _
              have R := rd_step HAT.out HOWN.out trivial hown' hgrow
              have R1 := Lib.hid R.1
              have R2 := Lib.hid R.2
              clear R hown' hgrow
              go_wp2
              go_roundw
              case rel => exact ⟨j + 1, by omega, by go_num, R1.out, by rw [← HZS.out, HX2.out, List.length_append, List.map_append]; exact R2.out⟩
              case measure => simp [intOf]; omega
        · rw [ht] at HX
          clear ht
          have HX2 : Hid (nz (zs.take (j + 1)) = nz (zs.take j) ++ [15]) := by have := HX.out; rw [if_neg (by decide)] at this; exact this
          go_wp2_with (at_builtin; refine wpList_append_own _ rfl _ _ 23 rfl (w.heap.size + 1 + 1 + 1) 3 i0 (.int .i64 0) 1 8 Try.underlying23 hi0 hz0 hz1 hz2 rfl (by decide) _ _ _ rfl ((HOWN.out).alloc _) ⟨wr.heap.size, 0, none⟩ 1 1 [.int .i64 (15 : Int)] rfl rfl ?c21 ?c22 ?c23 ?c24 ?c25 ?_)
          case c21 => exact cell_one_new _ _ _
          case c22 => intro u hu; simp at hu; subst hu; rfl
          case c23 => unfold maxLen; omega
          case c24 => omega
          case c25 => simp; omega
          · intro v' w3 hown' hgrow _
            have R := rd_step HAT.out HOWN.out trivial hown' hgrow
            have R1 := Lib.hid R.1
            have R2 := Lib.hid R.2
            clear R hown' hgrow
            go_wp2
            go_roundw
            case rel => exact ⟨j + 1, by omega, by go_num, R1.out, by rw [← HZS.out, HX2.out, List.length_append, List.map_append]; exact R2.out⟩
            case measure => simp [intOf]; omega
        · rw [ht] at HX
          clear ht
          have HX2 : Hid (nz (zs.take (j + 1)) = nz (zs.take j) ++ [1]) := by have := HX.out; rw [if_neg (by decide)] at this; exact this
          go_wp2_with (at_builtin; refine wpList_append_own _ rfl _ _ 23 rfl (w.heap.size + 1 + 1 + 1) 3 i0 (.int .i64 0) 1 8 Try.underlying23 hi0 hz0 hz1 hz2 rfl (by decide) _ _ _ rfl ((HOWN.out).alloc _) ⟨wr.heap.size, 0, none⟩ 1 1 [.int .i64 (1 : Int)] rfl rfl ?c31 ?c32 ?c33 ?c34 ?c35 ?_)
          case c31 => exact cell_one_new _ _ _
          case c32 => intro u hu; simp at hu; subst hu; rfl
          case c33 => unfold maxLen; omega
          case c34 => omega
          case c35 => simp; omega
          · intro v' w3 hown' hgrow _
            have R := rd_step HAT.out HOWN.out trivial hown' hgrow
            have R1 := Lib.hid R.1
            have R2 := Lib.hid R.2
            clear R hown' hgrow
            go_wp2
            go_roundw
            case rel => exact ⟨j + 1, by omega, by go_num, R1.out, by rw [← HZS.out, HX2.out, List.length_append, List.map_append]; exact R2.out⟩
            case measure => simp [intOf]; omega
      · have ej : j = s.size := by omega
        have HT : Hid ((s.data.toList.map (letR a b)).take j = s.data.toList.map (letR a b)) := List.take_of_length_le (by simp; omega)
        have HAT := Lib.hid hat
        have HOWN := Lib.hid hown
        clear hat hown ej
        go_wp2
        go_ret
        refine ⟨_, rfl, ?_, HAT.out.below⟩
        have := HOWN.out
        rw [HT.out] at this
        rw [HRAW.out]
        exact owns_base this (by omega)
  · have H : Hid (readsOf op a b = []) := by
      unfold Hid readsOf rawReads
      rw [if_neg (by omega), if_neg (by omega), if_neg (by omega), if_neg (by omega), if_neg (by omega)]; rfl
    by_cases h0 : op < 0
    · clear hr
      go_enter Try.func11, Try.ntmps11
      go_wp2_with fail
      go_ret
      exact ⟨_, rfl, by rw [H.out]; exact World.ownsRow_nil _ _ _ _, ((Below.refl _ _).alloc (Nat.le_refl _) _).alloc (by simp) _⟩
    · have h1 : 25 ≤ op := by omega
      clear hr h0
      go_enter Try.func11, Try.ntmps11
      go_wp2_with fail
      go_ret
      exact ⟨_, rfl, by rw [H.out]; exact World.ownsRow_nil _ _ _ _, ((Below.refl _ _).alloc (Nat.le_refl _) _).alloc (by simp) _⟩
end Go.Proofs.Ytgcbdndfobiphab
