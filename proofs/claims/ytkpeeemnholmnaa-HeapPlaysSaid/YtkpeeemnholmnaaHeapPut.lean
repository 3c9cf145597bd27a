/- The general store into the heap: what it keeps; put of a young pointer into the old region; Store. -/
import Derived.Test.YtkpeeemnholmnaaGcMj
import Derived.Test.YtkpeeemnholmnaaHeapAl
import Derived.Test.YtkpeeemnholmnaaHeapLd
namespace Go.Proofs.Ytkpeeemnholmnaa
open Go.RowKit
set_option linter.unusedVariables false

def IxPH (zs : List Int) (x : Int) (w : World) (e : Ending) (w' : World) : Prop := ∃ r : Int, e = .returned (.int .i64 r) ∧ w' = w ∧ decide (0 ≤ r) = zs.contains x

set_option maxHeartbeats 1000000 in
theorem hindex_ints (w : World) (a : Option Addr) (n c : Nat) (zs : List Int) (x : Int) (h : Came w a n c 1 (zs.map intCells)) :
    Calls Try.prog 39 #[.slice a n c, .int .i64 x] w (IxPH zs x w) := by
  have hzl : zs.length = n := by simpa using h.count
  have HZ := Lib.hid hzl
  have hle := h.le
  have hmx := h.max
  have HC := Lib.hid h
  clear h hzl
  go_enter Try.func39, Try.ntmps39
  go_wp2
  go_loop [5, 8] (fun _ u => ∃ k : Nat, k ≤ n ∧ u = .int .i64 (k : Int) ∧ ∀ j, j < k → zs.getD j 0 ≠ x) (fun _ u => n - (intOf u).toNat)
  case atStart => exact ⟨0, Nat.zero_le _, rfl, fun j hj => absurd hj (Nat.not_lt_zero _)⟩
  case round =>
    obtain ⟨k, hk, rfl, hno⟩ := hrel
    have HNO := Lib.hid hno
    clear hno
    by_cases hlt : k < n
    · obtain ⟨b, off, ea, _, hcell⟩ := HC.out.ints (by omega)
      subst ea
      have hkl : k < zs.length := by have := HZ.out; omega
      have cl := hcell k hkl
      obtain ⟨z, hz⟩ : ∃ z, z = zs[k] := ⟨_, rfl⟩
      rw [← hz] at cl
      have HZK : Hid (zs.getD k 0 = z) := by unfold Hid; rw [hz]; simp [List.getD, hkl]
      have HMEM : Hid (z ∈ zs) := by unfold Hid; rw [hz]; exact List.getElem_mem hkl
      clear hcell hz
      by_cases hxz : x = z
      · have q : (x == z) = true := by simp [hxz]
        have HXZ := Lib.hid hxz
        clear hxz
        go_wp2
        go_ret
        refine ⟨_, rfl, rfl, ?_⟩
        rw [decide_eq_true (by omega)]
        symm
        rw [List.contains_iff_mem, HXZ.out]
        exact HMEM.out
      · have q : (x == z) = false := by simp [hxz]
        go_wp2
        go_round
        case rel =>
          refine ⟨k + 1, by omega, by go_num, fun j hj => ?_⟩
          by_cases e : j = k
          · subst e; rw [HZK.out]; exact fun e => hxz e.symm
          · exact HNO.out j (by omega)
        case measure => simp [intOf]; omega
    · have ek : k = n := by omega
      subst ek
      go_wp2
      go_ret
      refine ⟨_, rfl, rfl, ?_⟩
      rw [decide_eq_false (by omega)]
      symm
      rw [← Bool.not_eq_true, List.contains_iff_mem]
      intro hm
      obtain ⟨j, hj, e⟩ := List.getElem_of_mem hm
      exact HNO.out j (by have := HZ.out; omega) (by simp [List.getD, hj, e])

theorem hcontains_ints (w : World) (a : Option Addr) (n c : Nat) (zs : List Int) (x : Int) (h : Came w a n c 1 (zs.map intCells)) :
    Calls Try.prog 36 #[.slice a n c, .int .i64 x] w fun e w' => e = .returned (.bool (zs.contains x)) ∧ w = w' := by
  have HI := fun w h => hindex_ints w a n c zs x h
  have HC := Lib.hid h
  obtain ⟨r, hr⟩ : ∃ r, r = zs.contains x := ⟨_, rfl⟩
  have HR := Lib.hid hr
  rw [← hr]
  clear h hr
  go_enter Try.func36, Try.ntmps36
  go_wp2_with fail
  refine (HI _ HC.out).mono ?_
  rintro e w' ⟨q, rfl, rfl, hq⟩
  have HQ := Lib.hid hq
  clear hq
  go_wp2
  go_ret
  exact ⟨ret_bool (by rw [HR.out, ← HQ.out]), rfl⟩


theorem Tiles.apart {m : Nat → Int} {a b : Nat} {l : List Nat} (h : Tiles m a b l) {i o : Nat} (hi : i ∈ l) (ho : o ∈ l) (hne : i ≠ o) : i + hsize (m i) < o ∨ o + hsize (m o) < i := by
  induction h with
  | nil => cases hi
  | cons a b l h1 ht ih =>
    rcases List.mem_cons.1 hi with ei | hi2 <;> rcases List.mem_cons.1 ho with eo | ho2
    · exact absurd (ei.trans eo.symm) hne
    · have := ht.mem o ho2; subst ei; omega
    · have := ht.mem i hi2; subst eo; omega
    · exact ih hi2 ho2
section
variable {S : HS} {l1 l2 : List Nat}
theorem HInv.apart (hi : HInv S l1 l2) {i o : Nat} (h1 : i ∈ l1 ++ l2) (h2 : o ∈ l1 ++ l2) (hne : i ≠ o) : i + hsize (S.m i) < o ∨ o + hsize (S.m o) < i := by
  have hy := hi.ok.yo
  have hf := hi.ok.fr
  rcases List.mem_append.1 h1 with h1 | h1 <;> rcases List.mem_append.1 h2 with h2 | h2
  · exact hi.wf.y.apart h1 h2 hne
  · have := hi.wf.y.mem i h1; have := hi.wf.o.mem o h2; omega
  · have := hi.wf.o.mem i h1; have := hi.wf.y.mem o h2; omega
  · exact hi.wf.o.apart h1 h2 hne
/-- a field of an object is written -/
theorem HInv.put (hi : HInv S l1 l2) {o k : Nat} {v : Int} {rem' : List Nat} (ho : o ∈ l1 ++ l2) (hk1 : o < k) (hk2 : k ≤ o + hsize (S.m o)) (hv : WordV (l1 ++ l2) v) (hvb : -2147483648 ≤ v ∧ v ≤ 2147483647)
    (hrem : rem' = S.rem ∨ (rem' = S.rem ++ [k] ∧ k ∉ S.rem ∧ o ∈ l2)) (hy : o ∈ l2 → youngB S.nursery v = true → k ∈ rem') :
    HInv { S with m := fun j => if j = k then v else S.m j, rem := rem' } l1 l2 := by
  have hhd : ∀ i ∈ l1 ++ l2, (if i = k then v else S.m i) = S.m i := fun i h => by
    rw [if_neg]
    intro e
    rcases Nat.decEq i o with hne | he
    · have := hi.apart h ho hne; omega
    · omega
  obtain ⟨a1, a2, a3, a4, a5, a6, a7, a8⟩ := hi.ok
  refine ⟨⟨a1, a2, a3, a4, a5, a6, a7, a8⟩, ⟨hi.wf.y.hdrs fun i h => hhd i (List.mem_append_left _ h), hi.wf.o.hdrs fun i h => hhd i (List.mem_append_right _ h), fun i h j h1 h2 => ?_⟩, hi.half, fun x hx => ?_, ?_, fun i h j h1 h2 h3 => ?_, fun i h j h1 h2 => ?_⟩
  · have h2 : j ≤ i + hsize (if i = k then v else S.m i) := h2
    rw [hhd i h] at h2
    show (if j = k then v else S.m j) % 2 = 1 ∨ ∃ q : Nat, (q = 0 ∨ q ∈ l1 ++ l2) ∧ (if j = k then v else S.m j) = 2 * (q : Int)
    by_cases e : j = k
    · rw [if_pos e]
      rcases hv with h | h | ⟨q, h3, h4⟩
      · exact .inl h.1
      · exact .inr ⟨0, .inl rfl, by rw [h]; rfl⟩
      · exact .inr ⟨q, .inr h3, h4⟩
    · rw [if_neg e]; exact hi.wf.f i h j h1 h2
  · show ∃ q ∈ l2, q < x ∧ x ≤ q + hsize (if q = k then v else S.m q)
    have hx : x ∈ rem' := hx
    have key : x ∈ S.rem ∨ (x = k ∧ o ∈ l2) := by
      rcases hrem with e | ⟨e, _, h⟩
      · rw [e] at hx; exact .inl hx
      · rw [e] at hx
        rcases List.mem_append.1 hx with h9 | h9
        · exact .inl h9
        · exact .inr ⟨by simpa using h9, h⟩
    rcases key with h | ⟨rfl, h⟩
    · obtain ⟨q, h1, h2, h3⟩ := hi.rem x h
      exact ⟨q, h1, h2, by rw [hhd q (List.mem_append_right _ h1)]; exact h3⟩
    · exact ⟨o, h, hk1, by rw [hhd o ho]; exact hk2⟩
  · show rem'.Nodup
    rcases hrem with e | ⟨e, h1, _⟩
    · rw [e]; exact hi.rnd
    · rw [e]
      refine List.nodup_append.2 ⟨hi.rnd, by simp, fun x hx y hy => ?_⟩
      rintro rfl
      have : x = k := by simpa using hy
      exact h1 (this ▸ hx)
  · have h2 : j ≤ i + hsize (if i = k then v else S.m i) := h2
    rw [hhd i (List.mem_append_right _ h)] at h2
    have h3 : youngB S.nursery (if j = k then v else S.m j) = true := h3
    show j ∈ rem'
    by_cases e : j = k
    · rw [if_pos e] at h3
      rw [e]
      refine hy ?_ h3
      rcases Nat.decEq i o with hne | he
      · have := hi.apart (List.mem_append_right _ h) ho hne; omega
      · rw [← he]; exact h
    · rw [if_neg e] at h3
      have := hi.yng i h j h1 h2 h3
      rcases hrem with e | ⟨e, _⟩ <;> rw [e]
      · exact this
      · exact List.mem_append_left _ this
  · have h2 : j ≤ i + hsize (if i = k then v else S.m i) := h2
    rw [hhd i h] at h2
    show -2147483648 ≤ (if j = k then v else S.m j) ∧ (if j = k then v else S.m j) ≤ 2147483647
    split
    · exact hvb
    · exact hi.wd i h j h1 h2
end

theorem Came.none1 (w : World) : Came w none 0 0 1 (([] : List Int).map intCells) :=
  ⟨rfl, Nat.le_refl _, by omega, (fun _ => ⟨rfl, rfl⟩), (fun v hv => by cases hv), fun h => by omega⟩
def PutFirst (p mb : Nat) (S : HS) (i : Nat) (v : Int) (w : World) (e : Ending) (w' : World) : Prop :=
  ∃ rv', e = .returned (.tuple #[]) ∧ HeapSt w' p mb rv' { S with m := fun j => if j = i then v else S.m j, rem := [i] } ∧ HStep p mb (.slice none 0 0) rv' w w'

set_option maxRecDepth 100000 in
set_option maxHeartbeats 2000000 in
/-- the first remembered word -/
theorem put_first (w : World) (p mb : Nat) (S : HS) (h : HeapSt w p mb (.slice none 0 0) S) (ok : S.Ok) (hrem : S.rem = []) (i : Nat) (v : Int) (hv : v ≤ 2147483647) (hi : i < S.n) (hin : inB (i : Int) S.from_ (S.from_ + S.half - 1) = true) (hyg : youngB S.nursery v = true) :
    Calls Try.prog 26 #[.pointer (some ⟨p, 0, none⟩), .int .i64 (i : Int), .int .i64 v] w (PutFirst p mb S i v w) := by
  obtain ⟨i0, hi0, hz0, hz1, hz2⟩ := info_parts Try.infoH3
  obtain ⟨c0, c1, c2, c3, c4, c5, c6, c7⟩ := h.cells
  have cm := h.word hi
  have fm := h.mm.free i
  have hne := h.d1
  have HSET := Lib.hid (h.setM i v)
  have hpl := h.st.lt
  have hml := h.mm.lt
  obtain ⟨⟨o1, o2⟩, o3, o4, ⟨o5, o6⟩, o7, ⟨o8, o9⟩, o10, o11⟩ := ok
  obtain ⟨x, hx⟩ : ∃ x, x = S.m i := ⟨_, rfl⟩
  rw [← hx] at cm
  clear hx c1 c3 c6 h
  have HQ := fun w => in_q (i : Int) (S.from_ : Int) ((S.from_ : Int) + S.half - 1) w
  rw [hin] at HQ
  have HY := fun w c2 => inYoung_any w p S.nursery v hv c2
  rw [hyg] at HY
  have HCN : ∀ w, Calls Try.prog 36 #[.slice none 0 0, .int .i64 (i : Int)] w fun e w' => e = .returned (.bool false) ∧ w' = w := fun w => (hcontains_ints w none 0 0 [] (i : Int) (Came.none1 w)).mono fun _ _ ⟨he, hw⟩ => ⟨he, hw.symm⟩
  clear hin hyg
  go_enter Try.func26, Try.ntmps26
  go_wp2_with fail
  have hd := HSET.out.cells
  have d0 := hd.c0
  have d2 : (w.setCell ⟨mb, i, none⟩ (.int .i64 v)).cell? ⟨p, 2, none⟩ = some (.int .i64 (S.nursery : Int)) := hd.c2
  have d4 : (w.setCell ⟨mb, i, none⟩ (.int .i64 v)).cell? ⟨p, 4, none⟩ = some (.int .i64 (S.half : Int)) := hd.c4
  have d5 : (w.setCell ⟨mb, i, none⟩ (.int .i64 v)).cell? ⟨p, 5, none⟩ = some (.int .i64 (S.from_ : Int)) := hd.c5
  have d7 : (w.setCell ⟨mb, i, none⟩ (.int .i64 v)).cell? ⟨p, 7, none⟩ = some (.slice none 0 0) := hd.c7
  have HSM : Hid (HStep p mb (.slice none 0 0) (.slice none 0 0) w (w.setCell ⟨mb, i, none⟩ (.int .i64 v))) := HStep.setM i (.int .i64 v)
  have hsz : Hid ((w.setCell ⟨mb, i, none⟩ (.int .i64 v)).heap.size = w.heap.size) := by unfold Hid; simp [World.setCell]
  clear hd d0 c0 c2 c4 c5 c7 cm fm
  generalize w.setCell ⟨mb, i, none⟩ (.int .i64 v) = w1 at HSET HSM d2 d4 d5 d7 hsz ⊢
  go_quiet (first | (go_at_call 23; exact Calls.quiet_of_same (HQ _)) | (go_at_call 35; exact Calls.quiet_of_same (HY _ (by assumption))) | (go_at_call 36; exact Calls.quiet_of_same (HCN _)))
  have HO := Lib.hid (World.ownsRow_nil (w1.drewN nq) w1.heap.size 3 1)
  go_wp2_with (at_builtin; go_loud (refine wpList_append_own _ rfl _ _ 22 rfl w1.heap.size 3 i0 (.int .i64 0) 1 8 Try.underlying22 hi0 hz0 hz1 hz2 rfl (by decide) _ _ _ rfl (HO.out.alloc _) ⟨w1.heap.size, 0, none⟩ 1 1 [.int .i64 (i : Int)] rfl rfl ?a2 ?a3 ?a4 ?a5 ?a6 ?_))
  case a2 => exact cell_one_new (w1.drewN nq) (.int .i64 (i : Int)) 3
  case a3 => intro u hu; simp at hu; subst hu; rfl
  case a4 => unfold maxLen; omega
  case a5 => omega
  case a6 => simp
  intro v' w7 hown' hgrow _
  obtain ⟨g7, cap7, rfl, _, _, _, _⟩ := ownG_has hown' (by omega)
  have hx7 : Below w1.heap.size w1 w7 := ((below_drewN_self w1.heap.size w1 nq).trans ((Below.refl _ (w1.drewN nq)).alloc (Nat.le_refl _) _)).grown hgrow (by simp) (fun q hq => by simp [Value.ownBlock] at hq)
  have hst7 := HSET.out.later hx7
  have hvb : w1.heap.size ≤ g7 ∧ g7 < w7.heap.size := hown'.lt g7 rfl
  have e7 : w7.cell? ⟨p, 7, none⟩ = some (.slice none 0 0) := hst7.cells.c7
  have f7 := hst7.st.free 7
  have HX7 := Lib.hid hx7
  have HS7 := Lib.hid hst7
  have HVB := Lib.hid hvb
  have HOW := Lib.hid hown'
  clear hx7 hst7 hvb hown' hgrow HO HQ HY HCN d2 d4 d5 d7
  go_wp2_with fail
  go_end0
  have hs := hsz.out
  have hv9 := HVB.out
  have hp9 : (Value.slice (some ⟨g7, 0, none⟩) 1 cap7).ownBlock ≠ some p := fun e => by simp [Value.ownBlock] at e; omega
  have hm9 : (Value.slice (some ⟨g7, 0, none⟩) 1 cap7).ownBlock ≠ some mb := fun e => by simp [Value.ownBlock] at e; omega
  refine ⟨_, rfl, ⟨?_, ?_, ?_, hne, hp9, hm9⟩, ?_⟩
  · exact HS7.out.st.set 7 _
  · exact HS7.out.mm.setOther (a := ⟨p, 7, none⟩) (Ne.symm hne) _
  · exact owns_other (a := ⟨p, 7, none⟩) (ownG_base HOW.out (Nat.zero_le _)) hp9 _
  · have h9 := HSM.out.trans (HStep.of_below HX7.out)
    refine ⟨h9.os, h9.tape, h9.output, by have := h9.size; simpa [World.setCell] using this, fun k h1 h2 h3 h4 => (Below.heap_setCell _ _ _ _ h2).trans (h9.block k h1 h2 h3 h4), fun g hg => ?_⟩
    have : g7 = g := by simpa [Value.ownBlock] using hg
    right; omega

def StorePost (p mb : Nat) (S : HS) (i : Nat) (v : Int) (w : World) (e : Ending) (w' : World) : Prop :=
  ∃ rv', e = .returned (.int .i64 0) ∧ HeapSt w' p mb rv' { S with m := fun j => if j = i then v else S.m j, rem := [i] } ∧ HStep p mb (.slice none 0 0) rv' w w'
set_option maxRecDepth 100000 in
set_option maxHeartbeats 2000000 in
theorem store_first (w : World) (p mb : Nat) (S : HS) (h : HeapSt w p mb (.slice none 0 0) S) (ok : S.Ok) (hrem : S.rem = []) (i : Nat) (v : Int) (hv : -2147483648 ≤ v ∧ v ≤ 2147483647) (hi : 1 ≤ i ∧ i < S.n) (hin : inB (i : Int) S.from_ (S.from_ + S.half - 1) = true) (hyg : youngB S.nursery v = true) :
    Calls Try.prog 13 #[.pointer (some ⟨p, 0, none⟩), .int .i64 (2 * (i : Int)), .int .i64 v] w (StorePost p mb S i v w) := by
  have HX := fun wx hx => hindex_ok wx p mb (.slice none 0 0) S hx ok i (2 * (i : Int)) rfl hi
  have HP := fun wx hx => put_first wx p mb S hx ok hrem i v hv.2 hi.2 hin hyg
  have hgv : inB v (-2147483648) 2147483647 = true := inB_true.2 hv
  have HQ := fun w => in_q v (-2147483648) 2147483647 w
  rw [hgv] at HQ
  have HST := Lib.hid h
  have hn := ok.n
  clear h hgv hin hyg
  go_enter Try.func13, Try.ntmps13
  go_wp2_with (first
    | (go_at_call 27; refine (HX _ HST.out).mono ?_; rintro e w' ⟨rfl, k, rfl⟩)
    | (go_at_call 23; refine (HQ _).mono ?_; rintro e w' ⟨rfl, hw'⟩; rw [hw']; clear hw' w'))
  refine (HP _ (HST.out.drewN k)).mono ?_
  rintro e w7 ⟨rv', rfl, h1, h2⟩
  have H1 := Lib.hid h1
  have H2 := Lib.hid h2
  clear h1 h2
  go_wp2_with fail
  go_ret
  exact ⟨rv', rfl, H1.out, (HStep.drewN k).trans H2.out⟩
end Go.Proofs.Ytkpeeemnholmnaa
