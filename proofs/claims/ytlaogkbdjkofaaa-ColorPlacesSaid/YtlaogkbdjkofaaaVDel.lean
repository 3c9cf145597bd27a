/- slices.DeleteFunc at rows of integers, where what is deleted is zero. -/
import Derived.Test.YtlaogkbdjkofaaaVfn
import Derived.Test.YtlaogkbdjkofaaaOwn
import Derived.Test.YtlaogkbdjkofaaaRow2
import Derived.Test.YtlaogkbdjkofaaaRefB
import Derived.Lib.SliceRun
import Derived.Laws.AppendOwnNone
namespace Go.Proofs.Ytlaogkbdjkofaaa
open Go.RowKit
set_option linter.unusedVariables false
set_option linter.unusedSimpArgs false

/-- the first zero of a row -/
def zIx : List Int → Nat
  | [] => 0
  | x :: r => if x = 0 then 0 else zIx r + 1
theorem zIx_le : ∀ l : List Int, zIx l ≤ l.length
  | [] => Nat.le_refl _
  | x :: r => by
    unfold zIx
    have := zIx_le r
    split
    · simp
    · simp; omega
theorem zIx_nz : ∀ (l : List Int) (j : Nat), j < zIx l → (l.getD j 0 == 0) = false
  | [], j, h => by simp [zIx] at h
  | x :: r, 0, h => by
    unfold zIx at h
    split at h
    · omega
    · simpa
  | x :: r, j + 1, h => by
    unfold zIx at h
    split at h
    · omega
    · simpa using zIx_nz r j (by omega)
theorem zIx_z : ∀ (l : List Int), zIx l < l.length → l.getD (zIx l) 0 = 0
  | [], h => by simp at h
  | x :: r, h => by
    unfold zIx at h ⊢
    split
    · simpa
    · rename_i hx
      rw [if_neg hx] at h
      simpa using zIx_z r (by simpa using h)
theorem zIx_is (l : List Int) (k : Nat) (hk : k < l.length) (hz : l.getD k 0 = 0) (hn : ∀ j, j < k → (l.getD j 0 == 0) = false) : zIx l = k := by
  rcases Nat.lt_trichotomy (zIx l) k with h | h | h
  · have h1 := hn _ h
    rw [zIx_z l (by omega)] at h1
    simp at h1
  · exact h
  · have := zIx_nz l k h
    rw [hz] at this
    simp at this
theorem zIx_none (l : List Int) (hn : ∀ j, j < l.length → (l.getD j 0 == 0) = false) : zIx l = l.length := by
  rcases Nat.lt_or_ge (zIx l) l.length with h | h
  · have h1 := hn _ h
    rw [zIx_z l h] at h1
    simp at h1
  · have := zIx_le l; omega
theorem nz_take_zIx (l : List Int) : ∀ k, k ≤ zIx l → nz (l.take k) = l.take k := fun k hk => by
  unfold nz
  rw [List.filter_eq_self]
  intro x hx
  obtain ⟨i, hi, rfl⟩ := List.getElem_of_mem hx
  have hi2 : i < k ∧ i < l.length := by rw [List.length_take] at hi; omega
  have := zIx_nz l i (by omega)
  rw [List.getD_eq_getElem?_getD, List.getElem?_eq_getElem hi2.2] at this
  simpa [bne] using this
theorem nz_snoc (l : List Int) (x : Int) : nz (l ++ [x]) = if x = 0 then nz l else nz l ++ [x] := by
  unfold nz
  rw [List.filter_append]
  by_cases h : x = 0 <;> simp [h]
def ixZ (zs : List Int) (n : Nat) : Int := if zIx zs < n then (zIx zs : Int) else -1
def NixPost (c : Int) (w : World) (e : Ending) (w' : World) : Prop := e = .returned (.int .i64 c) ∧ w = w'
theorem came_owns_ints {w : World} {base : Nat} {e : TypeId} {a : Option Addr} {n c m : Nat} {l : List Int} (h : w.ownsRow base e 1 (.slice a n c) m (l.map (Value.int .i64))) : Came w a n c 1 (l.map intCells) :=
  (came_of_owns (E := intCells) (fun z => ⟨_, rfl⟩) (by exact h)).2
def DelPost (zs : List Int) (base : Nat) (v : Value) (w : World) (e : Ending) (w' : World) : Prop :=
  ∃ v', e = .returned v' ∧ w'.ownsRow base 3 1 v' (nz zs).length ((nz zs).map (Value.int .i64)) ∧ w.grownBy w' v.ownBlock
/-- where the loop stands: i elements are kept of the first j -/
def DelSt (zs : List Int) (base g n c : Nat) (w wr : World) (i j : Nat) : Prop :=
  i < j ∧ j ≤ n ∧ (nz (zs.take j)).length = i ∧ ∃ ys : List Int, ys.length = n ∧ wr.ownsRow base 3 1 (.slice (some ⟨g, 0, none⟩) n c) n (ys.map (Value.int .i64)) ∧ ys.take i = nz (zs.take j) ∧ (∀ k, j ≤ k → ys[k]? = zs[k]?) ∧ w.grownBy wr (some g)
theorem grownTrans {w w' w'' : World} {r : Option Nat} (h : w.grownBy w' r) (k : w'.grownBy w'' r) : w.grownBy w'' r :=
  ⟨k.os.trans h.os, k.tape.trans h.tape, k.output.trans h.output, Nat.le_trans h.size k.size, fun x hx hne => (k.block x (Nat.lt_of_lt_of_le hx h.size) hne).trans (h.block x hx hne)⟩
theorem Try.zeroZ3 (w : World) : (zeroValue 3).run Try.prog w = .ok (.int .i64 0) w := by kernel_rfl
/-- the beginning of an own row, where what lies behind has been overwritten -/
theorem ownsCut {w : World} {base g n c i : Nat} {e : TypeId} {l : List Value} (h : w.ownsRow base e 1 (.slice (some ⟨g, 0, none⟩) n c) n l) (hi : i ≤ n) {ys : List Int} (hl : (ys.map (Value.int .i64)).length = n) (vs : List Value) (hy : l = ys.map (Value.int .i64) := by rfl) :
    (w.setCells g i vs).ownsRow base e 1 (.slice (some ⟨g, 0, none⟩) i c) i ((ys.take i).map (Value.int .i64)) := by
  subst hy
  obtain ⟨_, h2⟩ := h
  rcases h2 with ⟨h0, _⟩ | ⟨g', cap', cur, hv, hg, hh, hn, hcap, hsz, htake⟩
  · cases h0
  · cases hv
    have hln : ys.length = n := by simpa using hl
    obtain ⟨cur', k1, k2, k3⟩ := setCells_heap g e vs i w cur hh
    refine ⟨by simp; omega, .inr ⟨g, c, cur', rfl, hg, k1, by omega, hcap, by omega, ?_⟩⟩
    apply List.ext_getElem?
    intro j
    by_cases hj : j < i
    · have h3 : (cur.toList.take (n * 1))[j]? = (ys.map (Value.int .i64))[j]? := by rw [htake]
      rw [List.getElem?_take_of_lt (by omega)] at h3
      rw [List.getElem?_take_of_lt (by omega), Array.getElem?_toList, k3 j (by omega), if_neg (by omega), List.map_take, List.getElem?_take_of_lt hj, ← h3, Array.getElem?_toList]
    · rw [List.getElem?_eq_none (by rw [List.length_take]; omega), List.getElem?_eq_none (by simp; omega)]
theorem is_zero_Uses (x : Int) (w : World) : Calls Try.prog 98 #[.int .i64 x] w fun e w' => e = .returned (.bool (x == 0)) ∧ w = w' := by
  go_enter Try.func98, Try.ntmps98
  go_wp2
  go_ret
  exact ⟨rfl, rfl⟩

set_option maxHeartbeats 1000000 in
theorem ixf_Uses (w : World) (a : Option Addr) (n c : Nat) (zs : List Int) (h : Came w a n c 1 (zs.map intCells)) :
    Calls Try.prog 106 #[.slice a n c, .func (.func 98) #[] #[]] w (NixPost (ixZ zs n) w) := by
  have hl : zs.length = n := by simpa using h.count
  have hn := h.le
  have hm := h.max
  have HC : Hid (∀ k, k < n → ∃ g off, a = some ⟨g, off, none⟩ ∧ g < w.heap.size ∧ w.cell? ⟨g, off + k, none⟩ = some (.int .i64 (zs.getD k 0))) := fun k hk => by
    obtain ⟨g, off, ha, hlt, hc⟩ := h.ints (by omega)
    refine ⟨g, off, ha, hlt, ?_⟩
    rw [hc k (by omega)]
    simp [List.getD_eq_getElem?_getD, show k < zs.length by omega]
  have HL := Lib.hid hl
  clear h hl
  go_enter Try.func106, Try.ntmps106
  go_wp2
  go_loopw [5, 8] (fun _ u wr => ∃ k : Nat, k ≤ n ∧ u = .int .i64 (k : Int) ∧ wr = w ∧ ∀ j, j < k → (zs.getD j 0 == 0) = false) (fun _ u _ => n - (intOf u).toNat)
  case atStart => exact ⟨0, Nat.zero_le _, rfl, rfl, fun j hj => absurd hj (Nat.not_lt_zero _)⟩
  case round =>
    obtain ⟨k, hk, rfl, rfl, hno⟩ := hrel
    have HNO := Lib.hid hno
    clear hno
    by_cases hlt : k < n
    · obtain ⟨g, off, rfl, hg, hc⟩ := HC.out k hlt
      obtain ⟨x, hx⟩ : ∃ x, x = zs.getD k 0 := ⟨_, rfl⟩
      rw [← hx] at hc
      have HX := Lib.hid hx
      have hcall := is_zero_Uses x
      clear hx
      cases hq : (x == 0)
      · rw [hq] at hcall
        have HQ := Lib.hid hq
        clear hq
        go_wp2_with (go_at_call 98; refine (hcall _).mono ?_; rintro e w' ⟨rfl, rfl⟩)
        go_roundw
        case rel =>
          refine ⟨k + 1, by omega, by go_num, trivial, fun j hj => ?_⟩
          by_cases e : j = k
          · rw [e, ← HX.out]; exact HQ.out
          · exact HNO.out j (by omega)
        case measure => simp [intOf]; omega
      · rw [hq] at hcall
        have HQ : Hid (zIx zs = k) := zIx_is zs k (by have := HL.out; omega) (by rw [← HX.out]; exact eq_of_beq hq) HNO.out
        clear hq
        go_wp2_with (go_at_call 98; refine (hcall _).mono ?_; rintro e w' ⟨rfl, rfl⟩)
        go_ret
        exact ⟨ret_int (by unfold ixZ; rw [HQ.out, if_pos hlt]), rfl⟩
    · have HQ : Hid (zIx zs = n) := by
        show zIx zs = n
        rw [zIx_none zs fun j hj => HNO.out j (by have := HL.out; omega)]
        exact HL.out
      go_wp2
      go_ret
      exact ⟨ret_int (by unfold ixZ; rw [HQ.out, if_neg (by omega)]), rfl⟩

set_option maxRecDepth 100000 in
set_option maxHeartbeats 1000000 in
theorem del_Uses (w : World) (base : Nat) (v : Value) (zs : List Int) (h : w.ownsRow base 3 1 v zs.length (zs.map (Value.int .i64))) (hb : zs.length ≤ 9223372036854775807) :
    Calls Try.prog 86 #[v, .func (.func 98) #[] #[]] w (DelPost zs base v w) := by
  obtain ⟨a, c, rfl⟩ := ownG_shape h
  obtain ⟨n, hn⟩ : ∃ n, n = zs.length := ⟨_, rfl⟩
  rw [← hn] at h hb ⊢
  have HIX := Lib.hid (ixf_Uses w a n c zs (came_owns_ints h))
  have hzl := zIx_le zs
  have HN := Lib.hid hn
  have HO := Lib.hid h
  by_cases hz : zIx zs < n
  · obtain ⟨z, hze⟩ : ∃ z, z = zIx zs := ⟨_, rfl⟩
    have hix : ixZ zs n = (z : Int) := by rw [hze]; exact if_pos hz
    rw [hix] at HIX
    rw [← hze] at hz hzl
    obtain ⟨g, cap, hv, hg1, hg2, hg3, hg4⟩ := ownG_has h (by omega)
    injection hv with e1 e2 e3
    subst e1 e3
    have hcap : c ≤ 9223372036854775807 := by unfold maxLen at hg4; omega
    have HZ : Hid (nz (zs.take (z + 1)) = zs.take z ∧ (zs.take z).length = z) := by
      refine ⟨?_, by simp; omega⟩
      rw [List.take_succ_eq_append_getElem (by omega), nz_snoc]
      have h0 := zIx_z zs (by omega)
      rw [← hze, List.getD_eq_getElem?_getD, List.getElem?_eq_getElem (by omega : z < zs.length)] at h0
      rw [if_pos (by simpa using h0), hze]
      exact nz_take_zIx zs _ (Nat.le_refl _)
    have hz9 : ((z : Int) == -1) = false := beq_eq_false_iff_ne.2 (by omega)
    clear h hze hn hix
    go_enter Try.func86, Try.ntmps86
    go_wp2_with (go_at_call 106; refine HIX.out.mono ?_; rintro e w' ⟨rfl, rfl⟩)
    have HI : Hid (DelSt zs base g n c w w z (z + 1)) := ⟨by omega, by omega, by rw [HZ.out.1]; exact HZ.out.2, zs, HN.out.symm, HO.out, by rw [HZ.out.1], fun j hj => rfl, ⟨rfl, rfl, rfl, Nat.le_refl _, fun _ _ _ => rfl⟩⟩
    clear HIX
    go_wp2_with fail
    go_loopw [5, 6, 7] (fun u5 u6 u7 wr => ∃ i j : Nat, u5 = .int .i64 (i : Int) ∧ u6 = .int .i64 (j : Int) ∧ DelSt zs base g n c w wr i j) (fun _ u _ _ => n - (intOf u).toNat)
    case atStart => exact ⟨z, z + 1, rfl, by go_num, HI.out⟩
    case round =>
      clear HI
      obtain ⟨i, j, rfl, rfl, s1, s2, s3, ys, s4, s5, s6, s7, s8⟩ := hrel
      have H1 := Lib.hid s3
      have H2 := Lib.hid s5
      have H3 := Lib.hid s6
      have H4 := Lib.hid s7
      have H5 := Lib.hid s8
      have H6 := Lib.hid s4
      by_cases hj : j < n
      · have cj := s5.cellAt j (by omega)
        have fi := s5.frozenAt i
        have ci := s5.cellAt i (by omega)
        rw [List.getElem?_map, s7 j (Nat.le_refl _), List.getElem?_eq_getElem (by have := HN.out; omega)] at cj
        rw [List.getElem?_map, List.getElem?_eq_getElem (by omega)] at ci
        obtain ⟨x, hx⟩ : ∃ x, x = zs[j]'(by have := HN.out; omega) := ⟨_, rfl⟩
        simp only [Option.map_some] at cj ci
        rw [← hx] at cj
        obtain ⟨y, hy⟩ : ∃ y, y = ys[i]'(by omega) := ⟨_, rfl⟩
        rw [← hy] at ci
        clear hy
        have hg : g < wr.heap.size := (s5.lt g rfl).2
        have HX : Hid (zs.take (j + 1) = zs.take j ++ [x]) := by rw [hx]; exact List.take_succ_eq_append_getElem _
        have HST := Lib.hid (s5.stored i (.int .i64 x))
        have hcall := is_zero_Uses x
        clear s3 s4 s5 s6 s7 s8 hx
        cases hq : (x == 0)
        · rw [hq] at hcall
          have HQ := Lib.hid hq
          clear hq
          go_wp2_with (go_at_call 98; refine (hcall _).mono ?_; rintro e w' ⟨rfl, rfl⟩)
          go_roundw
          case rel =>
            have hx0 : x ≠ 0 := by have := HQ.out; simpa using this
            refine ⟨i + 1, j + 1, by go_num, by go_num, by omega, by omega, ?_, ys.set i x, by rw [List.length_set]; exact H6.out, by rw [List.map_set]; exact HST.out.1, ?_, fun k hk => ?_, ?_⟩
            · rw [HX.out, nz_snoc, if_neg hx0, List.length_append, H1.out]; rfl
            · rw [HX.out, nz_snoc, if_neg hx0, List.take_set, List.take_succ_eq_append_getElem (by have := H6.out; omega), H3.out, List.set_append_right _ _ (by rw [H1.out]; exact Nat.le_refl _), H1.out]
              simp
            · rw [List.getElem?_set_ne (by omega)]
              exact H4.out k (by omega)
            · exact grownTrans H5.out HST.out.2
          case measure => simp [intOf]; omega
        · rw [hq] at hcall
          have HQ := Lib.hid hq
          clear hq
          go_wp2_with (go_at_call 98; refine (hcall _).mono ?_; rintro e w' ⟨rfl, rfl⟩)
          go_roundw
          case rel =>
            have hx0 : x = 0 := by have := HQ.out; simpa using this
            exact ⟨i, j + 1, by go_num, by go_num, by omega, by omega, by rw [HX.out, nz_snoc, if_pos hx0]; exact H1.out, ys, H6.out, H2.out, by rw [HX.out, nz_snoc, if_pos hx0]; exact H3.out, fun k hk => H4.out k (by omega), H5.out⟩
          case measure => simp [intOf]; omega
      · obtain rfl : j = n := by omega
        have hclr := fun ty => Lib.run_clear_slice (P := Try.prog) wr 22 3 ty (.int .i64 0) Try.underlying22 (Try.zeroZ3) rfl rfl g i (j - i) (c - i) (by omega) (fun k hk => by rw [s5.cellAt (i + k) (by omega), List.getElem?_map, List.getElem?_eq_getElem (by omega)]; rfl) (fun k hk => s5.frozenAt (i + k))
        have HCL := Lib.hid hclr
        have HG := Lib.hid (grownTrans s8 (setCells_grown g (List.replicate (j - i) (Value.int .i64 0)) i wr))
        have HR : Hid ((wr.setCells g i (List.replicate (j - i) (Value.int .i64 0))).ownsRow base 3 1 (.slice (some ⟨g, 0, none⟩) i c) i ((nz zs).map (Value.int .i64)) ∧ i = (nz zs).length) := by
          have hnz : nz zs = ys.take i := by rw [s6, HN.out, List.take_length]
          refine ⟨?_, by rw [hnz, List.length_take]; omega⟩
          rw [hnz]
          exact ownsCut s5 (by omega) (by rw [List.length_map]; exact s4) _
        have hif : (if c = i then some ⟨g, 0, none⟩ else some ⟨g, i, none⟩ : Option Addr) = some ⟨g, i, none⟩ := if_neg (by omega)
        clear hclr s3 s4 s5 s6 s7 s8 s2
        have hc0 := HCL.out 0
        go_wp2
        go_ret
        exact ⟨_, rfl, by rw [← HR.out.2]; exact HR.out.1, HG.out⟩
  · have hix : ixZ zs n = -1 := if_neg hz
    rw [hix] at HIX
    have hall : Hid (nz zs = zs) := by
      have := nz_take_zIx zs (zs.length) (by omega)
      rwa [List.take_length] at this
    clear h hn hix
    go_enter Try.func86, Try.ntmps86
    go_wp2_with (go_at_call 106; refine HIX.out.mono ?_; rintro e w' ⟨rfl, rfl⟩)
    go_ret
    refine ⟨_, rfl, ?_, ⟨rfl, rfl, rfl, Nat.le_refl _, fun _ _ _ => rfl⟩⟩
    rw [hall.out, ← HN.out]
    exact HO.out

theorem is_zero_EndUses (x : Int) (w : World) : Calls Try.prog 87 #[.int .i64 x] w fun e w' => e = .returned (.bool (x == 0)) ∧ w = w' := by
  go_enter Try.func87, Try.ntmps87
  go_wp2
  go_ret
  exact ⟨rfl, rfl⟩

set_option maxHeartbeats 1000000 in
theorem ixf_EndUses (w : World) (a : Option Addr) (n c : Nat) (zs : List Int) (h : Came w a n c 1 (zs.map intCells)) :
    Calls Try.prog 106 #[.slice a n c, .func (.func 87) #[] #[]] w (NixPost (ixZ zs n) w) := by
  have hl : zs.length = n := by simpa using h.count
  have hn := h.le
  have hm := h.max
  have HC : Hid (∀ k, k < n → ∃ g off, a = some ⟨g, off, none⟩ ∧ g < w.heap.size ∧ w.cell? ⟨g, off + k, none⟩ = some (.int .i64 (zs.getD k 0))) := fun k hk => by
    obtain ⟨g, off, ha, hlt, hc⟩ := h.ints (by omega)
    refine ⟨g, off, ha, hlt, ?_⟩
    rw [hc k (by omega)]
    simp [List.getD_eq_getElem?_getD, show k < zs.length by omega]
  have HL := Lib.hid hl
  clear h hl
  go_enter Try.func106, Try.ntmps106
  go_wp2
  go_loopw [5, 8] (fun _ u wr => ∃ k : Nat, k ≤ n ∧ u = .int .i64 (k : Int) ∧ wr = w ∧ ∀ j, j < k → (zs.getD j 0 == 0) = false) (fun _ u _ => n - (intOf u).toNat)
  case atStart => exact ⟨0, Nat.zero_le _, rfl, rfl, fun j hj => absurd hj (Nat.not_lt_zero _)⟩
  case round =>
    obtain ⟨k, hk, rfl, rfl, hno⟩ := hrel
    have HNO := Lib.hid hno
    clear hno
    by_cases hlt : k < n
    · obtain ⟨g, off, rfl, hg, hc⟩ := HC.out k hlt
      obtain ⟨x, hx⟩ : ∃ x, x = zs.getD k 0 := ⟨_, rfl⟩
      rw [← hx] at hc
      have HX := Lib.hid hx
      have hcall := is_zero_EndUses x
      clear hx
      cases hq : (x == 0)
      · rw [hq] at hcall
        have HQ := Lib.hid hq
        clear hq
        go_wp2_with (go_at_call 87; refine (hcall _).mono ?_; rintro e w' ⟨rfl, rfl⟩)
        go_roundw
        case rel =>
          refine ⟨k + 1, by omega, by go_num, trivial, fun j hj => ?_⟩
          by_cases e : j = k
          · rw [e, ← HX.out]; exact HQ.out
          · exact HNO.out j (by omega)
        case measure => simp [intOf]; omega
      · rw [hq] at hcall
        have HQ : Hid (zIx zs = k) := zIx_is zs k (by have := HL.out; omega) (by rw [← HX.out]; exact eq_of_beq hq) HNO.out
        clear hq
        go_wp2_with (go_at_call 87; refine (hcall _).mono ?_; rintro e w' ⟨rfl, rfl⟩)
        go_ret
        exact ⟨ret_int (by unfold ixZ; rw [HQ.out, if_pos hlt]), rfl⟩
    · have HQ : Hid (zIx zs = n) := by
        show zIx zs = n
        rw [zIx_none zs fun j hj => HNO.out j (by have := HL.out; omega)]
        exact HL.out
      go_wp2
      go_ret
      exact ⟨ret_int (by unfold ixZ; rw [HQ.out, if_neg (by omega)]), rfl⟩

set_option maxRecDepth 100000 in
set_option maxHeartbeats 1000000 in
theorem del_EndUses (w : World) (base : Nat) (v : Value) (zs : List Int) (h : w.ownsRow base 3 1 v zs.length (zs.map (Value.int .i64))) (hb : zs.length ≤ 9223372036854775807) :
    Calls Try.prog 86 #[v, .func (.func 87) #[] #[]] w (DelPost zs base v w) := by
  obtain ⟨a, c, rfl⟩ := ownG_shape h
  obtain ⟨n, hn⟩ : ∃ n, n = zs.length := ⟨_, rfl⟩
  rw [← hn] at h hb ⊢
  have HIX := Lib.hid (ixf_EndUses w a n c zs (came_owns_ints h))
  have hzl := zIx_le zs
  have HN := Lib.hid hn
  have HO := Lib.hid h
  by_cases hz : zIx zs < n
  · obtain ⟨z, hze⟩ : ∃ z, z = zIx zs := ⟨_, rfl⟩
    have hix : ixZ zs n = (z : Int) := by rw [hze]; exact if_pos hz
    rw [hix] at HIX
    rw [← hze] at hz hzl
    obtain ⟨g, cap, hv, hg1, hg2, hg3, hg4⟩ := ownG_has h (by omega)
    injection hv with e1 e2 e3
    subst e1 e3
    have hcap : c ≤ 9223372036854775807 := by unfold maxLen at hg4; omega
    have HZ : Hid (nz (zs.take (z + 1)) = zs.take z ∧ (zs.take z).length = z) := by
      refine ⟨?_, by simp; omega⟩
      rw [List.take_succ_eq_append_getElem (by omega), nz_snoc]
      have h0 := zIx_z zs (by omega)
      rw [← hze, List.getD_eq_getElem?_getD, List.getElem?_eq_getElem (by omega : z < zs.length)] at h0
      rw [if_pos (by simpa using h0), hze]
      exact nz_take_zIx zs _ (Nat.le_refl _)
    have hz9 : ((z : Int) == -1) = false := beq_eq_false_iff_ne.2 (by omega)
    clear h hze hn hix
    go_enter Try.func86, Try.ntmps86
    go_wp2_with (go_at_call 106; refine HIX.out.mono ?_; rintro e w' ⟨rfl, rfl⟩)
    have HI : Hid (DelSt zs base g n c w w z (z + 1)) := ⟨by omega, by omega, by rw [HZ.out.1]; exact HZ.out.2, zs, HN.out.symm, HO.out, by rw [HZ.out.1], fun j hj => rfl, ⟨rfl, rfl, rfl, Nat.le_refl _, fun _ _ _ => rfl⟩⟩
    clear HIX
    go_wp2_with fail
    go_loopw [5, 6, 7] (fun u5 u6 u7 wr => ∃ i j : Nat, u5 = .int .i64 (i : Int) ∧ u6 = .int .i64 (j : Int) ∧ DelSt zs base g n c w wr i j) (fun _ u _ _ => n - (intOf u).toNat)
    case atStart => exact ⟨z, z + 1, rfl, by go_num, HI.out⟩
    case round =>
      clear HI
      obtain ⟨i, j, rfl, rfl, s1, s2, s3, ys, s4, s5, s6, s7, s8⟩ := hrel
      have H1 := Lib.hid s3
      have H2 := Lib.hid s5
      have H3 := Lib.hid s6
      have H4 := Lib.hid s7
      have H5 := Lib.hid s8
      have H6 := Lib.hid s4
      by_cases hj : j < n
      · have cj := s5.cellAt j (by omega)
        have fi := s5.frozenAt i
        have ci := s5.cellAt i (by omega)
        rw [List.getElem?_map, s7 j (Nat.le_refl _), List.getElem?_eq_getElem (by have := HN.out; omega)] at cj
        rw [List.getElem?_map, List.getElem?_eq_getElem (by omega)] at ci
        obtain ⟨x, hx⟩ : ∃ x, x = zs[j]'(by have := HN.out; omega) := ⟨_, rfl⟩
        simp only [Option.map_some] at cj ci
        rw [← hx] at cj
        obtain ⟨y, hy⟩ : ∃ y, y = ys[i]'(by omega) := ⟨_, rfl⟩
        rw [← hy] at ci
        clear hy
        have hg : g < wr.heap.size := (s5.lt g rfl).2
        have HX : Hid (zs.take (j + 1) = zs.take j ++ [x]) := by rw [hx]; exact List.take_succ_eq_append_getElem _
        have HST := Lib.hid (s5.stored i (.int .i64 x))
        have hcall := is_zero_EndUses x
        clear s3 s4 s5 s6 s7 s8 hx
        cases hq : (x == 0)
        · rw [hq] at hcall
          have HQ := Lib.hid hq
          clear hq
          go_wp2_with (go_at_call 87; refine (hcall _).mono ?_; rintro e w' ⟨rfl, rfl⟩)
          go_roundw
          case rel =>
            have hx0 : x ≠ 0 := by have := HQ.out; simpa using this
            refine ⟨i + 1, j + 1, by go_num, by go_num, by omega, by omega, ?_, ys.set i x, by rw [List.length_set]; exact H6.out, by rw [List.map_set]; exact HST.out.1, ?_, fun k hk => ?_, ?_⟩
            · rw [HX.out, nz_snoc, if_neg hx0, List.length_append, H1.out]; rfl
            · rw [HX.out, nz_snoc, if_neg hx0, List.take_set, List.take_succ_eq_append_getElem (by have := H6.out; omega), H3.out, List.set_append_right _ _ (by rw [H1.out]; exact Nat.le_refl _), H1.out]
              simp
            · rw [List.getElem?_set_ne (by omega)]
              exact H4.out k (by omega)
            · exact grownTrans H5.out HST.out.2
          case measure => simp [intOf]; omega
        · rw [hq] at hcall
          have HQ := Lib.hid hq
          clear hq
          go_wp2_with (go_at_call 87; refine (hcall _).mono ?_; rintro e w' ⟨rfl, rfl⟩)
          go_roundw
          case rel =>
            have hx0 : x = 0 := by have := HQ.out; simpa using this
            exact ⟨i, j + 1, by go_num, by go_num, by omega, by omega, by rw [HX.out, nz_snoc, if_pos hx0]; exact H1.out, ys, H6.out, H2.out, by rw [HX.out, nz_snoc, if_pos hx0]; exact H3.out, fun k hk => H4.out k (by omega), H5.out⟩
          case measure => simp [intOf]; omega
      · obtain rfl : j = n := by omega
        have hclr := fun ty => Lib.run_clear_slice (P := Try.prog) wr 22 3 ty (.int .i64 0) Try.underlying22 (Try.zeroZ3) rfl rfl g i (j - i) (c - i) (by omega) (fun k hk => by rw [s5.cellAt (i + k) (by omega), List.getElem?_map, List.getElem?_eq_getElem (by omega)]; rfl) (fun k hk => s5.frozenAt (i + k))
        have HCL := Lib.hid hclr
        have HG := Lib.hid (grownTrans s8 (setCells_grown g (List.replicate (j - i) (Value.int .i64 0)) i wr))
        have HR : Hid ((wr.setCells g i (List.replicate (j - i) (Value.int .i64 0))).ownsRow base 3 1 (.slice (some ⟨g, 0, none⟩) i c) i ((nz zs).map (Value.int .i64)) ∧ i = (nz zs).length) := by
          have hnz : nz zs = ys.take i := by rw [s6, HN.out, List.take_length]
          refine ⟨?_, by rw [hnz, List.length_take]; omega⟩
          rw [hnz]
          exact ownsCut s5 (by omega) (by rw [List.length_map]; exact s4) _
        have hif : (if c = i then some ⟨g, 0, none⟩ else some ⟨g, i, none⟩ : Option Addr) = some ⟨g, i, none⟩ := if_neg (by omega)
        clear hclr s3 s4 s5 s6 s7 s8 s2
        have hc0 := HCL.out 0
        go_wp2
        go_ret
        exact ⟨_, rfl, by rw [← HR.out.2]; exact HR.out.1, HG.out⟩
  · have hix : ixZ zs n = -1 := if_neg hz
    rw [hix] at HIX
    have hall : Hid (nz zs = zs) := by
      have := nz_take_zIx zs (zs.length) (by omega)
      rwa [List.take_length] at this
    clear h hn hix
    go_enter Try.func86, Try.ntmps86
    go_wp2_with (go_at_call 106; refine HIX.out.mono ?_; rintro e w' ⟨rfl, rfl⟩)
    go_ret
    refine ⟨_, rfl, ?_, ⟨rfl, rfl, rfl, Nat.le_refl _, fun _ _ _ => rfl⟩⟩
    rw [hall.out, ← HN.out]
    exact HO.out
end Go.Proofs.Ytlaogkbdjkofaaa
