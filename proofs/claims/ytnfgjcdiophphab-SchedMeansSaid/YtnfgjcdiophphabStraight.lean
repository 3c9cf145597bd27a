/- The laws' straight. -/
import Derived.Test.YtnfgjcdiophphabCycles
namespace Go.Proofs.Ytnfgjcdiophphab
open Go.RowKit
set_option linter.unusedVariables false
set_option linter.unusedSimpArgs false

def flat5 (l : List Op5) : List Value := l.flatMap opC
theorem flat5_len (l : List Op5) : (flat5 l).length = l.length * 5 := by
  induction l with
  | nil => rfl
  | cons a l ih =>
    show (opC a ++ flat5 l).length = _
    rw [List.length_append, ih, opC_len, List.length_cons]; omega
theorem flat5_append (l l' : List Op5) : flat5 (l ++ l') = flat5 l ++ flat5 l' := by simp [flat5]
theorem flat5_get : ∀ (l : List Op5) (i j : Nat) (h : i < l.length), j < 5 → (flat5 l)[i * 5 + j]? = (opC l[i])[j]?
  | a :: l, 0, j, _, hj => by
    show (opC a ++ flat5 l)[0 * 5 + j]? = _
    rw [Nat.zero_mul, Nat.zero_add, List.getElem?_append_left (by rw [opC_len]; exact hj)]
    rfl
  | a :: l, i + 1, j, h, hj => by
    show (opC a ++ flat5 l)[(i + 1) * 5 + j]? = _
    rw [List.getElem?_append_right (by rw [opC_len]; omega), opC_len, show (i + 1) * 5 + j - 5 = i * 5 + j by omega]
    exact flat5_get l i j (by simpa using h) hj
theorem came_flat5 {w : World} {base : Nat} {e : TypeId} {v : Value} {l : List Op5} (h : w.ownsRow base e 5 v l.length (flat5 l)) : ∃ a c, v = .slice a l.length c ∧ Came w a l.length c 5 (l.map opC) := by
  obtain ⟨_, h2⟩ := h
  have hsz : ∀ v ∈ l.map opC, v.length = 5 := by
    intro v hv
    obtain ⟨o, _, rfl⟩ := List.mem_map.1 hv
    rfl
  rcases h2 with ⟨rfl, h0⟩ | ⟨g, c, cur, rfl, hbg, hg, hle, hmx, hcs, htk⟩
  · refine ⟨none, 0, by rw [h0], ⟨by simp, by omega, by omega, fun _ => ⟨by omega, rfl⟩, hsz, fun h => by omega⟩⟩
  · unfold maxLen at hmx
    refine ⟨_, c, rfl, ⟨by simp, hle, by omega, fun h => by simp at h, hsz, fun h0 _ => ⟨g, 0, rfl, lt_of_block hg, fun i u hu j hj => ?_⟩⟩⟩
    have hil : i < l.length := by have := (List.getElem?_eq_some_iff.1 hu).1; simpa using this
    rw [List.getElem?_map, List.getElem?_eq_getElem hil] at hu
    simp at hu
    have h3 := flat5_get l i j hil hj
    rw [← htk, List.getElem?_take, if_pos (by omega)] at h3
    rw [← hu, ← h3]
    simp [World.cell?, hg]

def goodB (o : Op5) : Bool := checkE o.op o.d o.a o.b o.n == 0 && strB o.op
theorem goodB_good {o : Op5} (h : goodB o = true) : GoodOp o := by
  simp only [goodB, Bool.and_eq_true, beq_iff_eq] at h
  exact h
def strS (l : List Op5) : List Op5 := (l.take 60).filter goodB
theorem strS_len (l : List Op5) : (strS l).length ≤ 60 := by
  have h1 := List.length_filter_le goodB (l.take 60)
  simp at h1
  unfold strS; omega
theorem strS_good (l : List Op5) : ∀ o ∈ strS l, GoodOp o := fun o ho => goodB_good (List.mem_filter.1 ho).2

theorem cell_five_new (w : World) (cs : List Value) (t : TypeId) : ∀ j u, cs[j]? = some u → (w.alloc (.cells cs.toArray t)).cell? ((⟨w.heap.size, 0, none⟩ : Addr).add j) = some u := by
  intro j u hj
  rw [Addr.add_lit, Nat.zero_add, (Blk.new w cs t).cell j]
  exact hj
theorem ownsRow_below {w w' : World} {base : Nat} {e : TypeId} {size : Nat} {v : Value} {n : Nat} {l : List Value} (h : w.ownsRow base e size v n l) (hb : Below w.heap.size w w') : w'.ownsRow base e size v n l :=
  World.ownsRow.kept (row := none) h ⟨hb.os, hb.tape, hb.output, hb.size, fun k hk _ => hb.block k hk⟩ (by cases v.ownBlock <;> simp)
theorem Try.infoO92 : (Try.prog.info? 92).map (fun i => (i.zero, i.size, i.bytes)) = some (some (.agg #[.int .i64 0, .int .i64 0, .int .i64 0, .int .i64 0, .int .i64 0]), 5, 40) := by kernel_rfl

set_option maxRecDepth 100000 in
set_option maxHeartbeats 4000000 in
theorem straight_ok (os : List Op5) (a : Option Addr) (n c : Nat) (w : World) (h : Came w a n c 5 (os.map opC)) :
    Calls Try.prog 40 #[.slice a n c] w fun e w' => ∃ v, e = .returned v ∧ w'.ownsRow w.heap.size 92 5 v (strS os).length (flat5 (strS os)) ∧ Below w.heap.size w w' := by
  obtain ⟨i0, hi0, hz0, hz1, hz2⟩ := info_parts Try.infoO92
  have hl : os.length = n := by simpa using h.count
  have HL := Lib.hid hl
  have HC := Lib.hid h
  have hle := h.le
  have hmx := h.max
  have HS : Hid (strS os = (os.take 60).filter goodB) := rfl
  obtain ⟨res, hres⟩ : ∃ res, res = strS os := ⟨_, rfl⟩
  rw [← hres] at HS ⊢
  have h60 : max (60 : Int) 0 = 60 := rfl
  clear h hl hres
  obtain ⟨m, hm⟩ : ∃ m, m = min n 60 := ⟨_, rfl⟩
  have hm60 : m ≤ 60 ∧ m ≤ n := by omega
  have HM := Lib.hid hm
  clear hm
  go_enter Try.func40, Try.ntmps40
  go_wp2_with fail
  case' inl h =>
    have e7 : (60 : Nat) = m := by have := HM.out; omega
    have e6 : (60 : Int) = (m : Int) := by omega
    clear h60
    have HTK : Hid (os.take 60 = os.take m) := by unfold Hid; rw [e7]
    rw [show Value.slice a 60 c = Value.slice a m c by rw [e7], e6]
    clear e6 e7 h
  case' inr h =>
    have e7 : m = n := by have := HM.out; omega
    clear h
    subst e7
    have HTK : Hid (os.take 60 = os.take m) := by unfold Hid; rw [List.take_of_length_le (by have := HL.out; omega), List.take_of_length_le (by have := HL.out; omega)]
  all_goals
    clear HM
    go_loopw [3, 12] (fun v u wr => ∃ k : Nat, k ≤ m ∧ u = .int .i64 (k : Int) ∧ wr.ownsRow w.heap.size 92 5 v ((os.take k).filter goodB).length (flat5 ((os.take k).filter goodB)) ∧ Below w.heap.size w wr) (fun v u _ => m - (intOf u).toNat)
    case atStart => exact ⟨0, Nat.zero_le _, rfl, World.ownsRow_nil _ _ _ _, Below.refl _ _⟩
    case round =>
      obtain ⟨k, hk, rfl, hown, hb⟩ := hrel
      have HB := Lib.hid hb
      have HOWN := Lib.hid hown
      obtain ⟨va, vl, vc, rfl⟩ := owns_shape hown
      have hsz := hb.size
      clear hb hown
      have hfl : ((os.take k).filter goodB).length ≤ 60 := by
        have := List.length_filter_le goodB (os.take k)
        simp only [List.length_take] at this
        omega
      by_cases hlt : k < m
      · have hcr := HC.out.below HB.out
        obtain ⟨b', off, ea, hbl, hcell⟩ := came_ops hcr (by omega)
        subst ea
        have hkl : k < os.length := by have := HL.out; omega
        have ho := hcell k hkl
        have HNF : Hid ((os.take (k + 1)).filter goodB = (os.take k).filter goodB ++ if goodB os[k] then [os[k]] else []) := by
          unfold Hid
          rw [List.take_add_one, List.getElem?_eq_getElem hkl, List.filter_append]
          congr 1
          cases h : goodB os[k] <;> simp [h]
        generalize os[k] = o at ho HNF
        obtain ⟨op, d, aa, bb, nn⟩ := o
        have HGB : Hid (goodB ⟨op, d, aa, bb, nn⟩ = (checkE op d aa bb nn == 0 && strB op)) := rfl
        obtain ⟨c0, c1, c2, c3, c4⟩ := ho
        simp only [] at c0 c1 c2 c3 c4
        have HIC := fun w => Lib.hid (check_any op d aa bb nn w)
        have HST := fun w => Lib.hid (straight_any op w)
        obtain ⟨ck, hck⟩ : ∃ ck, ck = checkE op d aa bb nn := ⟨_, rfl⟩
        rw [← hck] at HGB
        have HIC := fun w => Lib.hid ((check_any op d aa bb nn w).mono (R' := fun e w' => e = .returned (.int .i64 ck) ∧ Below w.heap.size w w') (fun e w' h => by obtain ⟨rfl, hb⟩ := h; rw [hck]; exact ⟨rfl, hb⟩))
        clear hcr hcell hkl hck
        go_wp2_with fail
        have hq := Blk.new wr [.int .i64 op, .int .i64 d, .int .i64 aa, .int .i64 bb, .int .i64 nn] 92
        refine (HIC _).out.mono ?_
        rintro e w2 ⟨rfl, hb2⟩
        have hba : Below wr.heap.size wr w2 := ((Below.refl _ _).alloc (Nat.le_refl _) _).trans (hb2.mono (by simp))
        have HB2 := Lib.hid (HB.out.trans (hba.mono hsz))
        have HO2 := Lib.hid (ownsRow_below HOWN.out hba)
        have hsz2 : w.heap.size ≤ w2.heap.size := by have := hba.size; omega
        obtain ⟨p0, p1, p2, p3, p4⟩ := op_cells5 (hq.below hb2 hq.lt)
        clear hq hb2 c0 c1 c2 c3 c4 hba HOWN HIC
        by_cases hc0 : ck = 0
        · have q : (ck == 0) = true := by simp [hc0]
          rw [q] at HGB
          clear hc0
          obtain ⟨st, hst⟩ : ∃ st, st = strB op := ⟨_, rfl⟩
          rw [← hst] at HST HGB
          clear hst
          cases st
          · have HN2 : Hid ((os.take (k + 1)).filter goodB = (os.take k).filter goodB) := by unfold Hid; rw [HNF.out, HGB.out]; simp
            go_wp2_with fail
            refine (HST _).out.mono ?_
            rintro e w' ⟨rfl, rfl⟩
            go_wp2
            go_roundw
            case rel => exact ⟨k + 1, by omega, by go_num, by rw [HN2.out]; exact HO2.out, HB2.out⟩
            case measure => simp [intOf]; omega
          · have HN2 : Hid ((os.take (k + 1)).filter goodB = (os.take k).filter goodB ++ [⟨op, d, aa, bb, nn⟩]) := by unfold Hid; rw [HNF.out, HGB.out]; simp
            go_wp2_with fail
            refine (HST _).out.mono ?_
            rintro e w' ⟨rfl, rfl⟩
            have HAL := Lib.hid (World.ownsRow.alloc HO2.out (.cells #[.int .i64 op, .int .i64 d, .int .i64 aa, .int .i64 bb, .int .i64 nn] 92))
            have HA2 := Lib.hid (cell_five_new w2 [.int .i64 op, .int .i64 d, .int .i64 aa, .int .i64 bb, .int .i64 nn] 92)
            have HA3 : Hid (∀ u ∈ ([.int .i64 op, .int .i64 d, .int .i64 aa, .int .i64 bb, .int .i64 nn] : List Value), u.oneCell' = true) := by
              intro u hu; simp at hu; rcases hu with rfl | rfl | rfl | rfl | rfl <;> rfl
            go_wp2_with (at_builtin; refine wpList_append_own _ rfl _ _ 89 rfl w.heap.size 92 i0 (.agg #[.int .i64 0, .int .i64 0, .int .i64 0, .int .i64 0, .int .i64 0]) 5 40 Try.underlying89 hi0 hz0 hz1 hz2 rfl (by decide) _ _ _ rfl HAL.out ⟨w2.heap.size, 0, none⟩ 1 1 [.int .i64 op, .int .i64 d, .int .i64 aa, .int .i64 bb, .int .i64 nn] rfl rfl HA2.out HA3.out (by unfold maxLen; omega) (by omega) (by simp; omega) ?_)
            intro v' w3 hown' hgrow _
            have HOW := Lib.hid hown'
            have hvb : ∀ q, (Value.slice va vl vc).ownBlock = some q → w.heap.size ≤ q := fun q hq => (World.ownsRow.lt HO2.out q hq).1
            have HB3 := Lib.hid ((HB2.out.alloc hsz2 (.cells #[.int .i64 op, .int .i64 d, .int .i64 aa, .int .i64 bb, .int .i64 nn] 92)).grown hgrow (by simp; omega) hvb)
            clear hown' hgrow hvb HAL HA2 HA3 p0 p1 p2 p3 p4
            go_wp2
            go_roundw
            case rel => exact ⟨k + 1, by omega, by go_num, by rw [HN2.out, List.length_append, flat5_append]; exact HOW.out, HB3.out⟩
            case measure => simp [intOf]; omega
        · have q : (ck == 0) = false := by simp [hc0]
          rw [q] at HGB
          have HN2 : Hid ((os.take (k + 1)).filter goodB = (os.take k).filter goodB) := by unfold Hid; rw [HNF.out, HGB.out]; simp
          clear hc0
          go_wp2
          go_roundw
          case rel => exact ⟨k + 1, by omega, by go_num, by rw [HN2.out]; exact HO2.out, HB2.out⟩
          case measure => simp [intOf]; omega
      · have ek : k = m := by omega
        subst ek
        have HE : Hid ((os.take k).filter goodB = res) := by
          unfold Hid
          rw [HS.out, HTK.out]
        rw [HE.out] at HOWN
        go_wp2
        go_ret
        exact ⟨_, rfl, HOWN.out, HB.out⟩
end Go.Proofs.Ytnfgjcdiophphab
