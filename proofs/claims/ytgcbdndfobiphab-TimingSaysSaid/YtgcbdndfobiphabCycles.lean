/- timing's Straight and Cycles; the state stays valid. -/
import Derived.Test.YtgcbdndfobiphabIssue
import Derived.Test.YtgcbdndfobiphabOps5
namespace Go.Proofs.Ytgcbdndfobiphab
open Go.RowKit
set_option linter.unusedVariables false
set_option linter.unusedSimpArgs false

theorem startOf_free {S : TS} {op d a b : Int} {lat : Nat} (h : wrOf op d ≠ 0) : startOf S op d a b lat + lat ∉ S.wr := by
  unfold startOf
  simp only []
  rw [if_neg h]
  refine (skip_is S.wr lat (S.wr.length + 1) _ ?_).2.2
  unfold above
  exact Nat.lt_succ_of_le (List.length_filter_le _ _)

theorem insN_mem {l : List Nat} {e x : Nat} (h : x ∈ insN l e) : x = e ∨ x ∈ l := by
  unfold insN at h
  rcases List.mem_append.1 h with h | h
  · exact .inr (List.mem_of_mem_take h)
  · rcases List.mem_cons.1 h with h | h
    · exact .inl h
    · exact .inr (List.mem_of_mem_drop h)
theorem insN_len (l : List Nat) (e : Nat) : (insN l e).length = l.length + 1 := by simp [insN]; omega
theorem insN_cons (a : Nat) (l : List Nat) (e : Nat) (h : a < e) : insN (a :: l) e = a :: insN l e := by
  unfold insN
  rw [List.countP_cons_of_pos (by simpa using h)]
  simp
theorem insN_sorted {l : List Nat} {e : Nat} (h : l.Pairwise (· < ·)) (he : e ∉ l) : (insN l e).Pairwise (· < ·) := by
  induction l with
  | nil => simp [insN]
  | cons a l ih =>
    obtain ⟨h1, h2⟩ := List.pairwise_cons.1 h
    have hae : a ≠ e := fun h => he (by rw [h]; exact List.mem_cons_self)
    have hel : e ∉ l := fun h => he (List.mem_cons_of_mem _ h)
    by_cases hlt : a < e
    · rw [insN_cons a l e hlt]
      refine List.pairwise_cons.2 ⟨fun x hx => ?_, ih h2 hel⟩
      rcases insN_mem hx with rfl | hx
      · exact hlt
      · exact h1 x hx
    · have hz : List.countP (fun x => decide (x < e)) (a :: l) = 0 := by
        rw [List.countP_eq_zero]
        intro x hx
        simp only [decide_eq_true_eq, Nat.not_lt]
        rcases List.mem_cons.1 hx with rfl | hx
        · omega
        · have := h1 x hx; omega
      unfold insN
      rw [hz, List.take_zero, List.drop_zero, List.nil_append]
      refine List.pairwise_cons.2 ⟨fun x hx => ?_, h⟩
      rcases List.mem_cons.1 hx with rfl | hx
      · omega
      · have := h1 x hx; omega

theorem nextS_ok {S : TS} {B : Nat} (ok : S.Ok B) (op d a b : Int) (extra : Nat) (hx : extra ≤ 10000) (hl : S.wr.length < 16384) : (nextS S op d a b extra).Ok (B + 20016) ∧ (nextS S op d a b extra).wr.length ≤ S.wr.length + 1 := by
  have hlb := latOf_bd op
  have hst := startOf_le ok op d a b (latOf op + extra) (by omega)
  have hfr := startOf_free (S := S) (op := op) (d := d) (a := a) (b := b) (lat := latOf op + extra)
  have hfl := List.length_filter_le (fun x => decide (startOf S op d a b (latOf op + extra) + 1 + extra ≤ x)) S.wr
  unfold nextS
  dsimp only
  generalize startOf S op d a b (latOf op + extra) = t at *
  have hfm : ∀ x ∈ S.wr.filter (fun x => decide (t + 1 + extra ≤ x)), t + 1 + extra ≤ x ∧ x ≤ B + 20016 := fun x hx => by
    have h1 := List.mem_filter.1 hx
    have h2 := ok.w x h1.1
    simp at h1
    omega
  have hfs : (S.wr.filter (fun x => decide (t + 1 + extra ≤ x))).Pairwise (· < ·) := ok.s.filter _
  have h1 := ok.n
  have h2 := ok.d
  have h3 := ok.e
  refine ⟨⟨by show t + 1 + extra ≤ _; omega, ?_, by show max S.done (t + (latOf op + extra)) ≤ _; omega, ?_, ?_, ?_, ?_⟩, ?_⟩
  · show (if divB op then t + (latOf op + extra) else S.div) ≤ _
    split <;> omega
  · intro i
    have := ok.r i
    show (if wrOf op d = 0 then S.rd else setRd S.rd (wrOf op d).toNat (t + (latOf op + extra))) i ≤ _
    split
    · omega
    · unfold setRd; split <;> omega
  · show ∀ x ∈ (if wrOf op d = 0 then S.wr.filter (fun x => decide (t + 1 + extra ≤ x)) else if t + 1 + extra ≤ t + (latOf op + extra) then insN (S.wr.filter (fun x => decide (t + 1 + extra ≤ x))) (t + (latOf op + extra)) else S.wr.filter (fun x => decide (t + 1 + extra ≤ x))), t + 1 + extra ≤ x ∧ x ≤ _
    split
    · exact hfm
    · split
      · intro x hx
        rcases insN_mem hx with rfl | hx
        · omega
        · exact hfm x hx
      · exact hfm
  · show (if wrOf op d = 0 then S.wr.filter (fun x => decide (t + 1 + extra ≤ x)) else if t + 1 + extra ≤ t + (latOf op + extra) then insN (S.wr.filter (fun x => decide (t + 1 + extra ≤ x))) (t + (latOf op + extra)) else S.wr.filter (fun x => decide (t + 1 + extra ≤ x))).Pairwise (· < ·)
    split
    · exact hfs
    · rename_i h0
      split
      · exact insN_sorted hfs (fun h => hfr h0 (List.mem_filter.1 h).1)
      · exact hfs
  · show (if wrOf op d = 0 then S.wr.filter (fun x => decide (t + 1 + extra ≤ x)) else if t + 1 + extra ≤ t + (latOf op + extra) then insN (S.wr.filter (fun x => decide (t + 1 + extra ≤ x))) (t + (latOf op + extra)) else S.wr.filter (fun x => decide (t + 1 + extra ≤ x))).length ≤ _
    split
    · omega
    · split
      · rw [insN_len]; omega
      · omega
  · show (if wrOf op d = 0 then S.wr.filter (fun x => decide (t + 1 + extra ≤ x)) else if t + 1 + extra ≤ t + (latOf op + extra) then insN (S.wr.filter (fun x => decide (t + 1 + extra ≤ x))) (t + (latOf op + extra)) else S.wr.filter (fun x => decide (t + 1 + extra ≤ x))).length ≤ _
    split
    · omega
    · split
      · rw [insN_len]; omega
      · omega

def strB (op : Int) : Bool := decide (1 ≤ op ∧ op ≤ 15) || op == 23
theorem straight_any (op : Int) (w : World) : Calls Try.prog 12 #[.int .i64 op] w fun e w' => e = .returned (.bool (strB op)) ∧ w = w' := by
  have hs : strB op = (decide (1 ≤ op) && decide (op ≤ 15) || op == 23) := by unfold strB; rw [Bool.decide_and]
  obtain ⟨r, hr⟩ : ∃ r, r = strB op := ⟨_, rfl⟩
  rw [← hr] at hs ⊢
  have HS := Lib.hid hs
  clear hs hr
  cases h1 : decide (1 ≤ op) <;> cases h2 : decide (op ≤ 15) <;> cases h3 : (op == 23)
  all_goals
    rw [h1, h2, h3] at HS
    have e1 := decide_eq_true_eq (p := 1 ≤ op)
    have e2 := decide_eq_true_eq (p := op ≤ 15)
    clear e1 e2
    go_enter Try.func12, Try.ntmps12
    go_wp2
    go_ret
    exact ⟨ret_bool (by rw [HS.out]; rfl), rfl⟩

def GoodOp (o : Op5) : Prop := checkE o.op o.d o.a o.b o.n = 0 ∧ strB o.op = true
theorem good_regs {op d a b n : Int} (h : checkE op d a b n = 0) : (0 ≤ d ∧ d ≤ 15) ∧ (0 ≤ a ∧ a ≤ 15) ∧ (0 ≤ b ∧ b ≤ 15) := by
  unfold checkE at h
  by_cases h1 : inB op 0 24 = false
  · rw [if_pos h1] at h; omega
  · rw [if_neg h1] at h
    by_cases h2 : rangeBad d a b n = true
    · rw [if_pos h2] at h; omega
    · simp only [rangeBad, Bool.or_eq_true, Bool.not_eq_true', not_or, Bool.not_eq_false] at h2
      obtain ⟨⟨⟨h3, h4⟩, h5⟩, h6⟩ := h2
      exact ⟨inB_true.1 h3, inB_true.1 h4, inB_true.1 h5⟩
def zeroTS : TS := ⟨0, 0, 0, fun _ => 0, []⟩
def runS (l : List Op5) : TS := l.foldl (fun S o => nextS S o.op o.d o.a o.b 0) zeroTS
theorem runS_snoc (l : List Op5) (o : Op5) : runS (l ++ [o]) = nextS (runS l) o.op o.d o.a o.b 0 := by simp [runS, List.foldl_append]
theorem runS_ok : ∀ (n : Nat) (l : List Op5), l.length = n → n ≤ 4096 → (runS l).Ok (n * 20016) ∧ (runS l).wr.length ≤ n
  | 0, l, h, _ => by
    obtain rfl : l = [] := List.length_eq_zero_iff.1 h
    exact ⟨⟨Nat.le_refl _, Nat.le_refl _, Nat.le_refl _, fun _ => Nat.le_refl _, fun x h => by simp [runS, zeroTS] at h, List.Pairwise.nil, by simp [runS, zeroTS]⟩, Nat.le_refl _⟩
  | n + 1, l, h, hn => by
    obtain ⟨l', o, rfl⟩ : ∃ l' o, l = l' ++ [o] := ⟨l.dropLast, l.getLast (by intro e; simp [e] at h), (List.dropLast_concat_getLast _).symm⟩
    simp at h
    obtain ⟨h1, h2⟩ := runS_ok n l' h (by omega)
    rw [runS_snoc]
    obtain ⟨h3, h4⟩ := nextS_ok h1 o.op o.d o.a o.b 0 (by omega) (by omega)
    exact ⟨by rw [Nat.add_mul, Nat.one_mul]; exact h3, by omega⟩

theorem setRowGr (w : World) (g : Nat) (cs : Array Value) : w.grownBy (w.setRow g cs) (some g) :=
  ⟨rfl, rfl, rfl, by simp [World.setRow], fun k _ hk => by simp only [World.setRow, Array.getElem?_modify]; rw [if_neg (fun e => hk (by rw [e]))]⟩
theorem setRowBlk {w : World} {g : Nat} {t : TypeId} {old : List Value} (h : Blk w g t old) (cs : List Value) : Blk (w.setRow g cs.toArray) g t cs := by
  unfold Blk at h ⊢
  simp [World.setRow, Array.getElem?_modify, h]
theorem runS_take (l : List Op5) (k : Nat) (h : k < l.length) : runS (l.take (k + 1)) = nextS (runS (l.take k)) l[k].op l[k].d l[k].a l[k].b 0 := by
  rw [List.take_add_one, List.getElem?_eq_getElem h]
  exact runS_snoc _ _

set_option maxRecDepth 100000 in
set_option maxHeartbeats 4000000 in
theorem cycles_ok (os : List Op5) (a : Option Addr) (n c : Nat) (w : World) (h : Came w a n c 5 (os.map opC)) (hn : n ≤ 4096) (hg : ∀ o ∈ os, GoodOp o) :
    Calls Try.prog 20 #[.slice a n c] w fun e w' => e = .returned (.tuple #[.int .i64 ((runS os).done : Int), .int .i64 0]) ∧ Below w.heap.size w w' := by
  have hl : os.length = n := by simpa using h.count
  have HL := Lib.hid hl
  have HC := Lib.hid h
  have HG := Lib.hid hg
  have hle := h.le
  have hmx := h.max
  clear h hl hg
  go_enter Try.func20, Try.ntmps20
  go_wp2_with fail
  go_loopw [2, 3, 15] (fun r2 r3 u wr => r2 = .int .i64 0 ∧ r3 = .int .i64 0 ∧ ∃ k : Nat, k ≤ n ∧ u = .int .i64 (k : Int) ∧ Below w.heap.size w wr) (fun r2 r3 u _ => n - (intOf u).toNat)
  case atStart => exact ⟨rfl, rfl, 0, Nat.zero_le _, rfl, Below.refl _ _⟩
  case round =>
    obtain ⟨rfl, rfl, k, hk, rfl, hb⟩ := hrel
    have HB := Lib.hid hb
    clear hb
    by_cases hlt : k < n
    · have hcr := HC.out.below HB.out
      obtain ⟨b', off, ea, hbl, hcell⟩ := came_ops hcr (by omega)
      subst ea
      have hkl : k < os.length := by have := HL.out; omega
      have ho := hcell k hkl
      have hgo := HG.out _ (List.getElem_mem hkl)
      generalize os[k] = o at ho hgo
      obtain ⟨op, d, aa, bb, nn⟩ := o
      obtain ⟨c0, c1, c2, c3, c4⟩ := ho
      obtain ⟨hck, hst⟩ := hgo
      simp only [] at c0 c1 c2 c3 c4 hck hst
      have HIC := fun w => Lib.hid ((check_any op d aa bb nn w).mono (R' := fun e w' => e = .returned (.int .i64 0) ∧ Below w.heap.size w w') (fun e w' h => by obtain ⟨rfl, hb⟩ := h; rw [hck]; exact ⟨rfl, hb⟩))
      have HST := fun w => Lib.hid (straight_any op w)
      rw [hst] at HST
      clear hcr hcell hck hst hkl
      go_wp2_with fail
      have hq := Blk.new wr [.int .i64 op, .int .i64 d, .int .i64 aa, .int .i64 bb, .int .i64 nn] 27
      refine (HIC _).out.mono ?_
      rintro e w2 ⟨rfl, hb2⟩
      have HB2 := Lib.hid (HB.out.trans ((((Below.refl _ _).alloc (Nat.le_refl _) _).trans (hb2.mono (by simp))).mono HB.out.size))
      obtain ⟨p0, p1, p2, p3, p4⟩ := op_cells5 (hq.below hb2 hq.lt)
      clear hq hb2 c0 c1 c2 c3 c4
      go_wp2_with fail
      refine (HST _).out.mono ?_
      rintro e w' ⟨rfl, rfl⟩
      go_wp2
      go_roundw
      case rel => exact ⟨rfl, rfl, k + 1, by omega, by go_num, HB2.out⟩
      case measure => simp [intOf]; omega
    · have ek : k = n := by omega
      subst ek
      go_wp2_with fail
      have hz : w.heap.size ≤ wr.heap.size := HB.out.size
      have hq0 := Blk.new wr (stCells zeroTS (.slice none 0 0)) 25
      have hb0 : Below w.heap.size w (wr.alloc (.cells #[.int .i64 0, .int .i64 0, .int .i64 0, .int .i64 0, .int .i64 0, .int .i64 0, .int .i64 0, .int .i64 0, .int .i64 0, .int .i64 0, .int .i64 0, .int .i64 0, .int .i64 0, .int .i64 0, .int .i64 0, .int .i64 0, .int .i64 0, .int .i64 0, .int .i64 0, .slice none 0 0] 25)) := HB.out.alloc hz _
      obtain ⟨Z, hZ⟩ : ∃ Z, Z = wr.heap.size := ⟨_, rfl⟩
      have hq1 : Blk (wr.alloc (.cells #[.int .i64 0, .int .i64 0, .int .i64 0, .int .i64 0, .int .i64 0, .int .i64 0, .int .i64 0, .int .i64 0, .int .i64 0, .int .i64 0, .int .i64 0, .int .i64 0, .int .i64 0, .int .i64 0, .int .i64 0, .int .i64 0, .int .i64 0, .int .i64 0, .int .i64 0, .slice none 0 0] 25)) Z 25 (stCells zeroTS (.slice none 0 0)) := by rw [hZ]; exact hq0
      rw [← hZ] at hz ⊢
      clear hq0 hZ
      generalize wr.alloc (.cells #[.int .i64 0, .int .i64 0, .int .i64 0, .int .i64 0, .int .i64 0, .int .i64 0, .int .i64 0, .int .i64 0, .int .i64 0, .int .i64 0, .int .i64 0, .int .i64 0, .int .i64 0, .int .i64 0, .int .i64 0, .int .i64 0, .int .i64 0, .int .i64 0, .int .i64 0, .slice none 0 0] 25) = wz at hb0 hq1 ⊢
      have HQ1 := Lib.hid hq1
      have HB0 := Lib.hid hb0
      clear hq1 hb0 HB hk hlt
      go_loopw [31] (fun u wr => ∃ (k' : Nat) (wv : Value), k' ≤ k ∧ u = .int .i64 (k' : Int) ∧ Blk wr Z 25 (stCells (runS (os.take k')) wv) ∧ OwnI wr (Z + 1) wv (wrL (runS (os.take k')).wr) ∧ Below w.heap.size w wr) (fun u _ => k - (intOf u).toNat)
      case atStart => exact ⟨0, _, Nat.zero_le _, rfl, HQ1.out, World.ownsRow_nil _ _ _ _, HB0.out⟩
      case round =>
        clear HQ1 HB0
        obtain ⟨k', wv, hk', rfl, hq, hown, hb⟩ := hrel
        have HB := Lib.hid hb
        have HQ := Lib.hid hq
        have HOWN := Lib.hid hown
        obtain ⟨va, vl, vc, rfl⟩ := owns_shape hown
        clear hb hown
        by_cases hlt : k' < k
        · have hcr := HC.out.below HB.out
          obtain ⟨b', off, ea, hbl, hcell⟩ := came_ops hcr (by omega)
          subst ea
          have hkl : k' < os.length := by have := HL.out; omega
          have ho := hcell k' hkl
          have hgo := HG.out _ (List.getElem_mem hkl)
          have HT := Lib.hid (runS_take os k' hkl)
          generalize os[k'] = o at ho hgo HT
          obtain ⟨op, d, aa, bb, nn⟩ := o
          obtain ⟨c0, c1, c2, c3, c4⟩ := ho
          obtain ⟨hck, hst⟩ := hgo
          simp only [] at c0 c1 c2 c3 c4 hck hst HT
          obtain ⟨rd, ra, rb⟩ := good_regs hck
          obtain ⟨hok, hwl⟩ := runS_ok k' (os.take k') (by rw [List.length_take]; omega) (by omega)
          generalize runS (os.take k') = S at hok hwl HT HQ HOWN hq
          have hzw := hq.lt
          have HI := fun w h => Lib.hid (issue_ok S (.slice va vl vc) op d aa bb nn 0 w (k' * 20016) (by omega) (by omega) hck rd ra rb hok h)
          have HSZ : Hid ((Try.prog.info? 25).map (·.size) = some (stCells S (.slice va vl vc)).toArray.size) := by unfold Hid; kernel_rfl
          have HAL := Lib.hid (hq.alloc (.cells #[.int .i64 op, .int .i64 d, .int .i64 aa, .int .i64 bb, .int .i64 nn] 27))
          clear hcr hcell hck hst hkl hok rd ra rb hq
          go_wp2_with (refine wpList_load_row rfl 25 _ rfl Z rfl _ (stCells S (.slice va vl vc)).toArray _ _ HAL.out Try.underlying25 rfl HSZ.out ?_)
          have how0 : OwnI (wr.alloc (.cells #[.int .i64 op, .int .i64 d, .int .i64 aa, .int .i64 bb, .int .i64 nn] 27)) (Z + 1) (.slice va vl vc) (wrL S.wr) := World.ownsRow.alloc HOWN.out _
          refine (HI _ (wrAt_own how0)).out.mono ?_
          rintro e w2 ⟨wv', rfl, hown2, hb2⟩
          obtain ⟨va', vl', vc', hv'⟩ := owns_shape hown2
          subst hv'
          have HB2 := Lib.hid (HB.out.trans ((((Below.refl _ _).alloc (Nat.le_refl _) _).trans (hb2.mono (by simp))).mono HB.out.size))
          have HQ2 := Lib.hid (HAL.out.below hb2 (by simp; omega))
          have how2 : OwnI w2 (Z + 1) (.slice va' vl' vc') (wrL (nextS S op d aa bb 0).wr) := owns_base hown2 (by simp; omega)
          have HO2 := Lib.hid how2
          have HSZ2 : Hid ((Try.prog.info? 25).map (·.size) = some (stCells (nextS S op d aa bb 0) (.slice va' vl' vc')).toArray.size) := by unfold Hid; kernel_rfl
          clear hown2 hb2 how0 how2 HI HAL HSZ c0 c1 c2 c3 c4 HOWN HQ
          go_wp2_with (refine wpList_store_rowTo rfl 25 _ _ rfl rfl Z (stCells (nextS S op d aa bb 0) (.slice va' vl' vc')).toArray rfl rfl _ _ HQ2.out HSZ2.out rfl (st_one _ _ rfl) ?_)
          go_roundw
          case rel =>
            have hgr : w2.grownBy (w2.setRow Z (stCells (nextS S op d aa bb 0) (.slice va' vl' vc')).toArray) (some Z) := setRowGr _ _ _
            refine ⟨k' + 1, .slice va' vl' vc', by omega, by go_num, ?_, ?_, HB2.out.trans (grown_below hgr (fun g hg => by simp at hg; omega) HB2.out.size)⟩
            · rw [HT.out]
              exact setRowBlk HQ2.out _
            · rw [HT.out]
              exact World.ownsRow.kept HO2.out hgr (.inr (fun e => by have := (World.ownsRow.lt HO2.out _ e).1; omega))
          case measure => simp [intOf]; omega
        · have ek : k' = k := by omega
          subst ek
          have HE : Hid (os.take k' = os) := List.take_of_length_le (by have := HL.out; omega)
          rw [HE.out] at HQ
          have s2 := HQ.out.cell 2
          have e2 : (stCells (runS os) (.slice va vl vc))[2]? = some (.int .i64 ((runS os).done : Int)) := rfl
          rw [e2] at s2
          clear e2
          go_wp2
          refine bodyPost_ret (results_tmp2 rfl _ _ _) rfl ⟨rfl, HB.out⟩
end Go.Proofs.Ytgcbdndfobiphab
