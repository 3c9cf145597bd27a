/- pipe's Flush: a delay of at most 100 cycles. -/
import Derived.Test.YtnfgjcdiophphaaPipeMath
import Derived.BigRegion
namespace Go.Proofs.Ytnfgjcdiophphaa
open Go.RowKit
set_option linter.unusedVariables false
set_option linter.unusedSimpArgs false

theorem pipe_set0 (S : TS) (wv : Value) (n e : Nat) : (pipeCells S wv n).set 0 (.int .i64 (e : Int)) = pipeCells { S with next := e } wv n := rfl
theorem pipe_set2 (S : TS) (wv : Value) (n e : Nat) : (pipeCells S wv n).set 2 (.int .i64 (e : Int)) = pipeCells { S with done := e } wv n := rfl
theorem pipe_set19 (S : TS) (wv v : Value) (n : Nat) : (pipeCells S wv n).set 19 v = pipeCells S v n := rfl
theorem pipe_all {w : World} {p : Nat} {S : TS} {wv : Value} {n : Nat} (h : PipeAt w p S wv n) : w.cell? ⟨p, 0, none⟩ = some (.int .i64 (S.next : Int)) ∧ w.cell? ⟨p, 2, none⟩ = some (.int .i64 (S.done : Int)) ∧ w.cell? ⟨p, 19, none⟩ = some wv :=
  ⟨h.cell 0, h.cell 2, h.cell 19⟩

def FlushPost (p : Nat) (S : TS) (k n : Nat) (w : World) (e : Ending) (w' : World) : Prop :=
  e = .returned (.int .i64 0) ∧ ∃ wv', PipeAt w' p (flushS S k) wv' n ∧ OwnI w' w.heap.size wv' (wrL (flushS S k).wr) ∧ w.grownBy w' (some p)

set_option maxRecDepth 100000 in
set_option maxHeartbeats 4000000 in
theorem flush_ok (S : TS) (wv : Value) (p n k : Nat) (w : World) (B base : Nat) (hB : B ≤ 1152921504606846976) (hk : k ≤ 100) (ok : S.Ok B) (hpb : p < base) (hw : OwnI w base wv (wrL S.wr)) (hp : PipeAt w p S wv n) :
    Calls Try.prog 33 #[.pointer (some ⟨p, 0, none⟩), .int .i64 (k : Int)] w (FlushPost p S k n w) := by
  obtain ⟨wa, wl, wc, rfl⟩ := owns_shape hw
  have hwl : wl = S.wr.length := by simpa [wrL] using (ownI_came hw).1
  subst hwl
  have HP := Lib.hid hp
  have HW := Lib.hid hw
  obtain ⟨c0, c2, c19⟩ := pipe_all hp
  have f0 := hp.free 0
  have hpl := hp.lt
  have x1 : decide ((k : Int) < 0) = false := decide_eq_false (by omega)
  have x2 : decide ((100 : Int) < (k : Int)) = false := decide_eq_false (by omega)
  have hnb := ok.n
  have heb := ok.e
  have hwlen := ok.l
  have HS : Hid (flushS S k = { S with next := S.next + k, done := max S.done (S.next + k), wr := S.wr.filter (fun x => decide (S.next + k ≤ x)) }) := rfl
  obtain ⟨S', hS'⟩ : ∃ S', S' = flushS S k := ⟨_, rfl⟩
  unfold FlushPost
  rw [← hS'] at HS ⊢
  have HOK := Lib.hid ok
  obtain ⟨i0, hi0, hz0, hz1, hz2⟩ := info_parts Try.infoT3
  clear hp hw hS' ok
  go_enter Try.func33, Try.ntmps33
  go_upto_region 4 with fail
  have hn1 : ((S.next : Int) + (k : Int)) = ((S.next + k : Nat) : Int) := by omega
  rw [hn1]
  have hp1 : PipeAt (w.setCell ⟨p, 0, none⟩ (.int .i64 ((S.next + k : Nat) : Int))) p { S with next := S.next + k } (.slice wa S.wr.length wc) n := by
    have h := HP.out.set 0 (.int .i64 ((S.next + k : Nat) : Int))
    rw [pipe_set0] at h
    exact h
  have hw1 : OwnI (w.setCell ⟨p, 0, none⟩ (.int .i64 ((S.next + k : Nat) : Int))) base (.slice wa S.wr.length wc) (wrL S.wr) := ownI_setOther HW.out (p := ⟨p, 0, none⟩) hpb _
  have hg1 : w.grownBy (w.setCell ⟨p, 0, none⟩ (.int .i64 ((S.next + k : Nat) : Int))) (some p) := ⟨rfl, rfl, rfl, by simp, fun g hg hne => Below.heap_setCell _ _ _ _ (fun e => hne (by rw [e]))⟩
  generalize w.setCell ⟨p, 0, none⟩ (.int .i64 ((S.next + k : Nat) : Int)) = w1 at hp1 hw1 hg1 ⊢
  obtain ⟨nx, hnx⟩ : ∃ nx, nx = S.next + k := ⟨_, rfl⟩
  rw [← hnx] at hp1 HS hn1 ⊢
  have hnxb : nx ≤ B + 100 := by omega
  clear hnx c0 c2 c19 f0 HP HW
  have HP1 := Lib.hid hp1
  have HW1 := Lib.hid hw1
  have HG1 := Lib.hid hg1
  obtain ⟨c0, c2, c19⟩ := pipe_all hp1
  have f2 := hp1.free 2
  simp only [] at c0 c2
  clear hp1 hw1 hg1
  obtain ⟨dn, hdn⟩ : ∃ dn, dn = S.done := ⟨_, rfl⟩
  rw [← hdn] at c2 HS heb
  have HDN := Lib.hid hdn
  clear hdn
  have hmx : max (dn : Int) (nx : Int) = ((max dn nx : Nat) : Int) := by omega
  go_region
  rw [if_maxI]
  have hp2 : PipeAt (w1.setCell ⟨p, 2, none⟩ (.int .i64 ((max dn nx : Nat) : Int))).drew p ⟨nx, S.div, max dn nx, S.rd, S.wr⟩ (.slice wa S.wr.length wc) n := by
    have h := HP1.out.set 2 (.int .i64 ((max dn nx : Nat) : Int))
    rw [pipe_set2] at h
    exact h
  have hw2 : OwnI (w1.setCell ⟨p, 2, none⟩ (.int .i64 ((max dn nx : Nat) : Int))).drew base (.slice wa S.wr.length wc) (wrL S.wr) := World.ownsRow.drew (ownI_setOther HW1.out (p := ⟨p, 2, none⟩) hpb _)
  have hg2 : w.grownBy (w1.setCell ⟨p, 2, none⟩ (.int .i64 ((max dn nx : Nat) : Int))).drew (some p) := ⟨HG1.out.os, HG1.out.tape, HG1.out.output, by simpa using HG1.out.size, fun g hg hne => (Below.heap_setCell _ _ _ _ (fun e => hne (by rw [e]))).trans (HG1.out.block g hg hne)⟩
  generalize (w1.setCell ⟨p, 2, none⟩ (.int .i64 ((max dn nx : Nat) : Int))).drew = w2 at hp2 hw2 hg2 ⊢
  clear c0 c2 c19 f2 hmx HP1 HW1 HG1
  have HP2 := Lib.hid hp2
  have HW2 := Lib.hid hw2
  have HG2 := Lib.hid hg2
  have hsz2 := hg2.size
  obtain ⟨c0, c2, c19⟩ := pipe_all hp2
  simp only [] at c0 c2
  clear hp2 hw2 hg2 c2
  go_wp2_with fail
  have HC2 := Lib.hid (ownI_came HW2.out).2
  have hcle := HC2.out.le
  have hcmx := HC2.out.max
  have hpl2 := HP2.out.lt
  clear c0 c19 hn1
  go_loopw [5, 45] (fun v u wr => ∃ (j : Nat), j ≤ S.wr.length ∧ u = .int .i64 (j : Int) ∧ OwnI wr w2.heap.size v (wrL ((S.wr.take j).filter fun x => decide (nx ≤ x))) ∧ Below w2.heap.size w2 wr) (fun _ u _ => S.wr.length - (intOf u).toNat)
  case atStart => exact ⟨0, Nat.zero_le _, rfl, World.ownsRow_nil _ _ _ _, Below.refl _ _⟩
  case round =>
    obtain ⟨j, hj, rfl, hown, hbel⟩ := hrel
    obtain ⟨va, vl, vc, rfl⟩ := owns_shape hown
    have HOWN := Lib.hid hown
    have HBEL := Lib.hid hbel
    have HPR := Lib.hid (HP2.out.below hbel hpl2)
    have HCR := Lib.hid (HC2.out.below hbel)
    have hzs := hbel.size
    have hfl : (wrL ((S.wr.take j).filter fun x => decide (nx ≤ x))).length ≤ 16384 := by
      have := List.length_filter_le (fun x => decide (nx ≤ x)) (S.wr.take j)
      simp only [wrL, List.length_map]
      simp only [List.length_take] at this
      omega
    obtain ⟨c0, c2, c19⟩ := pipe_all HPR.out
    have f19 := HPR.out.free 19
    have hplr := HPR.out.lt
    simp only [] at c0
    clear hown hbel c2
    by_cases hlt : j < S.wr.length
    · obtain ⟨b', off, ea, _, hcell⟩ := HCR.out.ints (by omega)
      subst ea
      have cl := hcell j (by simp [wrL]; exact hlt)
      obtain ⟨z, hz⟩ : ∃ z, z = S.wr[j] := ⟨_, rfl⟩
      have cl2 : wr.cell? ⟨b', off + j, none⟩ = some (.int .i64 (z : Int)) := by rw [cl, hz]; simp [wrL]
      have HNF : Hid ((S.wr.take (j + 1)).filter (fun x => decide (nx ≤ x)) = (S.wr.take j).filter (fun x => decide (nx ≤ x)) ++ if nx ≤ z then [z] else []) := by
        unfold Hid
        rw [List.take_add_one, List.getElem?_eq_getElem hlt, List.filter_append, ← hz]
        congr 1
        by_cases h : nx ≤ z <;> simp [h]
      have hzb : z ≤ B := (HOK.out.w z (by rw [hz]; exact List.getElem_mem hlt)).2
      clear hcell cl hz c19 f19
      by_cases hnz : nx ≤ z
      · have d1 : decide (nx ≤ z) = true := decide_eq_true hnz
        have d2 : decide ((nx : Int) ≤ (z : Int)) = true := decide_eq_true (by omega)
        rw [if_pos hnz] at HNF
        clear hnz
        have hal : (wr.alloc (.cells #[.int .i64 (z : Int)] 3)).ownsRow w2.heap.size 3 1 (.slice va vl vc) (wrL ((S.wr.take j).filter fun x => decide (nx ≤ x))).length (intVs (wrL ((S.wr.take j).filter fun x => decide (nx ≤ x)))) := World.ownsRow.alloc HOWN.out _
        have HAL := Lib.hid hal
        have HA2 := Lib.hid (cell_one_new wr (.int .i64 (z : Int)) 3)
        have HA3 : Hid (∀ u ∈ ([Value.int .i64 (z : Int)] : List Value), u.oneCell' = true) := by intro u hu; simp at hu; subst hu; rfl
        clear hal
        go_wp2_with (at_builtin; refine wpList_append_own _ rfl _ _ 23 rfl w2.heap.size 3 i0 (.int .i64 0) 1 8 Try.underlying23 hi0 hz0 hz1 hz2 rfl (by decide) _ _ _ rfl HAL.out ⟨wr.heap.size, 0, none⟩ 1 1 [.int .i64 (z : Int)] rfl rfl HA2.out HA3.out (by unfold maxLen; omega) (by omega) (by simp; omega) ?_)
        · intro v' w3 hown' hgrow _
          have HOW := Lib.hid hown'
          have hvb : ∀ q, (Value.slice va vl vc).ownBlock = some q → w2.heap.size ≤ q := fun q hq => (World.ownsRow.lt HOWN.out q hq).1
          have HB3 := Lib.hid ((HBEL.out.alloc (by omega) (.cells #[.int .i64 (z : Int)] 3)).grown hgrow (by simp; omega) hvb)
          clear hown' hgrow hvb
          go_wp2
          go_roundw
          case rel => exact ⟨j + 1, by omega, by go_num, by
            rw [HNF.out, wrL_append]
            unfold OwnI
            rw [List.length_append, intVs_append]
            exact HOW.out, HB3.out⟩
          case measure => simp [intOf]; omega
      · have d1 : decide (nx ≤ z) = false := decide_eq_false hnz
        have d2 : decide ((nx : Int) ≤ (z : Int)) = false := decide_eq_false (by omega)
        rw [if_neg hnz, List.append_nil] at HNF
        clear hnz
        go_wp2
        go_roundw
        case rel => exact ⟨j + 1, by omega, by go_num, by rw [HNF.out]; exact HOWN.out, HBEL.out⟩
        case measure => simp [intOf]; omega
    · have ek : j = S.wr.length := by omega
      subst ek
      rw [List.take_length] at HOWN
      have hS' : S' = ⟨nx, S.div, max dn nx, S.rd, S.wr.filter (fun x => decide (nx ≤ x))⟩ := HS.out
      subst hS'
      go_wp2_with fail
      go_ret
      refine ⟨rfl, .slice va vl vc, ?_, ?_, ?_⟩
      · have h := HPR.out.set 19 (.slice va vl vc)
        rw [pipe_set19] at h
        exact h
      · exact ownI_setOther (owns_base HOWN.out hsz2) (p := ⟨p, 19, none⟩) (by show p < w.heap.size; omega) _
      · exact ⟨HBEL.out.os.trans HG2.out.os, HBEL.out.tape.trans HG2.out.tape, HBEL.out.output.trans HG2.out.output, by simp; omega, fun g hg hne => (Below.heap_setCell _ _ _ _ (fun e => hne (by rw [e]))).trans ((HBEL.out.block g (by omega)).trans (HG2.out.block g hg hne))⟩

theorem flush_range (w : World) (p : Nat) : Calls Try.prog 33 #[.pointer (some ⟨p, 0, none⟩), .int .i64 101] w fun e w' => e = .returned (.int .i64 4) ∧ w' = w := by
  go_enter Try.func33, Try.ntmps33
  go_wp2
  go_ret
  exact ⟨rfl, rfl⟩
end Go.Proofs.Ytnfgjcdiophphaa
