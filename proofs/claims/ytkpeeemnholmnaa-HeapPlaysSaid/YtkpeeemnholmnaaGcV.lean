/- The contract of move.value. -/
import Derived.Test.YtkpeeemnholmnaaGcW
import Derived.BigQuiet
import Derived.Deep.QuietTactic
import Derived.WalkArith
import Derived.Deep.Cut
import Derived.Deep.CutRange
namespace Go.Proofs.Ytkpeeemnholmnaa
open Go.RowKit Go.Maps
set_option linter.unusedVariables false
set_option linter.unusedSimpArgs false

/-- a word that a collection may meet: odd, 0, or a pointer to an object -/
def GoodV (Src : List Nat) (yo : Bool) (nu : Nat) (v : Int) : Prop := (v % 2 = 1 ∧ -2147483648 ≤ v ∧ v ≤ 2147483647) ∨ v = 0 ∨ ∃ j : Nat, 0 < j ∧ j ≤ 65536 ∧ v = 2 * (j : Int) ∧ (j ∈ Src ∨ (yo = true ∧ nu ≤ j))
theorem over_tot {m0 : Nat → Int} {Src : List Nat} {b L : Nat} {cp : List Nat} {d : Nat → Bool} (hg : Gc m0 Src b L cp d) {j : Nat} (hj : j ∈ Src) (hcp : j ∉ cp) : tot m0 cp + osz m0 j ≤ tot m0 Src := by
  have ht := tot_sub (m0 := m0) (l := cp ++ [j]) (r := Src) (List.nodup_append.2 ⟨hg.nd, by simp, fun a ha c hc e => by simp at hc; subst hc; subst e; exact hcp ha⟩) (fun x hx => by
    rcases List.mem_append.1 hx with h | h
    · exact hg.sub x h
    · simp at h; rw [h]; exact hj)
  rw [tot_append] at ht
  have : tot m0 [j] = osz m0 j := by simp [tot]
  omega
def ValPost (q kb p mb : Nat) (rv : Value) (S : HS) (yo : Bool) (L b : Nat) (Src cp : List Nat) (d : Nat → Bool) (v : Int) (w : World) (e : Ending) (w' : World) : Prop :=
  Fr3 q kb mb w w' ∧ ((∃ cp', (∃ l, cp' = cp ++ l) ∧ Gc S.m Src b L cp' d ∧ MvSt w' q kb p mb rv S yo L b cp' d ∧ (∀ j ∈ Src, v = 2 * (j : Int) → j ∈ cp') ∧ e = .returned (.int .i64 (fwdC S.m b cp' v))) ∨
    (L < b + tot S.m Src ∧ MvFull w' q kb p mb rv S b L ∧ e = .returned (.int .i64 v)))

set_option maxHeartbeats 1000000 in
theorem value_isfull (w : World) (q kb p mb : Nat) (rv : Value) (S : HS) (b L : Nat) (h : MvFull w q kb p mb rv S b L) (v : Int) :
    Calls Try.prog 28 #[.pointer (some ⟨q, 0, none⟩), .int .i64 v] w fun e w' => e = .returned (.int .i64 v) ∧ w' = w := by
  obtain ⟨fr, hfr, yo, h1⟩ := h.st
  have c5 := h1.cell 5
  simp only [List.getElem?_cons_zero, List.getElem?_cons_succ] at c5
  clear h h1
  go_enter Try.func28, Try.ntmps28
  go_wp2_with fail
  go_ret
  exact ⟨rfl, rfl⟩

theorem len_tot (m0 : Nat → Int) : ∀ cp : List Nat, cp.length ≤ tot m0 cp
  | [] => Nat.le_refl _
  | j :: r => by
    have := len_tot m0 r
    have := osz_pos (m0 := m0) j
    show r.length + 1 ≤ osz m0 j + tot m0 r
    omega
theorem infoS_int : (Try.prog.info? 3).map (·.size) = some 1 := by kernel_rfl
theorem lookA {D : DataW Unit} {k : Lit} {z : DataW Unit} {a c : Int} (h : D.atKey k z = .lit (.int .i64 a)) (h2 : D.atKey k z = .lit (.int .i64 c)) : c = a := by
  have h3 := h.symm.trans h2
  injection h3 with h3
  injection h3 with _ h3
  exact h3.symm
section
variable (w : World) (q kb p mb : Nat) (rv : Value) (S : HS) (yo : Bool) (L b : Nat) (Src cp : List Nat) (d : Nat → Bool)
set_option maxHeartbeats 1000000 in
/-- a word that stays as it is -/
theorem value_skip (h : MvSt w q kb p mb rv S yo L b cp d) (v : Int) (hv : (v ≤ 0 ∨ v % 2 = 1) ∨ (yo = true ∧ youngB S.nursery v = false)) (hb : v ≤ 2147483647) :
    Calls Try.prog 28 #[.pointer (some ⟨q, 0, none⟩), .int .i64 v] w fun e w' => e = .returned (.int .i64 v) ∧ w' = w := by
  have c0 := h.st.cell 0
  have c4 := h.st.cell 4
  have c5 := h.st.cell 5
  simp only [List.getElem?_cons_zero, List.getElem?_cons_succ] at c0 c4 c5
  have HY := Lib.hid (inYoung_any w p S.nursery v hb h.hp.cells.c2)
  have HNO := fun hv => Lib.hid (object_no w p v hv)
  have HYF : Hid (v ≤ 0 ∨ v % 2 = 1 → youngB S.nursery v = false) := fun h => youngB_false.2 (by omega)
  clear h
  cases yo
  · have hv2 : v ≤ 0 ∨ v % 2 = 1 := by rcases hv with h | ⟨h, _⟩; exact h; cases h
    have HN := HNO hv2
    clear HY HYF HNO hv
    go_enter Try.func28, Try.ntmps28
    go_wp2_with fail
    refine HN.out.mono ?_
    rintro e w' ⟨rfl, rfl⟩
    go_wp2_with fail
    go_ret
    exact ⟨rfl, rfl⟩
  · have hy : youngB S.nursery v = false := by rcases hv with h | ⟨_, h⟩; exact HYF.out h; exact h
    rw [hy] at HY
    clear hv hy HYF HNO
    go_enter Try.func28, Try.ntmps28
    go_wp2_with fail
    refine HY.out.mono ?_
    rintro e w' ⟨rfl, rfl⟩
    go_wp2_with fail
    go_ret
    exact ⟨rfl, rfl⟩

set_option maxRecDepth 100000 in
set_option maxHeartbeats 4000000 in
/-- a pointer to an object that has been copied -/
theorem value_in (h : MvSt w q kb p mb rv S yo L b cp d) (ok : S.Ok) (hg : Gc S.m Src b L cp d) (hL : L ≤ S.stack) (hyo : yo = true → ∀ j ∈ Src, j < S.nursery) (j : Nat) (hj : j ∈ Src) (ho : ObjAt S j) (hcp : j ∈ cp) :
    Calls Try.prog 28 #[.pointer (some ⟨q, 0, none⟩), .int .i64 (2 * (j : Int))] w (ValPost q kb p mb rv S yo L b Src cp d (2 * (j : Int)) w) := by
  have c0 := h.st.cell 0
  have c1 := h.st.cell 1
  have c2 := h.st.cell 2
  have c3 := h.st.cell 3
  have c4 := h.st.cell 4
  have c5 := h.st.cell 5
  simp only [List.getElem?_cons_zero, List.getElem?_cons_succ] at c0 c1 c2 c3 c4 c5
  have f5 := h.st.free 5
  have f1 := h.st.free 1
  have hql := h.st.lt
  have hn16 : S.n ≤ 65536 := ok.n.2
  have hsn : S.stack ≤ S.n := ok.st
  have hj0 : 0 < j := (hg.sep j hj).1
  have hm0 : memC S.m b cp d j = S.m j := by
    have := hg.word (t := 0) hj (osz_pos j)
    rwa [Nat.add_zero] at this
  have hjn : j + hsize (S.m j) + 1 ≤ S.stack := by
    obtain ⟨⟨o1, o2⟩, o3, o4, ⟨o5, o6⟩, o7, ⟨o8, o9⟩, o10, o11⟩ := ok
    obtain ⟨_, h2⟩ := ho
    omega
  have HO : Hid (∀ wx, HeapSt wx p mb rv { S with m := memC S.m b cp d } → Calls Try.prog 34 #[.pointer (some ⟨p, 0, none⟩), .int .i64 (2 * (j : Int))] wx fun e w' => e = .returned (.int .i64 (hsize (S.m j) : Int)) ∧ ∃ n, w' = wx.drewN n) := fun wx hx => by
    have := object_ok wx p mb rv { S with m := memC S.m b cp d } hx ⟨ok.n, ok.st, ok.nu, ok.yo, ok.fr, ok.ol, ok.to, ok.two⟩ j (by unfold ObjAt at ho ⊢; simp only [hm0]; exact ho)
    simp only [hm0] at this
    exact this
  have HY : Hid (yo = true → ∀ wx, wx.cell? ⟨p, 2, none⟩ = some (.int .i64 (S.nursery : Int)) → Calls Try.prog 35 #[.pointer (some ⟨p, 0, none⟩), .int .i64 (2 * (j : Int))] wx fun e w' => e = .returned (.bool true) ∧ w' = wx) := fun hy wx hx => by
    have := inYoung_any wx p S.nursery (2 * (j : Int)) (by omega) hx
    rwa [youngB_true.2 ⟨by omega, by omega, by have := hyo hy j hj; omega⟩] at this
  have hpc2 := h.hp.cells.c2
  have e3 : 2 * (j : Int) / 2 = (j : Int) := by omega
  have HKEY := Lib.hid (keyOf_int_mk (P := Try.prog) (q := .i64) Try.underlying3 (a := (j : Int)) (WalkArith.wf_i64 (by omega)))
  have HST := Lib.hid h
  have HG := Lib.hid hg
  have hlim := hg.lim
  obtain ⟨D, hD1, hD2, hD3⟩ := h.mp
  have HD1 := Lib.hid hD1
  have HD2 := Lib.hid hD2
  have HD3 := Lib.hid hD3
  clear h hg ho hD1 hD2 hD3 hyo hm0
  obtain ⟨s, hs⟩ : ∃ s, s = hsize (S.m j) := ⟨_, rfl⟩
  rw [← hs] at HO hjn
  have hs4 : s ≤ 4095 := by rw [hs]; exact hsize_bd _
  have HOS : Hid (osz S.m j = s + 1) := by unfold Hid osz; rw [hs]
  clear hs
  obtain ⟨T, hT⟩ : ∃ T, T = b + tot S.m cp := ⟨_, rfl⟩
  rw [← hT] at c1 hlim
  have HT := Lib.hid hT
  clear hT
  have hsz32 : T + s + 1 ≤ 200000 := by omega
  have hne1 := HST.out.n2
  obtain ⟨hh1, hh2⟩ := HD2.out j hcp
  obtain ⟨A, hA⟩ : ∃ A, A = addrC S.m b cp j := ⟨_, rfl⟩
  have hAb : A ≤ 65536 := by
    have := (addrC_bd (m0 := S.m) (b := b) hcp).2
    have := osz_pos (m0 := S.m) j
    have := HT.out
    rw [hA]
    omega
  rw [← hA] at hh2
  have HA := Lib.hid hA
  have HH1 := Lib.hid hh1
  have HH2 := Lib.hid hh2
  have HEND : Hid (∀ n, ValPost q kb p mb rv S yo L b Src cp d (2 * (j : Int)) w (.returned (.int .i64 (2 * (A : Int)))) (w.drewN n)) := fun n => by
    refine ⟨Fr3.of_below (below_drewN_self _ _ _), .inl ⟨cp, ⟨[], by simp⟩, HG.out, HST.out.later (below_drewN_self _ _ _), fun k hk e => ?_, ?_⟩⟩
    · obtain rfl : k = j := by omega
      exact hcp
    · rw [fwdC_in hcp hj0, ← hA]
  clear hA hh1 hh2 hcp HD2 HD3
  cases yo
  case' true =>
    have HYY := Lib.hid (HY.out rfl)
    clear HY
    go_enter Try.func28, Try.ntmps28
    go_wp2_with fail
    refine (HYY.out _ hpc2).mono ?_
    rintro e w' ⟨rfl, hw'⟩
    rw [hw']
    clear hw' w' HYY
    go_wp2_with fail
  case' false =>
    clear HY
    go_enter Try.func28, Try.ntmps28
    go_wp2_with fail
  all_goals
    refine (HO.out _ HST.out.hp).mono ?_
    rintro e w' ⟨rfl, n1, rfl⟩
    clear HO
    go_wp2_with (at_lookup; refine wpList_lookup_own_ok_int _ rfl _ _ 67 rfl 3 3 .i64 Try.keyed3 Try.underlying67 Try.underlying3 (Try.zeroI3 _) kb cp.length D rfl HD1.out _ _ rfl HKEY.out ?_; intro c hat hwc; obtain rfl := lookA HH2.out hat; have hh1 := HH1.out; clear hat hwc)
    go_ret
    exact HEND.out _

set_option maxRecDepth 100000 in
set_option maxHeartbeats 4000000 in
/-- a pointer to an object for which there is no room -/
theorem value_over (h : MvSt w q kb p mb rv S yo L b cp d) (ok : S.Ok) (hg : Gc S.m Src b L cp d) (hL : L ≤ S.stack) (hyo : yo = true → ∀ j ∈ Src, j < S.nursery) (j : Nat) (hj : j ∈ Src) (ho : ObjAt S j) (hcp : j ∉ cp) (hfull : L < b + tot S.m cp + osz S.m j) (hfd : ∀ i, d i = true → b ≤ i) :
    Calls Try.prog 28 #[.pointer (some ⟨q, 0, none⟩), .int .i64 (2 * (j : Int))] w (ValPost q kb p mb rv S yo L b Src cp d (2 * (j : Int)) w) := by
  have c0 := h.st.cell 0
  have c1 := h.st.cell 1
  have c2 := h.st.cell 2
  have c3 := h.st.cell 3
  have c4 := h.st.cell 4
  have c5 := h.st.cell 5
  simp only [List.getElem?_cons_zero, List.getElem?_cons_succ] at c0 c1 c2 c3 c4 c5
  have f5 := h.st.free 5
  have f1 := h.st.free 1
  have hql := h.st.lt
  have hn16 : S.n ≤ 65536 := ok.n.2
  have hsn : S.stack ≤ S.n := ok.st
  have hj0 : 0 < j := (hg.sep j hj).1
  have hm0 : memC S.m b cp d j = S.m j := by
    have := hg.word (t := 0) hj (osz_pos j)
    rwa [Nat.add_zero] at this
  have hjn : j + hsize (S.m j) + 1 ≤ S.stack := by
    obtain ⟨⟨o1, o2⟩, o3, o4, ⟨o5, o6⟩, o7, ⟨o8, o9⟩, o10, o11⟩ := ok
    obtain ⟨_, h2⟩ := ho
    omega
  have HO : Hid (∀ wx, HeapSt wx p mb rv { S with m := memC S.m b cp d } → Calls Try.prog 34 #[.pointer (some ⟨p, 0, none⟩), .int .i64 (2 * (j : Int))] wx fun e w' => e = .returned (.int .i64 (hsize (S.m j) : Int)) ∧ ∃ n, w' = wx.drewN n) := fun wx hx => by
    have := object_ok wx p mb rv { S with m := memC S.m b cp d } hx ⟨ok.n, ok.st, ok.nu, ok.yo, ok.fr, ok.ol, ok.to, ok.two⟩ j (by unfold ObjAt at ho ⊢; simp only [hm0]; exact ho)
    simp only [hm0] at this
    exact this
  have HY : Hid (yo = true → ∀ wx, wx.cell? ⟨p, 2, none⟩ = some (.int .i64 (S.nursery : Int)) → Calls Try.prog 35 #[.pointer (some ⟨p, 0, none⟩), .int .i64 (2 * (j : Int))] wx fun e w' => e = .returned (.bool true) ∧ w' = wx) := fun hy wx hx => by
    have := inYoung_any wx p S.nursery (2 * (j : Int)) (by omega) hx
    rwa [youngB_true.2 ⟨by omega, by omega, by have := hyo hy j hj; omega⟩] at this
  have hpc2 := h.hp.cells.c2
  have e3 : 2 * (j : Int) / 2 = (j : Int) := by omega
  have HKEY := Lib.hid (keyOf_int_mk (P := Try.prog) (q := .i64) Try.underlying3 (a := (j : Int)) (WalkArith.wf_i64 (by omega)))
  have HST := Lib.hid h
  have HG := Lib.hid hg
  have hlim := hg.lim
  obtain ⟨D, hD1, hD2, hD3⟩ := h.mp
  have HD1 := Lib.hid hD1
  have HD2 := Lib.hid hD2
  have HD3 := Lib.hid hD3
  clear h hg ho hD1 hD2 hD3 hyo hm0
  obtain ⟨s, hs⟩ : ∃ s, s = hsize (S.m j) := ⟨_, rfl⟩
  rw [← hs] at HO hjn
  have hs4 : s ≤ 4095 := by rw [hs]; exact hsize_bd _
  have HOS : Hid (osz S.m j = s + 1) := by unfold Hid osz; rw [hs]
  clear hs
  obtain ⟨T, hT⟩ : ∃ T, T = b + tot S.m cp := ⟨_, rfl⟩
  rw [← hT] at c1 hlim
  have HT := Lib.hid hT
  clear hT
  have hsz32 : T + s + 1 ≤ 200000 := by omega
  have hne1 := HST.out.n2
  have HH1 := Lib.hid (HD3.out j hcp)
  have HCP := Lib.hid hcp
  have hfl : L < T + s + 1 := by rw [HOS.out, ← HT.out] at hfull; omega
  have HEND : Hid (∀ n, ValPost q kb p mb rv S yo L b Src cp d (2 * (j : Int)) w (.returned (.int .i64 (2 * (j : Int)))) ((w.drewN n).setCell ⟨q, 5, none⟩ (.bool true))) := fun n => by
    have hs2 := HST.out.later (below_drewN_self w.heap.size w n)
    refine ⟨(Fr3.of_below (below_drewN_self _ _ n)).trans (Fr3.set (a := ⟨q, 5, none⟩) (.inl rfl) _), .inr ⟨by have := over_tot HG.out hj hcp; omega, ⟨⟨b + tot S.m cp, by have := HT.out; omega, yo, ?_⟩, ⟨memC S.m b cp d, ?_, fun i hi => ?_⟩, hs2.n2, hs2.n3, hs2.n6⟩, rfl⟩⟩
    · exact hs2.st.set 5 (.bool true)
    · have h9 := hs2.hp
      exact ⟨h9.st.setOther (a := ⟨q, 5, none⟩) (Ne.symm hs2.n2) _, h9.mm.setOther (a := ⟨q, 5, none⟩) (Ne.symm hs2.n3) _, owns_other (a := ⟨q, 5, none⟩) h9.rr hs2.n6 _, h9.d1, h9.d2, h9.d3⟩
    · have hl := HG.out.lim
      unfold memC
      cases hd : d i
      · simp only [Bool.false_eq_true, if_false]
        exact rawC_out (by omega)
      · exact absurd (HG.out.dn i hd) (by have := hfd i hd; omega)
  have hgt : (L : Int) < (T : Int) + s + 1 := by omega
  clear hcp HD2 HD3 hfull
  cases yo
  case' true =>
    have HYY := Lib.hid (HY.out rfl)
    clear HY
    go_enter Try.func28, Try.ntmps28
    go_wp2_with fail
    refine (HYY.out _ hpc2).mono ?_
    rintro e w' ⟨rfl, hw'⟩
    rw [hw']
    clear hw' w' HYY
    go_wp2_with fail
  case' false =>
    clear HY
    go_enter Try.func28, Try.ntmps28
    go_wp2_with fail
  all_goals
    refine (HO.out _ HST.out.hp).mono ?_
    rintro e w' ⟨rfl, n1, rfl⟩
    clear HO
    go_wp2_with (at_lookup; refine wpList_lookup_own_ok_int _ rfl _ _ 67 rfl 3 3 .i64 Try.keyed3 Try.underlying67 Try.underlying3 (Try.zeroI3 _) kb cp.length D rfl HD1.out _ _ rfl HKEY.out ?_; intro c hat hwc; have hh1 := HH1.out; clear hat hwc)
    go_quiet (fail)
    go_wp2_with fail
    go_ret
    exact HEND.out _

set_option maxRecDepth 100000 in
set_option maxHeartbeats 4000000 in
/-- a pointer to an object that is copied now -/
theorem value_new (h : MvSt w q kb p mb rv S yo L b cp d) (ok : S.Ok) (hg : Gc S.m Src b L cp d) (hL : L ≤ S.stack) (hyo : yo = true → ∀ j ∈ Src, j < S.nursery) (j : Nat) (hj : j ∈ Src) (ho : ObjAt S j) (hcp : j ∉ cp) (hfit : b + tot S.m cp + osz S.m j ≤ L) :
    Calls Try.prog 28 #[.pointer (some ⟨q, 0, none⟩), .int .i64 (2 * (j : Int))] w (ValPost q kb p mb rv S yo L b Src cp d (2 * (j : Int)) w) := by
  have c0 := h.st.cell 0
  have c1 := h.st.cell 1
  have c2 := h.st.cell 2
  have c3 := h.st.cell 3
  have c4 := h.st.cell 4
  have c5 := h.st.cell 5
  simp only [List.getElem?_cons_zero, List.getElem?_cons_succ] at c0 c1 c2 c3 c4 c5
  have f5 := h.st.free 5
  have f1 := h.st.free 1
  have hql := h.st.lt
  have hn16 : S.n ≤ 65536 := ok.n.2
  have hsn : S.stack ≤ S.n := ok.st
  have hj0 : 0 < j := (hg.sep j hj).1
  have hm0 : memC S.m b cp d j = S.m j := by
    have := hg.word (t := 0) hj (osz_pos j)
    rwa [Nat.add_zero] at this
  have hjn : j + hsize (S.m j) + 1 ≤ S.stack := by
    obtain ⟨⟨o1, o2⟩, o3, o4, ⟨o5, o6⟩, o7, ⟨o8, o9⟩, o10, o11⟩ := ok
    obtain ⟨_, h2⟩ := ho
    omega
  have HO : Hid (∀ wx, HeapSt wx p mb rv { S with m := memC S.m b cp d } → Calls Try.prog 34 #[.pointer (some ⟨p, 0, none⟩), .int .i64 (2 * (j : Int))] wx fun e w' => e = .returned (.int .i64 (hsize (S.m j) : Int)) ∧ ∃ n, w' = wx.drewN n) := fun wx hx => by
    have := object_ok wx p mb rv { S with m := memC S.m b cp d } hx ⟨ok.n, ok.st, ok.nu, ok.yo, ok.fr, ok.ol, ok.to, ok.two⟩ j (by unfold ObjAt at ho ⊢; simp only [hm0]; exact ho)
    simp only [hm0] at this
    exact this
  have HY : Hid (yo = true → ∀ wx, wx.cell? ⟨p, 2, none⟩ = some (.int .i64 (S.nursery : Int)) → Calls Try.prog 35 #[.pointer (some ⟨p, 0, none⟩), .int .i64 (2 * (j : Int))] wx fun e w' => e = .returned (.bool true) ∧ w' = wx) := fun hy wx hx => by
    have := inYoung_any wx p S.nursery (2 * (j : Int)) (by omega) hx
    rwa [youngB_true.2 ⟨by omega, by omega, by have := hyo hy j hj; omega⟩] at this
  have hpc2 := h.hp.cells.c2
  have e3 : 2 * (j : Int) / 2 = (j : Int) := by omega
  have HKEY := Lib.hid (keyOf_int_mk (P := Try.prog) (q := .i64) Try.underlying3 (a := (j : Int)) (WalkArith.wf_i64 (by omega)))
  have HST := Lib.hid h
  have HG := Lib.hid hg
  have hlim := hg.lim
  obtain ⟨D, hD1, hD2, hD3⟩ := h.mp
  have HD1 := Lib.hid hD1
  have HD2 := Lib.hid hD2
  have HD3 := Lib.hid hD3
  clear h hg ho hD1 hD2 hD3 hyo hm0
  obtain ⟨s, hs⟩ : ∃ s, s = hsize (S.m j) := ⟨_, rfl⟩
  rw [← hs] at HO hjn
  have hs4 : s ≤ 4095 := by rw [hs]; exact hsize_bd _
  have HOS : Hid (osz S.m j = s + 1) := by unfold Hid osz; rw [hs]
  clear hs
  obtain ⟨T, hT⟩ : ∃ T, T = b + tot S.m cp := ⟨_, rfl⟩
  rw [← hT] at c1 hlim
  have HT := Lib.hid hT
  clear hT
  have hsz32 : T + s + 1 ≤ 200000 := by omega
  have hne1 := HST.out.n2
  have HH1 := Lib.hid (HD3.out j hcp)
  have HCP := Lib.hid hcp
  have hfl : T + s + 1 ≤ L := by rw [HOS.out, ← HT.out] at hfit; omega
  have HFIT := Lib.hid hfit
  have hgt : ¬ (L : Int) < (T : Int) + s + 1 := by omega
  have hTn : T + s + 1 ≤ S.n := by omega
  have hp0 := HST.out.hp.cells.c0
  have hplt := HST.out.hp.st.lt
  have hmlt := HST.out.hp.mm.lt
  simp only at hp0
  clear hcp hfit
  cases yo
  case' true =>
    have HYY := Lib.hid (HY.out rfl)
    clear HY
    go_enter Try.func28, Try.ntmps28
    go_wp2_with fail
    refine (HYY.out _ hpc2).mono ?_
    rintro e w' ⟨rfl, hw'⟩
    rw [hw']
    clear hw' w' HYY
    go_wp2_with fail
  case' false =>
    clear HY
    go_enter Try.func28, Try.ntmps28
    go_wp2_with fail
  all_goals
    refine (HO.out _ HST.out.hp).mono ?_
    rintro e w' ⟨rfl, n1, rfl⟩
    clear HO
    go_wp2_with (at_lookup; refine wpList_lookup_own_ok_int _ rfl _ _ 67 rfl 3 3 .i64 Try.keyed3 Try.underlying67 Try.underlying3 (Try.zeroI3 _) kb cp.length D rfl HD1.out _ _ rfl HKEY.out ?_; intro c hat hwc; have hh1 := HH1.out; clear hat hwc)
    go_quiet (fail)
    go_wp2_with fail
    have HFR := Lib.hid (Fr3.of_below (q := q) (kb := kb) (mb := mb) (below_drewN_self w.heap.size w (n1 + nq)))
    have HS2 := Lib.hid (HST.out.later (below_drewN_self w.heap.size w (n1 + nq)))
    have HD12 : Hid ((w.drewN (n1 + nq)).ownsMap Try.prog 3 (plainElem Try.prog 3) kb cp.length D) := HD1.out
    clear c0 c1 c2 c3 c4 c5 f5 f1 hp0 hpc2 HST HD1
    generalize w.drewN (n1 + nq) = w2 at HFR HS2 HD12 ⊢
    have c0 := HS2.out.st.cell 0
    simp only [List.getElem?_cons_zero, List.getElem?_cons_succ] at c0
    have hp0 := HS2.out.hp.cells.c0
    simp only at hp0
    have r0 : ∀ x : AfterR (KeepL [q, p]) w2.drew, x.world.cell? ⟨q, 0, none⟩ = some (.pointer (some ⟨p, 0, none⟩)) := fun x => (KeepL.cell x.rel (a := ⟨q, 0, none⟩) (by simp)).trans c0
    have r1 : ∀ x : AfterR (KeepL [q, p]) w2.drew, x.world.cell? ⟨p, 0, none⟩ = some (.slice (some ⟨mb, 0, none⟩) S.n S.n) := fun x => (KeepL.cell x.rel (a := ⟨p, 0, none⟩) (by simp)).trans hp0
    clear c0 hp0
    refine wp_region_eagerR (KeepL [q, p]) [(0, true), (1, true), (2, true), (3, true), (4, true), (5, true), (6, true), (7, true), (8, true), (9, true), (10, true), (11, true), (12, true), (13, true), (14, true), (15, true), (16, true), (17, true), (18, true), (19, true), (20, true), (21, true), (22, true), (23, true), (24, true), (25, true), (26, true), (27, true), (28, false)] (by kernel_rfl) (by kernel_rfl) ?_
    repeat (refine eagR_read rfl ?_; go_big_quiet_step (fail); refine wpQuiet_nil ?_)
    clear r0 r1
    refine eagR_does rfl rfl ?_
    intro K hK
    have hcl := rowL_length (s + 1) fun t => Value.int .i64 (S.m (j + t))
    have hSRC : ∀ t, t < s + 1 → w2.cell? ⟨mb, j + t, none⟩ = some (.int .i64 (S.m (j + t))) := fun t ht => by
      have h1 := HS2.out.hp.word (i := j + t) (by show j + t < S.n; omega)
      rw [h1]
      show some (Value.int .i64 (memC S.m b cp d (j + t))) = _
      rw [HG.out.word hj (by rw [HOS.out]; exact ht)]
    have eT : T + s + 1 - T = s + 1 := by omega
    have eJ : j + s + 1 - j = s + 1 := by omega
    refine wp_copy_eq _ _ _ _ _ rfl (.slice (some ⟨mb, T, none⟩) (T + s + 1 - T) (S.n - T)) (.slice (some ⟨mb, j, none⟩) (j + s + 1 - j) (S.n - j)) rfl rfl (run_copy_k w2.drew 1 22 22 _ 3 mb T (T + s + 1 - T) (S.n - T) ⟨mb, j, none⟩ (j + s + 1 - j) (S.n - j) (rowL (s + 1) fun t => Value.int .i64 (S.m (j + t))) Try.underlying22 (by rw [infoS_int]) (by rw [hcl, eT, eJ]; simp) ?c1 ?c2 ?c3 ?c4) ?_
    case c1 =>
      intro t v hv
      have ht : t < s + 1 := by have := (List.getElem?_eq_some_iff.1 hv).1; omega
      rw [rowL_get ht] at hv
      rw [Addr.add_lit, ← Option.some.inj hv]
      exact hSRC t ht
    case c2 =>
      intro t ht
      have h1 := HS2.out.hp.word (i := T + t) (by show T + t < S.n; omega)
      show (w2.cell? ⟨mb, T + t, none⟩).isSome = true
      rw [h1]; rfl
    case c3 => intro t ht; exact HS2.out.hp.mm.free (T + t)
    case c4 =>
      intro v hv
      obtain ⟨t, _, rfl⟩ := List.mem_map.1 hv
      rfl
    clear eT eJ
    have hgr := setCells_grown mb (rowL (s + 1) fun t => Value.int .i64 (S.m (j + t))) T w2.drew
    have hsz := setCells_size mb (rowL (s + 1) fun t => Value.int .i64 (S.m (j + t))) T w2.drew
    obtain ⟨hgc, hmc⟩ := HG.out.copy hj HCP.out (by have := HFIT.out; exact this)
    have hmm := rowSetCells (rowL (s + 1) fun t => Value.int .i64 (S.m (j + t))) T w2.drew _ HS2.out.hp.mm
    have hmm2 : Blk (w2.drew.setCells mb T (rowL (s + 1) fun t => Value.int .i64 (S.m (j + t)))) mb 3 (rowL S.n fun i => .int .i64 (memC S.m b (cp ++ [j]) d i)) := by
      refine hmm.rowCongr fun i hi => ?_
      rw [hmc i, HOS.out, ← HT.out, hcl]
      by_cases h1 : T ≤ i ∧ i < T + (s + 1)
      · rw [if_pos h1, if_pos h1, List.getD_eq_getElem?_getD, rowL_get (by omega)]
        rfl
      · rw [if_neg h1, if_neg h1]
    have hnq := HS2.out.n3
    have hnp := HS2.out.hp.d1
    have hnk := HS2.out.n5
    have hb : ∀ k, k < w2.heap.size → k ≠ mb → (w2.drew.setCells mb T (rowL (s + 1) fun t => Value.int .i64 (S.m (j + t)))).heap[k]? = w2.heap[k]? := fun k hk hne => hgr.block k hk (fun e => hne (Option.some.inj e))
    have HP4 : Hid (HeapSt (w2.drew.setCells mb T (rowL (s + 1) fun t => Value.int .i64 (S.m (j + t)))) p mb rv { S with m := memC S.m b (cp ++ [j]) d }) :=
      ⟨HS2.out.hp.st.of_heap (hb p HS2.out.hp.st.lt hnp), hmm2, ownG_kept HS2.out.hp.rr fun g hg => hb g (HS2.out.hp.rr.lt g hg).2 (fun e => HS2.out.hp.d3 (by rw [hg, e])), HS2.out.hp.d1, HS2.out.hp.d2, HS2.out.hp.d3⟩
    have HQ4 := Lib.hid (HS2.out.st.of_heap (hb q HS2.out.st.lt hnq))
    have HD4 : Hid ((w2.drew.setCells mb T (rowL (s + 1) fun t => Value.int .i64 (S.m (j + t)))).ownsMap Try.prog 3 (plainElem Try.prog 3) kb cp.length D) := by
      obtain ⟨es, clock, g1, g2, g3, g4⟩ := HD12.out
      exact ⟨es, clock, (hb kb (Array.getElem?_eq_some_iff.1 g1).1 (Ne.symm (Ne.symm hnk))).trans g1, g2, g3, g4⟩
    have HF4 : Hid (Fr3 q kb mb w (w2.drew.setCells mb T (rowL (s + 1) fun t => Value.int .i64 (S.m (j + t))))) := HFR.out.trans ⟨hgr.os, hgr.tape, hgr.output, hgr.size, fun k hk _ _ h3 => hb k hk h3⟩
    have HGC := Lib.hid hgc
    have HNE := Lib.hid (And.intro HS2.out.n1 (And.intro HS2.out.n2 (And.intro HS2.out.n3 (And.intro HS2.out.n4 (And.intro HS2.out.n5 (And.intro HS2.out.n6 HS2.out.n7))))))
    have hKL : KeepL [q, p] w2.drew (w2.drew.setCells mb T (rowL (s + 1) fun t => Value.int .i64 (S.m (j + t)))) := fun k hk => by
      simp at hk
      rcases hk with rfl | rfl
      · exact hb _ HS2.out.st.lt hnq
      · exact hb _ HS2.out.hp.st.lt hnp
    refine hK _ _ hKL ?_
    clear hK K hKL hb hmm hmm2 hgr hsz hmc hgc hcl hSRC HS2 HD12 HFR hnq hnp hnk
    generalize w2.drew.setCells mb T (rowL (s + 1) fun t => Value.int .i64 (S.m (j + t))) = w4 at HP4 HQ4 HD4 HF4 ⊢
    go_simp
    refine eagR_end ?_
    have c1 := HQ4.out.cell 1
    have c3 := HQ4.out.cell 3
    have f1 := HQ4.out.free 1
    simp only [List.getElem?_cons_zero, List.getElem?_cons_succ] at c1 c3
    rw [← HT.out] at c1
    have HKQ : Hid (kb ≠ q) := Ne.symm HNE.out.1
    have HLN : Hid (cp.length < maxLen) := by
      have := len_tot S.m cp
      have := HT.out
      unfold Hid maxLen
      omega
    have HWF : Hid ((Lit.int .i64 (T : Int)).wf = true) := WalkArith.wf_i64 (by omega)
    have HTOT : Hid (b + tot S.m (cp ++ [j]) = T + (s + 1)) := by
      unfold Hid
      rw [tot_append, HT.out, ← HOS.out]
      show b + (tot S.m cp + (osz S.m j + 0)) = _
      omega
    go_wp2_with (at_mapUpdate; refine wpList_mapUpdate_own _ rfl _ _ _ 67 rfl 3 3 Try.keyed3 Try.underlying67 _ kb cp.length D rfl (HD4.out.setCell (a := ⟨q, 1, none⟩) HKQ.out _) HLN.out _ _ _ rfl rfl HKEY.out _ [] (plainElem_int Try.underlying3 HWF.out) ?_; intro w5 hown5 hgrow5)
    have hq5 := (HQ4.out.set 1 (.int .i64 ((T : Int) + ((s : Int) + 1)))).of_heap (hgrow5.block q (by have := HQ4.out.lt; simpa using this) (fun e => HNE.out.1 (Option.some.inj e)))
    have hp4 := HP4.out
    have hp5 : HeapSt (w4.setCell ⟨q, 1, none⟩ (.int .i64 ((T : Int) + ((s : Int) + 1)))) p mb rv { S with m := memC S.m b (cp ++ [j]) d } :=
      ⟨hp4.st.setOther (a := ⟨q, 1, none⟩) (Ne.symm HNE.out.2.1) _, hp4.mm.setOther (a := ⟨q, 1, none⟩) (Ne.symm HNE.out.2.2.1) _, owns_other (a := ⟨q, 1, none⟩) hp4.rr HNE.out.2.2.2.2.2.1 _, hp4.d1, hp4.d2, hp4.d3⟩
    have hp6 : HeapSt w5 p mb rv { S with m := memC S.m b (cp ++ [j]) d } :=
      ⟨hp5.st.of_heap (hgrow5.block p hp5.st.lt (fun e => HNE.out.2.2.2.1 (Option.some.inj e).symm)), hp5.mm.of_heap (hgrow5.block mb hp5.mm.lt (fun e => HNE.out.2.2.2.2.1 (Option.some.inj e).symm)),
        ownG_kept hp5.rr fun g hg => hgrow5.block g (hp5.rr.lt g hg).2 (fun e => HNE.out.2.2.2.2.2.2 (by rw [hg, Option.some.inj e])), hp5.d1, hp5.d2, hp5.d3⟩
    have HQ6 := Lib.hid hq5
    have HP6 := Lib.hid hp6
    have HO6 := Lib.hid hown5
    have HF6 := Lib.hid ((HF4.out.trans (Fr3.set (a := ⟨q, 1, none⟩) (.inl rfl) (.int .i64 ((T : Int) + ((s : Int) + 1))))).trans ⟨hgrow5.os, hgrow5.tape, hgrow5.output, hgrow5.size, fun k hk _ h2 _ => hgrow5.block k hk (fun e => h2 (Option.some.inj e))⟩)
    clear hq5 hp4 hp5 hp6 hown5 hgrow5
    go_wp2_with fail
    go_ret
    refine ⟨HF6.out, .inl ⟨cp ++ [j], ⟨[j], rfl⟩, HGC.out, ⟨?_, ?_, HP6.out, HNE.out.1, HNE.out.2.1, HNE.out.2.2.1, HNE.out.2.2.2.1, HNE.out.2.2.2.2.1, HNE.out.2.2.2.2.2.1, HNE.out.2.2.2.2.2.2⟩, fun k hk e => ?_, ?_⟩⟩
    · rw [HTOT.out]
      exact HQ6.out
    · have hown5 := HO6.out
      rw [HT.out] at hown5
      exact mapC_put HCP.out (HD4.out.isMap) HD2.out HD3.out hown5
    · obtain rfl : k = j := by omega
      simp
    · rw [fwdC_in (by simp) hj0, addrC_new HCP.out, ← HT.out]
      rfl

/-- move.value, at any word that a collection may meet -/
theorem value_ok (h : MvSt w q kb p mb rv S yo L b cp d) (ok : S.Ok) (hg : Gc S.m Src b L cp d) (hL : L ≤ S.stack) (hyo : yo = true → ∀ j ∈ Src, j < S.nursery) (hob : ∀ j ∈ Src, ObjAt S j)
    (hfd : (∀ i, d i = true → b ≤ i) ∨ b + tot S.m Src ≤ L) (v : Int) (hv : GoodV Src yo S.nursery v) :
    Calls Try.prog 28 #[.pointer (some ⟨q, 0, none⟩), .int .i64 v] w (ValPost q kb p mb rv S yo L b Src cp d v w) := by
  have hskip : v ≤ 2147483647 → ((v ≤ 0 ∨ v % 2 = 1) ∨ (yo = true ∧ youngB S.nursery v = false)) → (∀ j ∈ Src, v ≠ 2 * (j : Int)) → Calls Try.prog 28 #[.pointer (some ⟨q, 0, none⟩), .int .i64 v] w (ValPost q kb p mb rv S yo L b Src cp d v w) := fun h1 h2 h3 =>
    (value_skip w q kb p mb rv S yo L b cp d h v h2 h1).mono fun e w' ⟨he, hw⟩ => by
      subst hw
      exact ⟨Fr3.refl _ _ _ _, .inl ⟨cp, ⟨[], by simp⟩, hg, h, fun j hj e2 => absurd e2 (h3 j hj), by rw [he, fwdC_not fun j hj _ => h3 j (hg.sub j hj)]⟩⟩
  rcases hv with ⟨h1, h2, h3⟩ | rfl | ⟨j, h0, h1, rfl, h2⟩
  · exact hskip h3 (.inl (.inr h1)) (fun j _ => by omega)
  · exact hskip (by omega) (.inl (.inl (by omega))) (fun j hj => by have := (hg.sep j hj).1; omega)
  · by_cases hj : j ∈ Src
    · by_cases hcp : j ∈ cp
      · exact value_in w q kb p mb rv S yo L b Src cp d h ok hg hL hyo j hj (hob j hj) hcp
      · by_cases hfit : b + tot S.m cp + osz S.m j ≤ L
        · exact value_new w q kb p mb rv S yo L b Src cp d h ok hg hL hyo j hj (hob j hj) hcp hfit
        · rcases hfd with hfd | hfd
          · exact value_over w q kb p mb rv S yo L b Src cp d h ok hg hL hyo j hj (hob j hj) hcp (by omega) hfd
          · exfalso
            have := over_tot hg hj hcp
            omega
    · have hy : yo = true ∧ S.nursery ≤ j := by rcases h2 with h | h; exact absurd h hj; exact h
      refine hskip (by omega) (.inr ⟨hy.1, youngB_false.2 (.inr (.inr (by omega)))⟩) (fun k hk e => ?_)
      obtain rfl : k = j := by omega
      exact hj hk
end
end Go.Proofs.Ytkpeeemnholmnaa
