/- Store and Alloc at a well-formed heap. -/
import Derived.Test.YtkpeeemnholmnaaHeapPutG
namespace Go.Proofs.Ytkpeeemnholmnaa
open Go.RowKit
set_option linter.unusedVariables false

section
variable {S : HS} {l1 l2 : List Nat}
theorem HInv.remLen (hi : HInv S l1 l2) : S.rem.length ≤ 65536 := nodup_bd hi.rnd fun k hk => by
  obtain ⟨o, ho, h1, h2⟩ := hi.rem k hk
  have h9 := hi.hi ho
  unfold osz at h9
  have := hi.ok.ol
  have := hi.ok.to
  have := hi.ok.st
  have := hi.ok.n
  omega
/-- the heap after a field's store -/
def HS.upd (S : HS) (k : Nat) (v : Int) (rem' : List Nat) : HS := { S with m := fun j => if j = k then v else S.m j, rem := rem' }
def StoreInv (p mb : Nat) (rv : Value) (S : HS) (l1 l2 : List Nat) (k : Nat) (v : Int) (w : World) (e : Ending) (w' : World) : Prop :=
  ∃ rv' rem', e = .returned (.int .i64 0) ∧ HeapSt w' p mb rv' (S.upd k v rem') ∧ HInv (S.upd k v rem') l1 l2 ∧ HStep p mb rv rv' w w'

set_option maxRecDepth 100000 in
set_option maxHeartbeats 2000000 in
theorem store_inv (w : World) (p mb : Nat) (rv : Value) (h : HeapSt w p mb rv S) (hi : HInv S l1 l2) {o k : Nat} {ii v : Int} (ho : o ∈ l1 ++ l2) (hk1 : o < k) (hk2 : k ≤ o + hsize (S.m o)) (e : ii = 2 * (k : Int)) (hv : WordV (l1 ++ l2) v) (hvb : -2147483648 ≤ v ∧ v ≤ 2147483647) :
    Calls Try.prog 13 #[.pointer (some ⟨p, 0, none⟩), .int .i64 ii, .int .i64 v] w (StoreInv p mb rv S l1 l2 k v w) := by
  have hkn : 1 ≤ k ∧ k < S.n := by
    have := hi.wf.mem hi.ok o ho
    have := hi.ok.st
    omega
  have HX := fun wx hx => hindex_ok wx p mb rv S hx hi.ok k ii e hkn
  have HP := fun wx hx => put_any wx p mb rv S hx hi.ok hi.remLen k v hvb.2 hkn.2
  have hgv : inB v (-2147483648) 2147483647 = true := inB_true.2 hvb
  have HQ := fun w => in_q v (-2147483648) 2147483647 w
  rw [hgv] at HQ
  have HST := Lib.hid h
  have hn := hi.ok.n
  have HI := Lib.hid hi
  have HV := Lib.hid hv
  clear h hgv hi e hv
  go_enter Try.func13, Try.ntmps13
  go_wp2_with (first
    | (go_at_call 27; refine (HX _ HST.out).mono ?_; rintro e w' ⟨rfl, q, rfl⟩)
    | (go_at_call 23; refine (HQ _).mono ?_; rintro e w' ⟨rfl, hw'⟩; rw [hw']; clear hw' w'))
  refine (HP _ (HST.out.drewN q)).mono ?_
  rintro e w7 ⟨rv', rem', rfl, h1, h2, h3⟩
  have H1 := Lib.hid h1
  have H2 := Lib.hid h2
  have H3 := Lib.hid h3
  clear h1 h2 h3
  go_wp2_with fail
  go_ret
  have hi := HI.out
  refine ⟨rv', rem', rfl, H1.out, hi.put ho hk1 hk2 HV.out hvb ?_ ?_, (HStep.drewN q).trans H2.out⟩
  · rcases H3.out with ⟨e, _⟩ | ⟨e, h1, h2⟩
    · exact .inl e
    · refine .inr ⟨e, h1, ?_⟩
      have := inB_true.1 h2
      rcases List.mem_append.1 ho with h | h
      · have := hi.ok.yo
        have := hi.ok.fr
        have := (hi.wf.y.mem o h).2.1
        omega
      · exact h
  · intro h2 h3
    rcases H3.out with ⟨e, h | h | h⟩ | ⟨e, h1, h2⟩
    · exfalso
      have hm := hi.wf.o.mem o h2
      have := hi.ok.ol
      rw [inB_true.2 (by omega)] at h
      cases h
    · rw [h] at h3; cases h3
    · rw [e]; exact h
    · rw [e]; simp

/-- any object with odd fields -/
theorem HInv.allocOdd (hi : HInv S l1 l2) {t s : Nat} {f : Int} (ht : t ≤ 258) (hs : s ≤ 4095) (hr : RoomB S s = true) (hodd : f % 2 = 1) (hfb : -2147483648 ≤ f ∧ f ≤ 2147483647) :
    ∃ l1' l2', HInv (S.alloc t s f) l1' l2' ∧ S.at_ s ∈ l1' ++ l2' ∧ (∀ j ∈ l1 ++ l2, j ∈ l1' ++ l2' ∧ j ≠ S.at_ s ∧ ∀ k, j ≤ k → k ≤ j + hsize (S.m j) → (S.alloc t s f).m k = S.m k) := by
  by_cases hb : S.nursery - 1 < s + 1
  · have ea : S.at_ s = S.old := by unfold HS.at_; rw [if_pos hb]
    have hst := (hi.ok.alloc (t := t) (f := f) hr)
    obtain ⟨hh1, hh2, hh3, hh4⟩ := hdr_is t s ht hs
    have hroom : S.old + s + 1 ≤ S.from_ + S.half := by
      unfold RoomB at hr; rw [if_pos hb] at hr; simpa using hr
    have ey : (S.alloc t s f).young = S.young := by show (if S.nursery - 1 < s + 1 then _ else _) = _; rw [if_pos hb]
    have eo : (S.alloc t s f).old = S.old + (s + 1) := by show (if S.nursery - 1 < s + 1 then _ else _) = _; rw [if_pos hb]
    have h0 : (S.alloc t s f).m S.old = hdr t s := by rw [← ea]; exact alloc_hdr
    have hyo := hi.ok.yo
    have hfr := hi.ok.fr
    have hol := hi.ok.ol
    have hkeep : ∀ j ∈ l1 ++ l2, ∀ k, j ≤ k → k ≤ j + hsize (S.m j) → (S.alloc t s f).m k = S.m k := fun j hj k h1 h2 => by
      refine alloc_other (.inl ?_)
      rw [ea]
      rcases List.mem_append.1 hj with h | h
      · have := hi.wf.y.mem j h; omega
      · have := hi.wf.o.mem j h; omega
    have hlt : ∀ j ∈ l1 ++ l2, j < S.old := fun j hj => by
      rcases List.mem_append.1 hj with h | h
      · have := hi.wf.y.mem j h; omega
      · have := hi.wf.o.mem j h; omega
    have hmem : ∀ i, i ∈ l1 ++ (l2 ++ [S.old]) → i ∈ l1 ++ l2 ∨ i = S.old := fun i h => by
      simp only [List.mem_append, List.mem_singleton] at h ⊢
      rcases h with h | h | h <;> simp [h]
    have hsub : ∀ i, i ∈ l1 ++ l2 → i ∈ l1 ++ (l2 ++ [S.old]) := fun i h => by
      simp only [List.mem_append, List.mem_singleton] at h ⊢
      rcases h with h | h <;> simp [h]
    refine ⟨l1, l2 ++ [S.old], ⟨hst, ⟨?_, ?_, ?_⟩, hi.half, ?_, hi.rnd, ?_, ?_⟩, by rw [ea]; simp, fun j hj => ⟨hsub j hj, by have := hlt j hj; omega, hkeep j hj⟩⟩
    · rw [ey]; exact hi.wf.y.congr fun i a b => alloc_other (.inl (by omega))
    · have h2 := (hi.wf.o.congr (m' := (S.alloc t s f).m) fun i a b => alloc_other (.inl (by omega))).snoc (by rw [h0]; exact hh1)
      rw [h0, hh2] at h2
      rw [eo]; exact h2
    · intro i hi2 k h1 h2
      rcases hmem i hi2 with h | rfl
      · have e := hkeep i h i (Nat.le_refl _) (by omega)
        rw [e] at h2
        rw [hkeep i h k (by omega) h2]
        rcases hi.wf.f i h k h1 h2 with h3 | ⟨j, h3, h4⟩
        · exact .inl h3
        · exact .inr ⟨j, h3.imp id (hsub j), h4⟩
      · rw [h0, hh2] at h2
        rw [alloc_field (by rw [ea]; exact ⟨h1, h2⟩)]
        exact .inl hodd
    · intro k hk
      obtain ⟨o, h1, h2, h3⟩ := hi.rem k hk
      have e := hkeep o (List.mem_append_right _ h1) o (Nat.le_refl _) (by omega)
      exact ⟨o, List.mem_append_left _ h1, h2, by rw [e]; exact h3⟩
    · intro o ho k h1 h2 h3
      rcases List.mem_append.1 ho with h | h
      · have hm := List.mem_append_right l1 h
        rw [hkeep o hm o (Nat.le_refl _) (by omega)] at h2
        rw [hkeep o hm k (by omega) h2] at h3
        exact hi.yng o h k h1 h2 h3
      · obtain rfl : o = S.old := by simpa using h
        rw [h0, hh2] at h2
        rw [alloc_field (by rw [ea]; exact ⟨h1, h2⟩)] at h3
        have := (youngB_true.1 h3).2.1
        omega
    · intro o ho k h1 h2
      rcases hmem o ho with h | rfl
      · rw [hkeep o h o (Nat.le_refl _) (by omega)] at h2
        rw [hkeep o h k (by omega) h2]
        exact hi.wd o h k h1 h2
      · rw [h0, hh2] at h2
        rw [alloc_field (by rw [ea]; exact ⟨h1, h2⟩)]
        exact hfb
  · refine ⟨l1 ++ [S.young], l2, hi.allocY ht hs hb hr (.inl ⟨hodd, hfb⟩) hfb, by rw [at_young hb]; simp, fun j hj => ⟨?_, ?_, fun k h1 h2 => alloc_other (hi.away hb hr hj h1 h2)⟩⟩
    · simp only [List.mem_append] at hj ⊢
      rcases hj with h | h <;> simp [h]
    · have := hi.away hb hr hj (Nat.le_refl j) (by omega)
      omega
end
end Go.Proofs.Ytkpeeemnholmnaa
