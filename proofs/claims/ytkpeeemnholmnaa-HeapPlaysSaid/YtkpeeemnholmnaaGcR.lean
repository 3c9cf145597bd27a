/- The roots and the remembered words of a collection: the states of the loops of Minor and Major. -/
import Derived.Test.YtkpeeemnholmnaaGcS
import Derived.Carry
namespace Go.Proofs.Ytkpeeemnholmnaa
open Go.RowKit Go.Maps
set_option linter.unusedVariables false
set_option linter.unusedSimpArgs false

section
variable {q kb p mb ob : Nat} {rv : Value} {S : HS} {yo : Bool} {L b n : Nat} {Src cp : List Nat} {d : Nat → Bool} {zs : List Int} {i : Nat} {w w' : World}
theorem MvSt.keepB (h : MvSt w q kb p mb rv S yo L b cp d) (hb : ∀ k, k = q ∨ k = kb ∨ k = p ∨ k = mb ∨ rv.ownBlock = some k → w'.heap[k]? = w.heap[k]?) : MvSt w' q kb p mb rv S yo L b cp d :=
  ⟨h.st.of_heap (hb q (.inl rfl)), h.mp.keep (hb kb (.inr (.inl rfl))), ⟨h.hp.st.of_heap (hb p (by simp)), h.hp.mm.of_heap (hb mb (by simp)), ownG_kept h.hp.rr fun g hg => hb g (by simp [hg]), h.hp.d1, h.hp.d2, h.hp.d3⟩, h.n1, h.n2, h.n3, h.n4, h.n5, h.n6, h.n7⟩
theorem MvFull.keepB (h : MvFull w q kb p mb rv S b L) (hb : ∀ k, k = q ∨ k = kb ∨ k = p ∨ k = mb ∨ rv.ownBlock = some k → w'.heap[k]? = w.heap[k]?) : MvFull w' q kb p mb rv S b L := by
  obtain ⟨⟨fr, h0, y, h1⟩, ⟨m', h2, h3⟩, h4, h5, h6⟩ := h
  exact ⟨⟨fr, h0, y, h1.of_heap (hb q (.inl rfl))⟩, ⟨m', ⟨h2.st.of_heap (hb p (by simp)), h2.mm.of_heap (hb mb (by simp)), ownG_kept h2.rr fun g hg => hb g (by simp [hg]), h2.d1, h2.d2, h2.d3⟩, h3⟩, h4, h5, h6⟩
structure ObNe (ob q kb p mb : Nat) (rv : Value) : Prop where
  o1 : ob ≠ q
  o2 : ob ≠ kb
  o3 : ob ≠ p
  o4 : ob ≠ mb
  o5 : rv.ownBlock ≠ some ob
theorem ObNe.keep (h : ObNe ob q kb p mb rv) (j : Nat) (u : Value) : ∀ k, k = q ∨ k = kb ∨ k = p ∨ k = mb ∨ rv.ownBlock = some k → (w.setCell ⟨ob, j, none⟩ u).heap[k]? = w.heap[k]? := fun k hk => Below.heap_setCell _ _ _ _ (fun e => by
  have e' : k = ob := e
  rcases hk with hk | hk | hk | hk | hk
  · exact h.o1 (e'.symm.trans hk)
  · exact h.o2 (e'.symm.trans hk)
  · exact h.o3 (e'.symm.trans hk)
  · exact h.o4 (e'.symm.trans hk)
  · exact h.o5 (by rw [hk, e']))

def RootR (q kb p mb ob : Nat) (rv : Value) (S : HS) (yo : Bool) (L b n : Nat) (Src : List Nat) (d : Nat → Bool) (zs : List Int) (i : Nat) (w : World) : Prop :=
  (∃ cp, Gc S.m Src b L cp d ∧ MvSt w q kb p mb rv S yo L b cp d ∧ (∀ k, ∀ h : k < zs.length, k < i → ∀ j ∈ Src, zs[k] = 2 * (j : Int) → j ∈ cp) ∧ Blk w ob 3 (rowL n fun k => .int .i64 (if k < i then fwdC S.m b cp (zs.getD k 0) else 0))) ∨
  (FullS q kb p mb rv S b L Src w ∧ ∃ f : Nat → Int, Blk w ob 3 (rowL n fun k => .int .i64 (f k)))
theorem RootR.later (h : RootR q kb p mb ob rv S yo L b n Src d zs i w) (hb : Below w.heap.size w w') : RootR q kb p mb ob rv S yo L b n Src d zs i w' := by
  rcases h with ⟨cp, h1, h2, h3, h4⟩ | ⟨⟨h1, h2⟩, f, h3⟩
  · exact .inl ⟨cp, h1, h2.later hb, h3, h4.below hb h4.lt⟩
  · exact .inr ⟨⟨h1.later hb, h2⟩, f, h3.below hb h3.lt⟩
theorem RootR.cell (h : RootR q kb p mb ob rv S yo L b n Src d zs i w) {k : Nat} (hk : k < n) : (∃ z, w.cell? ⟨ob, k, none⟩ = some z) ∧ w.frozen? ⟨ob, k, none⟩ = false := by
  rcases h with ⟨cp, h1, h2, h3, h4⟩ | ⟨⟨h1, h2⟩, f, h3⟩
  · exact ⟨⟨_, h4.row hk⟩, h4.free k⟩
  · exact ⟨⟨_, h3.row hk⟩, h3.free k⟩
def RootPost (q kb p mb ob : Nat) (rv : Value) (S : HS) (yo : Bool) (L b n : Nat) (Src : List Nat) (d : Nat → Bool) (zs : List Int) (i : Nat) (w : World) (e : Ending) (w' : World) : Prop :=
  ∃ y, e = .returned (.int .i64 y) ∧ Fr3 q kb mb w w' ∧ (∃ z, w'.cell? ⟨ob, i, none⟩ = some z) ∧ w'.frozen? ⟨ob, i, none⟩ = false ∧ RootR q kb p mb ob rv S yo L b n Src d zs (i + 1) (w'.setCell ⟨ob, i, none⟩ (.int .i64 y))
theorem root_step (h : RootR q kb p mb ob rv S yo L b n Src d zs i w) (hne : ObNe ob q kb p mb rv) (ok : S.Ok) (hL : L ≤ S.stack) (hyo : yo = true → ∀ j ∈ Src, j < S.nursery) (hob : ∀ j ∈ Src, ObjAt S j) (hfd : (∀ i, d i = true → b ≤ i) ∨ b + tot S.m Src ≤ L)
    (hn : zs.length = n) (hi : i < zs.length) (hg : GoodV Src yo S.nursery zs[i]) : Calls Try.prog 28 #[.pointer (some ⟨q, 0, none⟩), .int .i64 zs[i]] w (RootPost q kb p mb ob rv S yo L b n Src d zs i w) := by
  rcases h with ⟨cp, h1, h2, h3, h4⟩ | ⟨⟨h1, h2⟩, f, h3⟩
  · refine (value_ok w q kb p mb rv S yo L b Src cp d h2 ok h1 hL hyo hob hfd _ hg).mono ?_
    rintro e w' ⟨hfr, ⟨cp', ⟨l, rfl⟩, hg', hst', hcl', rfl⟩ | ⟨hov, hfull, rfl⟩⟩
    · have hob' := h4.of_heap (hfr.block ob h4.lt hne.o1 hne.o2 hne.o4)
      refine ⟨_, rfl, hfr, ⟨_, hob'.row (by omega)⟩, hob'.free i, .inl ⟨cp ++ l, hg', hst'.keepB (hne.keep _ _), fun k hk hki j hj e => ?_, (hob'.rowSet i _).rowCongr fun k hk => ?_⟩⟩
      · by_cases hk2 : k = i
        · subst hk2; exact hcl' j hj e
        · exact List.mem_append_left _ (h3 k hk (by omega) j hj e)
      · by_cases hk2 : k = i
        · subst hk2
          rw [if_pos rfl, if_pos (by omega), List.getD_eq_getElem?_getD, List.getElem?_eq_getElem hi]
          rfl
        · rw [if_neg hk2]
          by_cases hk3 : k < i
          · have hkz : k < zs.length := by omega
            rw [if_pos hk3, if_pos (by omega), List.getD_eq_getElem?_getD, List.getElem?_eq_getElem hkz]
            show Value.int .i64 (fwdC S.m b cp zs[k]) = Value.int .i64 (fwdC S.m b (cp ++ l) zs[k])
            rw [fwdC_ext (fun j hj e => h3 k hkz hk3 j hj e) hg'.sub]
          · rw [if_neg hk3, if_neg (by omega)]
    · have hob' := h4.of_heap (hfr.block ob h4.lt hne.o1 hne.o2 hne.o4)
      refine ⟨_, rfl, hfr, ⟨_, hob'.row (by omega)⟩, hob'.free i, .inr ⟨⟨hfull.keepB (hne.keep _ _), hov⟩, fun k => if k = i then zs[i] else (if k < i then fwdC S.m b cp (zs.getD k 0) else 0), (hob'.rowSet i _).rowCongr fun k hk => ?_⟩⟩
      by_cases hk2 : k = i
      · simp only [if_pos hk2]
      · simp only [if_neg hk2]
  · refine (value_isfull w q kb p mb rv S b L h1 _).mono ?_
    rintro e w' ⟨rfl, rfl⟩
    refine ⟨_, rfl, Fr3.refl _ _ _ _, ⟨_, h3.row (by omega)⟩, h3.free i, .inr ⟨⟨h1.keepB (hne.keep _ _), h2⟩, fun k => if k = i then zs[i] else f k, (h3.rowSet i _).rowCongr fun k hk => ?_⟩⟩
    by_cases hk2 : k = i
    · simp only [if_pos hk2]
    · simp only [if_neg hk2]
theorem memC_start (m0 : Nat → Int) (b : Nat) : memC m0 b [] (fun _ => false) = m0 := by
  funext i
  simp [memC, rawC]
theorem RootR.start {kb q ob : Nat} (hq : Blk w q 69 [.pointer (some ⟨p, 0, none⟩), .int .i64 (b : Int), .int .i64 (L : Int), .map (some kb), .bool yo, .bool false])
    (hk : MapC w kb S.m b []) (hp : HeapSt w p mb rv S) (ho : Blk w ob 3 (rowL n fun _ => .int .i64 0)) (hg : Gc S.m Src b L [] fun _ => false) (n1 : q ≠ kb) (n2 : q ≠ p) (n3 : q ≠ mb) (n4 : kb ≠ p) (n5 : kb ≠ mb) (n6 : rv.ownBlock ≠ some q) (n7 : rv.ownBlock ≠ some kb) :
    RootR q kb p mb ob rv S yo L b n Src (fun _ => false) zs 0 w := by
  refine .inl ⟨[], hg, ⟨?_, hk, ?_, n1, n2, n3, n4, n5, n6, n7⟩, fun k hk hk2 => by omega, ho.rowCongr fun k _ => by simp⟩
  · simpa [tot] using hq
  · rw [memC_start]; exact hp
theorem mapC_made (w : World) (m0 : Nat → Int) (b : Nat) : MapC (w.alloc (.map #[] 0)) w.heap.size m0 b [] :=
  ⟨.map [], World.ownsMap_made _ _ _ _, fun i hi => by simp at hi, fun i _ => rfl⟩
end
end Go.Proofs.Ytkpeeemnholmnaa
