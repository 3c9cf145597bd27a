/- HeapMinor: the heap at each step of the law. -/
import Derived.Test.YtkpeeemnholmnaaHeapPut
import Derived.Test.YtkpeeemnholmnaaChainC
namespace Go.Proofs.Ytkpeeemnholmnaa
open Go.RowKit
set_option linter.unusedVariables false
set_option linter.unusedSimpArgs false

theorem single_of {l : List Nat} {a : Nat} (hn : l.Nodup) (hs : ∀ j ∈ l, j ∈ [a]) (ha : a ∈ l) : l = [a] := by
  refine List.perm_singleton.1 ((List.perm_ext_iff_of_nodup hn (by simp)).2 fun j => ⟨hs j, fun h => ?_⟩)
  have : j = a := by simpa using h
  rw [this]; exact ha
theorem phiC_one {m : Nat → Int} {b j : Nat} : phiC m b [j] j = b := by
  unfold phiC addrC; simp
theorem phiC_not {m : Nat → Int} {b j i : Nat} (h : i ≠ j) : phiC m b [j] i = i := by
  unfold phiC; rw [if_neg (by simpa using h)]
theorem tot_one {m : Nat → Int} {j : Nat} : tot m [j] = osz m j := by simp [tot]

/-- the heap after the first collection -/
structure M2 (S : HS) (l : List Nat) : Prop where
  inv : HInv S [] l
  cfg : S.n = 200 ∧ S.stack = 192 ∧ S.nursery = 21 ∧ S.half = 85 ∧ S.rem = [] ∧ S.young = 1 ∧ S.from_ = 21 ∧ S.old = 23
  o : 21 ∈ l ∧ S.m 21 = hdr 2 1
def M2Post (p mb : Nat) (w : World) (e : Ending) (w' : World) : Prop :=
  ∃ g cap z S l, e = .returned (.tuple #[.slice (some ⟨g, 0, none⟩) 1 cap, .int .i64 0]) ∧ w'.cell? ⟨g, 0, none⟩ = some (.int .i64 z) ∧ z = 42 ∧ w.heap.size ≤ g ∧ g < w'.heap.size ∧ 1 ≤ cap ∧ HeapSt w' p mb NV S ∧ M2 S l ∧ HStep p mb NV NV w w'
theorem first_minor {w : World} {p mb g c : Nat} (h : HeapSt w p mb NV ((HS.new 200 8 20).alloc 2 1 1)) (ha : Came w (some ⟨g, 0, none⟩) 1 c 1 ([(2 : Int)].map intCells)) (hp : g ≠ p) (hm : g ≠ mb) :
    Calls Try.prog 14 #[.pointer (some ⟨p, 0, none⟩), .slice (some ⟨g, 0, none⟩) 1 c] w (M2Post p mb w) := by
  have hi0 := HInv.new 200 8 20 (by omega) (by omega) (by omega)
  have hi : HInv ((HS.new 200 8 20).alloc 2 1 1) [1] [] := hi0.allocY (t := 2) (s := 1) (f := 1) (by omega) (by omega) (by decide) (by decide) (.inl ⟨by omega, by omega, by omega⟩) (by omega)
  refine (minor_ok2 w p mb NV _ [1] [] h hi _ 1 c [2] ha (by omega) (fun b o _ e => ?_) (fun x hx => ?_)).mono ?_
  · injection e with e
    injection e with e1 e2
    subst e1
    exact ⟨hp, hm, by simp [Value.ownBlock]⟩
  · simp at hx; subst hx; exact .inr (.inr ⟨1, by simp, rfl⟩)
  · rintro e w' (⟨h0, _⟩ | ⟨v', S', φ, R, l2', rfl, h1, h2, h3, h4, h5, cp, rfl, c1, c2, c3, c4, c5⟩)
    · exact absurd h0 (by decide)
    · have m1 : 1 ∈ cp ++ [] := h4 2 (by simp) 1 (by omega) rfl
      have ec := single_of c1 c2 (by simpa using m1)
      subst ec
      have e1 : φ 1 = 21 := by rw [c3]; exact phiC_one
      have e2 : S'.old = 23 := by rw [c4, tot_one]; decide
      have hown2 : w'.ownsRow w.heap.size 3 1 v' 1 [Value.int .i64 (fv φ 2)] := h1
      have e3 : fv φ 2 = 42 := by
        have := fv_ptr (φ := φ) (j := 1) (by omega)
        rw [e1] at this
        exact this
      rw [e3] at hown2
      obtain ⟨g, cap, rfl, k1, k2, k3, k4⟩ := ownG_has hown2 (by omega)
      have hcm := (came_of_owns (E := intCells) (zs := [42]) (fun z => ⟨_, rfl⟩) (by simpa [intCells] using hown2)).2
      have hh := h3.hdr hi (j := 1) m1
      rw [e1] at hh
      have hmem := h3.mem 1 m1
      rw [e1] at hmem
      obtain ⟨q1, q2, q3, q4, q5⟩ := h3.cfg
      refine ⟨g, cap, 42, S', l2', rfl, ?_, rfl, k1, k2, k3, h2, ⟨h3.inv, ⟨q1, q2, q3, q4, q5, h3.young, c5, e2⟩, hmem, by rw [hh]; decide⟩, h5⟩
      obtain ⟨b, o, e1, _, e2⟩ := hcm.ints (by omega)
      injection e1 with e1
      injection e1 with e3 e4
      subst e3 e4
      exact e2 0 (by simp)

/-- the heap after the store -/
structure M4 (S : HS) (l : List Nat) (sz : Nat) (f : Int) : Prop where
  inv : HInv S [1] l
  cfg : S.n = 200 ∧ S.stack = 192 ∧ S.nursery = 21 ∧ S.half = 85 ∧ S.young = 2 + sz ∧ S.from_ = 21 ∧ S.old = 23
  o : 21 ∈ l ∧ hsize (S.m 21) = 1 ∧ S.m 22 = 2 ∧ S.m 1 = hdr 3 sz ∧ S.m (1 + sz) = f
theorem m4_of {S : HS} {l : List Nat} {sz : Nat} {f : Int} (h : M2 S l) (hs : 1 ≤ sz ∧ sz ≤ 4) (hf : f % 2 = 1 ∧ 0 ≤ f ∧ f ≤ 5000) : M4 { S.alloc 3 sz f with m := fun j => if j = 22 then 2 else (S.alloc 3 sz f).m j, rem := [22] } l sz f := by
  obtain ⟨c1, c2, c3, c4, c5, c6, c7, c8⟩ := h.cfg
  have hb : ¬ (S.nursery - 1 < sz + 1) := by omega
  have hr : RoomB S sz = true := by unfold RoomB; rw [if_neg hb]; simp; omega
  have ea := at_young hb
  have h3 : HInv (S.alloc 3 sz f) ([] ++ [S.young]) l := h.inv.allocY (by omega) (by omega) hb hr (.inl ⟨hf.1, by omega, by omega⟩) (by omega)
  rw [c6] at h3 ea
  have e21 : (S.alloc 3 sz f).m 21 = hdr 2 1 := by rw [alloc_other (by rw [ea]; omega)]; exact h.o.2
  have hd := hdr_is 2 1 (by omega) (by omega)
  have er : (S.alloc 3 sz f).rem = [] := c5
  have hp := h3.put (o := 21) (k := 22) (v := 2) (rem' := [22]) (List.mem_append_right _ h.o.1) (by omega) (by rw [e21, hd.2.1]; omega) (.inr (.inr ⟨1, by simp, rfl⟩)) (by omega) (.inr ⟨by rw [er]; rfl, by rw [er]; simp, h.o.1⟩) (fun _ _ => by simp)
  refine ⟨hp, ⟨c1, c2, c3, c4, ?_, c7, ?_⟩, h.o.1, ?_, ?_, ?_, ?_⟩
  · show (if S.nursery - 1 < sz + 1 then S.young else S.young + (sz + 1)) = 2 + sz
    rw [if_neg hb]; omega
  · show (if S.nursery - 1 < sz + 1 then S.old + (sz + 1) else S.old) = 23
    rw [if_neg hb]; omega
  · show hsize (if (21 : Nat) = 22 then 2 else (S.alloc 3 sz f).m 21) = 1
    rw [if_neg (by omega), e21, hd.2.1]
  · show (if (22 : Nat) = 22 then (2 : Int) else (S.alloc 3 sz f).m 22) = 2
    rw [if_pos rfl]
  · show (if (1 : Nat) = 22 then (2 : Int) else (S.alloc 3 sz f).m 1) = hdr 3 sz
    rw [if_neg (by omega)]
    have := alloc_hdr (S := S) (t := 3) (s := sz) (f := f)
    rwa [ea] at this
  · show (if (1 + sz : Nat) = 22 then (2 : Int) else (S.alloc 3 sz f).m (1 + sz)) = f
    rw [if_neg (by omega)]
    exact alloc_field (by rw [ea]; omega)
structure M5 (S : HS) (sz : Nat) (f : Int) : Prop where
  ok : S.Ok
  cfg : S.n = 200 ∧ S.young = 1 ∧ S.from_ = 21 ∧ S.old = 24 + sz
  ob : ObjAt S 23
  o : S.m 22 = 46 ∧ S.m 23 = hdr 3 sz ∧ S.m (23 + sz) = f
def M5Post (p mb : Nat) (sz : Nat) (f : Int) (rv : Value) (w : World) (e : Ending) (w' : World) : Prop :=
  ∃ v' S, e = .returned (.tuple #[v', .int .i64 0]) ∧ HeapSt w' p mb NV S ∧ M5 S sz f ∧ HStep p mb rv NV w w'
theorem second_minor {w : World} {p mb : Nat} {rv : Value} {S : HS} {l : List Nat} {sz : Nat} {f : Int} (h : HeapSt w p mb rv S) (h4 : M4 S l sz f) (hs : 1 ≤ sz ∧ sz ≤ 4) (hf : f % 2 = 1 ∧ 0 ≤ f ∧ f ≤ 5000) :
    Calls Try.prog 14 #[.pointer (some ⟨p, 0, none⟩), .slice none 0 0] w (M5Post p mb sz f rv w) := by
  have hi := h4.inv
  obtain ⟨c1, c2, c3, c4, c5, c6, c7⟩ := h4.cfg
  obtain ⟨o1, o2, o3, o4, o5⟩ := h4.o
  have hd := hdr_is 3 sz (by omega) (by omega)
  refine (minor_ok2 w p mb rv S [1] l h hi none 0 0 [] (Came.none1 w) (by omega) (fun b o h => by omega) (fun x hx => by cases hx)).mono ?_
  rintro e w' (⟨h0, _⟩ | ⟨v', S', φ, R, l2', rfl, h1, h2, h3, h9, h5, cp, rfl, d1, d2, d3, d4, d5⟩)
  · omega
  · have m21 : 21 ∈ cp ++ l := List.mem_append_right _ o1
    have m1 : 1 ∈ cp ++ l := h3.cl 21 m21 1 (by omega) (by omega) 1 (by omega) o3
    have m1c : 1 ∈ cp := by
      rcases List.mem_append.1 m1 with h | h
      · exact h
      · have := hi.hi h; omega
    have ec := single_of d1 d2 m1c
    subst ec
    rw [c7] at d3
    have e1 : φ 1 = 23 := by rw [d3]; exact phiC_one
    have e21 : φ 21 = 21 := by rw [d3]; exact phiC_not (by omega)
    have eo : osz S.m 1 = sz + 1 := by unfold osz; rw [o4, hd.2.1]
    have hm1 := h3.mem 1 m1
    have hh := h3.hdr hi m1
    have hw2 := h3.word 21 m21 1 (by omega)
    have hw3 := h3.word 1 m1 sz (by rw [o4, hd.2.1]; exact Nat.le_refl _)
    rw [e21, o3] at hw2
    rw [e1] at hm1 hh hw3
    have ob := h3.inv.objAt (j := 23) (by simpa using hm1)
    have e3 : fv φ 2 = 46 := by
      have := fv_ptr (φ := φ) (j := 1) (by omega)
      rw [e1] at this
      exact this
    refine ⟨v', S', rfl, h2, ⟨h3.inv.ok, ⟨by rw [h3.cfg.1, c1], h3.young, by rw [d5, c6], by rw [d4, tot_one, c7, eo]; omega⟩, ob, hw2.trans e3, by rw [hh, o4], ?_⟩, h5⟩
    rw [hw3, o5, fv_odd hf.1]
end Go.Proofs.Ytkpeeemnholmnaa
