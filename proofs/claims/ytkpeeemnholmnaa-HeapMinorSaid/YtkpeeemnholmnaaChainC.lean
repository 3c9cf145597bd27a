/- Chains: the contracts of Minor, Major and Alloc at a heap that holds a chain. -/
import Derived.Test.YtkpeeemnholmnaaChain
namespace Go.Proofs.Ytkpeeemnholmnaa
open Go.RowKit
set_option linter.unusedVariables false

def Cfg (S S' : HS) : Prop := S'.n = S.n ∧ S'.stack = S.stack ∧ S'.nursery = S.nursery ∧ S'.half = S.half
theorem Cfg.refl (S : HS) : Cfg S S := ⟨rfl, rfl, rfl, rfl⟩
theorem Cfg.trans {S S' S'' : HS} (h : Cfg S S') (k : Cfg S' S'') : Cfg S S'' := ⟨k.1.trans h.1, k.2.1.trans h.2.1, k.2.2.1.trans h.2.2.1, k.2.2.2.trans h.2.2.2⟩
abbrev NV : Value := .slice none 0 0
theorem came_lit (w : World) (v : Int) : Came (w.alloc (.cells #[.int .i64 v] 3)) (some ⟨w.heap.size, 0, none⟩) 1 1 1 ([v].map intCells) := by
  refine ⟨rfl, Nat.le_refl _, by omega, fun h => by simp at h, fun x hx => by simp at hx; subst hx; rfl, fun h0 h1 => ⟨w.heap.size, 0, rfl, by simp, fun i x hx j hj => ?_⟩⟩
  have hb := Blk.new w [.int .i64 v] 3
  have hi : i = 0 := by
    rcases i with _ | i
    · rfl
    · simp at hx
  subst hi
  have hx2 : x = [.int .i64 v] := by simpa [intCells] using hx.symm
  subst hx2
  have hj0 : j = 0 := by omega
  subst hj0
  exact hb.cell 0

def ColOk (p mb : Nat) (S : HS) (cs : List Nat) (sz : Nat) (mj : Bool) (w : World) (e : Ending) (w' : World) : Prop :=
  ∃ g cap z S' l2' cs', e = .returned (.tuple #[.slice (some ⟨g, 0, none⟩) 1 cap, .int .i64 0]) ∧ w'.cell? ⟨g, 0, none⟩ = some (.int .i64 z) ∧ w.heap.size ≤ g ∧ g < w'.heap.size ∧ 1 ≤ cap ∧ Came w' (some ⟨g, 0, none⟩) 1 cap 1 ([z].map intCells) ∧
    HeapSt w' p mb NV S' ∧ CI S' [] l2' cs' sz z ∧ cs'.length = cs.length ∧ Cfg S S' ∧ S'.young = 1 ∧ (mj = true → S'.old = S'.from_ + cs.length * (sz + 1)) ∧ HStep p mb NV NV w w'
def ColPost (p mb : Nat) (S : HS) (cs : List Nat) (sz : Nat) (mj : Bool) (w : World) (e : Ending) (w' : World) : Prop :=
  (mj = false ∧ e = .returned (.tuple #[.slice none 0 0, .int .i64 16]) ∧ ∃ k, w' = w.drewN k) ∨ ColOk p mb S cs sz mj w e w'

section
variable {w : World} {p mb : Nat} {S : HS} {l1 l2 cs : List Nat} {sz : Nat} {v : Int}
theorem col_of {w' : World} {v' : Value} {S' : HS} {φ : Nat → Nat} {R l2' : List Nat} {mj : Bool} (hc : CI S l1 l2 cs sz v) (hown : w'.ownsRow w.heap.size 3 1 v' ([v].length) ([v].map fun z => Value.int .i64 (fv φ z))) (hst : HeapSt w' p mb NV S') (hcol : Coll S S' l1 l2 l2' R φ)
    (hr : ∀ x ∈ [v], ∀ j : Nat, 0 < j → x = 2 * (j : Int) → j ∈ R) (hs : HStep p mb NV NV w w') (hold : mj = true → S'.old = S'.from_ + cs.length * (sz + 1)) : ColOk p mb S cs sz mj w (.returned (.tuple #[v', .int .i64 0])) w' := by
  have hown2 : w'.ownsRow w.heap.size 3 1 v' 1 [Value.int .i64 (fv φ v)] := hown
  obtain ⟨g, cap, rfl, h1, h2, h3, h4⟩ := ownG_has hown2 (by omega)
  have hcm := (came_of_owns (E := intCells) (zs := [fv φ v]) (fun z => ⟨_, rfl⟩) (by simpa [intCells] using hown2)).2
  have hci := hc.coll hcol fun j h0 e => hr v (by simp) j h0 e
  refine ⟨g, cap, fv φ v, S', l2', cs.map φ, rfl, ?_, h1, h2, h3, hcm, hst, hci, by simp, ⟨hcol.cfg.1, hcol.cfg.2.1, hcol.cfg.2.2.1, hcol.cfg.2.2.2.1⟩, hcol.young, hold, hs⟩
  obtain ⟨b, o, e1, _, e2⟩ := hcm.ints (by omega)
  injection e1 with e1
  injection e1 with e3 e4
  subst e3 e4
  exact e2 0 (by simp)

theorem minor_ci (h : HeapSt w p mb NV S) (hc : CI S l1 l2 cs sz v) {g c : Nat} (ha : Came w (some ⟨g, 0, none⟩) 1 c 1 ([v].map intCells)) (hp : g ≠ p) (hm : g ≠ mb) :
    Calls Try.prog 14 #[.pointer (some ⟨p, 0, none⟩), .slice (some ⟨g, 0, none⟩) 1 c] w (ColPost p mb S cs sz false w) := by
  refine (minor_ok w p mb NV S l1 l2 h hc.inv _ 1 c [v] ha (by omega) (fun b o _ e => ?_) (fun x hx => ?_)).mono ?_
  · injection e with e
    injection e with e1 e2
    subst e1
    exact ⟨hp, hm, by simp [Value.ownBlock]⟩
  · simp at hx; subst hx; exact hc.word.1
  · rintro e w' (⟨_, rfl, k, rfl⟩ | ⟨v', S', φ, R, l2', rfl, h1, h2, h3, h4, h5⟩)
    · exact .inl ⟨rfl, rfl, k, rfl⟩
    · exact .inr (col_of hc h1 h2 h3 h4 h5 (by simp))
theorem major_ci (h : HeapSt w p mb NV S) (hc : CI S l1 l2 cs sz v) {g c : Nat} (ha : Came w (some ⟨g, 0, none⟩) 1 c 1 ([v].map intCells)) (hp : g ≠ p) (hm : g ≠ mb) :
    Calls Try.prog 15 #[.pointer (some ⟨p, 0, none⟩), .slice (some ⟨g, 0, none⟩) 1 c] w (ColPost p mb S cs sz true w) := by
  refine (major_ok w p mb NV S l1 l2 cs h hc.inv _ 1 c [v] ha (by omega) (fun b o _ e => ?_) hc.sub hc.closed (fun x hx => ?_)).mono ?_
  · injection e with e
    injection e with e1 e2
    subst e1
    exact ⟨hp, hm, by simp [Value.ownBlock]⟩
  · simp at hx; subst hx; exact hc.word.2.1
  · rintro e w' (⟨h0, _⟩ | ⟨v', S', φ, R, l2', rfl, h1, h2, h3, h4, h5, h6, h7, h8⟩)
    · have := hc.tot.2
      have := hc.room
      omega
    · refine .inr (col_of hc h1 h2 h3 h4 h5 fun _ => ?_)
      have hsub := reach_chain hc.inv h3 hc.s hc.ch hc.sub (fun j h0 e => h4 v (by simp) j h0 e)
      have hp : R.Perm cs := (List.perm_ext_iff_of_nodup h6 (hc.ch.nodup hc.s.1)).2 fun j => ⟨h7 j, hsub j⟩
      rw [h8, tot_perm hp, hc.tot.1]

def AllocCI (p mb : Nat) (S : HS) (l2 cs : List Nat) (sz : Nat) (w : World) (e : Ending) (w' : World) : Prop :=
  (e = .returned (.tuple #[.int .i64 0, .int .i64 16]) ∧ ∃ k, w' = w.drewN k) ∨
  (∃ S' l1' j, e = .returned (.tuple #[.int .i64 (2 * ((j : Nat) : Int)), .int .i64 0]) ∧ HeapSt w' p mb NV S' ∧ CI S' l1' l2 (j :: cs) sz (2 * (j : Int)) ∧ Cfg S S' ∧ HStep p mb NV NV w w')
theorem alloc_ci (h : HeapSt w p mb NV S) (hc : CI S l1 l2 cs sz v) (hl : cs.length < 15) :
    Calls Try.prog 10 #[.pointer (some ⟨p, 0, none⟩), .int .i64 1, .int .i64 (sz : Int), .int .i64 v] w (AllocCI p mb S l2 cs sz w) := by
  have hs := hc.s
  have hn := hc.inv.ok.nu
  have hb : ¬ (S.nursery - 1 < sz + 1) := by omega
  obtain ⟨w1, w2, w3⟩ := hc.word
  rcases Bool.eq_false_or_eq_true (RoomB S sz) with hr | hr
  · refine (alloc_young w p mb NV S h hc.inv.ok 1 sz v (by omega) (by omega) w3 hb hr).mono ?_
    rintro e w' ⟨rfl, h1, h2⟩
    exact .inr ⟨_, _, S.young, by rw [at_young hb], h1, hc.allocNext hl hb hr, ⟨rfl, rfl, rfl, rfl⟩, h2⟩
  · refine (alloc_full w p mb NV S h hc.inv.ok 1 sz v (by omega) (by omega) w3 hr).mono ?_
    rintro e w' ⟨k, rfl, rfl⟩
    exact .inl ⟨rfl, k, rfl⟩
end
end Go.Proofs.Ytkpeeemnholmnaa
