/- The linker in memory: a box of three own rows. No function of the program. -/
import Derived.Test.YtkafbihlmhdjeabLnkMerge
import Derived.Test.YtkafbihlmhdjeabEagerT
namespace Go.Proofs.Ytkafbihlmhdjeab
open Go.RowKit
set_option linter.unusedVariables false
set_option linter.unusedSimpArgs false

/-- blocks p and q stay -/
def Kept2 (p q : Nat) (w w' : World) : Prop := w'.heap[p]? = w.heap[p]? ∧ w'.heap[q]? = w.heap[q]?
instance (p q : Nat) : PreR (Kept2 p q) := ⟨fun w => ⟨rfl, rfl⟩, fun h k => ⟨k.1.trans h.1, k.2.trans h.2⟩⟩
def KeptP (S : Nat → Prop) (w w' : World) : Prop := ∀ g, S g → w'.heap[g]? = w.heap[g]?
instance (S : Nat → Prop) : PreR (KeptP S) := ⟨fun w g _ => rfl, fun h k g hg => (k g hg).trans (h g hg)⟩
theorem own_ty {w : World} {base : Nat} {e t : TypeId} {size : Nat} {v : Value} {n : Nat} {l : List Value} (h : w.ownsRow base e size v n l) {q : Nat} {cs : List Value} (hq : Blk w q t cs) (hne : e ≠ t) : v.ownBlock ≠ some q := by
  rcases h.2 with ⟨rfl, _⟩ | ⟨g, c, cur, rfl, _, hg, _⟩
  · simp [Value.ownBlock]
  · intro e1
    have e2 : g = q := by simpa [Value.ownBlock] using e1
    subst e2
    have h2 : w.heap[g]? = _ := hq
    rw [hg] at h2
    injection h2 with h2
    injection h2 with _ h2 _
    exact hne h2
theorem own_ty2 {w : World} {base base' : Nat} {e e' : TypeId} {size size' : Nat} {v v' : Value} {n n' : Nat} {l l' : List Value} (h : w.ownsRow base e size v n l) (h' : w.ownsRow base' e' size' v' n' l') (hne : e ≠ e') : ∀ g, v.ownBlock = some g → v'.ownBlock ≠ some g := by
  intro g hg hg'
  rcases h.2 with ⟨rfl, _⟩ | ⟨g1, c, cur, rfl, _, hb, _⟩
  · simp [Value.ownBlock] at hg
  rcases h'.2 with ⟨rfl, _⟩ | ⟨g2, c', cur', rfl, _, hb', _⟩
  · simp [Value.ownBlock] at hg'
  have e1 : g1 = g := by simpa [Value.ownBlock] using hg
  have e2 : g2 = g := by simpa [Value.ownBlock] using hg'
  subst e1 e2
  rw [hb] at hb'
  injection hb' with hb'
  injection hb' with _ hb' _
  exact hne hb'
theorem ownG_set {w : World} {base : Nat} {e : TypeId} {size n cap g : Nat} {l : List Value} (h : w.ownsRow base e size (.slice (some ⟨g, 0, none⟩) n cap) n l) (j : Nat) (u : Value) (hj : j < n * size) : (w.setCell ⟨g, j, none⟩ u).ownsRow base e size (.slice (some ⟨g, 0, none⟩) n cap) n (l.set j u) := by
  refine ⟨by simpa using h.1, ?_⟩
  rcases h.2 with ⟨hx, _⟩ | ⟨g1, c, cur, hv, h1, h2, h3, h4, h5, h6⟩
  · cases hx
  · injection hv with e1 e2 e3
    injection e1 with e1
    injection e1 with e1 _ _
    subst e1 e3
    refine .inr ⟨g, cap, cur.setIfInBounds j u, rfl, h1, ?_, h3, h4, by simpa using h5, ?_⟩
    · simp [World.setCell, Array.getElem?_modify, h2]
    · rw [Array.toList_setIfInBounds, List.take_set, h6]
theorem ownG_cellAt {w : World} {base : Nat} {e : TypeId} {size n cap g : Nat} {l : List Value} (h : w.ownsRow base e size (.slice (some ⟨g, 0, none⟩) n cap) n l) {j : Nat} (hj : j < n * size) : w.cell? ⟨g, j, none⟩ = l[j]? ∧ w.frozen? ⟨g, j, none⟩ = false := by
  rcases h.2 with ⟨hx, _⟩ | ⟨g1, c, cur, hv, h1, h2, h3, h4, h5, h6⟩
  · cases hx
  · injection hv with e1 e2 e3
    injection e1 with e1
    injection e1 with e1 _ _
    subst e1 e3
    have h7 : l[j]? = cur[j]? := by
      rw [← h6, List.getElem?_take, if_pos hj]
      simp
    refine ⟨?_, ?_⟩
    · simp only [World.cell?, h2]
      rw [h7]
      rfl
    · simp [World.frozen?, h2]

def adC (x : Int × Int) : List Value := [.int .i64 x.1, .int .i64 x.2]
theorem itC_len (i : Item) : (itemCells i).length = 6 := rfl
theorem adC_len (x : Int × Int) : (adC x).length = 2 := rfl
/-- the linker -/
structure LK (B : Nat) (w : World) (p : Nat) (vi vb va : Value) (its : List Item) (bg : List Int) (ads : List (Int × Int)) : Prop where
  box : Blk w p 91 [vi, vb, va]
  hp : B ≤ p
  oi : w.ownsRow B 68 6 vi its.length (its.flatMap itemCells)
  ob : w.ownsRow B 3 1 vb bg.length (bg.map (Value.int .i64))
  oa : w.ownsRow B 111 2 va ads.length (ads.flatMap adC)
section
variable {B : Nat} {w w' : World} {p : Nat} {vi vb va : Value} {its : List Item} {bg : List Int} {ads : List (Int × Int)}
theorem LK.below (h : LK B w p vi vb va its bg ads) (hb : Below w.heap.size w w') : LK B w' p vi vb va its bg ads :=
  ⟨h.box.below hb h.box.lt, h.hp, ownG_below h.oi hb, ownG_below h.ob hb, ownG_below h.oa hb⟩
theorem LK.shapes (h : LK B w p vi vb va its bg ads) : ∃ ai ci ab cb aa ca, vi = .slice ai its.length ci ∧ vb = .slice ab bg.length cb ∧ va = .slice aa ads.length ca := by
  obtain ⟨ai, ci, e1⟩ := ownG_shape h.oi
  obtain ⟨ab, cb, e2⟩ := ownG_shape h.ob
  obtain ⟨aa, ca, e3⟩ := ownG_shape h.oa
  exact ⟨ai, ci, ab, cb, aa, ca, e1, e2, e3⟩
/-- a write into a block of one's own that is none of the linker's rows nor its box -/
theorem LK.growI (h : LK B w p vi vb va its bg ads) {its' : List Item} {v' : Value} (hown : w'.ownsRow B 68 6 v' its'.length (its'.flatMap itemCells)) (hg : w.grownBy w' vi.ownBlock) :
    LK B (w'.setCell ⟨p, 0, none⟩ v') p v' vb va its' bg ads := by
  have hp : w'.heap[p]? = w.heap[p]? := hg.block p h.box.lt (fun e => own_ty h.oi h.box (by decide) e.symm)
  have hbox := (h.box.of_heap hp)
  refine ⟨hbox.set 0 v', h.hp, ownG_other (a := ⟨p, 0, none⟩) hown (own_ty hown hbox (by decide)) _, ?_, ?_⟩
  · refine ownG_other (a := ⟨p, 0, none⟩) (ownG_kept h.ob fun g hgb => hg.block g (h.ob.lt g hgb).2 fun e => own_ty2 h.ob h.oi (by decide) g hgb e.symm) ?_ _
    exact own_ty h.ob h.box (by decide)
  · refine ownG_other (a := ⟨p, 0, none⟩) (ownG_kept h.oa fun g hgb => hg.block g (h.oa.lt g hgb).2 fun e => own_ty2 h.oa h.oi (by decide) g hgb e.symm) ?_ _
    exact own_ty h.oa h.box (by decide)
theorem LK.growB (h : LK B w p vi vb va its bg ads) {bg' : List Int} {v' : Value} (hown : w'.ownsRow B 3 1 v' bg'.length (bg'.map (Value.int .i64))) (hg : w.grownBy w' vb.ownBlock) :
    LK B (w'.setCell ⟨p, 1, none⟩ v') p vi v' va its bg' ads := by
  have hp : w'.heap[p]? = w.heap[p]? := hg.block p h.box.lt (fun e => own_ty h.ob h.box (by decide) e.symm)
  have hbox := (h.box.of_heap hp)
  refine ⟨hbox.set 1 v', h.hp, ?_, ownG_other (a := ⟨p, 1, none⟩) hown (own_ty hown hbox (by decide)) _, ?_⟩
  · refine ownG_other (a := ⟨p, 1, none⟩) (ownG_kept h.oi fun g hgb => hg.block g (h.oi.lt g hgb).2 fun e => own_ty2 h.oi h.ob (by decide) g hgb e.symm) ?_ _
    exact own_ty h.oi h.box (by decide)
  · refine ownG_other (a := ⟨p, 1, none⟩) (ownG_kept h.oa fun g hgb => hg.block g (h.oa.lt g hgb).2 fun e => own_ty2 h.oa h.ob (by decide) g hgb e.symm) ?_ _
    exact own_ty h.oa h.box (by decide)
theorem LK.growA (h : LK B w p vi vb va its bg ads) {ads' : List (Int × Int)} {v' : Value} (hown : w'.ownsRow B 111 2 v' ads'.length (ads'.flatMap adC)) (hg : w.grownBy w' va.ownBlock) :
    LK B (w'.setCell ⟨p, 2, none⟩ v') p vi vb v' its bg ads' := by
  have hp : w'.heap[p]? = w.heap[p]? := hg.block p h.box.lt (fun e => own_ty h.oa h.box (by decide) e.symm)
  have hbox := (h.box.of_heap hp)
  refine ⟨hbox.set 2 v', h.hp, ?_, ?_, ownG_other (a := ⟨p, 2, none⟩) hown (own_ty hown hbox (by decide)) _⟩
  · refine ownG_other (a := ⟨p, 2, none⟩) (ownG_kept h.oi fun g hgb => hg.block g (h.oi.lt g hgb).2 fun e => own_ty2 h.oi h.oa (by decide) g hgb e.symm) ?_ _
    exact own_ty h.oi h.box (by decide)
  · refine ownG_other (a := ⟨p, 2, none⟩) (ownG_kept h.ob fun g hgb => hg.block g (h.ob.lt g hgb).2 fun e => own_ty2 h.ob h.oa (by decide) g hgb e.symm) ?_ _
    exact own_ty h.ob h.box (by decide)
/-- a cell of the items is written -/
theorem LK.setI {g c : Nat} (h : LK B w p (.slice (some ⟨g, 0, none⟩) its.length c) vb va its bg ads) {i j : Nat} {u : Value} {y : Item} (hi : i < its.length) (hj : j < 6) (hy : (itemCells its[i]).set j u = itemCells y) :
    LK B (w.setCell ⟨g, i * 6 + j, none⟩ u) p (.slice (some ⟨g, 0, none⟩) its.length c) vb va (its.set i y) bg ads := by
  have hne : g ≠ p := fun e => own_ty h.oi h.box (by decide) (by simp [Value.ownBlock, e])
  have h1 := ownG_set h.oi (i * 6 + j) u (by omega)
  rw [flatN_set itC_len its i j u y hi hj hy] at h1
  refine ⟨Blk.setOther h.box (a := ⟨g, i * 6 + j, none⟩) (fun e => hne e.symm) u, h.hp, by rw [List.length_set]; exact h1, ?_, ?_⟩
  · exact ownG_other (a := ⟨g, i * 6 + j, none⟩) h.ob (fun e => own_ty2 h.ob h.oi (by decide) g e (by simp [Value.ownBlock])) _
  · exact ownG_other (a := ⟨g, i * 6 + j, none⟩) h.oa (fun e => own_ty2 h.oa h.oi (by decide) g e (by simp [Value.ownBlock])) _
theorem LK.setB {g c : Nat} (h : LK B w p vi (.slice (some ⟨g, 0, none⟩) bg.length c) va its bg ads) {i : Nat} {z : Int} (hi : i < bg.length) :
    LK B (w.setCell ⟨g, i, none⟩ (.int .i64 z)) p vi (.slice (some ⟨g, 0, none⟩) bg.length c) va its (bg.set i z) ads := by
  have hne : g ≠ p := fun e => own_ty h.ob h.box (by decide) (by simp [Value.ownBlock, e])
  have h1 := ownG_set h.ob i (.int .i64 z) (by omega)
  rw [← List.map_set] at h1
  refine ⟨Blk.setOther h.box (a := ⟨g, i, none⟩) (fun e => hne e.symm) _, h.hp, ?_, by rw [List.length_set]; exact h1, ?_⟩
  · exact ownG_other (a := ⟨g, i, none⟩) h.oi (fun e => own_ty2 h.oi h.ob (by decide) g e (by simp [Value.ownBlock])) _
  · exact ownG_other (a := ⟨g, i, none⟩) h.oa (fun e => own_ty2 h.oa h.ob (by decide) g e (by simp [Value.ownBlock])) _
/-- the cells of an item -/
theorem LK.item {g c : Nat} (h : LK B w p (.slice (some ⟨g, 0, none⟩) its.length c) vb va its bg ads) {i : Nat} (hi : i < its.length) : ItemAt w g (i * 6) its[i] ∧ (∀ j, j < 6 → w.frozen? ⟨g, i * 6 + j, none⟩ = false) ∧ B ≤ g ∧ g < w.heap.size := by
  have key : ∀ j, j < 6 → w.cell? ⟨g, i * 6 + j, none⟩ = (itemCells its[i])[j]? ∧ w.frozen? ⟨g, i * 6 + j, none⟩ = false := fun j hj => by
    have h1 := ownG_cellAt h.oi (j := i * 6 + j) (by omega)
    rw [flatN_get itC_len its i j hi hj] at h1
    exact h1
  refine ⟨⟨?_, ?_, ?_, ?_, ?_, ?_⟩, fun j hj => (key j hj).2, (h.oi.lt g rfl).1, (h.oi.lt g rfl).2⟩
  · exact (key 0 (by omega)).1
  · exact (key 1 (by omega)).1
  · exact (key 2 (by omega)).1
  · exact (key 3 (by omega)).1
  · exact (key 4 (by omega)).1
  · exact (key 5 (by omega)).1
theorem LK.begin {g c : Nat} (h : LK B w p vi (.slice (some ⟨g, 0, none⟩) bg.length c) va its bg ads) {i : Nat} (hi : i < bg.length) : w.cell? ⟨g, i, none⟩ = some (.int .i64 bg[i]) ∧ w.frozen? ⟨g, i, none⟩ = false ∧ B ≤ g ∧ g < w.heap.size := by
  have h1 := ownG_cellAt h.ob (j := i) (by omega)
  rw [List.getElem?_map, List.getElem?_eq_getElem hi] at h1
  exact ⟨h1.1, h1.2, (h.ob.lt g rfl).1, (h.ob.lt g rfl).2⟩
theorem LK.addr {g c : Nat} (h : LK B w p vi vb (.slice (some ⟨g, 0, none⟩) ads.length c) its bg ads) {i : Nat} (hi : i < ads.length) : w.cell? ⟨g, i * 2, none⟩ = some (.int .i64 ads[i].1) ∧ w.cell? ⟨g, i * 2 + 1, none⟩ = some (.int .i64 ads[i].2) ∧ B ≤ g ∧ g < w.heap.size := by
  have key : ∀ j, j < 2 → w.cell? ⟨g, i * 2 + j, none⟩ = (adC ads[i])[j]? := fun j hj => by
    have h1 := (ownG_cellAt h.oa (j := i * 2 + j) (by omega)).1
    rw [flatN_get adC_len ads i j hi hj] at h1
    exact h1
  exact ⟨key 0 (by omega), key 1 (by omega), (h.oa.lt g rfl).1, (h.oa.lt g rfl).2⟩
end
end Go.Proofs.Ytkafbihlmhdjeab
