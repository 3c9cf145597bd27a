/- AlloccheckRenames: its memory. -/
import Derived.Test.YtlaogkbdjkofaaaRenLaw
import Derived.Test.YtlaogkbdjkofaaaCloneI
import Derived.Test.YtlaogkbdjkofaaaAllocFact
import Derived.Test.YtlaogkbdjkofaaaForks
import Derived.Test.YtlaogkbdjkofaaaAcceptW
import Derived.BigQuiet
namespace Go.Proofs.Ytlaogkbdjkofaaa
open Go.RowKit
set_option linter.unusedVariables false
set_option linter.unusedSimpArgs false

instance (B : Nat) : PreR (Below B) := ⟨fun w => Below.refl B w, fun h k => h.trans k⟩
theorem below_altR {B : Nat} {w : World} (h : B ≤ w.heap.size) (o o' : Obj) : Below B (w.alloc o) (w.alloc o') :=
  ⟨rfl, rfl, rfl, by simp, fun k hk => by rw [Below.heap_alloc _ _ _ (by omega), Below.heap_alloc _ _ _ (by omega)]⟩
theorem below_alloc_drewR {B : Nat} {w : World} (h : B ≤ w.heap.size) (o : Obj) : Below B w.drew (w.alloc o).drew := ((Below.refl B w.drew).alloc h o)
theorem IRw.base {w : World} {B B' g c n : Nat} {l : List Int} (h : IRw w B g c n l) (hB : B' ≤ B) : IRw w B' g c n l := by
  refine ⟨h.1, ?_⟩
  rcases h.2 with ⟨hx, _⟩ | ⟨g1, c1, cur, hv, h1, h2, h3, h4, h5, h6⟩
  · cases hx
  · exact .inr ⟨g1, c1, cur, hv, Nat.le_trans hB h1, h2, h3, h4, h5, h6⟩
/-- nothing has changed -/
def EqW (w w' : World) : Prop := w' = w
instance : PreR EqW := ⟨fun w => rfl, fun h k => Eq.trans k h⟩
/-- f and a in their boxes -/
structure BoxR (f : VF) (a : AL) (w wr : World) (pf pb : Nat) (pa sa ra la : Option Addr) (n n' : Nat) : Prop where
  be : Below w.heap.size w wr
  bf : Blk wr pf 25 [.int .i64 f.name, .slice pa f.pn f.pc, .int .i64 f.regs, .slice sa f.sn f.sc]
  ba : Blk wr pb 27 [.slice ra n a.rc, .slice la n' a.sc, .int .i64 a.k]
theorem BoxR.below {f : VF} {a : AL} {w wr w' : World} {pf pb : Nat} {pa sa ra la : Option Addr} {n n' : Nat} (h : BoxR f a w wr pf pb pa sa ra la n n') (hb : Below wr.heap.size wr w') : BoxR f a w w' pf pb pa sa ra la n n' :=
  ⟨h.be.trans (hb.mono h.be.size), h.bf.below hb h.bf.lt, h.ba.below hb h.ba.lt⟩
/-- the copy -/
structure CopR (wr : World) (B p9 g c g' c' n : Nat) (k : Int) (l l' : List Int) : Prop where
  b9 : Blk wr p9 27 [.slice (some ⟨g, 0, none⟩) n c, .slice (some ⟨g', 0, none⟩) n c', .int .i64 k]
  lo : B ≤ p9
  r : IRw wr B g c n l
  s : IRw wr B g' c' n l'
  ne : g ≠ g'
theorem IRw.box {w : World} {B g c n q : Nat} {l : List Int} {cs : List Value} {t : TypeId} (h : IRw w B g c n l) (hq : Blk w q t cs) (ht : t ≠ 3) : q ≠ g := fun e => by
  obtain ⟨cur, h1⟩ := own_blkTy h (g := g) rfl
  have h2 : w.heap[q]? = _ := hq
  rw [e, h1] at h2
  injection h2 with h2
  injection h2 with _ h2 _
  exact ht h2.symm
section
variable {wr w' : World} {B p9 g c g' c' n : Nat} {k : Int} {l l' : List Int}
theorem CopR.below (h : CopR wr B p9 g c g' c' n k l l') (hb : Below wr.heap.size wr w') : CopR w' B p9 g c g' c' n k l l' := ⟨h.b9.below hb h.b9.lt, h.lo, h.r.below hb, h.s.below hb, h.ne⟩
theorem IRw.other {q i : Nat} {v : Value} (h : IRw wr B g c n l) (hq : g ≠ q) : IRw (wr.setCell ⟨q, i, none⟩ v) B g c n l := by
  refine ⟨h.1, ?_⟩
  rcases h.2 with ⟨hx, _⟩ | ⟨g1, c1, cur, hv, h1, h2, h3, h4, h5, h6⟩
  · cases hx
  · injection hv with e1 e2 e3
    injection e1 with e1
    injection e1 with e1 _ _
    subst e1
    exact .inr ⟨g, c1, cur, by rw [e3], h1, (Below.heap_setCell _ _ _ _ hq).trans h2, h3, h4, h5, h6⟩
theorem CopR.putR (h : CopR wr B p9 g c g' c' n k l l') {i : Nat} (hi : i < n) (z : Int) : CopR (wr.setCell ⟨g, i, none⟩ (.int .i64 z)) B p9 g c g' c' n k (l.set i z) l' :=
  ⟨h.b9.setOther (h.r.box h.b9 (by decide)) _, h.lo, h.r.set hi z, h.s.other h.ne.symm, h.ne⟩
theorem CopR.putS (h : CopR wr B p9 g c g' c' n k l l') {i : Nat} (hi : i < n) (z : Int) : CopR (wr.setCell ⟨g', i, none⟩ (.int .i64 z)) B p9 g c g' c' n k l (l'.set i z) :=
  ⟨h.b9.setOther (h.s.box h.b9 (by decide)) _, h.lo, h.r.other h.ne, h.s.set hi z, h.ne⟩
theorem BoxR.set {f : VF} {a : AL} {w : World} {pf pb : Nat} {pa sa ra la : Option Addr} {m m' : Nat} (h : BoxR f a w wr pf pb pa sa ra la m m') {q i : Nat} {v : Value} (hB : w.heap.size ≤ q) (h1 : pf ≠ q) (h2 : pb ≠ q) : BoxR f a w (wr.setCell ⟨q, i, none⟩ v) pf pb pa sa ra la m m' :=
  ⟨h.be.setCell hB _, h.bf.setOther h1 _, h.ba.setOther h2 _⟩
end
/-- the first i elements are turned -/
def mixL (g : Int → Int) (l : List Int) (i : Nat) : List Int := (l.take i).map g ++ l.drop i
theorem mixL_len (g : Int → Int) (l : List Int) (i : Nat) : (mixL g l i).length = l.length := by unfold mixL; simp; omega
theorem mixL_zero (g : Int → Int) (l : List Int) : mixL g l 0 = l := by simp [mixL]
theorem mixL_all (g : Int → Int) (l : List Int) : mixL g l l.length = l.map g := by simp [mixL]
theorem mixL_at (g : Int → Int) (l : List Int) {i : Nat} (hi : i < l.length) : (mixL g l i).getD i 0 = l[i] := by
  unfold mixL
  rw [List.getD_eq_getElem?_getD, List.getElem?_append_right (by simp; omega)]
  simp [Nat.min_eq_left (Nat.le_of_lt hi), hi]
theorem mixL_put (g : Int → Int) (l : List Int) {i : Nat} (hi : i < l.length) : (mixL g l i).set i (g l[i]) = mixL g l (i + 1) := by
  unfold mixL
  rw [List.set_append_right _ _ (by simp; omega), List.length_map, List.length_take, Nat.min_eq_left (Nat.le_of_lt hi), Nat.sub_self, List.drop_eq_getElem_cons hi, List.set_cons_zero, List.take_add_one, List.getElem?_eq_getElem hi, Option.toList_some, List.map_append, List.append_assoc]
  rfl
theorem mixL_skip (g : Int → Int) (l : List Int) {i : Nat} (hi : i < l.length) (e : g l[i] = l[i]) : mixL g l (i + 1) = mixL g l i := by
  rw [← mixL_put g l hi, e]
  refine List.ext_getElem (by simp) fun j h1 h2 => ?_
  rw [List.getElem_set]
  split
  · rename_i h3
    subst h3
    have := mixL_at g l hi
    rw [List.getD_eq_getElem?_getD, List.getElem?_eq_getElem h2] at this
    simpa using this.symm
  · rfl
end Go.Proofs.Ytlaogkbdjkofaaa
