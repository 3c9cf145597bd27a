/- frame's emitter in memory. No function of the program is walked. The emitter's op, of and the small methods. The emitter's jump; the row of references. Rows of pairs; slices' IndexFunc, ContainsFunc, DeleteFunc and Delete at pairs. slices' DeleteFunc and Delete at rows of pairs. The emitter's moves. The emitter's moves: the walk. -/
import Derived.Test.YtdnpoomagjcpfaaGreatFrmAll
import Derived.Test.YtdnpoomagjcpfaaGreatHoldAll
import Derived.Test.YtdnpoomagjcpfaaGreatAccLaw
import Derived.Deep.AppendLies
import Derived.Great.BuildSlice
import Derived.Deep.LoopGhost
namespace Go.Proofs.YtdnpoomagjcpfaaGreat
open Go.RowKit
set_option linter.unusedVariables false
set_option linter.unusedSimpArgs false

section
def miC (x : MI) : List Value := [.int .i64 x.op, .int .i64 x.d, .int .i64 x.a, .int .i64 x.b, .int .i64 x.n, .int .i64 x.lab]
theorem miC_len (x : MI) : (miC x).length = 6 := rfl
def fcC (x : Nat × Int) : List Value := [.int .i64 (x.1 : Int), .int .i64 x.2]
theorem fcC_len (x : Nat × Int) : (fcC x).length = 2 := rfl
/-- a stack map and the slice of its slots -/
structure MC where
 (mp : MP) (sv : Value)
def mcC (x : MC) : List Value := [.int .i64 (x.mp.item : Int), .bool x.mp.after, x.sv, .int .i64 (x.mp.regs : Int)]
theorem mcC_len (x : MC) : (mcC x).length = 4 := rfl
def slC (x : MP) : List Value := x.slots.map fun (t : Nat) => Value.int .i64 (t : Int)
/-- the emitter's slices -/
structure EmV where
 (i c m s j : Value) (mc : List MC)
def EmV.S (v : EmV) (p q : Nat) : Prop := q = p ∨ v.i.ownBlock = some q ∨ v.c.ownBlock = some q ∨ v.m.ownBlock = some q ∨ v.s.ownBlock = some q ∨ v.j.ownBlock = some q
def emC (f : VF) (a : AL) (v : EmV) : List Value :=
 [.int .i64 f.name, .slice f.pa f.pn f.pc, .int .i64 f.regs, .slice f.sa f.sn f.sc, .slice a.ra a.rn a.rc, .slice a.sa a.sn a.sc, .int .i64 a.k, .int .i64 f.name, v.i, v.c, v.m, .int .i64 (a.k + 1), v.s, v.j]
/-- what the emitter works on: its box, and the memory at its start -/
structure EmE where
 (w0 : World) (B p n : Nat) (f : VF) (a : AL)
structure EmE.Ok (X : EmE) : Prop where
 fok : X.f.Ok X.w0
 aok : X.a.Ok X.w0
 hB : X.w0.heap.size ≤ X.B
 rn : X.a.rn = X.n
 sn : X.a.sn = X.n
 n : X.n ≤ 8192
 k : 0 ≤ X.a.k ∧ X.a.k ≤ 2048
 pl : ∀ r : Nat, r < X.n → (-1 ≤ (ofP X.a r).1 ∧ (ofP X.a r).1 ≤ 13) ∧ -1 ≤ (ofP X.a r).2 ∧ (ofP X.a r).2 ≤ 2047
 sk : ∀ r : Nat, r < X.n → (ofP X.a r).1 < 0 → (ofP X.a r).2 < X.a.k
structure EmM (X : EmE) (w : World) (s : EmS) (v : EmV) : Prop where
 box : Blk w X.p 81 (emC X.f X.a v)
 hp : X.B ≤ X.p
 be : Below X.w0.heap.size X.w0 w
 oi : w.ownsRow X.B 59 6 v.i s.items.length (s.items.flatMap miC)
 oc : w.ownsRow X.B 62 2 v.c s.calls.length (s.calls.flatMap fcC)
 om : w.ownsRow X.B 50 4 v.m s.maps.length (v.mc.flatMap mcC)
 mm : v.mc.map (·.mp) = s.maps
 os : w.ownsRow X.B 3 1 v.s s.starts.length (s.starts.map fun (t : Nat) => Value.int .i64 (t : Int))
 oj : w.ownsRow X.B 85 2 v.j s.jumps.length (s.jumps.flatMap fcC)
 sl : ∀ x ∈ v.mc, w.ownsRow X.B 3 1 x.sv x.mp.slots.length (slC x.mp) ∧ ∀ g, x.sv.ownBlock = some g → v.s.ownBlock ≠ some g
theorem own_noBox {w : World} {base : Nat} {e : TypeId} {size : Nat} {v : Value} {n : Nat} {l : List Value} (h : w.ownsRow base e size v n l) {q : Nat} {t : TypeId} {cs : List Value} (hq : Blk w q t cs) (hne : e ≠ t) : v.ownBlock ≠ some q := blk_noOwn hq h hne
theorem own_noOwn {w : World} {base base' : Nat} {e e' : TypeId} {size size' : Nat} {v v' : Value} {n n' : Nat} {l l' : List Value} (h : w.ownsRow base e size v n l) (h' : w.ownsRow base' e' size' v' n' l') (hne : e ≠ e') {g : Nat} (hg : v.ownBlock = some g) : v'.ownBlock ≠ some g := by
 intro hg'
 obtain ⟨c, hc⟩ := own_blkTy h hg
 obtain ⟨c', hc'⟩ := own_blkTy h' hg'
 rw [hc] at hc'
 injection hc' with hc'
 injection hc' with _ hc' _
 exact hne hc'
section
variable {X : EmE} {w w' : World} {s : EmS} {v : EmV}
theorem EmM.lt (h : EmM X w s v) {q : Nat} (hq : v.S X.p q) : X.B ≤ q ∧ q < w.heap.size := by
 rcases hq with rfl | hq | hq | hq | hq | hq
 ·exact ⟨h.hp, h.box.lt⟩
 ·exact h.oi.lt q hq
 ·exact h.oc.lt q hq
 ·exact h.om.lt q hq
 ·exact h.os.lt q hq
 ·exact h.oj.lt q hq
/-- the emitter's memory is as it was -/
theorem EmM.kept (h : EmM X w s v) (hb : Below X.w0.heap.size X.w0 w') (h1 : ∀ q, v.S X.p q → w'.heap[q]? = w.heap[q]?) (h2 : ∀ x ∈ v.mc, ∀ g, x.sv.ownBlock = some g → w'.heap[g]? = w.heap[g]?) : EmM X w' s v :=
 ⟨h.box.of_heap (h1 _ (.inl rfl)), h.hp, hb, ownG_kept h.oi fun g hg => h1 g (.inr (.inl hg)), ownG_kept h.oc fun g hg => h1 g (.inr (.inr (.inl hg))), ownG_kept h.om fun g hg => h1 g (.inr (.inr (.inr (.inl hg)))), h.mm,
  ownG_kept h.os fun g hg => h1 g (.inr (.inr (.inr (.inr (.inl hg))))), ownG_kept h.oj fun g hg => h1 g (.inr (.inr (.inr (.inr (.inr hg))))), fun x hx => ⟨ownG_kept (h.sl x hx).1 (h2 x hx), (h.sl x hx).2⟩⟩
theorem EmM.below (h : EmM X w s v) (hb : Below w.heap.size w w') : EmM X w' s v :=
 h.kept (h.be.trans (hb.mono h.be.size)) (fun q hq => hb.block q (h.lt hq).2) fun x hx g hg => hb.block g ((h.sl x hx).1.lt g hg).2
/-- another block is written -/
theorem EmM.rest {T : Nat → Prop} (h : EmM X w s v) (hr : RestS T w w') (hT : ∀ q, T q → X.w0.heap.size ≤ q) (h1 : ∀ q, v.S X.p q → ¬ T q) (h2 : ∀ x ∈ v.mc, ∀ g, x.sv.ownBlock = some g → ¬ T g) : EmM X w' s v :=
 h.kept (h.be.trans (hr.toBelow hT h.be.size)) (fun q hq => hr.block q (h.lt hq).2 (h1 q hq)) fun x hx g hg => hr.block g ((h.sl x hx).1.lt g hg).2 (h2 x hx g hg)
/-- the emitter's blocks but one are not of the type of a row -/
theorem EmM.ty (h : EmM X w s v) {t : TypeId} {cur : Array Value} {q : Nat} (hc : w.heap[q]? = some (.cells cur t (0, 0))) (hq : v.S X.p q) :
  t = 81 ∨ t = 59 ∨ t = 62 ∨ t = 50 ∨ t = 3 ∨ t = 85 := by
 have inj : ∀ {c' : Array Value} {t' : TypeId}, w.heap[q]? = some (.cells c' t' (0, 0)) → t = t' := fun h' => by
  rw [hc] at h'
  injection h' with h'
  injection h' with _ h' _
 rcases hq with rfl | hq | hq | hq | hq | hq
 ·exact .inl (inj h.box)
 ·obtain ⟨c, hc'⟩ := own_blkTy h.oi hq; exact .inr (.inl (inj hc'))
 ·obtain ⟨c, hc'⟩ := own_blkTy h.oc hq; exact .inr (.inr (.inl (inj hc')))
 ·obtain ⟨c, hc'⟩ := own_blkTy h.om hq; exact .inr (.inr (.inr (.inl (inj hc'))))
 ·obtain ⟨c, hc'⟩ := own_blkTy h.os hq; exact .inr (.inr (.inr (.inr (.inl (inj hc')))))
 ·obtain ⟨c, hc'⟩ := own_blkTy h.oj hq; exact .inr (.inr (.inr (.inr (.inr (inj hc')))))
theorem EmM.shapes (h : EmM X w s v) : ∃ ai ci ac cc am cm az cz aj cj, v.i = .slice ai s.items.length ci ∧ v.c = .slice ac s.calls.length cc ∧ v.m = .slice am s.maps.length cm ∧ v.s = .slice az s.starts.length cz ∧ v.j = .slice aj s.jumps.length cj := by
 obtain ⟨ai, ci, e1⟩ := ownG_shape h.oi
 obtain ⟨ac, cc, e2⟩ := ownG_shape h.oc
 obtain ⟨am, cm, e3⟩ := ownG_shape h.om
 obtain ⟨az, cz, e4⟩ := ownG_shape h.os
 obtain ⟨aj, cj, e5⟩ := ownG_shape h.oj
 exact ⟨ai, ci, ac, cc, am, cm, az, cz, aj, cj, e1, e2, e3, e4, e5⟩
/-- a row that has grown, and its slice in the emitter's box -/
theorem grow_rest {row : Option Nat} (hg : w.grownBy w' row) (p k : Nat) (u : Value) : RestS (fun q => q = p ∨ row = some q) w (w'.setCell ⟨p, k, none⟩ u) :=
 (RestS.ofGrown hg |>.mono fun q hq => .inr hq).set (p := ⟨p, k, none⟩) (.inl rfl) u
theorem EmM.growI (hX : X.Ok) (h : EmM X w s v) {l : List MI} {u : Value} (hown : w'.ownsRow X.B 59 6 u l.length (l.flatMap miC)) (hg : w.grownBy w' v.i.ownBlock) : EmM X (w'.setCell ⟨X.p, 8, none⟩ u) { s with items := l } { v with i := u } := by
 have hr := grow_rest hg X.p 8 u
 have hbe : Below X.w0.heap.size X.w0 _ := h.be.trans (hr.toBelow (fun q hq => Nat.le_trans hX.hB (by rcases hq with rfl | hq; exact h.hp; exact (h.oi.lt q hq).1)) h.be.size)
 have hbx := h.box.of_heap (hg.block X.p h.box.lt fun e => own_noBox h.oi h.box (by decide) e.symm)
 have K : ∀ {e : TypeId} {n : Nat} {y : Value} {m : Nat} {l : List Value}, w.ownsRow X.B e n y m l → e ≠ 81 → e ≠ 59 → ∀ {g : Nat}, y.ownBlock = some g → ¬ (g = X.p ∨ v.i.ownBlock = some g) := fun ho h1 h2 g hg e => by
  rcases e with rfl | e
  ·exact own_noBox ho h.box h1 hg
  ·exact own_noOwn ho h.oi h2 hg e
 exact ⟨hbx.set 8 u, h.hp, hbe, ownG_other (a := ⟨X.p, 8, none⟩) hown (own_noBox hown hbx (by decide)) _, ownG_kept h.oc fun g hg => hr.block g (h.oc.lt g hg).2 (K h.oc (by decide) (by decide) hg), ownG_kept h.om fun g hg => hr.block g (h.om.lt g hg).2 (K h.om (by decide) (by decide) hg), h.mm, ownG_kept h.os fun g hg => hr.block g (h.os.lt g hg).2 (K h.os (by decide) (by decide) hg), ownG_kept h.oj fun g hg => hr.block g (h.oj.lt g hg).2 (K h.oj (by decide) (by decide) hg), fun x hx => ⟨ownG_kept (h.sl x hx).1 fun g hg => hr.block g ((h.sl x hx).1.lt g hg).2 (K (h.sl x hx).1 (by decide) (by decide) hg), (h.sl x hx).2⟩⟩
theorem EmM.growC (hX : X.Ok) (h : EmM X w s v) {l : List (Nat × Int)} {u : Value} (hown : w'.ownsRow X.B 62 2 u l.length (l.flatMap fcC)) (hg : w.grownBy w' v.c.ownBlock) : EmM X (w'.setCell ⟨X.p, 9, none⟩ u) { s with calls := l } { v with c := u } := by
 have hr := grow_rest hg X.p 9 u
 have hbe : Below X.w0.heap.size X.w0 _ := h.be.trans (hr.toBelow (fun q hq => Nat.le_trans hX.hB (by rcases hq with rfl | hq; exact h.hp; exact (h.oc.lt q hq).1)) h.be.size)
 have hbx := h.box.of_heap (hg.block X.p h.box.lt fun e => own_noBox h.oc h.box (by decide) e.symm)
 have K : ∀ {e : TypeId} {n : Nat} {y : Value} {m : Nat} {l : List Value}, w.ownsRow X.B e n y m l → e ≠ 81 → e ≠ 62 → ∀ {g : Nat}, y.ownBlock = some g → ¬ (g = X.p ∨ v.c.ownBlock = some g) := fun ho h1 h2 g hg e => by
  rcases e with rfl | e
  ·exact own_noBox ho h.box h1 hg
  ·exact own_noOwn ho h.oc h2 hg e
 exact ⟨hbx.set 9 u, h.hp, hbe, ownG_kept h.oi fun g hg => hr.block g (h.oi.lt g hg).2 (K h.oi (by decide) (by decide) hg), ownG_other (a := ⟨X.p, 9, none⟩) hown (own_noBox hown hbx (by decide)) _, ownG_kept h.om fun g hg => hr.block g (h.om.lt g hg).2 (K h.om (by decide) (by decide) hg), h.mm, ownG_kept h.os fun g hg => hr.block g (h.os.lt g hg).2 (K h.os (by decide) (by decide) hg), ownG_kept h.oj fun g hg => hr.block g (h.oj.lt g hg).2 (K h.oj (by decide) (by decide) hg), fun x hx => ⟨ownG_kept (h.sl x hx).1 fun g hg => hr.block g ((h.sl x hx).1.lt g hg).2 (K (h.sl x hx).1 (by decide) (by decide) hg), (h.sl x hx).2⟩⟩
theorem EmM.growJ (hX : X.Ok) (h : EmM X w s v) {l : List (Nat × Int)} {u : Value} (hown : w'.ownsRow X.B 85 2 u l.length (l.flatMap fcC)) (hg : w.grownBy w' v.j.ownBlock) : EmM X (w'.setCell ⟨X.p, 13, none⟩ u) { s with jumps := l } { v with j := u } := by
 have hr := grow_rest hg X.p 13 u
 have hbe : Below X.w0.heap.size X.w0 _ := h.be.trans (hr.toBelow (fun q hq => Nat.le_trans hX.hB (by rcases hq with rfl | hq; exact h.hp; exact (h.oj.lt q hq).1)) h.be.size)
 have hbx := h.box.of_heap (hg.block X.p h.box.lt fun e => own_noBox h.oj h.box (by decide) e.symm)
 have K : ∀ {e : TypeId} {n : Nat} {y : Value} {m : Nat} {l : List Value}, w.ownsRow X.B e n y m l → e ≠ 81 → e ≠ 85 → ∀ {g : Nat}, y.ownBlock = some g → ¬ (g = X.p ∨ v.j.ownBlock = some g) := fun ho h1 h2 g hg e => by
  rcases e with rfl | e
  ·exact own_noBox ho h.box h1 hg
  ·exact own_noOwn ho h.oj h2 hg e
 exact ⟨hbx.set 13 u, h.hp, hbe, ownG_kept h.oi fun g hg => hr.block g (h.oi.lt g hg).2 (K h.oi (by decide) (by decide) hg), ownG_kept h.oc fun g hg => hr.block g (h.oc.lt g hg).2 (K h.oc (by decide) (by decide) hg), ownG_kept h.om fun g hg => hr.block g (h.om.lt g hg).2 (K h.om (by decide) (by decide) hg), h.mm, ownG_kept h.os fun g hg => hr.block g (h.os.lt g hg).2 (K h.os (by decide) (by decide) hg), ownG_other (a := ⟨X.p, 13, none⟩) hown (own_noBox hown hbx (by decide)) _, fun x hx => ⟨ownG_kept (h.sl x hx).1 fun g hg => hr.block g ((h.sl x hx).1.lt g hg).2 (K (h.sl x hx).1 (by decide) (by decide) hg), (h.sl x hx).2⟩⟩
theorem EmM.growS (hX : X.Ok) (h : EmM X w s v) {l : List Nat} {u : Value} (hown : w'.ownsRow X.B 3 1 u l.length (l.map fun (t : Nat) => Value.int .i64 (t : Int))) (hg : w.grownBy w' v.s.ownBlock) (hu : ∀ g, u.ownBlock = some g → v.s.ownBlock = some g ∨ w.heap.size ≤ g) : EmM X (w'.setCell ⟨X.p, 12, none⟩ u) { s with starts := l } { v with s := u } := by
 have hr := grow_rest hg X.p 12 u
 have hbe : Below X.w0.heap.size X.w0 _ := h.be.trans (hr.toBelow (fun q hq => Nat.le_trans hX.hB (by rcases hq with rfl | hq; exact h.hp; exact (h.os.lt q hq).1)) h.be.size)
 have hbx := h.box.of_heap (hg.block X.p h.box.lt fun e => own_noBox h.os h.box (by decide) e.symm)
 have K : ∀ {e : TypeId} {n : Nat} {y : Value} {m : Nat} {l : List Value}, w.ownsRow X.B e n y m l → e ≠ 81 → e ≠ 3 → ∀ {g : Nat}, y.ownBlock = some g → ¬ (g = X.p ∨ v.s.ownBlock = some g) := fun ho h1 h2 g hg e => by
  rcases e with rfl | e
  ·exact own_noBox ho h.box h1 hg
  ·exact own_noOwn ho h.os h2 hg e
 refine ⟨hbx.set 12 u, h.hp, hbe, ownG_kept h.oi fun g hg => hr.block g (h.oi.lt g hg).2 (K h.oi (by decide) (by decide) hg), ownG_kept h.oc fun g hg => hr.block g (h.oc.lt g hg).2 (K h.oc (by decide) (by decide) hg), ownG_kept h.om fun g hg => hr.block g (h.om.lt g hg).2 (K h.om (by decide) (by decide) hg), h.mm,
  ownG_other (a := ⟨X.p, 12, none⟩) hown (own_noBox hown hbx (by decide)) _, ownG_kept h.oj fun g hg => hr.block g (h.oj.lt g hg).2 (K h.oj (by decide) (by decide) hg), fun x hx => ⟨ownG_kept (h.sl x hx).1 fun g hg => hr.block g ((h.sl x hx).1.lt g hg).2 fun e => ?_, fun g hg e => ?_⟩⟩
 ·rcases e with rfl | e
  ·exact own_noBox (h.sl x hx).1 h.box (by decide) hg
  ·exact (h.sl x hx).2 g hg e
 ·rcases hu g e with e | e
  ·exact (h.sl x hx).2 g hg e
  ·have := ((h.sl x hx).1.lt g hg).2; omega
theorem EmM.growM (hX : X.Ok) (h : EmM X w s v) {y : MC} {u : Value} (hown : w'.ownsRow X.B 50 4 u (s.maps ++ [y.mp]).length ((v.mc ++ [y]).flatMap mcC)) (hg : w.grownBy w' v.m.ownBlock) (hy : w.ownsRow X.B 3 1 y.sv y.mp.slots.length (slC y.mp)) (hy2 : ∀ g, y.sv.ownBlock = some g → v.s.ownBlock ≠ some g) :
  EmM X (w'.setCell ⟨X.p, 10, none⟩ u) { s with maps := s.maps ++ [y.mp] } { v with m := u, mc := v.mc ++ [y] } := by
 have hr := grow_rest hg X.p 10 u
 have hbe : Below X.w0.heap.size X.w0 _ := h.be.trans (hr.toBelow (fun q hq => Nat.le_trans hX.hB (by rcases hq with rfl | hq; exact h.hp; exact (h.om.lt q hq).1)) h.be.size)
 have hbx := h.box.of_heap (hg.block X.p h.box.lt fun e => own_noBox h.om h.box (by decide) e.symm)
 have K : ∀ {e : TypeId} {n : Nat} {y : Value} {m : Nat} {l : List Value}, w.ownsRow X.B e n y m l → e ≠ 81 → e ≠ 50 → ∀ {g : Nat}, y.ownBlock = some g → ¬ (g = X.p ∨ v.m.ownBlock = some g) := fun ho h1 h2 g hg e => by
  rcases e with rfl | e
  ·exact own_noBox ho h.box h1 hg
  ·exact own_noOwn ho h.om h2 hg e
 refine ⟨hbx.set 10 u, h.hp, hbe, ownG_kept h.oi fun g hg => hr.block g (h.oi.lt g hg).2 (K h.oi (by decide) (by decide) hg), ownG_kept h.oc fun g hg => hr.block g (h.oc.lt g hg).2 (K h.oc (by decide) (by decide) hg), ownG_other (a := ⟨X.p, 10, none⟩) hown (own_noBox hown hbx (by decide)) _, by rw [List.map_append, h.mm]; rfl,
  ownG_kept h.os fun g hg => hr.block g (h.os.lt g hg).2 (K h.os (by decide) (by decide) hg), ownG_kept h.oj fun g hg => hr.block g (h.oj.lt g hg).2 (K h.oj (by decide) (by decide) hg), fun x hx => ?_⟩
 have key : w.ownsRow X.B 3 1 x.sv x.mp.slots.length (slC x.mp) ∧ ∀ g, x.sv.ownBlock = some g → v.s.ownBlock ≠ some g := by
  rcases List.mem_append.mp hx with hx | hx
  ·exact h.sl x hx
  ·rw [List.mem_singleton.mp hx]; exact ⟨hy, hy2⟩
 exact ⟨ownG_kept key.1 fun g hg => hr.block g (key.1.lt g hg).2 (K key.1 (by decide) (by decide) hg), key.2⟩
/-- which blocks are the emitter's behind a row's growth -/
theorem EmV.S_new {v v' : EmV} {p N : Nat} (hi : ∀ q, v'.i.ownBlock = some q → v.i.ownBlock = some q ∨ N ≤ q) (hc : ∀ q, v'.c.ownBlock = some q → v.c.ownBlock = some q ∨ N ≤ q) (hm : ∀ q, v'.m.ownBlock = some q → v.m.ownBlock = some q ∨ N ≤ q) (hs : ∀ q, v'.s.ownBlock = some q → v.s.ownBlock = some q ∨ N ≤ q) (hj : ∀ q, v'.j.ownBlock = some q → v.j.ownBlock = some q ∨ N ≤ q) : ∀ q, v'.S p q → v.S p q ∨ N ≤ q := by
 intro q hq
 rcases hq with rfl | hq | hq | hq | hq | hq
 ·exact .inl (.inl rfl)
 ·exact (hi q hq).imp_left fun h => .inr (.inl h)
 ·exact (hc q hq).imp_left fun h => .inr (.inr (.inl h))
 ·exact (hm q hq).imp_left fun h => .inr (.inr (.inr (.inl h)))
 ·exact (hs q hq).imp_left fun h => .inr (.inr (.inr (.inr (.inl h))))
 ·exact (hj q hq).imp_left fun h => .inr (.inr (.inr (.inr (.inr h))))
end
/-- what the emitter has done: from the slices v of the world w -/
def EmSt (X : EmE) (v : EmV) (w : World) (s' : EmS) (w' : World) : Prop :=
 ∃ v', EmM X w' s' v' ∧ RestS (v.S X.p) w w' ∧ ∀ q, v'.S X.p q → v.S X.p q ∨ w.heap.size ≤ q
section
variable {X : EmE} {v v1 : EmV} {w w1 w2 : World} {s s1 s2 : EmS}
theorem EmSt.step (hr : RestS (v.S X.p) w w1) (hS : ∀ q, v1.S X.p q → v.S X.p q ∨ w.heap.size ≤ q) (h2 : EmSt X v1 w1 s2 w2) : EmSt X v w s2 w2 := by
 obtain ⟨v2, m2, r2, S2⟩ := h2
 refine ⟨v2, m2, ⟨r2.os.trans hr.os, r2.tape.trans hr.tape, r2.output.trans hr.output, Nat.le_trans hr.size r2.size, fun k hk hs => (r2.block k (Nat.lt_of_lt_of_le hk hr.size) fun h1 => ?_).trans (hr.block k hk hs)⟩, fun q hq => ?_⟩
 ·rcases hS k h1 with h1 | h1
  ·exact hs h1
  ·omega
 ·rcases S2 q hq with h1 | h1
  ·exact hS q h1
  ·exact .inr (Nat.le_trans hr.size h1)
theorem EmSt.refl (h : EmM X w s v) : EmSt X v w s w := ⟨v, h, RestS.refl _ _, fun q hq => .inl hq⟩
theorem EmSt.below (h : EmSt X v w s w1) (hb : Below w1.heap.size w1 w2) : EmSt X v w s w2 := by
 obtain ⟨v1, m1, r1, S1⟩ := h
 exact ⟨v1, m1.below hb, ⟨hb.os.trans r1.os, hb.tape.trans r1.tape, hb.output.trans r1.output, Nat.le_trans r1.size hb.size, fun k hk hs => (hb.block k (Nat.lt_of_lt_of_le hk r1.size)).trans (r1.block k hk hs)⟩, S1⟩
/-- the walk's form: what is to be shown behind a step, from what the step gives -/
theorem EmSt.then {Q : Prop} (h : EmSt X v w s w1) (k : ∀ v1, EmM X w1 s v1 → (∀ s2 w2, EmSt X v1 w1 s2 w2 → EmSt X v w s2 w2) → Q) : Q := by
 obtain ⟨v1, m1, r1, S1⟩ := h
 exact k v1 m1 fun s2 w2 h2 => EmSt.step r1 S1 h2
end
end

section
theorem Tryz.infoRI : (Tryz.prog.info? 59).map (fun i => (i.zero, i.size, i.bytes)) = some (some (.agg #[.int .i64 0, .int .i64 0, .int .i64 0, .int .i64 0, .int .i64 0, .int .i64 0]), 6, 48) := by kernel_rfl
theorem fillRI (c0 c1 c2 c3 c4 c5 : Int) (n : Nat) (hn : n = 6) : Instr.fill (fun i => some (i * n, n)) ((Array.range (1 * n)).map ((Value.agg #[.int .i64 0, .int .i64 0, .int .i64 0, .int .i64 0, .int .i64 0, .int .i64 0]).cells[· % (Value.agg #[.int .i64 0, .int .i64 0, .int .i64 0, .int .i64 0, .int .i64 0, .int .i64 0]).cells.size]!)) [(0, .agg #[.int .i64 c0, .int .i64 c1, .int .i64 c2, .int .i64 c3, .int .i64 c4, .int .i64 c5])] = some #[.int .i64 c0, .int .i64 c1, .int .i64 c2, .int .i64 c3, .int .i64 c4, .int .i64 c5] := by
 subst hn
 kernel_rfl
/-- a method without results -/
def EmP (X : EmE) (v : EmV) (w : World) (s' : EmS) (e : Ending) (w' : World) : Prop := e = .returned (.tuple #[]) ∧ EmSt X v w s' w'
/-- a method that returns a number -/
def EmN (X : EmE) (v : EmV) (w : World) (z : Int) (s' : EmS) (e : Ending) (w' : World) : Prop := e = .returned (.int .i64 z) ∧ EmSt X v w s' w'
set_option maxRecDepth 100000 in
set_option maxHeartbeats 4000000 in
theorem op_any (X : EmE) (hX : X.Ok) (w : World) (s : EmS) (v : EmV) (h : EmM X w s v) (hn : s.tot ≤ 10000000) (op d a b n : Int) :
  Calls Tryz.prog 79 #[.pointer (some ⟨X.p, 0, none⟩), .int .i64 op, .int .i64 d, .int .i64 a, .int .i64 b, .int .i64 n] w (EmP X v w (s.put op d a b n)) := by
 obtain ⟨ai, ci, ac, cc, am, cm, az, cz, aj, cj, e1, e2, e3, e4, e5⟩ := h.shapes
 have hpl := h.box.lt
 have HX2 := Lib.hid hX
 have hBw : X.B ≤ w.heap.size := Nat.le_trans h.hp (Nat.le_of_lt h.box.lt)
 have c0 : w.cell? ⟨X.p, 8, none⟩ = some v.i := h.box.cell 8
 rw [e1] at c0
 obtain ⟨n0, hn0⟩ : ∃ n0, n0 = s.items.length := ⟨_, rfl⟩
 have hn1 : n0 ≤ 10000000 := by unfold EmS.tot at hn; omega
 have HN0 := Lib.hid hn0
 rw [← hn0] at c0
 have hrow := h.oi
 rw [e1, ← hn0] at hrow
 obtain ⟨p, hp⟩ : ∃ p, p = X.p := ⟨_, rfl⟩
 rw [← hp] at c0 hpl ⊢
 have HP := Lib.hid hp
 have HROW := Lib.hid hrow
 have HM := Lib.hid h
 have HE1 := Lib.hid e1
 have HBW := Lib.hid hBw
 have hnew := (Blk.new w [.int .i64 op, .int .i64 d, .int .i64 a, .int .i64 b, .int .i64 n, .int .i64 (-1)] 59).cell
 have HNEW := Lib.hid hnew
 clear h hX e1 e2 e3 e4 e5 hn hn0 hrow hp hnew hBw
 obtain ⟨iv, hiv, hzv, hzs, hzy⟩ := info_parts Tryz.infoRI
 go_enter Tryz.func79, Tryz.ntmps79
 go_wp2_with (first | (refine wpList_buildSlice rfl 35 59 1 _ rfl #[.int .i64 op, .int .i64 d, .int .i64 a, .int .i64 b, .int .i64 n, .int .i64 (-1)] iv _ Tryz.underlying35 hiv hzv (by rw [hzs]; decide) (by rw [hzs]; decide) (by rw [Array.toList_map]; exact fillRI op d a b n (-1) _ hzs) ?_) | (at_builtin; refine wpList_append_lies _ rfl _ _ 35 rfl X.B 59 iv (.agg #[.int .i64 0, .int .i64 0, .int .i64 0, .int .i64 0, .int .i64 0, .int .i64 0]) 6 48 Tryz.underlying35 hiv hzv hzs hzy rfl (by decide) _ n0 _ rfl (HROW.out.alloc _) ⟨w.heap.size, 0, none⟩ 1 1 [.int .i64 op, .int .i64 d, .int .i64 a, .int .i64 b, .int .i64 n, .int .i64 (-1)] rfl rfl ?i2 ?i3 (by decide) ?i4 ?i5 ?i6 _ rfl ?_))
 case i2 => intro jj u hju; rw [Addr.add_lit, Nat.zero_add]; exact (HNEW.out jj).trans hju
 case i3 => intro u hu; simp at hu; rcases hu with rfl | rfl | rfl | rfl | rfl | rfl <;> rfl
 case i4 => unfold maxLen; omega
 case i5 => omega
 case i6 => rw [World.size_alloc]; have := HBW.out; omega
 intro g9 cap9 w9 ho hg hat hlt9
 have hba : Below w.heap.size w (w.alloc (.cells #[.int .i64 op, .int .i64 d, .int .i64 a, .int .i64 b, .int .i64 n, .int .i64 (-1)] 59)) := (Below.refl _ _).alloc (Nat.le_refl _) _
 have hm := HM.out.below hba
 rw [HN0.out, ← HE1.out] at hg hat
 have hown : w9.ownsRow X.B 59 6 (.slice (some ⟨g9, 0, none⟩) (n0 + 1) cap9) (s.items ++ [(⟨op, d, a, b, n, -1⟩ : MI)]).length ((s.items ++ [(⟨op, d, a, b, n, -1⟩ : MI)]).flatMap miC) := by
  rw [List.length_append, ← HN0.out, List.flatMap_append]
  simpa [miC] using ho
 have hbx := (hm.box.of_heap (hg.block X.p hm.box.lt fun e => own_noBox hm.oi hm.box (by decide) e.symm))
 have f0 := hbx.free 8
 have f0c : w9.cell? ⟨X.p, 8, none⟩ = some v.i := hbx.cell 8
 have hpl9 := hbx.lt
 rw [← HP.out] at f0 f0c hpl9
 have HD := Lib.hid (hm.growI HX2.out hown hg)
 have HR := Lib.hid ((below_refl_of hba (v.S X.p)).trans (((RestS.ofGrown hg).mono fun q hq => .inr (.inl hq)).set (p := ⟨X.p, 8, none⟩) (.inl rfl) (.slice (some ⟨g9, 0, none⟩) (n0 + 1) cap9)))
 have HS : Hid (∀ q, ({ v with i := .slice (some ⟨g9, 0, none⟩) (n0 + 1) cap9 } : EmV).S X.p q → v.S X.p q ∨ w.heap.size ≤ q) := EmV.S_new (fun q hq => by
  have : g9 = q := by simpa [Value.ownBlock] using hq
  rw [← this]
  rcases hat with e | e
  ·exact .inl e
  ·right; rw [e]; simp) (fun _ => .inl) (fun _ => .inl) (fun _ => .inl) (fun _ => .inl)
 clear ho hg hat hown hbx hba hm c0
 go_wp2_with fail
 refine bodyPost_end (results_none rfl _ _ _) rfl ?_
 rw [HP.out]
 exact ⟨rfl, _, HD.out, HR.out, HS.out⟩
def OfPost (q : Int × Int) (w : World) (e : Ending) (w' : World) : Prop := e = .returned (.agg #[.int .i64 q.1, .int .i64 q.2]) ∧ Below w.heap.size w w'
set_option maxRecDepth 100000 in
set_option maxHeartbeats 4000000 in
theorem of_any (X : EmE) (hX : X.Ok) (w : World) (s : EmS) (v : EmV) (h : EmM X w s v) (r : Int) (hr : 0 ≤ r ∧ r < X.n) :
 Calls Tryz.prog 81 #[.pointer (some ⟨X.p, 0, none⟩), .int .i64 r] w (OfPost (ofP X.a r) w) := by
 have hpl := h.box.lt
 have c4 : w.cell? ⟨X.p, 4, none⟩ = some (.slice X.a.ra X.a.rn X.a.rc) := h.box.cell 4
 have c5 : w.cell? ⟨X.p, 5, none⟩ = some (.slice X.a.sa X.a.sn X.a.sc) := h.box.cell 5
 obtain ⟨g, o, hra, hg, hc⟩ := (hX.aok.rcame.below h.be).ints (by have := hX.rn; omega)
 obtain ⟨k, u, hsa, hk, hd⟩ := (hX.aok.scame.below h.be).ints (by have := hX.sn; omega)
 have hrl : X.a.reg.length = X.n := by rw [← hX.rn]; simpa using hX.aok.rcame.count
 have hsl : X.a.slot.length = X.n := by rw [← hX.sn]; simpa using hX.aok.scame.count
 obtain ⟨n, hn⟩ : ∃ n : Nat, n = r.toNat := ⟨_, rfl⟩
 have hrn : r = (n : Int) := by omega
 have hnn : n < X.n := by omega
 have d0 := hc n (by omega)
 have d1 := hd n (by omega)
 have hrc := hX.aok.rcame.le
 have hsc := hX.aok.scame.le
 have hrm := hX.aok.rcame.max
 have hsm := hX.aok.scame.max
 rw [hX.rn] at c4 hrc
 rw [hX.sn] at c5 hsc
 rw [hra] at c4
 rw [hsa] at c5
 obtain ⟨z, hz⟩ : ∃ z, z = X.a.reg[n]'(by omega) := ⟨_, rfl⟩
 obtain ⟨y, hy⟩ : ∃ y, y = X.a.slot[n]'(by omega) := ⟨_, rfl⟩
 rw [← hz] at d0
 rw [← hy] at d1
 obtain ⟨q, hq⟩ : ∃ q, q = ofP X.a r := ⟨_, rfl⟩
 rw [← hq]
 have HQ : Hid (q = if r = 0 then (0, -1) else if 0 < z then (z, -1) else if 0 ≤ y then (-1, y) else (13, -1)) := by
  show q = _
  rw [hq]; unfold ofP
  rw [← hn, List.getD_eq_getElem?_getD, List.getElem?_eq_getElem (by omega), ← hz, List.getD_eq_getElem?_getD, List.getElem?_eq_getElem (by omega), ← hy]
  rfl
 obtain ⟨p, hp⟩ : ∃ p, p = X.p := ⟨_, rfl⟩
 rw [← hp] at c4 c5 hpl ⊢
 obtain ⟨N, hN⟩ : ∃ N, N = X.n := ⟨_, rfl⟩
 rw [← hN] at c4 c5 hnn hrc hsc
 obtain ⟨rc, h3⟩ : ∃ N, N = X.a.rc := ⟨_, rfl⟩
 obtain ⟨sc, h4⟩ : ∃ N, N = X.a.sc := ⟨_, rfl⟩
 rw [← h3] at c4 hrm hrc
 rw [← h4] at c5 hsm hsc
 subst hrn
 clear h hX hra hsa hc hd hr hz hy hq hp hN h3 h4 hrl hsl hn
 by_cases h0 : n = 0
 ·have h0' : (((n : Nat) : Int) == 0) = true := by simp [h0]
  have HE : Hid (q = (0, -1)) := by rw [HQ.out, if_pos (by omega)]; rfl
  subst h0
  go_enter Tryz.func81, Tryz.ntmps81
  go_wp2_with fail
  refine bodyPost_ret (v := .agg #[.int .i64 0, .int .i64 (-1)]) (by simp [results, Tryz.results81, go_sem]) rfl ?_
  rw [HE.out]
  exact ⟨rfl, (Below.refl _ _).alloc (Nat.le_refl _) _⟩
 ·have h0' : (((n : Nat) : Int) == 0) = false := beq_eq_false_iff_ne.2 (by omega)
  by_cases h1 : 0 < z
  ·have HE : Hid (q = (z, -1)) := by rw [HQ.out, if_neg (by omega), if_pos h1]; rfl
   go_enter Tryz.func81, Tryz.ntmps81
   go_wp2_with fail
   refine bodyPost_ret (v := .agg #[.int .i64 z, .int .i64 (-1)]) (by simp [results, Tryz.results81, go_sem]) rfl ?_
   rw [HE.out]
   exact ⟨rfl, (Below.refl _ _).alloc (Nat.le_refl _) _⟩
  ·by_cases h2 : 0 ≤ y
   ·have HE : Hid (q = (-1, y)) := by rw [HQ.out, if_neg (by omega), if_neg h1, if_pos h2]; rfl
    go_enter Tryz.func81, Tryz.ntmps81
    go_wp2_with fail
    refine bodyPost_ret (v := .agg #[.int .i64 (-1), .int .i64 y]) (by simp [results, Tryz.results81, go_sem]) rfl ?_
    rw [HE.out]
    exact ⟨rfl, (Below.refl _ _).alloc (Nat.le_refl _) _⟩
   ·have HE : Hid (q = (13, -1)) := by rw [HQ.out, if_neg (by omega), if_neg h1, if_neg h2]; rfl
    go_enter Tryz.func81, Tryz.ntmps81
    go_wp2_with fail
    refine bodyPost_ret (v := .agg #[.int .i64 13, .int .i64 (-1)]) (by simp [results, Tryz.results81, go_sem]) rfl ?_
    rw [HE.out]
    exact ⟨rfl, (Below.refl _ _).alloc (Nat.le_refl _) _⟩
theorem EmSt.ofBelow {X : EmE} {v : EmV} {w w1 w2 : World} {s2 : EmS} (hb : Below w.heap.size w w1) (h2 : EmSt X v w1 s2 w2) : EmSt X v w s2 w2 := EmSt.step (below_refl_of hb _) (fun q hq => .inl hq) h2
set_option maxRecDepth 100000 in
set_option maxHeartbeats 4000000 in
theorem load_any (X : EmE) (hX : X.Ok) (w : World) (s : EmS) (v : EmV) (h : EmM X w s v) (hn : s.tot ≤ 10000000) (r k : Int) (hk : -1 ≤ k ∧ k ≤ 10000) :
 Calls Tryz.prog 83 #[.pointer (some ⟨X.p, 0, none⟩), .int .i64 r, .int .i64 k] w (EmP X v w (s.load r k)) := by
 have HO := Lib.hid fun d => op_any X hX w s v h hn 12 r 14 0 d
 have hk1 := hk.1
 have hk2 := hk.2
 clear h hn hk
 go_enter Tryz.func83, Tryz.ntmps83
 go_wp2_with fail
 refine (HO.out _).mono ?_
 rintro e w1 ⟨rfl, hs⟩
 go_wp2_with fail
 refine bodyPost_end (results_none rfl _ _ _) rfl ?_
 exact ⟨rfl, hs⟩
set_option maxRecDepth 100000 in
set_option maxHeartbeats 4000000 in
theorem store_any (X : EmE) (hX : X.Ok) (w : World) (s : EmS) (v : EmV) (h : EmM X w s v) (hn : s.tot ≤ 10000000) (k r : Int) (hk : -1 ≤ k ∧ k ≤ 10000) :
 Calls Tryz.prog 80 #[.pointer (some ⟨X.p, 0, none⟩), .int .i64 k, .int .i64 r] w (EmP X v w (s.store k r)) := by
 have HO := Lib.hid fun d => op_any X hX w s v h hn 13 0 14 r d
 have hk1 := hk.1
 have hk2 := hk.2
 clear h hn hk
 go_enter Tryz.func80, Tryz.ntmps80
 go_wp2_with fail
 refine (HO.out _).mono ?_
 rintro e w1 ⟨rfl, hs⟩
 go_wp2_with fail
 refine bodyPost_end (results_none rfl _ _ _) rfl ?_
 exact ⟨rfl, hs⟩
theorem ofB {X : EmE} (hX : X.Ok) {r : Int} (hr : 0 ≤ r ∧ r < X.n) : (-1 ≤ (ofP X.a r).1 ∧ (ofP X.a r).1 ≤ 13) ∧ -1 ≤ (ofP X.a r).2 ∧ (ofP X.a r).2 ≤ 2047 := by
 have := hX.pl r.toNat (by omega)
 rwa [show ((r.toNat : Nat) : Int) = r by omega] at this
set_option maxRecDepth 100000 in
set_option maxHeartbeats 4000000 in
theorem fetch_any (X : EmE) (hX : X.Ok) (w : World) (s : EmS) (v : EmV) (h : EmM X w s v) (hn : s.tot ≤ 10000000) (r t : Int) (hr : 0 ≤ r ∧ r < X.n) :
 Calls Tryz.prog 87 #[.pointer (some ⟨X.p, 0, none⟩), .int .i64 r, .int .i64 t] w (EmN X v w (fetchR X.a r t) (s.fetch X.a r t)) := by
 have HO := Lib.hid (of_any X hX w s v h r hr)
 have hq := ofB hX hr
 unfold fetchR EmS.fetch
 rcases hqe : ofP X.a r with ⟨q1, q2⟩
 simp only [hqe] at hq HO
 obtain ⟨⟨h1, h2⟩, h3, h4⟩ := hq
 have HL := Lib.hid fun wx (hb : Below w.heap.size w wx) => load_any X hX wx s v (h.below hb) hn t q2 (by omega)
 have HM := Lib.hid h
 clear h hX hn hr hqe
 dsimp only at HO ⊢
 generalize hz : (if 0 ≤ q1 then q1 else t) = z
 generalize hs : (if 0 ≤ q1 then s else s.load t q2) = s'
 have HZ := Lib.hid hz
 have HS := Lib.hid hs
 clear hz hs
 go_enter Tryz.func87, Tryz.ntmps87
 go_wp2_with fail
 refine HO.out.mono ?_
 rintro e w1 ⟨rfl, hb⟩
 have HB := Lib.hid ((hb.alloc hb.size (.cells #[.int .i64 q1, .int .i64 q2] 138)))
 clear hb HO
 by_cases h0 : 0 ≤ q1
 ·go_wp2_with fail
  go_ret
  rw [← HZ.out, ← HS.out, if_pos h0, if_pos h0]
  exact ⟨rfl, (EmSt.refl HM.out).below HB.out⟩
 ·go_wp2_with fail
  refine (HL.out _ HB.out).mono ?_
  rintro e w2 ⟨rfl, hs⟩
  go_wp2_with fail
  go_ret
  rw [← HZ.out, ← HS.out, if_neg (by omega), if_neg (by omega)]
  exact ⟨rfl, EmSt.ofBelow HB.out hs⟩
set_option maxRecDepth 100000 in
set_option maxHeartbeats 4000000 in
theorem target_any (X : EmE) (hX : X.Ok) (w : World) (s : EmS) (v : EmV) (h : EmM X w s v) (r : Int) (hr : 0 ≤ r ∧ r < X.n) :
 Calls Tryz.prog 85 #[.pointer (some ⟨X.p, 0, none⟩), .int .i64 r] w (fun e w' => e = .returned (.int .i64 (targR X.a r)) ∧ Below w.heap.size w w') := by
 have HO := Lib.hid (of_any X hX w s v h r hr)
 unfold targR
 rcases hqe : ofP X.a r with ⟨q1, q2⟩
 simp only [hqe] at HO
 clear h hX hr hqe
 dsimp only at HO ⊢
 generalize hz : (if 0 ≤ q1 then q1 else 11) = z
 have HZ := Lib.hid hz
 clear hz
 go_enter Tryz.func85, Tryz.ntmps85
 go_wp2_with fail
 refine HO.out.mono ?_
 rintro e w1 ⟨rfl, hb⟩
 have HB := Lib.hid ((hb.alloc hb.size (.cells #[.int .i64 q1, .int .i64 q2] 138)))
 clear hb HO
 by_cases h0 : 0 ≤ q1
 ·go_wp2_with fail
  go_ret
  rw [← HZ.out, if_pos h0]
  exact ⟨rfl, HB.out⟩
 ·go_wp2_with fail
  go_ret
  rw [← HZ.out, if_neg (by omega)]
  exact ⟨rfl, HB.out⟩
set_option maxRecDepth 100000 in
set_option maxHeartbeats 4000000 in
theorem save_any (X : EmE) (hX : X.Ok) (w : World) (s : EmS) (v : EmV) (h : EmM X w s v) (hn : s.tot ≤ 10000000) (r t : Int) (hr : 0 ≤ r ∧ r < X.n) :
 Calls Tryz.prog 86 #[.pointer (some ⟨X.p, 0, none⟩), .int .i64 r, .int .i64 t] w (EmP X v w (s.save X.a r t)) := by
 have HO := Lib.hid (of_any X hX w s v h r hr)
 have hq := ofB hX hr
 unfold EmS.save
 rcases hqe : ofP X.a r with ⟨q1, q2⟩
 simp only [hqe] at hq HO
 obtain ⟨⟨h1, h2⟩, h3, h4⟩ := hq
 have HL := Lib.hid fun wx (hb : Below w.heap.size w wx) => store_any X hX wx s v (h.below hb) hn q2 t (by omega)
 have HM := Lib.hid h
 clear h hX hn hr hqe
 dsimp only at HO ⊢
 generalize hs : (if q1 < 0 then s.store q2 t else s) = s'
 have HS := Lib.hid hs
 clear hs
 go_enter Tryz.func86, Tryz.ntmps86
 go_wp2_with fail
 refine HO.out.mono ?_
 rintro e w1 ⟨rfl, hb⟩
 have HB := Lib.hid ((hb.alloc hb.size (.cells #[.int .i64 q1, .int .i64 q2] 138)))
 clear hb HO
 by_cases h0 : q1 < 0
 ·go_wp2_with fail
  refine (HL.out _ HB.out).mono ?_
  rintro e w2 ⟨rfl, hs⟩
  go_wp2_with fail
  refine bodyPost_end (results_none rfl _ _ _) rfl ?_
  rw [← HS.out, if_pos h0]
  exact ⟨rfl, EmSt.ofBelow HB.out hs⟩
 ·go_wp2_with fail
  refine bodyPost_end (results_none rfl _ _ _) rfl ?_
  rw [← HS.out, if_neg (by omega)]
  exact ⟨rfl, (EmSt.refl HM.out).below HB.out⟩
end

section
/-- blocks a and b stay -/
def KeepE (a b : Nat) (w w' : World) : Prop := w'.heap[a]? = w.heap[a]? ∧ w'.heap[b]? = w.heap[b]?
instance (a b : Nat) : PreR (KeepE a b) := ⟨fun w => ⟨rfl, rfl⟩, fun h k => ⟨k.1.trans h.1, k.2.trans h.2⟩⟩
theorem Tryz.info2I : (Tryz.prog.info? 85).map (fun i => (i.zero, i.size, i.bytes)) = some (some (.agg #[.int .i64 0, .int .i64 0]), 2, 16) := by kernel_rfl
set_option maxRecDepth 100000 in
set_option maxHeartbeats 4000000 in
theorem jump_any (X : EmE) (hX : X.Ok) (w : World) (s : EmS) (v : EmV) (h : EmM X w s v) (hn : s.tot + 2 ≤ 10000000) (op a b k : Int) :
 Calls Tryz.prog 89 #[.pointer (some ⟨X.p, 0, none⟩), .int .i64 op, .int .i64 a, .int .i64 b, .int .i64 k] w (EmP X v w (s.jump op a b k)) := by
 obtain ⟨ai, ci, ac, cc, am, cm, az, cz, aj, cj, e1, e2, e3, e4, e5⟩ := h.shapes
 have hpl := h.box.lt
 have HX2 := Lib.hid hX
 have HBW : Hid (X.B ≤ w.heap.size) := Nat.le_trans h.hp (Nat.le_of_lt h.box.lt)
 have c0 : w.cell? ⟨X.p, 8, none⟩ = some v.i := h.box.cell 8
 have c1 : w.cell? ⟨X.p, 13, none⟩ = some v.j := h.box.cell 13
 rw [e1] at c0
 rw [e5] at c1
 obtain ⟨n0, hn0⟩ : ∃ n0, n0 = s.items.length := ⟨_, rfl⟩
 obtain ⟨m0, hm0⟩ : ∃ n0, n0 = s.jumps.length := ⟨_, rfl⟩
 have hn1 : n0 ≤ 10000000 := by unfold EmS.tot at hn; omega
 have hm1 : m0 ≤ 10000000 := by unfold EmS.tot at hn; omega
 have HN0 := Lib.hid hn0
 have HM0 := Lib.hid hm0
 rw [← hn0] at c0
 rw [← hm0] at c1
 have hrow := h.oj
 rw [e5, ← hm0] at hrow
 obtain ⟨p, hp⟩ : ∃ p, p = X.p := ⟨_, rfl⟩
 rw [← hp] at c0 c1 hpl ⊢
 have HP := Lib.hid hp
 have HROW := Lib.hid hrow
 have HM := Lib.hid h
 have HE5 := Lib.hid e5
 have HTN := Lib.hid hn
 have hnew := (Blk.new w [.int .i64 (n0 : Int), .int .i64 k] 85).cell
 have HNEW := Lib.hid hnew
 have r0 := fun x : AfterR (KeepE p p) w.drew => (World.cell?_of_block (a := ⟨p, 8, none⟩) x.rel.1).trans c0
 have r1 := fun x : AfterR (KeepE p p) w.drew => (World.cell?_of_block (a := ⟨p, 13, none⟩) x.rel.1).trans c1
 clear h hX e1 e2 e3 e4 e5 hn hn0 hm0 hrow hp hnew c0 c1
 obtain ⟨iv, hiv, hzv, hzs, hzy⟩ := info_parts Tryz.info2I
 go_enter Tryz.func89, Tryz.ntmps89
 go_wp2_with fail
 refine wp_region_eagerRT (KeepE p p) [(0, true), (1, true), (2, true), (3, true), (4, true), (5, true), (6, true), (7, true), (8, true), (9, true), (10, true), (11, true), (12, true), (13, false), (14, false), (15, true), (16, true), (17, false)] (by kernel_rfl) (by kernel_rfl) ?_
 repeat (refine eagR_readT rfl ?_; go_big_quiet_step (fail); refine wpQuiet_nil ?_)
 clear r0 r1
 refine eagR_doesT rfl rfl ?_
 intro K hK
 go_simp
 refine hK _ _ (fun _ => ⟨Below.heap_alloc _ _ _ hpl, Below.heap_alloc _ _ _ hpl⟩) ?_
 clear hK K
 have hba : Below w.heap.size w (w.alloc (.cells #[.int .i64 (n0 : Int), .int .i64 k] 85)).drew := ((Below.refl _ _).alloc (Nat.le_refl _) _).drew
 have HNW : Hid (∀ i, (w.alloc (.cells #[.int .i64 (n0 : Int), .int .i64 k] 85)).drew.cell? ⟨w.heap.size, i, none⟩ = [Value.int .i64 (n0 : Int), .int .i64 k][i]?) := HNEW.out
 have HM1 := Lib.hid (HM.out.below hba)
 have HBA := Lib.hid hba
 have hrow := ownG_below HROW.out hba
 clear hba HNEW HROW
 generalize (w.alloc (.cells #[.int .i64 (n0 : Int), .int .i64 k] 85)).drew = w1 at HNW HM1 HBA hrow ⊢
 refine eagR_doesT rfl rfl ?_
 intro K hK
 refine wp_append_lies _ _ _ 74 rfl X.B 85 iv (.agg #[.int .i64 0, .int .i64 0]) 2 16 Tryz.underlying74 hiv hzv hzs hzy rfl (by decide) (Value.slice aj m0 cj) m0 _ rfl hrow ⟨w.heap.size, 0, none⟩ 1 1 [.int .i64 (n0 : Int), .int .i64 k] rfl rfl ?_ ?_ (by decide) ?_ ?_ (Nat.le_trans HBW.out HBA.out.size) w1.heap.size rfl ?_
 ·intro jj u hju; rw [Addr.add_lit, Nat.zero_add]; exact (HNW.out jj).trans hju
 ·intro u hu; simp at hu; rcases hu with rfl | rfl <;> rfl
 ·unfold maxLen; omega
 ·omega
 intro g9 cap9 w9 ho hg hat hlt9
 rw [HM0.out, ← HE5.out] at hg hat
 have hown : w9.ownsRow X.B 85 2 (.slice (some ⟨g9, 0, none⟩) (m0 + 1) cap9) (s.jumps ++ [((n0 : Nat), k)]).length ((s.jumps ++ [((n0 : Nat), k)]).flatMap fcC) := by
  rw [List.length_append, ← HM0.out, List.flatMap_append]
  simpa [fcC] using ho
 have hbx := (HM1.out.box.of_heap (hg.block X.p HM1.out.box.lt fun e => own_noBox HM1.out.oj HM1.out.box (by decide) e.symm))
 have hpk : w9.heap[X.p]? = w1.heap[X.p]? := hg.block X.p HM1.out.box.lt fun e => own_noBox HM1.out.oj HM1.out.box (by decide) e.symm
 rw [← HP.out] at hpk
 have f0 := hbx.free 13
 have f0c : w9.cell? ⟨X.p, 13, none⟩ = some v.j := hbx.cell 13
 have hpl9 := hbx.lt
 rw [← HP.out] at f0 f0c hpl9
 have HD := Lib.hid (HM1.out.growJ HX2.out hown hg)
 have HR := Lib.hid ((below_refl_of HBA.out (v.S X.p)).trans (((RestS.ofGrown hg).mono fun q hq => .inr (.inr (.inr (.inr (.inr hq))))).set (p := ⟨X.p, 13, none⟩) (.inl rfl) (.slice (some ⟨g9, 0, none⟩) (m0 + 1) cap9)))
 have HS : Hid (∀ q, ({ v with j := .slice (some ⟨g9, 0, none⟩) (m0 + 1) cap9 } : EmV).S X.p q → v.S X.p q ∨ w.heap.size ≤ q) := EmV.S_new (fun _ => .inl) (fun _ => .inl) (fun _ => .inl) (fun _ => .inl) fun q hq => by
  have : g9 = q := by simpa [Value.ownBlock] using hq
  rw [← this]
  rcases hat with e | e
  ·exact .inl e
  ·right; rw [e]; exact HBA.out.size
 go_simp
 refine hK _ _ (fun _ => ⟨hpk, hpk⟩) ?_
 clear hK K ho hg hat hown hbx hrow hpk
 repeat (refine eagR_readT rfl ?_; go_big_quiet_step (fail); refine wpQuiet_nil ?_)
 refine eagR_freeT rfl rfl (by kernel_rfl) ?_
 intro K hK
 go_simp
 refine hK _ _ ?_
 clear hK K f0 f0c
 go_simp
 refine eagR_endT ?_
 have HO := Lib.hid (op_any X HX2.out _ _ _ HD.out (by have := HTN.out; simp [EmS.tot] at this ⊢; omega) op 0 a b 0)
 rw [← HP.out] at HO HR
 go_wp2_with fail
 refine HO.out.mono ?_
 rintro e w2 ⟨rfl, hs⟩
 go_wp2_with fail
 refine bodyPost_end (results_none rfl _ _ _) rfl ?_
 refine ⟨rfl, ?_⟩
 have hst := EmSt.step (X := X) (by rw [← HP.out]; exact HR.out) HS.out hs
 rw [HN0.out] at hst
 exact hst
end

section
def mvC (x : Int × Int) : List Value := [.int .i64 x.1, .int .i64 x.2]
theorem mvC_len (x : Int × Int) : (mvC x).length = 2 := rfl
def mvV (x : Int × Int) : Value := .agg #[.int .i64 x.1, .int .i64 x.2]
def MvR (w : World) (base : Nat) (a : Option Addr) (c : Nat) (xs : List (Int × Int)) : Prop := w.ownsRow base 85 2 (.slice a xs.length c) xs.length (xs.flatMap mvC)
theorem mvs_len (xs : List (Int × Int)) : (xs.flatMap mvC).length = xs.length * 2 := flatN_len mvC_len xs
theorem ownE_cellAt {w : World} {base : Nat} {e : TypeId} {size n cap g : Nat} {l : List Value} (h : w.ownsRow base e size (.slice (some ⟨g, 0, none⟩) n cap) n l) {j : Nat} (hj : j < n * size) : w.cell? ⟨g, j, none⟩ = l[j]? ∧ w.frozen? ⟨g, j, none⟩ = false := by
 rcases h.2 with ⟨hx, _⟩ | ⟨g1, c, cur, hv, h1, h2, h3, h4, h5, h6⟩
 ·cases hx
 ·injection hv with e1 e2 e3
  injection e1 with e1
  injection e1 with e1 _ _
  subst e1 e3
  have h7 : l[j]? = cur[j]? := by
   rw [← h6, List.getElem?_take, if_pos hj]
   simp
  refine ⟨?_, ?_⟩
  ·simp only [World.cell?, h2]
   rw [h7]
   rfl
  ·simp [World.frozen?, h2]
theorem ownE_set {w : World} {base : Nat} {e : TypeId} {size n cap g : Nat} {l : List Value} (h : w.ownsRow base e size (.slice (some ⟨g, 0, none⟩) n cap) n l) (j : Nat) (u : Value) (hj : j < n * size) : (w.setCell ⟨g, j, none⟩ u).ownsRow base e size (.slice (some ⟨g, 0, none⟩) n cap) n (l.set j u) := by
 refine ⟨by simpa using h.1, ?_⟩
 rcases h.2 with ⟨hx, _⟩ | ⟨g1, c, cur, hv, h1, h2, h3, h4, h5, h6⟩
 ·cases hx
 ·injection hv with e1 e2 e3
  injection e1 with e1
  injection e1 with e1 _ _
  subst e1 e3
  refine .inr ⟨g, cap, cur.setIfInBounds j u, rfl, h1, ?_, h3, h4, by simpa using h5, ?_⟩
  ·simp [World.setCell, Array.getElem?_modify, h2]
  ·rw [Array.toList_setIfInBounds, List.take_set, h6]
section
variable {w w' : World} {base : Nat} {a : Option Addr} {c : Nat} {xs : List (Int × Int)}
theorem MvR.has (h : MvR w base a c xs) (h0 : 0 < xs.length) : ∃ g, a = some ⟨g, 0, none⟩ ∧ base ≤ g ∧ g < w.heap.size ∧ xs.length ≤ c ∧ c ≤ maxLen := by
 obtain ⟨g, cap, hv, h1, h2, h3, h4⟩ := ownG_has h h0
 injection hv with e1 _ e3
 subst e1 e3
 exact ⟨g, rfl, h1, h2, h3, h4⟩
theorem MvR.cells {g : Nat} (h : MvR w base (some ⟨g, 0, none⟩) c xs) {i : Nat} (hi : i < xs.length) : w.cell? ⟨g, i * 2, none⟩ = some (.int .i64 xs[i].1) ∧ w.cell? ⟨g, i * 2 + 1, none⟩ = some (.int .i64 xs[i].2) := by
 have key : ∀ j, j < 2 → w.cell? ⟨g, i * 2 + j, none⟩ = (mvC xs[i])[j]? := fun j hj => by
  rw [(ownE_cellAt h (j := i * 2 + j) (by omega)).1]
  exact flatN_get mvC_len xs i j hi hj
 exact ⟨key 0 (by omega), key 1 (by omega)⟩
theorem MvR.frees {g : Nat} (h : MvR w base (some ⟨g, 0, none⟩) c xs) {i : Nat} (hi : i < xs.length) (j : Nat) (hj : j < 2) : w.frozen? ⟨g, i * 2 + j, none⟩ = false := (ownE_cellAt h (j := i * 2 + j) (by omega)).2
theorem MvR.set {g : Nat} (h : MvR w base (some ⟨g, 0, none⟩) c xs) {i : Nat} (hi : i < xs.length) (j : Nat) (hj : j < 2) (v : Value) (y : Int × Int) (hy : (mvC xs[i]).set j v = mvC y) : MvR (w.setCell ⟨g, i * 2 + j, none⟩ v) base (some ⟨g, 0, none⟩) c (xs.set i y) := by
 have h1 := ownE_set h (i * 2 + j) v (by omega)
 rw [flatN_set mvC_len xs i j v y hi hj hy] at h1
 unfold MvR
 rw [List.length_set]
 exact h1
theorem MvR.put {g : Nat} (h : MvR w base (some ⟨g, 0, none⟩) c xs) {i : Nat} (hi : i < xs.length) (y : Int × Int) : MvR ((w.setCell ⟨g, i * 2, none⟩ (.int .i64 y.1)).setCell ⟨g, i * 2 + 1, none⟩ (.int .i64 y.2)) base (some ⟨g, 0, none⟩) c (xs.set i y) := by
 have h1 := h.set hi 0 (by omega) (.int .i64 y.1) (y.1, xs[i].2) rfl
 have h2 := h1.set (i := i) (by simpa using hi) 1 (by omega) (.int .i64 y.2) y (by simp [mvC])
 rw [List.set_set] at h2
 exact h2
theorem MvR.below (h : MvR w base a c xs) (hb : Below w.heap.size w w') : MvR w' base a c xs := ownG_below h hb
end
def BoolPost (b : Bool) (w : World) (e : Ending) (w' : World) : Prop := e = .returned (.bool b) ∧ Below w.heap.size w w'
def IntOf (z : Int) (w : World) (e : Ending) (w' : World) : Prop := e = .returned (.int .i64 z) ∧ Below w.heap.size w w'
/-- what IndexFunc answers -/
def ixP (p : Int × Int → Bool) (xs : List (Int × Int)) : Int := match xs.findIdx? p with | some i => (i : Int) | none => -1
theorem ixP_s {p : Int × Int → Bool} {xs : List (Int × Int)} {k : Nat} (h : xs.findIdx? p = some k) : ixP p xs = k := by simp [ixP, h]
theorem ixP_n {p : Int × Int → Bool} {xs : List (Int × Int)} (h : xs.findIdx? p = none) : ixP p xs = -1 := by simp [ixP, h]
theorem ixP_some {p : Int × Int → Bool} {xs : List (Int × Int)} {k : Nat} (h : k < xs.length) (hp : p xs[k] = true) (hb : ∀ j (hj : j < xs.length), j < k → p xs[j] = false) : xs.findIdx? p = some k :=
 List.findIdx?_eq_some_iff_getElem.mpr ⟨h, hp, fun j hj => by simp [hb j (by omega) hj]⟩
theorem ixP_none {p : Int × Int → Bool} {xs : List (Int × Int)} (hb : ∀ j (hj : j < xs.length), p xs[j] = false) : xs.findIdx? p = none := by
 rw [List.findIdx?_eq_none_iff]
 intro x hx
 obtain ⟨j, hj, rfl⟩ := List.getElem_of_mem hx
 exact hb j hj
set_option maxRecDepth 100000 in
set_option maxHeartbeats 8000000 in
theorem ixf_mv (fid : FuncId) (cap : Array Value) (he : ∀ args w, (callFunc fid args).run Tryz.prog w = .ok (.enter fid args) w) (w : World) (base : Nat) (a : Option Addr) (c n : Nat) (xs : List (Int × Int)) (h : MvR w base a c xs) (hn : n = xs.length) (hn2 : n ≤ 10000) (p : Int × Int → Bool)
  (hc : ∀ wx x, x ∈ xs → Below w.heap.size w wx → Calls Tryz.prog fid (#[mvV x] ++ cap) wx (BoolPost (p x) wx)) :
  Calls Tryz.prog 101 #[.slice a n c, .func (.func fid) #[] cap] w (IntOf (ixP p xs) w) := by
 have H := Lib.hid h
 have HN := Lib.hid hn
 have HC := Lib.hid hc
 obtain ⟨z, hz⟩ : ∃ z, z = ixP p xs := ⟨_, rfl⟩
 rw [← hz]
 have HZ := Lib.hid hz
 clear h hn hc hz
 go_enter Tryz.func101, Tryz.ntmps101
 go_wp2_with fail
 go_loopw [5, 8] (fun _ u wr => ∃ k : Nat, k ≤ n ∧ u = .int .i64 (k : Int) ∧ Below w.heap.size w wr ∧ ∀ j (hj : j < xs.length), j < k → p xs[j] = false) (fun _ u _ => n - (intOf u).toNat)
 case atStart => exact ⟨0, Nat.zero_le _, rfl, Below.refl _ _, fun j _ hj => absurd hj (Nat.not_lt_zero _)⟩
 case round =>
  obtain ⟨k, hk, rfl, hbw, hno⟩ := hrel
  have HNO := Lib.hid hno
  have HB := Lib.hid hbw
  clear hno hbw
  by_cases hlt : k < n
  ·have hkx : k < xs.length := by rw [← HN.out]; exact hlt
   obtain ⟨g, rfl, _, hg, _⟩ := H.out.has (by omega)
   have hr := H.out.below HB.out
   have hgw := (hr.lt g rfl).2
   obtain ⟨c0, c1⟩ := hr.cells hkx
   have HMM : Hid (xs[k] ∈ xs) := List.getElem_mem _
   obtain ⟨x, hx⟩ : ∃ x, x = xs[k] := ⟨_, rfl⟩
   rw [← hx] at c0 c1 HMM
   have HGN := Lib.hid fun wx (h9 : Below w.heap.size w wx) => HC.out wx x HMM.out h9
   unfold mvV at HGN
   have HX := Lib.hid hx
   have hki : (k : Int) < (n : Int) := by omega
   cases hq : p x
   ·rw [hq] at HGN
    have HQ := Lib.hid hq
    clear hq hx hr hlt
    go_wp2_with fail
    refine (HGN.out _ HB.out).mono ?_
    rintro e w7 ⟨rfl, hb7⟩
    have HB7 := Lib.hid (HB.out.trans (hb7.mono HB.out.size))
    clear hb7 HGN c0 c1
    go_wp2_with fail
    go_roundw
    case rel =>
     refine ⟨k + 1, by omega, by go_num, HB7.out, fun j hj2 hj => ?_⟩
     by_cases e : j = k
     ·subst e; rw [← HX.out]; exact HQ.out
     ·exact HNO.out j hj2 (by omega)
    case measure => simp [intOf]; omega
   ·rw [hq] at HGN
    have HQ := Lib.hid hq
    clear hq hx hr hlt
    go_wp2_with fail
    refine (HGN.out _ HB.out).mono ?_
    rintro e w7 ⟨rfl, hb7⟩
    have HB7 := Lib.hid (HB.out.trans (hb7.mono HB.out.size))
    clear hb7 HGN c0 c1
    go_wp2_with fail
    go_ret
    refine ⟨?_, HB7.out⟩
    rw [HZ.out, ixP_s (ixP_some hkx (by rw [← HX.out]; exact HQ.out) HNO.out)]
    rfl
  ·have hle : ¬ (k : Int) < (n : Int) := by omega
   go_wp2_with fail
   go_ret
   refine ⟨?_, HB.out⟩
   rw [HZ.out, ixP_n (ixP_none fun j hj => HNO.out j hj (by have := HN.out; omega))]
   rfl
set_option maxRecDepth 100000 in
set_option maxHeartbeats 4000000 in
theorem cont_mv (fid : FuncId) (cap : Array Value) (he : ∀ args w, (callFunc fid args).run Tryz.prog w = .ok (.enter fid args) w) (w : World) (base : Nat) (a : Option Addr) (c n : Nat) (xs : List (Int × Int)) (h : MvR w base a c xs) (hn : n = xs.length) (hn2 : n ≤ 10000) (p : Int × Int → Bool)
  (hc : ∀ wx x, x ∈ xs → Below w.heap.size w wx → Calls Tryz.prog fid (#[mvV x] ++ cap) wx (BoolPost (p x) wx)) :
  Calls Tryz.prog 103 #[.slice a n c, .func (.func fid) #[] cap] w (BoolPost (xs.any p) w) := by
 have HI := Lib.hid (ixf_mv fid cap he w base a c n xs h hn hn2 p hc)
 obtain ⟨b, hb⟩ : ∃ b, b = xs.any p := ⟨_, rfl⟩
 rw [← hb]
 cases hf : xs.findIdx? p with
 | none =>
  have hp : b = false := by
   rw [hb, List.any_eq_false]
   intro x hx
   have := List.findIdx?_eq_none_iff.mp hf x hx
   simp [this]
  subst hp
  rw [ixP_n hf] at HI
  clear h hn hc hf hb
  go_enter Tryz.func103, Tryz.ntmps103
  go_wp2_with fail
  refine HI.out.mono ?_
  rintro e w1 ⟨rfl, hb⟩
  go_wp2_with fail
  go_ret
  exact ⟨rfl, hb⟩
 | some i =>
  have hp : b = true := by
   rw [hb, List.any_eq_true]
   obtain ⟨h1, h2, _⟩ := List.findIdx?_eq_some_iff_getElem.mp hf
   exact ⟨_, List.getElem_mem h1, h2⟩
  subst hp
  rw [ixP_s hf] at HI
  clear h hn hc hf hb
  go_enter Tryz.func103, Tryz.ntmps103
  go_wp2_with fail
  refine HI.out.mono ?_
  rintro e w1 ⟨rfl, hb⟩
  go_wp2_with fail
  go_ret
  exact ⟨rfl, hb⟩
theorem flat_takeM (xs : List (Int × Int)) (i : Nat) : (xs.take i).flatMap mvC = (xs.flatMap mvC).take (i * 2) := by
 by_cases hi : i ≤ xs.length
 ·have h9 : xs.flatMap mvC = (xs.take i).flatMap mvC ++ (xs.drop i).flatMap mvC := by rw [← List.flatMap_append, List.take_append_drop]
  rw [h9, List.take_left' (by rw [mvs_len, List.length_take]; omega)]
 ·rw [List.take_of_length_le (by omega), List.take_of_length_le (by rw [mvs_len]; omega)]
/-- an own row into which cells are written -/
theorem MvR.wr {w : World} {base g c i : Nat} {xs ys : List (Int × Int)} (h : MvR w base (some ⟨g, 0, none⟩) c xs) (hi : i + ys.length ≤ xs.length) : MvR (w.setCells g (i * 2) (ys.flatMap mvC)) base (some ⟨g, 0, none⟩) c (xs.take i ++ ys ++ xs.drop (i + ys.length)) := by
 have hL : (xs.take i ++ ys ++ xs.drop (i + ys.length)).length = xs.length := by simp; omega
 obtain ⟨_, h2⟩ := h
 rcases h2 with ⟨h0, _⟩ | ⟨g', cap', cur, hv, hg, hh, hn, hcap, hsz, htake⟩
 ·cases h0
 ·cases hv
  obtain ⟨cur', k1, k2, k3⟩ := setCells_heap g 85 (ys.flatMap mvC) (i * 2) w cur hh
  have hyl := mvs_len ys
  unfold MvR
  rw [hL]
  refine ⟨by rw [mvs_len, hL], .inr ⟨g, c, cur', rfl, hg, k1, hn, hcap, by omega, ?_⟩⟩
  apply List.ext_getElem?
  intro j
  have hF : ∀ j, j < xs.length * 2 → (xs.flatMap mvC)[j]? = cur[j]? := fun j hj => by rw [← htake, List.getElem?_take_of_lt hj, Array.getElem?_toList]
  have hR : (xs.take i ++ ys ++ xs.drop (i + ys.length)).flatMap mvC = (xs.take i).flatMap mvC ++ ys.flatMap mvC ++ (xs.drop (i + ys.length)).flatMap mvC := by rw [List.flatMap_append, List.flatMap_append]
  have hl1 : ((xs.take i).flatMap mvC).length = i * 2 := by rw [mvs_len, List.length_take]; omega
  by_cases hj : j < xs.length * 2
  ·rw [List.getElem?_take_of_lt hj, Array.getElem?_toList, k3 j (by omega), hR]
   by_cases h1 : j < i * 2
   ·rw [if_neg (by omega), List.append_assoc, List.getElem?_append_left (by omega), flat_takeM, List.getElem?_take_of_lt h1, hF j hj]
   ·by_cases h2 : j < i * 2 + ys.length * 2
    ·rw [if_pos (by omega), List.append_assoc, List.getElem?_append_right (by omega), hl1, List.getElem?_append_left (by omega)]
    ·rw [if_neg (by omega), List.getElem?_append_right (by rw [List.length_append, hl1, hyl]; omega), List.length_append, hl1, hyl, ← hF j hj]
     have h9 : xs.flatMap mvC = (xs.take (i + ys.length)).flatMap mvC ++ (xs.drop (i + ys.length)).flatMap mvC := by rw [← List.flatMap_append, List.take_append_drop]
     have hl9 : ((xs.take (i + ys.length)).flatMap mvC).length = i * 2 + ys.length * 2 := by rw [mvs_len, List.length_take]; omega
     rw [h9, List.getElem?_append_right (by omega), hl9]
  ·rw [List.getElem?_eq_none (by rw [List.length_take]; omega), List.getElem?_eq_none (by rw [mvs_len, hL]; omega)]
/-- the beginning of an own row -/
theorem MvR.take {w : World} {base : Nat} {a : Option Addr} {c i : Nat} {xs : List (Int × Int)} (h : MvR w base a c xs) (ha : a ≠ none) : MvR w base a c (xs.take i) := by
 have hl : (xs.take i).length ≤ xs.length := by simp; omega
 obtain ⟨_, h2⟩ := h
 rcases h2 with ⟨h0, h1⟩ | ⟨g', cap', cur, hv, hg, hh, hn, hcap, hsz, htake⟩
 ·injection h0 with h0; exact absurd h0 ha
 ·cases hv
  refine ⟨mvs_len _, .inr ⟨g', _, cur, rfl, hg, hh, by omega, hcap, hsz, ?_⟩⟩
  rw [flat_takeM, ← htake, List.take_take, List.length_take]
  congr 1
  omega
theorem Tryz.zero2I (w : World) : (zeroValue 85).run Tryz.prog w = .ok (.agg #[.int .i64 0, .int .i64 0]) w := by kernel_rfl
def z2I : Value := .agg #[.int .i64 0, .int .i64 0]
theorem zs2I (n : Nat) : (Builtin.zeroCells z2I.cells n).toList = (List.replicate n ((0 : Int), (0 : Int))).flatMap mvC := by
 apply List.ext_getElem?
 intro j
 rw [show z2I.cells = #[.int .i64 0, .int .i64 0] from by kernel_rfl]
 have hl : ((List.replicate n ((0 : Int), (0 : Int))).flatMap mvC).length = n * 2 := by rw [mvs_len]; simp
 by_cases hj : j < n * 2
 ·have h1 := flatN_get mvC_len (List.replicate n ((0 : Int), (0 : Int))) (j / 2) (j % 2) (by simp; omega) (by omega)
  rw [show j / 2 * 2 + j % 2 = j by omega] at h1
  rw [h1]
  rcases (by omega : j % 2 = 0 ∨ j % 2 = 1) with e | e <;> simp [Builtin.zeroCells, hj, e, mvC]
 ·rw [List.getElem?_eq_none (by simp [Builtin.zeroCells]; omega), List.getElem?_eq_none (by omega)]
theorem mv_one (ys : List (Int × Int)) : ∀ v ∈ ys.flatMap mvC, v.oneCell' = true := fun v hv => by
 obtain ⟨x, _, hx⟩ := List.mem_flatMap.mp hv
 simp [mvC] at hx
 rcases hx with rfl | rfl <;> rfl
/-- clear of the end of an own row -/
theorem clear_mv (w : World) (base g c i : Nat) (ys : List (Int × Int)) (h : MvR w base (some ⟨g, 0, none⟩) c ys) (hi : i < ys.length) :
  ∃ w', (∀ ty c', (Builtin.clear_ #[74] ty #[.slice (some ⟨g, i * 2, none⟩) (ys.length - i) c']).run Tryz.prog w = .ok (.tuple #[]) w') ∧ MvR w' base (some ⟨g, 0, none⟩) c (ys.take i) ∧ RestS (fun k => k = g) w w' := by
 have hcell : ∀ j, j < (ys.length - i) * 2 → (w.cell? ⟨g, i * 2 + j, none⟩).isSome = true ∧ w.frozen? ⟨g, i * 2 + j, none⟩ = false := fun j hj => by
  have h9 := ownE_cellAt h (j := i * 2 + j) (by omega)
  refine ⟨?_, h9.2⟩
  rw [h9.1, List.getElem?_eq_getElem (by rw [mvs_len]; omega)]
  rfl
 have hzl : ((List.replicate (ys.length - i) ((0 : Int), (0 : Int))).flatMap mvC).length = (ys.length - i) * 2 := by rw [mvs_len]; simp
 have hst := run_storeCells_cells (P := Tryz.prog) g (i * 2) ((List.replicate (ys.length - i) ((0 : Int), (0 : Int))).flatMap mvC) 0 w (fun j hj => (hcell _ (by omega)).1) (fun j hj => (hcell _ (by omega)).2) (mv_one _)
 have hgr := setCells_grown g ((List.replicate (ys.length - i) ((0 : Int), (0 : Int))).flatMap mvC) (i * 2) w
 have hw := h.wr (i := i) (ys := List.replicate (ys.length - i) ((0 : Int), (0 : Int))) (by simp; omega)
 have ht := hw.take (i := i) (by simp)
 rw [List.append_assoc, List.take_append_of_le_length (by rw [List.length_take]; omega), List.take_take, Nat.min_self] at ht
 refine ⟨_, fun ty c' => ?_, ht, ⟨hgr.os, hgr.tape, hgr.output, hgr.size, fun k hk hne => hgr.block k hk fun e => hne (by injection e)⟩⟩
 simp only [Nat.add_zero] at hst
 rw [← zs2I] at hst ⊢
 obtain ⟨m, hm⟩ : ∃ m, ys.length - i = m + 1 := ⟨ys.length - i - 1, by omega⟩
 rw [hm] at hst ⊢
 have hz : ∀ w, (zeroValue 85).run Tryz.prog w = .ok z2I w := Tryz.zero2I
 simp [Builtin.clear_, run_underlying Tryz.underlying74, hz, hst]
end

section
def kpP (p : Int × Int → Bool) (xs : List (Int × Int)) : List (Int × Int) := xs.filter fun x => !p x
theorem kpP_snoc (p : Int × Int → Bool) (xs : List (Int × Int)) (x : Int × Int) : kpP p (xs ++ [x]) = if p x then kpP p xs else kpP p xs ++ [x] := by
 unfold kpP
 rw [List.filter_append]
 cases h : p x <;> simp [h]
theorem kpP_all {p : Int × Int → Bool} {xs : List (Int × Int)} (h : ∀ j (hj : j < xs.length), p xs[j] = false) : kpP p xs = xs := by
 unfold kpP
 rw [List.filter_eq_self]
 intro x hx
 obtain ⟨j, hj, rfl⟩ := List.getElem_of_mem hx
 simp [h j hj]
/-- a slice of pairs is handed back, cut in place -/
def MvP (base : Nat) (a : Option Addr) (c n : Nat) (ys : List (Int × Int)) (w : World) (e : Ending) (w' : World) : Prop :=
 e = .returned (.slice a ys.length c) ∧ MvR w' base a c ys ∧ RestS (fun k => (Value.slice a n c).ownBlock = some k) w w'
/-- what DeleteFunc's loop keeps -/
structure DlK (p : Int × Int → Bool) (xs : List (Int × Int)) (base g n c : Nat) (w wr : World) (i j : Nat) (ys : List (Int × Int)) : Prop where
 lt : i < j ∧ j ≤ n
 len : (kpP p (xs.take j)).length = i
 ylen : ys.length = n
 row : MvR wr base (some ⟨g, 0, none⟩) c ys
 done : ys.take i = kpP p (xs.take j)
 ahead : ∀ k, j ≤ k → ys[k]? = xs[k]?
 rest : RestS (fun k => k = g) w wr
theorem DlK.skip {p : Int × Int → Bool} {xs : List (Int × Int)} {base g n c : Nat} {w wr w' : World} {i j : Nat} {ys : List (Int × Int)} (h : DlK p xs base g n c w wr i j ys) (hn : n = xs.length) (hj : j < n) (hx : ∀ h : j < xs.length, p xs[j] = true) (hb : Below wr.heap.size wr w') : DlK p xs base g n c w w' i (j + 1) ys := by
 have e : kpP p (xs.take (j + 1)) = kpP p (xs.take j) := by
  rw [List.take_succ_eq_append_getElem (by omega), kpP_snoc, if_pos (hx (by omega))]
 exact ⟨⟨by have := h.lt; omega, by omega⟩, by rw [e]; exact h.len, h.ylen, h.row.below hb, by rw [e]; exact h.done, fun k hk => h.ahead k (by omega), h.rest.trans (below_refl_of hb _)⟩
theorem DlK.put {p : Int × Int → Bool} {xs : List (Int × Int)} {base g n c : Nat} {w wr w' : World} {i j : Nat} {ys : List (Int × Int)} (h : DlK p xs base g n c w wr i j ys) (hn : n = xs.length) (hj : j < n) (x : Int × Int) (hxx : ∀ h : j < xs.length, xs[j] = x) (hx : p x = false) (hb : Below wr.heap.size wr w') :
  DlK p xs base g n c w ((w'.setCell ⟨g, i * 2, none⟩ (.int .i64 x.1)).setCell ⟨g, i * 2 + 1, none⟩ (.int .i64 x.2)) (i + 1) (j + 1) (ys.set i x) := by
 have hlt := h.lt
 have hyl := h.ylen
 have e : kpP p (xs.take (j + 1)) = kpP p (xs.take j) ++ [x] := by
  rw [List.take_succ_eq_append_getElem (by omega), kpP_snoc, hxx (by omega), hx]; rfl
 refine ⟨⟨by omega, by omega⟩, by rw [e, List.length_append, h.len]; rfl, by rw [List.length_set]; exact hyl, (h.row.below hb).put (by omega) x, ?_, fun k hk => ?_, ((h.rest.trans (below_refl_of hb _)).set (p := ⟨g, i * 2, none⟩) rfl _).set (p := ⟨g, i * 2 + 1, none⟩) rfl _⟩
 ·rw [e, List.take_set, List.take_succ_eq_append_getElem (by omega), h.done, List.set_append_right _ _ (by rw [h.len]; exact Nat.le_refl _), h.len]
  simp
 ·rw [List.getElem?_set_ne (by omega)]
  exact h.ahead k (by omega)
set_option maxRecDepth 100000 in
set_option maxHeartbeats 8000000 in
theorem del_mv (fid : FuncId) (cap : Array Value) (he : ∀ args w, (callFunc fid args).run Tryz.prog w = .ok (.enter fid args) w) (w : World) (base : Nat) (a : Option Addr) (c n : Nat) (xs : List (Int × Int)) (h : MvR w base a c xs) (hn : n = xs.length) (hn2 : n ≤ 10000) (p : Int × Int → Bool)
  (hc : ∀ wx x, Calls Tryz.prog fid (#[mvV x] ++ cap) wx (BoolPost (p x) wx)) :
  Calls Tryz.prog 99 #[.slice a n c, .func (.func fid) #[] cap] w (MvP base a c n (kpP p xs) w) := by
 have HIX := Lib.hid (ixf_mv fid cap he w base a c n xs h hn hn2 p fun wx x _ _ => hc wx x)
 have H := Lib.hid h
 have HN := Lib.hid hn
 have HC := Lib.hid hc
 clear h hn hc
 cases hf : xs.findIdx? p with
 | none =>
  have HK : Hid (kpP p xs = xs) := kpP_all fun j hj => by simpa using List.findIdx?_eq_none_iff.mp hf _ (List.getElem_mem hj)
  rw [ixP_n hf] at HIX
  clear hf
  go_enter Tryz.func99, Tryz.ntmps99
  go_wp2_with fail
  refine HIX.out.mono ?_
  rintro e w1 ⟨rfl, hb1⟩
  have HB1 := Lib.hid hb1
  clear hb1 HIX
  go_wp2_with fail
  go_ret
  exact ⟨by rw [HK.out, ← HN.out]; rfl, by rw [HK.out]; exact H.out.below HB1.out, below_refl_of HB1.out _⟩
 | some i0 =>
  obtain ⟨hk, hg, hbf⟩ := List.findIdx?_eq_some_iff_getElem.mp hf
  rw [ixP_s hf] at HIX
  clear hf
  obtain ⟨g, rfl, hbg, hgl, hc1, hc2⟩ := H.out.has (by omega)
  have hz9 : ((i0 : Int) == -1) = false := beq_eq_false_iff_ne.2 (by omega)
  have hxn := HN.out
  have hk0 : kpP p (xs.take (i0 + 1)) = xs.take i0 := by
   rw [List.take_succ_eq_append_getElem hk, kpP_snoc, hg, if_pos rfl]
   exact kpP_all fun j hj => by
    rw [List.length_take] at hj
    rw [List.getElem_take]
    simpa using hbf j (by omega)
  have HI : Hid (∀ w1, Below w.heap.size w w1 → DlK p xs base g n c w w1 i0 (i0 + 1) xs) := fun w1 hb => ⟨⟨by omega, by omega⟩, by rw [hk0, List.length_take]; omega, HN.out.symm, H.out.below hb, hk0.symm, fun _ _ => rfl, below_refl_of hb _⟩
  have hin : i0 < n := by omega
  clear hk0 hbf hg hxn hk
  go_enter Tryz.func99, Tryz.ntmps99
  go_wp2_with fail
  refine HIX.out.mono ?_
  rintro e w1 ⟨rfl, hb1⟩
  have HI1 := Lib.hid (HI.out w1 hb1)
  clear hb1 HIX HI
  go_wp2_with fail
  go_loopw [5, 6, 7] (fun u5 u6 u7 wr => ∃ (i j : Nat) (ys : List (Int × Int)), u5 = .int .i64 (i : Int) ∧ u6 = .int .i64 (j : Int) ∧ DlK p xs base g n c w wr i j ys) (fun _ u _ _ => n - (intOf u).toNat)
  case atStart => exact ⟨i0, i0 + 1, xs, rfl, by go_num, HI1.out⟩
  case round =>
   clear HI1
   obtain ⟨i, j, ys, rfl, rfl, hdj⟩ := hrel
   have hlt := hdj.lt
   have HD := Lib.hid hdj
   by_cases hj : j < n
   ·have hyl : ys.length = n := hdj.ylen
    have hr := hdj.row
    have hgw := (hr.lt g rfl).2
    have hjx : j < xs.length := by rw [← HN.out]; exact hj
    obtain ⟨x, hx⟩ : ∃ x, x = xs[j] := ⟨_, rfl⟩
    have hyx : ys[j]'(by omega) = x := by
     have h9 := hdj.ahead j (Nat.le_refl _)
     rw [List.getElem?_eq_getElem (by omega), List.getElem?_eq_getElem hjx] at h9
     injection h9 with h9
     rw [h9, hx]
    obtain ⟨c0, c1⟩ := hr.cells (i := j) (by omega)
    rw [hyx] at c0 c1
    have HGN := Lib.hid fun wx => HC.out wx x
    unfold mvV at HGN
    have HX := Lib.hid hx
    have hji : (j : Int) < (n : Int) := by omega
    have hab : Below wr.heap.size wr (wr.alloc (.cells #[.int .i64 x.1, .int .i64 x.2] 85)) := (Below.refl _ _).alloc (Nat.le_refl _) _
    have HAB := Lib.hid hab
    clear hyx hx hr hdj hab
    cases hq : p x
    ·rw [hq] at HGN
     have HQ := Lib.hid hq
     clear hq
     have hii : (i : Int) < (n : Int) := by omega
     go_wp2_with fail
     refine (HGN.out _).mono ?_
     rintro e w7 ⟨rfl, hb7⟩
     have HB7 : Hid (Below wr.heap.size wr w7) := HAB.out.trans (hb7.mono (by simp))
     have d0 := hb7.cell (p := ⟨wr.heap.size, 0, none⟩) (by simp)
     have d1 := hb7.cell (p := ⟨wr.heap.size, 1, none⟩) (by simp)
     simp [go_sem] at d0 d1
     have hr7 := HD.out.row.below HB7.out
     obtain ⟨e0, e1⟩ := hr7.cells (i := i) (by omega)
     have f0 : w7.frozen? ⟨g, i * 2, none⟩ = false := hr7.frees (i := i) (by omega) 0 (by omega)
     have f1 := hr7.frees (i := i) (by omega) 1 (by omega)
     clear hb7 HGN HAB c0 c1 hr7
     go_wp2_with fail
     go_roundw
     case rel => exact ⟨i + 1, j + 1, ys.set i x, by go_num, by go_num, HD.out.put HN.out hj x (fun _ => HX.out.symm) HQ.out HB7.out⟩
     case measure => simp [intOf]; omega
    ·rw [hq] at HGN
     have HQ := Lib.hid hq
     clear hq
     go_wp2_with fail
     refine (HGN.out _).mono ?_
     rintro e w7 ⟨rfl, hb7⟩
     have HB7 : Hid (Below wr.heap.size wr w7) := HAB.out.trans (hb7.mono (by simp))
     clear hb7 HGN HAB c0 c1
     go_wp2_with fail
     go_roundw
     case rel => exact ⟨i, j + 1, ys, rfl, by go_num, HD.out.skip HN.out hj (fun _ => by rw [← HX.out]; exact HQ.out) HB7.out⟩
     case measure => simp [intOf]; omega
   ·have ej : j = n := by omega
    subst ej
    obtain ⟨w9, hcl, hrow, hrest⟩ := clear_mv wr base g c i ys hdj.row (by rw [hdj.ylen]; exact hlt.1)
    rw [hdj.ylen] at hcl
    have HCL := Lib.hid hcl
    have hkx : ys.take i = kpP p xs := by rw [hdj.done, HN.out, List.take_length]
    have hki : (kpP p xs).length = i := by rw [← hkx, List.length_take, hdj.ylen]; omega
    rw [hkx] at hrow
    have HROW := Lib.hid hrow
    have HKI := Lib.hid hki
    have HREST := Lib.hid (hdj.rest.trans hrest)
    have hcj : j ≤ c := by have := HN.out; omega
    have hcm : c ≤ 9223372036854775807 := by unfold maxLen at hc2; omega
    have hif : (if c = i then some ⟨g, 0, none⟩ else some ⟨g, i * 2, none⟩ : Option Addr) = some ⟨g, i * 2, none⟩ := if_neg (by omega)
    clear hcl hrow hrest hkx hki hdj HD HC
    go_wp2_with (refine wpList_of_wp _ rfl (fun K Q' hk => wp_clear_eq _ _ 74 rfl _ rfl (HCL.out _ _) hk) ?_)
    go_ret
    exact ⟨by rw [HKI.out]; rfl, HROW.out, HREST.out.mono fun k e => by rw [e]; rfl⟩
theorem Tryz.infoZI : (Tryz.prog.info? 85).map (fun i => (i.zero, i.size, i.bytes)) = some (some (.agg #[.int .i64 0, .int .i64 0]), 2, 16) := by kernel_rfl
set_option maxRecDepth 100000 in
set_option maxHeartbeats 4000000 in
theorem delete_mv (w : World) (base g c n i : Nat) (xs : List (Int × Int)) (h : MvR w base (some ⟨g, 0, none⟩) c xs) (hn : n = xs.length) (hi : i < n) (hn2 : n ≤ 10000) :
 Calls Tryz.prog 105 #[.slice (some ⟨g, 0, none⟩) n c, .int .i64 (i : Int), .int .i64 ((i : Int) + 1)] w (MvP base (some ⟨g, 0, none⟩) c n (xs.eraseIdx i) w) := by
 obtain ⟨g', hgg, hbg, hgl, hcn, hcm⟩ := h.has (by omega)
 have hgg' : g' = g := by injection hgg with hgg; injection hgg with hgg; exact hgg.symm
 subst hgg'
 clear hgg
 obtain ⟨i0, hi0, hz0, hz1, hz2⟩ := info_parts Tryz.infoZI
 obtain ⟨q, hq⟩ : ∃ q, n = q + 1 := ⟨n - 1, by omega⟩
 have z1 : ((i : Int) == (i : Int) + 1) = false := beq_eq_false_iff_ne.2 (by omega)
 have hd : MvR w.drew base (some ⟨g', 0, none⟩) c xs := h.below ((Below.refl _ _).drew)
 have hdl : ((xs.drop (i + 1)).flatMap mvC).length = (q - i) * 2 := by rw [mvs_len, List.length_drop]; omega
 obtain ⟨a, ha, hac⟩ : ∃ a : Addr, (if c = i + 1 then some (⟨g', 0, none⟩ : Addr) else some ⟨g', (i + 1) * 2, none⟩) = some a ∧ ∀ j u, ((xs.drop (i + 1)).flatMap mvC)[j]? = some u → w.drew.cell? (a.add j) = some u := by
  by_cases hc : c = i + 1
  ·refine ⟨⟨g', 0, none⟩, by rw [if_pos hc], fun j u hu => ?_⟩
   have := (List.getElem?_eq_some_iff.1 hu).1
   omega
  ·refine ⟨⟨g', (i + 1) * 2, none⟩, by rw [if_neg hc], fun j u hu => ?_⟩
   have hj := (List.getElem?_eq_some_iff.1 hu).1
   rw [Addr.add_lit, (ownE_cellAt hd (j := (i + 1) * 2 + j) (by omega)).1]
   have h9 : xs.flatMap mvC = (xs.take (i + 1)).flatMap mvC ++ (xs.drop (i + 1)).flatMap mvC := by rw [← List.flatMap_append, List.take_append_drop]
   have hl9 : ((xs.take (i + 1)).flatMap mvC).length = (i + 1) * 2 := by rw [mvs_len, List.length_take]; omega
   rw [h9, List.getElem?_append_right (by omega), hl9, show (i + 1) * 2 + j - (i + 1) * 2 = j by omega]
   exact hu
 have hrun := fun ty => run_append_room_cells (P := Tryz.prog) (w := w.drew) 74 ty 85 i0 Tryz.underlying74 hi0 g' 0 i c a (q - i) (c - (i + 1)) ((xs.drop (i + 1)).flatMap mvC) (by rw [hz1]; exact hdl) hac (mv_one _) (by omega)
  (fun j hj => by rw [hz1, Nat.zero_add, (ownE_cellAt hd (j := i * 2 + j) (by omega)).1, List.getElem?_eq_getElem (by rw [mvs_len]; omega)]; rfl)
  (fun j hj => by rw [hz1, Nat.zero_add]; exact (ownE_cellAt hd (j := i * 2 + j) (by omega)).2)
 rw [hz1, Nat.zero_add, show i + (q - i) = q by omega] at hrun
 have hw := hd.wr (i := i) (ys := xs.drop (i + 1)) (by rw [List.length_drop]; omega)
 have hg1 := setCells_grown g' ((xs.drop (i + 1)).flatMap mvC) (i * 2) w.drew
 obtain ⟨w2, hw2⟩ : ∃ w2, w2 = w.drew.setCells g' (i * 2) ((xs.drop (i + 1)).flatMap mvC) := ⟨_, rfl⟩
 rw [← hw2] at hrun hw hg1
 have hlen : (xs.take i ++ xs.drop (i + 1) ++ xs.drop (i + (xs.drop (i + 1)).length)).length = n := by simp; omega
 obtain ⟨w3, hcl, hrow, hrest⟩ := clear_mv w2 base g' c q _ hw (by rw [hlen]; omega)
 rw [hlen, show n - q = 1 by omega] at hcl
 have hel : (xs.take i ++ xs.drop (i + 1) ++ xs.drop (i + (xs.drop (i + 1)).length)).take q = xs.eraseIdx i := by
  rw [List.take_left' (by simp; omega), List.eraseIdx_eq_take_drop_succ]
 rw [hel] at hrow
 have HEL : Hid ((xs.eraseIdx i).length = q) := by show _ = _; rw [List.length_eraseIdx_of_lt (by omega)]; omega
 have HROW := Lib.hid hrow
 have HREST : Hid (RestS (fun k => k = g') w w3) := by
  refine RestS.trans ?_ hrest
  exact ⟨hg1.os, hg1.tape, hg1.output, hg1.size, fun k hk hs => (hg1.block k hk fun e => hs (by injection e)).trans rfl⟩
 have HRUN := Lib.hid hrun
 have HCLR := Lib.hid hcl
 have HA := Lib.hid ha
 have HB0 : Hid (Below 0 w.drew w2) := ⟨hg1.os, hg1.tape, hg1.output, hg1.size, fun k hk => absurd hk (Nat.not_lt_zero _)⟩
 have hcm : c ≤ 9223372036854775807 := by unfold maxLen at hcm; omega
 have hcq : q + 1 ≤ c := by omega
 have hiq : i ≤ q := by omega
 subst hq
 clear hrun hcl ha hg1 hrow hrest hw hw2 hel hlen hac hdl hd h hn hi hcn
 by_cases hce : c = i + 1
 case' pos =>
  have ha := HA.out
  rw [if_pos hce] at ha
  have HA2 := Lib.hid ha
  clear HA ha
  subst hce
  have hrun := HRUN.out
  rw [show q - i = 0 by omega, show i + 1 - (i + 1) = 0 by omega] at hrun
  have HRUN2 := Lib.hid hrun
  clear HRUN hrun
 case' neg =>
  have ha := HA.out
  rw [if_neg hce] at ha
  have HA2 := Lib.hid ha
  have HRUN2 := HRUN
  clear HA ha HRUN
 all_goals
  go_enter Tryz.func105, Tryz.ntmps105
  go_wp2_with fail
  refine wp_region_eager 0 [(0, true), (1, true), (2, true), (3, true), (4, true), (5, true), (6, false), (7, true)] (by kernel_rfl) (by kernel_rfl) ?_
  repeat (refine eag_read rfl ?_; go_big_quiet_step (fail); refine wpQuiet_nil ?_)
  refine eag_does rfl rfl ?_
  intro K hK
  refine wp_append_eq _ _ _ 74 74 rfl _ _ rfl (congrArg (fun z => Value.slice z _ _) HA2.out) (HRUN2.out _) ?_
  refine hK _ _ HB0.out ?_
  clear hK K
  go_simp
  repeat (refine eag_read rfl ?_; go_big_quiet_step (fail); refine wpQuiet_nil ?_)
  refine eag_end ?_
  go_wp2_with (refine wpList_of_wp _ rfl (fun K Q' hk => wp_clear_eq _ _ 74 rfl _ rfl (HCLR.out _ _) hk) ?_)
  go_ret
  exact ⟨by rw [HEL.out]; rfl, HROW.out, HREST.out.mono fun k e => by rw [e]; rfl⟩
end

section
theorem Tryz.ent1 : ∀ args w, (callFunc 100 args).run Tryz.prog w = .ok (.enter 100 args) w := fun args w => by kernel_rfl
theorem Tryz.ent2 : ∀ args w, (callFunc 102 args).run Tryz.prog w = .ok (.enter 102 args) w := fun args w => by kernel_rfl
theorem Tryz.ent3 : ∀ args w, (callFunc 104 args).run Tryz.prog w = .ok (.enter 104 args) w := fun args w => by kernel_rfl
set_option maxRecDepth 100000 in
set_option maxHeartbeats 4000000 in
theorem mv1_any (w : World) (x : Int × Int) : Calls Tryz.prog 100 #[mvV x] w (BoolPost (x.1 == x.2) w) := by
 obtain ⟨x1, x2⟩ := x
 have hb : Below w.heap.size w (w.alloc (.cells #[.int .i64 x1, .int .i64 x2] 85)) := (Below.refl _ _).alloc (Nat.le_refl _) _
 have HB := Lib.hid hb
 unfold mvV
 clear hb
 go_enter Tryz.func100, Tryz.ntmps100
 go_wp2_with fail
 go_ret
 exact ⟨rfl, HB.out⟩
set_option maxRecDepth 100000 in
set_option maxHeartbeats 4000000 in
theorem mv3_any (w : World) (xb : Nat) (x y : Int × Int) (hx : Blk w xb 85 (mvC x)) : Calls Tryz.prog 104 #[mvV y, .pointer (some ⟨xb, 0, none⟩)] w (BoolPost (y.2 == x.1) w) := by
 obtain ⟨x1, x2⟩ := x
 obtain ⟨y1, y2⟩ := y
 have hb : Below w.heap.size w (w.alloc (.cells #[.int .i64 y1, .int .i64 y2] 85)) := (Below.refl _ _).alloc (Nat.le_refl _) _
 have c1 := (hx.below hb (Blk.lt hx)).cell 0
 simp only [mvC, List.getElem?_cons_zero] at c1
 have HB := Lib.hid hb
 have hl := Blk.lt hx
 unfold mvV
 clear hb hx
 go_enter Tryz.func104, Tryz.ntmps104
 go_wp2_with fail
 go_ret
 exact ⟨rfl, HB.out⟩
/-- no move takes what x sets -/
def frB (l : List (Int × Int)) (x : Int × Int) : Bool := !(l.any fun z => z.2 == x.1)
set_option maxRecDepth 100000 in
set_option maxHeartbeats 4000000 in
theorem mv2_any (w : World) (base lb : Nat) (a : Option Addr) (c n : Nat) (l : List (Int × Int)) (hl : Blk w lb 74 [.slice a n c]) (h : MvR w base a c l) (hn : n = l.length) (hn2 : n ≤ 10000) (x : Int × Int) : Calls Tryz.prog 102 #[mvV x, .pointer (some ⟨lb, 0, none⟩)] w (BoolPost (frB l x) w) := by
 have hb : Below w.heap.size w (w.alloc (.cells (mvC x).toArray 85)) := (Below.refl _ _).alloc (Nat.le_refl _) _
 have hx := Blk.new w (mvC x) 85
 have HC := Lib.hid (cont_mv 104 #[.pointer (some ⟨w.heap.size, 0, none⟩)] Tryz.ent3 _ base a c n l (h.below hb) hn hn2 (fun z => z.2 == x.1) fun wx y _ hbx => mv3_any wx w.heap.size x y (hx.below hbx (Blk.lt hx)))
 have c0 := (hl.below hb (Blk.lt hl)).cell 0
 simp only [List.getElem?_cons_zero] at c0
 have HB := Lib.hid hb
 have hll := Blk.lt hl
 unfold frB
 obtain ⟨b, hbb⟩ : ∃ b, b = l.any fun z => z.2 == x.1 := ⟨_, rfl⟩
 rw [← hbb] at HC ⊢
 obtain ⟨x1, x2⟩ := x
 unfold mvV
 unfold mvC at HC c0 HB
 clear hb hx hl h hbb hn
 go_enter Tryz.func102, Tryz.ntmps102
 go_wp2_with fail
 refine HC.out.mono ?_
 rintro e w1 ⟨rfl, hb⟩
 go_wp2_with fail
 go_ret
 exact ⟨rfl, HB.out.trans (hb.mono HB.out.size)⟩
/-- the emitter beside a row of pairs of its caller; ws: the world at the caller's start -/
structure EmR (X : EmE) (ws : World) (vs : EmV) (w : World) (s : EmS) (v : EmV) (a : Option Addr) (c : Nat) (l : List (Int × Int)) : Prop where
 m : EmM X w s v
 rest : RestS (vs.S X.p) ws w
 sub : ∀ q, v.S X.p q → vs.S X.p q ∨ ws.heap.size ≤ q
 row : MvR w ws.heap.size a c l
 ap : ∀ q, (Value.slice a 0 c).ownBlock = some q → ¬ v.S X.p q
 hws : X.w0.heap.size ≤ ws.heap.size
theorem own_len (a : Option Addr) (n m c d : Nat) : (Value.slice a n c).ownBlock = (Value.slice a m d).ownBlock := by cases a <;> rfl
section
variable {X : EmE} {ws w w' : World} {vs v : EmV} {s s' : EmS} {a : Option Addr} {c : Nat} {l : List (Int × Int)}
theorem EmR.upd {T : Nat → Prop} (h : EmR X ws vs w s v a c l) (hr : RestS T w w') (hT : ∀ q, T q → ws.heap.size ≤ q) (h1 : ∀ q, v.S X.p q → ¬ T q) (h2 : ∀ x ∈ v.mc, ∀ g, x.sv.ownBlock = some g → ¬ T g) {l' : List (Int × Int)} (h3 : MvR w' ws.heap.size a c l') : EmR X ws vs w' s v a c l' :=
 ⟨h.m.rest hr (fun q hq => Nat.le_trans h.hws (hT q hq)) h1 h2, ⟨hr.os.trans h.rest.os, hr.tape.trans h.rest.tape, hr.output.trans h.rest.output, Nat.le_trans h.rest.size hr.size, fun k hk hs => (hr.block k (Nat.lt_of_lt_of_le hk h.rest.size) fun ht => by have := hT k ht; omega).trans (h.rest.block k hk hs)⟩, h.sub, h3, h.ap, h.hws⟩
/-- the row itself is written -/
theorem EmR.row' (h : EmR X ws vs w s v a c l) {n : Nat} (hr : RestS (fun k => (Value.slice a n c).ownBlock = some k) w w') {l' : List (Int × Int)} (h3 : MvR w' ws.heap.size a c l') : EmR X ws vs w' s v a c l' :=
 h.upd hr (fun q hq => (h.row.lt q (by rw [own_len a _ n c c]; exact hq)).1) (fun q hq e => h.ap q (by rw [own_len a 0 n c c]; exact e) hq) (fun x hx g hg e => own_noOwn (h.m.sl x hx).1 h.row (by decide) hg (by rw [own_len a _ n c c]; exact e)) h3
theorem EmR.below (h : EmR X ws vs w s v a c l) (hb : Below w.heap.size w w') : EmR X ws vs w' s v a c l :=
 h.upd (below_refl_of hb (fun _ => False)) (fun _ h => nomatch h) (fun _ _ h => nomatch h) (fun _ _ _ _ h => nomatch h) (h.row.below hb)
/-- a box of another type is written -/
theorem EmR.box (h : EmR X ws vs w s v a c l) {b : Nat} {cs : List Value} (hb : Blk w b 74 cs) (hl : ws.heap.size ≤ b) (i : Nat) (u : Value) : EmR X ws vs (w.setCell ⟨b, i, none⟩ u) s v a c l := by
 refine h.upd (T := fun k => k = b) ((RestS.refl (fun k => k = b) w).set (p := ⟨b, i, none⟩) rfl u) (fun q e => by rw [e]; exact hl) (fun q hq e => ?_) (fun x hx g hg e => ?_) ?_
 ·subst e
  rcases h.m.ty hb hq with e | e | e | e | e | e <;> exact absurd e (by decide)
 ·subst e
  exact own_noBox (h.m.sl x hx).1 hb (by decide) hg
 ·exact ownG_other (a := ⟨b, i, none⟩) h.row (own_noBox h.row hb (by decide)) u
theorem EmR.step (h : EmR X ws vs w s v a c l) (hs : EmSt X v w s' w') : ∃ v', EmR X ws vs w' s' v' a c l ∧ (∀ b t cs, Blk w b t cs → ¬ v.S X.p b → Blk w' b t cs) := by
 obtain ⟨v', m', r', S'⟩ := hs
 refine ⟨v', ⟨m', ⟨r'.os.trans h.rest.os, r'.tape.trans h.rest.tape, r'.output.trans h.rest.output, Nat.le_trans h.rest.size r'.size, fun k hk hs => (r'.block k (Nat.lt_of_lt_of_le hk h.rest.size) fun h1 => ?_).trans (h.rest.block k hk hs)⟩, fun q hq => ?_, ownG_kept h.row fun g hg => r'.block g (h.row.lt g hg).2 (h.ap g (by rw [own_len a 0 l.length c c]; exact hg)), fun q hq h1 => ?_, h.hws⟩, fun b t cs hb hn => hb.of_heap (r'.block b hb.lt hn)⟩
 ·rcases h.sub k h1 with h1 | h1
  ·exact hs h1
  ·omega
 ·rcases S' q hq with h1 | h1
  ·exact h.sub q h1
  ·exact .inr (Nat.le_trans h.rest.size h1)
 ·rcases S' q h1 with h1 | h1
  ·exact h.ap q hq h1
  ·have := (h.row.lt q (by rw [own_len a _ 0 c c]; exact hq)).2; omega
theorem EmR.done (h : EmR X ws vs w s v a c l) : EmSt X vs ws s w := ⟨v, h.m, h.rest, h.sub⟩
theorem EmR.noBox (h : EmR X ws vs w s v a c l) {b : Nat} {cs : List Value} (hb : Blk w b 74 cs) : ¬ v.S X.p b := fun hq => by
 rcases h.m.ty hb hq with e | e | e | e | e | e <;> exact absurd e (by decide)
end
end

section
theorem freeI_eq (l : List (Int × Int)) : freeI l = l.findIdx? (frB l) := rfl
def bk13 (x1 : Int) (z : Int × Int) : Int × Int := if z.2 = x1 then (z.1, 13) else z
theorem brkI_map (x : Int × Int) (l : List (Int × Int)) : brkI x l = l.map (bk13 x.1) := rfl
theorem take_step {α : Type} (f : α → α) (l : List α) (k : Nat) (hk : k < l.length) (y : α) (hy : y = f l[k]) : ((l.take k).map f ++ l.drop k).set k y = (l.take (k + 1)).map f ++ l.drop (k + 1) := by
 have h1 : ((l.take k).map f).length = k := by simp; omega
 rw [List.set_append_right _ _ (by omega), h1, Nat.sub_self, List.drop_eq_getElem_cons hk, List.set_cons_zero, List.take_succ_eq_append_getElem hk, List.map_append, hy, List.append_assoc]
 rfl
theorem take_get {α : Type} (f : α → α) (l : List α) (k : Nat) (hk : k < l.length) : ((l.take k).map f ++ l.drop k)[k]? = some l[k] := by
 have h1 : ((l.take k).map f).length = k := by simp; omega
 rw [List.getElem?_append_right (by omega), h1, Nat.sub_self, List.drop_eq_getElem_cons hk]
 rfl
set_option maxRecDepth 100000 in
set_option maxHeartbeats 8000000 in
theorem moves_any (X : EmE) (hX : X.Ok) (ws : World) (vs : EmV) (w : World) (s : EmS) (v : EmV) (a : Option Addr) (c n : Nat) (l : List (Int × Int)) (h : EmR X ws vs w s v a c l) (hn : n = l.length) (hn2 : n ≤ 100) (h13 : ∀ x ∈ l, x.1 ≠ 13) (ht : s.tot + 2 * n + 2 ≤ 10000000) :
 Calls Tryz.prog 82 #[.pointer (some ⟨X.p, 0, none⟩), .slice a n c] w (EmP X vs ws (s.moves l)) := by
 obtain ⟨lb, hlb⟩ : ∃ lb, lb = w.heap.size := ⟨_, rfl⟩
 have hb : Below w.heap.size w (w.alloc (.cells #[.slice a n c] 74)) := (Below.refl _ _).alloc (Nat.le_refl _) _
 have HBX := Lib.hid (Blk.new w [.slice a n c] 74)
 have HR := Lib.hid (h.below hb)
 have HD := Lib.hid (del_mv 100 #[] Tryz.ent1 _ ws.heap.size a c n l (h.below hb).row hn (by omega) (fun x => x.1 == x.2) mv1_any)
 have hwl : ws.heap.size ≤ lb := by rw [hlb]; exact h.rest.size
 rw [moves_mu s h13]
 obtain ⟨l1, hl1⟩ : ∃ l1, l1 = l.filter fun x => x.1 != x.2 := ⟨_, rfl⟩
 have hk1 : kpP (fun x => x.1 == x.2) l = l1 := by rw [hl1]; rfl
 have h13' : ∀ x ∈ l1, x.1 ≠ 13 := fun x hx => h13 x (by rw [hl1] at hx; exact (List.mem_filter.mp hx).1)
 have hlen1 : l1.length ≤ n := by rw [hl1, hn]; exact List.length_filter_le _ _
 rw [← hl1]
 rw [hk1] at HD
 obtain ⟨sf, hsf⟩ : ∃ sf, sf = mvI (muI l1) l1 s := ⟨_, rfl⟩
 rw [← hsf]
 obtain ⟨p, hp⟩ : ∃ p, p = X.p := ⟨_, rfl⟩
 rw [← hp]
 rw [← hlb] at HBX
 have HP := Lib.hid hp
 have HSF := Lib.hid hsf
 have H13 := Lib.hid h13'
 have HL1 := Lib.hid hlen1
 have HL : Hid (muI l1 ≤ 2 * n + 1) := by show _ ≤ _; unfold muI; split <;> omega
 have HX2 := Lib.hid hX
 have HWL := Lib.hid hwl
 have HT := Lib.hid ht
 have HLB : Hid (lb < (w.alloc (.cells #[.slice a n c] 74)).heap.size) := by rw [World.size_alloc, hlb]; exact Nat.lt_succ_self _
 clear h hn h13 ht hb hk1 h13' hlen1 hsf hp hX hwl hl1
 go_enter Tryz.func82, Tryz.ntmps82
 go_upto_region 1 with fail
 rw [← hlb]
 clear hlb
 change Code.wp _ _ _ _ (w.alloc (.cells #[.slice a n c] 74))
 generalize w.alloc (.cells #[.slice a n c] 74) = w1 at HBX HR HD HLB ⊢
 have c0 := HBX.out.cell 0
 simp only [List.getElem?_cons_zero] at c0
 have hlb1 := HLB.out
 go_wp2_with fail
 refine HD.out.mono ?_
 rintro e w2 ⟨rfl, hrow, hrest⟩
 have hr2 := HR.out.row' hrest hrow
 have hbx2 := HBX.out.of_heap (hrest.block lb HBX.out.lt fun e => own_noBox HR.out.row HBX.out (by decide) (by rw [own_len a _ n c c]; exact e))
 have HR2 := Lib.hid hr2
 have HBX2 := Lib.hid hbx2
 clear hrow hrest hr2 hbx2 HD HR HBX c0 hlb1 HLB
 have c0 := HBX2.out.cell 0
 have f0 := HBX2.out.free 0
 simp only [List.getElem?_cons_zero] at c0
 have hlb2 := HBX2.out.lt
 have HW3 : Hid (EmR X ws vs (w2.setCell ⟨lb, 0, none⟩ (.slice a l1.length c)) s v a c l1) := HR2.out.box HBX2.out HWL.out 0 _
 have HX3 : Hid (Blk (w2.setCell ⟨lb, 0, none⟩ (.slice a l1.length c)) lb 74 [.slice a l1.length c]) := HBX2.out.set 0 _
 clear HR2 HBX2
 go_wp2_with fail
 go_loopg [4] (muI l1 + 1) (fun gk _ wr => ∃ (s' : EmS) (v' : EmV) (l' : List (Int × Int)), EmR X ws vs wr s' v' a c l' ∧ Blk wr lb 74 [.slice a l'.length c] ∧ mvI (muI l') l' s' = sf ∧ muI l' + 1 ≤ gk ∧ (∀ x ∈ l', x.1 ≠ 13) ∧ l'.length ≤ n ∧ s'.tot + muI l' ≤ s.tot + muI l1)
 case atStart => exact ⟨s, v, l1, HW3.out, HX3.out, HSF.out.symm, Nat.le_refl _, H13.out, HL1.out, Nat.le_refl _⟩
 case round =>
  clear HW3 HX3 c0 f0 hlb2 HSF H13 HL1
  obtain ⟨s', v', l', hr, hx, hmv, hgk, h13, hln, htt⟩ := hrel
  have HR := Lib.hid hr
  have HX := Lib.hid hx
  have HMV := Lib.hid hmv
  have HGK := Lib.hid hgk
  have H13 := Lib.hid h13
  have HTT := Lib.hid htt
  obtain ⟨m, hm⟩ : ∃ m, m = l'.length := ⟨_, rfl⟩
  rw [← hm] at HX hln
  have HM := Lib.hid hm
  clear hr hx hmv hgk h13 htt hm
  have c0 := HX.out.cell 0
  have f0 := HX.out.free 0
  simp only [List.getElem?_cons_zero] at c0
  have hlbr := HX.out.lt
  cases l' with
  | nil =>
   have hm0 : m = 0 := HM.out
   subst hm0
   go_wp2_with fail
   refine bodyPost_end (results_none rfl _ _ _) rfl ?_
   have := HMV.out
   rw [mvI_nil] at this
   rw [← this]
   exact ⟨rfl, HR.out.done⟩
  | cons x0 l0 =>
   have hm1 : m = l0.length + 1 := HM.out
   have hmp : (0 : Int) < (m : Int) := by omega
   obtain ⟨g, ha, hbg, hgl, hc1, hc2⟩ := HR.out.row.has (by simp)
   have hcm : c ≤ 9223372036854775807 := by unfold maxLen at hc2; omega
   simp only [List.length_cons] at hc1
   subst ha
   have HI := Lib.hid (ixf_mv 102 #[.pointer (some ⟨lb, 0, none⟩)] Tryz.ent2 wr ws.heap.size (some ⟨g, 0, none⟩) c m (x0 :: l0) HR.out.row HM.out (by omega) (frB (x0 :: l0)) fun wx x _ hbx => mv2_any wx ws.heap.size lb (some ⟨g, 0, none⟩) c m (x0 :: l0) (HX.out.below hbx HX.out.lt) (HR.out.row.below hbx) HM.out (by omega) x)
   have hl2m : (x0 :: l0).length = m := HM.out.symm
   cases hf : freeI (x0 :: l0) with
   | some i =>
    have hi : i < m := by have := free_lt hf; omega
    have hix : ixP (frB (x0 :: l0)) (x0 :: l0) = (i : Int) := ixP_s hf
    rw [hix] at HI
    have hge : (0 : Int) ≤ (i : Int) := by omega
    have HF := Lib.hid hf
    obtain ⟨y, hy⟩ : ∃ y, y = (x0 :: l0).getD i (0, 0) := ⟨_, rfl⟩
    have HY := Lib.hid hy
    clear hf hix hy hl2m hm1
    go_wp2_with fail
    refine HI.out.mono ?_
    rintro e w3 ⟨rfl, hb3⟩
    have HR3 := Lib.hid (HR.out.below (hb3.trans ((Below.refl _ _).drew)))
    have hx3 := HX.out.below hb3 HX.out.lt
    have hgl3 : g < w3.heap.size := Nat.lt_of_lt_of_le hgl hb3.size
    have c0 := hx3.cell 0
    simp only [List.getElem?_cons_zero] at c0
    have hlb3 := hx3.lt
    have HX3 := Lib.hid hx3
    have hi9 : i < (x0 :: l0).length := by rw [← HM.out]; exact hi
    have hyi : (x0 :: l0)[i] = y := by rw [HY.out, List.getD_eq_getElem?_getD, List.getElem?_eq_getElem hi9]; rfl
    obtain ⟨d0, d1⟩ := HR3.out.row.cells hi9
    rw [hyi] at d0 d1
    have r0 := fun x : AfterR (KeepE lb g) w3.drew => (World.cell?_of_block (a := ⟨lb, 0, none⟩) x.rel.1).trans c0
    have r1 := fun x : AfterR (KeepE lb g) w3.drew => (World.cell?_of_block (a := ⟨g, i * 2, none⟩) x.rel.2).trans d0
    have r2 := fun x : AfterR (KeepE lb g) w3.drew => (World.cell?_of_block (a := ⟨g, i * 2 + 1, none⟩) x.rel.2).trans d1
    have HO := Lib.hid (op_any X HX2.out w3.drew s' v' HR3.out.m (by have := HTT.out; have := HT.out; have := HL.out; omega) 8 y.1 y.2 0 0)
    rw [← HP.out] at HO
    clear hx3 d0 d1 c0 HI hb3 HX HR f0 hyi hi9
    go_wp2_with fail
    refine wp_region_eagerRT (KeepE lb g) [(0, true), (1, true), (2, true), (3, true), (4, true), (5, true), (6, true), (7, true), (8, true), (9, true), (10, true), (11, false)] (by kernel_rfl) (by kernel_rfl) ?_
    repeat (refine eagR_readT rfl ?_; go_big_quiet_step (fail); refine wpQuiet_nil ?_)
    clear r0 r1 r2
    refine eagR_doesT rfl rfl ?_
    intro K hK
    go_wp2_with fail
    refine HO.out.mono ?_
    rintro e w4 ⟨rfl, hs⟩
    have hkp : KeepE lb g w3.drew w4 := by
     obtain ⟨_, _, r9, _⟩ := hs
     exact ⟨r9.block lb hlb3 (HR3.out.noBox HX3.out.drew), r9.block g hgl3 (HR3.out.ap g rfl)⟩
    obtain ⟨v4, hr4, hbx4⟩ := HR3.out.step hs
    have HX4 := Lib.hid (hbx4 lb _ _ HX3.out.drew (HR3.out.noBox HX3.out.drew))
    have HR4 := Lib.hid hr4
    have hgl4 : g < w4.heap.size := (hr4.row.lt g rfl).2
    have HDL := Lib.hid (delete_mv w4 ws.heap.size g c m i (x0 :: l0) hr4.row HM.out hi (by omega))
    go_simp
    refine hK _ _ (fun _ => hkp) ?_
    clear hK K hkp hs hr4 hbx4 HO HX3 HR3
    refine eagR_endT ?_
    have c0 := HX4.out.cell 0
    simp only [List.getElem?_cons_zero] at c0
    have hlb4 := HX4.out.lt
    go_wp2_with fail
    refine HDL.out.mono ?_
    rintro e w5 ⟨rfl, hrow, hrest⟩
    have HR5 := Lib.hid (HR4.out.row' hrest hrow)
    have HX5 := Lib.hid (HX4.out.of_heap (hrest.block lb HX4.out.lt fun e => own_noBox HR4.out.row HX4.out (by decide) e))
    clear hrow hrest HDL HR4 HX4 c0
    have c0 := HX5.out.cell 0
    have f0 := HX5.out.free 0
    simp only [List.getElem?_cons_zero] at c0
    have hlb5 := HX5.out.lt
    go_wp2_with fail
    go_roundg (muI ((x0 :: l0).eraseIdx i) + 1)
    case measure => have := muI_erase (free_lt HF.out) HF.out; have := HGK.out; omega
    case rel =>
     have hmu := muI_erase (free_lt HF.out) HF.out
     have hel : ((x0 :: l0).eraseIdx i).length + 1 = m := by rw [List.length_eraseIdx_of_lt (by rw [← HM.out]; exact hi), ← HM.out]; omega
     refine ⟨_, v4, (x0 :: l0).eraseIdx i, HR5.out.box HX5.out HWL.out 0 _, HX5.out.set 0 _, ?_, Nat.le_refl _, fun x hx => H13.out x (List.mem_of_mem_eraseIdx hx), by omega, ?_⟩
     ·obtain ⟨f, hf⟩ : ∃ f, muI (x0 :: l0) = f + 1 := ⟨muI (x0 :: l0) - 1, by omega⟩
      have h9 := HMV.out
      rw [hf, mvI_free HF.out, ← HY.out] at h9
      rw [← h9]
      exact mvI_fuel _ _ _ _ (Nat.le_refl _) (by omega) fun x hx => H13.out x (List.mem_of_mem_eraseIdx hx)
     ·rw [put_tot]; have := HTT.out; omega
   | none =>
    have hix : ixP (frB (x0 :: l0)) (x0 :: l0) = -1 := ixP_n hf
    rw [hix] at HI
    have HF := Lib.hid hf
    clear hf hix hl2m hm1
    go_wp2_with fail
    refine HI.out.mono ?_
    rintro e w3 ⟨rfl, hb3⟩
    have HR3 := Lib.hid (HR.out.below hb3)
    have hx3 := HX.out.below hb3 HX.out.lt
    have hgl3 : g < w3.heap.size := Nat.lt_of_lt_of_le hgl hb3.size
    have c0 := hx3.cell 0
    simp only [List.getElem?_cons_zero] at c0
    have hlb3 := hx3.lt
    have HX3 := Lib.hid hx3
    obtain ⟨d0, d1⟩ := HR3.out.row.cells (i := 0) (by simp)
    simp only [List.getElem_cons_zero, Nat.zero_mul, Nat.zero_add] at d0 d1
    have HO := Lib.hid (op_any X HX2.out w3 s' v' HR3.out.m (by have := HTT.out; have := HT.out; have := HL.out; omega) 8 13 x0.1 0 0)
    rw [← HP.out] at HO
    clear hx3 d1 HI hb3 HX HR f0
    go_wp2_with fail
    refine HO.out.mono ?_
    rintro e w4 ⟨rfl, hs⟩
    obtain ⟨v4, hr4, hbx4⟩ := HR3.out.step hs
    have HX4 := Lib.hid (hbx4 lb _ _ HX3.out (HR3.out.noBox HX3.out))
    have HR4 := Lib.hid hr4
    have hgl4 : g < w4.heap.size := (hr4.row.lt g rfl).2
    clear hs hr4 hbx4 HO HX3 HR3 c0 d0
    have c0 := HX4.out.cell 0
    simp only [List.getElem?_cons_zero] at c0
    have hlb4 := HX4.out.lt
    go_wp2_with fail
    go_loopw [41] (fun u wr => ∃ k : Nat, k ≤ m ∧ u = .int .i64 (k : Int) ∧ EmR X ws vs wr (s'.put 8 13 x0.1 0 0) v4 (some ⟨g, 0, none⟩) c (((x0 :: l0).take k).map (bk13 x0.1) ++ (x0 :: l0).drop k) ∧ Blk wr lb 74 [.slice (some ⟨g, 0, none⟩) m c]) (fun u _ => m - (intOf u).toNat)
    case atStart => exact ⟨0, Nat.zero_le _, rfl, HR4.out, HX4.out⟩
    case round =>
     clear c0 HR4 HX4
     obtain ⟨k, hk, rfl, hrk, hxk⟩ := hrel
     obtain ⟨lk, hlk⟩ : ∃ lk, lk = ((x0 :: l0).take k).map (bk13 x0.1) ++ (x0 :: l0).drop k := ⟨_, rfl⟩
     rw [← hlk] at hrk
     have hlkm : lk.length = m := by rw [hlk, HM.out]; simp; omega
     have HRK := Lib.hid hrk
     have HXK := Lib.hid hxk
     have HLK := Lib.hid hlk
     have hglk : g < wr.heap.size := (hrk.row.lt g rfl).2
     have hlbk := hxk.lt
     have c0 := hxk.cell 0
     have f0 := hxk.free 0
     simp only [List.getElem?_cons_zero] at c0
     by_cases hlt : k < m
     ·have hki : (k : Int) < (m : Int) := by omega
      obtain ⟨d0, dx⟩ := hrk.row.cells (i := 0) (by omega)
      obtain ⟨dy, d1⟩ := hrk.row.cells (i := k) (by omega)
      have hk9 : k < (x0 :: l0).length := by rw [← HM.out]; exact hlt
      have h00 : (lk[0]'(by omega)).1 = x0.1 := by
       rcases Nat.eq_zero_or_pos k with e | e
       ·subst e; simp [hlk]
       ·simp only [hlk]
        rw [List.getElem_append_left (by simp; omega), List.getElem_map, List.getElem_take]
        show (bk13 x0.1 x0).1 = x0.1
        unfold bk13; split <;> rfl
      obtain ⟨z, hz⟩ : ∃ z, z = (x0 :: l0)[k]'hk9 := ⟨_, rfl⟩
      have hkk : lk[k]'(by omega) = z := by
       have h9 := take_get (bk13 x0.1) (x0 :: l0) k hk9
       rw [← hlk, List.getElem?_eq_getElem (by omega)] at h9
       injection h9 with h9
       rw [h9, hz]
      have hstep := fun (y : Int × Int) (hy : y = bk13 x0.1 z) => take_step (bk13 x0.1) (x0 :: l0) k hk9 y (by rw [hy, hz])
      rw [h00, Nat.zero_mul] at d0
      rw [hkk] at d1
      rw [← hlk] at hstep
      have HST := Lib.hid hstep
      have HKK : Hid (∀ h : k < lk.length, lk[k] = z) := fun h => hkk
      have HLM := Lib.hid hlkm
      have f1 := hrk.row.frees (i := k) (by omega) 1 (by omega)
      have r0 := fun x : AfterR (KeepE lb g) wr.drew => (World.cell?_of_block (a := ⟨lb, 0, none⟩) x.rel.1).trans c0
      have r1 := fun x : AfterR (KeepE lb g) wr.drew => (World.cell?_of_block (a := ⟨g, 0, none⟩) x.rel.2).trans d0
      have r2 := fun x : AfterR (KeepE lb g) wr.drew => (World.cell?_of_block (a := ⟨g, k * 2 + 1, none⟩) x.rel.2).trans d1
      clear hrk hxk hlk hlkm h00 hkk hstep hz hk9 d0 dx dy
      by_cases hzx : z.2 = x0.1
      case' pos =>
       have hzb : (z.2 == x0.1) = true := beq_iff_eq.2 hzx
       have HBK : Hid (bk13 x0.1 z = (z.1, 13)) := if_pos hzx
       have HZX := Lib.hid hzx
       clear hzx
      case' neg =>
       have hzb : (z.2 == x0.1) = false := beq_eq_false_iff_ne.2 hzx
       have HBK : Hid (bk13 x0.1 z = z) := if_neg hzx
       clear hzx
      all_goals
       go_wp2_with fail
       refine wp_region_eagerRT (KeepE lb g) [(0, true), (1, true), (2, true), (3, true), (4, true), (5, true), (6, true), (7, true), (8, true), (9, true)] (by kernel_rfl) (by kernel_rfl) ?_
       repeat (refine eagR_readT rfl ?_; go_big_quiet_step (fail); refine wpQuiet_nil ?_)
       clear r0 r1 r2
       refine eagR_endT ?_
       go_wp2_with fail
       go_roundw
       case measure => simp [intOf]; omega
      case rel =>
       have hkl : k < lk.length := by rw [HLM.out]; exact hlt
       refine ⟨k + 1, by omega, by go_num, ?_, HXK.out.drew⟩
       rw [← HST.out z HBK.out.symm]
       have h9 : lk.set k z = lk := by rw [← HKK.out hkl]; exact List.set_getElem_self hkl
       rw [h9]
       exact HRK.out.below ((Below.refl _ _).drew)
      case rel =>
       have hkl : k < lk.length := by rw [HLM.out]; exact hlt
       refine ⟨k + 1, by omega, by go_num, ?_, (HXK.out.setOther (a := ⟨g, k * 2 + 1, none⟩) (fun e => own_noBox HRK.out.row HXK.out (by decide) (by rw [e]; rfl)) _).drew⟩
       rw [← HST.out (z.1, 13) HBK.out.symm]
       exact (HRK.out.row' (n := m) ((RestS.refl (fun q => (Value.slice (some ⟨g, 0, none⟩) m c).ownBlock = some q) wr).set (p := ⟨g, k * 2 + 1, none⟩) rfl _) (HRK.out.row.set hkl 1 (by omega) _ (z.1, 13) (by rw [HKK.out hkl]; rfl))).below ((Below.refl _ _).drew)
     ·have hle : ¬ (k : Int) < (m : Int) := by omega
      have hkm : k = m := by omega
      have hlb : lk = brkI x0 (x0 :: l0) := by rw [HLK.out, hkm, HM.out, List.take_length, List.drop_length, List.append_nil]; rfl
      have hmu := muI_brk (H13.out x0 (by simp)) HF.out
      rw [hlb] at hrk
      have HRE := Lib.hid hrk
      have HMU := Lib.hid hmu
      clear hrk hxk hlk hlkm hlb hmu HRK hkm c0 f0
      go_wp2_with fail
      go_roundg (muI (brkI x0 (x0 :: l0)) + 1)
      case measure => have := HGK.out; have := HMU.out; omega
      case rel =>
       have hbl : (brkI x0 (x0 :: l0)).length = m := by rw [HM.out]; simp [brkI]
       refine ⟨_, v4, brkI x0 (x0 :: l0), HRE.out, by rw [hbl]; exact HXK.out, ?_, Nat.le_refl _, fun x hx => ?_, by omega, ?_⟩
       ·have h9 := HMV.out
        rw [← HMU.out, mvI_stuck HF.out] at h9
        exact h9
       ·obtain ⟨y, hy, rfl⟩ := List.mem_map.mp hx
        split
        ·exact H13.out y hy
        ·exact H13.out y hy
       ·rw [put_tot]; have := HTT.out; have := HMU.out; omega
end
end Go.Proofs.YtdnpoomagjcpfaaGreat
