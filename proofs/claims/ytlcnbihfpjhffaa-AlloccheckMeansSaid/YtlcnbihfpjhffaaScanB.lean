/- The memory of linear's scan. -/
import Derived.Test.YtlcnbihfpjhffaaScanA
import Derived.Test.YtlcnbihfpjhffaaScanI
import Derived.Test.YtlcnbihfpjhffaaLinFin
import Derived.Deep.AppendLies
import Derived.BigRegion
namespace Go.Proofs.Ytlcnbihfpjhffaa
open Go.RowKit
set_option linter.unusedVariables false
set_option linter.unusedSimpArgs false

theorem blk_tyne {w : World} {a b : Nat} {t u : TypeId} {cs ds : List Value} (h : Blk w a t cs) (k : Blk w b u ds) (ht : t ≠ u) : a ≠ b := fun e => by
 subst e
 have h1 : w.heap[a]? = _ := h
 have h2 : w.heap[a]? = _ := k
 rw [h1] at h2
 injection h2 with h2
 injection h2 with _ h2 _
 exact ht h2
/-- blocks of ranges and of allocations are kept -/
structure KeepRg (w w' : World) : Prop where
 size : w.heap.size ≤ w'.heap.size
 keep : ∀ k, k < w.heap.size → (∃ cur t, (t = 97 ∨ t = 34) ∧ w.heap[k]? = some (.cells cur t (0, 0))) → w'.heap[k]? = w.heap[k]?
theorem KeepRg.refl (w : World) : KeepRg w w := ⟨Nat.le_refl _, fun _ _ _ => rfl⟩
theorem KeepRg.trans {w w' w'' : World} (h : KeepRg w w') (k : KeepRg w' w'') : KeepRg w w'' := ⟨Nat.le_trans h.size k.size, fun q hq ⟨cur, t, ht, hc⟩ => by
 have h1 := h.keep q hq ⟨cur, t, ht, hc⟩
 exact (k.keep q (Nat.lt_of_lt_of_le hq h.size) ⟨cur, t, ht, h1.trans hc⟩).trans h1⟩
theorem KeepRg.ofBelow {w w' : World} (h : Below w.heap.size w w') : KeepRg w w' := ⟨h.size, fun k hk _ => h.block k hk⟩
theorem KeepRg.set {w : World} {b : Nat} {t : TypeId} {cs : List Value} (h : Blk w b t cs) (ht : ¬ (t = 97 ∨ t = 34)) (j : Nat) (v : Value) : KeepRg w (w.setCell ⟨b, j, none⟩ v) :=
 ⟨by simp, fun k hk ⟨cur, u, hu, hc⟩ => Below.heap_setCell _ _ _ _ (fun e => by
  have h2 : w.heap[b]? = _ := h
  have e' : k = b := e
  rw [e', h2] at hc
  injection hc with hc
  injection hc with _ hc _
  exact ht (by rw [hc]; exact hu))⟩
theorem KeepRg.setOwn {w : World} {b base size n : Nat} {e : TypeId} {v : Value} {l : List Value} (h : w.ownsRow base e size v n l) (hb : v.ownBlock = some b) (ht : ¬ (e = 97 ∨ e = 34)) (j : Nat) (u : Value) : KeepRg w (w.setCell ⟨b, j, none⟩ u) :=
 ⟨by simp, fun k hk ⟨cur, u9, hu, hc⟩ => Below.heap_setCell _ _ _ _ (fun e => by
  obtain ⟨cur', h2⟩ := own_blkTy h hb
  have e' : k = b := e
  rw [e', h2] at hc
  injection hc with hc
  injection hc with _ hc _
  exact ht (by rw [hc]; exact hu))⟩
theorem KeepRg.ofGrown {w w' : World} {base size n : Nat} {e : TypeId} {v : Value} {l : List Value} (h : w.ownsRow base e size v n l) (ht : ¬ (e = 97 ∨ e = 34)) (hg : w.grownBy w' v.ownBlock) : KeepRg w w' :=
 ⟨hg.size, fun k hk ⟨cur, u9, hu, hc⟩ => hg.block k hk fun e => by
  obtain ⟨cur', h2⟩ := own_blkTy h e.symm
  rw [h2] at hc
  injection hc with hc
  injection hc with _ hc _
  exact ht (by rw [hc]; exact hu)⟩
theorem KeepRg.blkA {w w' : World} (h : KeepRg w w') {b : Nat} {cs : List Value} (hb : Blk w b 34 cs) : Blk w' b 34 cs := Blk.of_heap hb (h.keep b (Blk.lt hb) ⟨_, _, .inr rfl, hb⟩)
theorem KeepRg.blk {w w' : World} (h : KeepRg w w') {b : Nat} {cs : List Value} (hb : Blk w b 97 cs) : Blk w' b 97 cs := Blk.of_heap hb (h.keep b (Blk.lt hb) ⟨_, _, .inl rfl, hb⟩)
theorem KeepRg.row {w w' : World} (h : KeepRg w w') {base : Nat} {a : Option Addr} {c : Nat} {xs : List RG} (hr : RgRow w base a c xs) : RgRow w' base a c xs := ownG_kept hr fun g hg => h.keep g (hr.lt g hg).2 (by obtain ⟨cur, hc⟩ := own_blkTy hr hg; exact ⟨cur, _, .inl rfl, hc⟩)
/-- a scan's memory -/
structure ScM (w0 w : World) (n sb rb tb : Nat) (aa : Option Addr) (ac : Nat) (ca : Option Addr) (cc : Nat) (s : LS) : Prop where
 be : Below w0.heap.size w0 w
 box : Blk w sb 95 [.slice (some ⟨rb, 0, none⟩) n n, .slice (some ⟨tb, 0, none⟩) n n, .int .i64 0, .slice aa s.act.length ac, .slice ca s.sl.length cc]
 reg : Blk w rb 3 (rowL n fun r => .int .i64 (s.R (r : Int)))
 slo : Blk w tb 3 (rowL n fun r => .int .i64 (s.S (r : Int)))
 act : RgRow w w0.heap.size aa ac s.act
 sl : w.ownsRow w0.heap.size 3 1 (.slice ca s.sl.length cc) s.sl.length (s.sl.map (Value.int .i64))
 ne : rb ≠ tb
 ap : ∀ q, (Value.slice ca s.sl.length cc).ownBlock = some q → q ≠ rb ∧ q ≠ tb
 lo : w0.heap.size ≤ sb ∧ w0.heap.size ≤ rb ∧ w0.heap.size ≤ tb
section
variable {w0 w w' : World} {n sb rb tb : Nat} {aa ca : Option Addr} {ac cc : Nat} {s : LS}
theorem ScM.below (h : ScM w0 w n sb rb tb aa ac ca cc s) (hb : Below w.heap.size w w') : ScM w0 w' n sb rb tb aa ac ca cc s :=
 ⟨h.be.trans (hb.mono h.be.size), h.box.below hb h.box.lt, h.reg.below hb h.reg.lt, h.slo.below hb h.slo.lt, h.act.below hb, ownG_below h.sl hb, h.ne, h.ap, h.lo⟩
theorem ScM.setR (h : ScM w0 w n sb rb tb aa ac ca cc s) (r : Nat) (v : Int) : ScM w0 (w.setCell ⟨rb, r, none⟩ (.int .i64 v)) n sb rb tb aa ac ca cc ⟨updI s.R (r : Int) v, s.S, s.act, s.sl⟩ := by
 refine ⟨h.be.setCell (p := ⟨rb, r, none⟩) h.lo.2.1 _, h.box.setOther (a := ⟨rb, r, none⟩) (blk_tyne h.box h.reg (by decide)) _, (h.reg.rowSet r (.int .i64 v)).rowCongr fun i _ => ?_, h.slo.setOther (a := ⟨rb, r, none⟩) (fun e => h.ne e.symm) _, ownG_other (a := ⟨rb, r, none⟩) h.act (blk_noOwn h.reg h.act (by decide)) _, ownG_other (a := ⟨rb, r, none⟩) h.sl (fun e => (h.ap _ e).1 rfl) _, h.ne, h.ap, h.lo⟩
 show (if i = r then Value.int .i64 v else .int .i64 (s.R (i : Int))) = .int .i64 (updI s.R (r : Int) v (i : Int))
 unfold updI
 by_cases e : i = r
 ·rw [if_pos e, if_pos (by omega)]
 ·rw [if_neg e, if_neg (by omega)]
theorem ScM.setT (h : ScM w0 w n sb rb tb aa ac ca cc s) (r : Nat) (v : Int) : ScM w0 (w.setCell ⟨tb, r, none⟩ (.int .i64 v)) n sb rb tb aa ac ca cc ⟨s.R, updI s.S (r : Int) v, s.act, s.sl⟩ := by
 refine ⟨h.be.setCell (p := ⟨tb, r, none⟩) h.lo.2.2 _, h.box.setOther (a := ⟨tb, r, none⟩) (blk_tyne h.box h.slo (by decide)) _, h.reg.setOther (a := ⟨tb, r, none⟩) h.ne _, (h.slo.rowSet r (.int .i64 v)).rowCongr fun i _ => ?_, ownG_other (a := ⟨tb, r, none⟩) h.act (blk_noOwn h.slo h.act (by decide)) _, ownG_other (a := ⟨tb, r, none⟩) h.sl (fun e => (h.ap _ e).2 rfl) _, h.ne, h.ap, h.lo⟩
 show (if i = r then Value.int .i64 v else .int .i64 (s.S (i : Int))) = .int .i64 (updI s.S (r : Int) v (i : Int))
 unfold updI
 by_cases e : i = r
 ·rw [if_pos e, if_pos (by omega)]
 ·rw [if_neg e, if_neg (by omega)]
theorem ScM.setS {g : Nat} (h : ScM w0 w n sb rb tb aa ac (some ⟨g, 0, none⟩) cc s) {i : Nat} (hi : i < s.sl.length) (v : Int) : ScM w0 (w.setCell ⟨g, i, none⟩ (.int .i64 v)) n sb rb tb aa ac (some ⟨g, 0, none⟩) cc ⟨s.R, s.S, s.act, s.sl.set i v⟩ := by
 have hl := (s.sl.length_set (i := i) (a := v))
 have hg := h.ap g rfl
 have h1 := ownR_set h.sl i (.int .i64 v) (by omega)
 rw [← List.map_set] at h1
 refine ⟨h.be.setCell (p := ⟨g, i, none⟩) (h.sl.lt g rfl).1 _, ?_, h.reg.setOther (a := ⟨g, i, none⟩) (fun e => hg.1 e.symm) _, h.slo.setOther (a := ⟨g, i, none⟩) (fun e => hg.2 e.symm) _, ownG_other (a := ⟨g, i, none⟩) h.act (fun e => own_tyN h.act h.sl (by decide) g e rfl) _, ?_, h.ne, ?_, h.lo⟩
 ·show Blk _ sb _ [_, _, _, _, .slice (some ⟨g, 0, none⟩) (s.sl.set i v).length cc]
  rw [hl]
  exact h.box.setOther (a := ⟨g, i, none⟩) (fun e => blk_noOwn h.box h.sl (by decide) (by rw [e]; rfl)) _
 ·show World.ownsRow _ _ _ _ (.slice (some ⟨g, 0, none⟩) (s.sl.set i v).length cc) (s.sl.set i v).length _
  rw [hl]
  exact h1
 ·intro q hq
  exact h.ap q hq
/-- the row of the slots has grown, and lies in the box -/
theorem ScM.pushS (h : ScM w0 w n sb rb tb aa ac ca cc s) {g cap : Nat} {v : Int} (hown : w'.ownsRow w0.heap.size 3 1 (.slice (some ⟨g, 0, none⟩) (s.sl.length + 1) cap) (s.sl.length + 1) (s.sl.map (Value.int .i64) ++ [.int .i64 v])) (hg : w.grownBy w' (Value.slice ca s.sl.length cc).ownBlock) (hw : (Value.slice ca s.sl.length cc).ownBlock = some g ∨ w.heap.size ≤ g) :
  ScM w0 (w'.setCell ⟨sb, 4, none⟩ (.slice (some ⟨g, 0, none⟩) (s.sl.length + 1) cap)) n sb rb tb aa ac (some ⟨g, 0, none⟩) cap ⟨s.R, s.S, s.act, s.sl ++ [v]⟩ := by
 have hrs := RestS.ofGrown hg
 have hk : ∀ {q : Nat} {t : TypeId} {cs : List Value}, Blk w q t cs → ¬ (Value.slice ca s.sl.length cc).ownBlock = some q → Blk w' q t cs := fun hq hn => Blk.of_heap hq (hrs.block _ (Blk.lt hq) hn)
 have hbox := hk h.box (blk_noOwn h.box h.sl (by decide))
 have hreg := hk h.reg (fun e => (h.ap _ e).1 rfl)
 have hslo := hk h.slo (fun e => (h.ap _ e).2 rfl)
 have hact : RgRow w' w0.heap.size aa ac s.act := ownG_kept h.act fun q hq => hrs.block q (h.act.lt q hq).2 (own_tyN h.act h.sl (by decide) q hq)
 have hgn : g ≠ rb ∧ g ≠ tb := by
  rcases hw with e | e
  ·exact h.ap g e
  ·have h1 := Blk.lt h.reg
   have h2 := Blk.lt h.slo
   omega
 have hlen : (s.sl ++ [v]).length = s.sl.length + 1 := by simp
 have hsg : sb ≠ g := fun e => blk_noOwn hbox hown (by decide) (by rw [e]; rfl)
 refine ⟨(h.be.trans (hrs.toBelow (fun q e => (h.sl.lt q e).1) h.be.size)).setCell (p := ⟨sb, 4, none⟩) h.lo.1 _, ?_, hreg.setOther (a := ⟨sb, 4, none⟩) (blk_tyne hreg hbox (by decide)) _, hslo.setOther (a := ⟨sb, 4, none⟩) (blk_tyne hslo hbox (by decide)) _, ownG_other (a := ⟨sb, 4, none⟩) hact (blk_noOwn hbox hact (by decide)) _, ?_, h.ne, ?_, h.lo⟩
 ·show Blk _ sb _ [_, _, _, _, .slice (some ⟨g, 0, none⟩) (s.sl ++ [v]).length cap]
  rw [hlen]
  exact hbox.set 4 _
 ·show World.ownsRow _ _ _ _ (.slice (some ⟨g, 0, none⟩) (s.sl ++ [v]).length cap) (s.sl ++ [v]).length _
  rw [hlen]
  have h9 := ownG_other (a := ⟨sb, 4, none⟩) hown (fun e => hsg (by injection e with e; exact e.symm)) (.slice (some ⟨g, 0, none⟩) (s.sl.length + 1) cap)
  simpa using h9
 ·intro q hq
  injection hq with hq
  simp only at hq
  rw [← hq]
  exact hgn
/-- the row of the active ranges is another one, and lies in the box -/
theorem ScM.putA (h : ScM w0 w n sb rb tb aa ac ca cc s) {a' : Option Addr} {c' : Nat} {act' : List RG} (hr : RgRow w' w0.heap.size a' c' act') (hg : RestS (fun k => (Value.slice aa s.act.length ac).ownBlock = some k) w w') :
  ScM w0 (w'.setCell ⟨sb, 3, none⟩ (.slice a' act'.length c')) n sb rb tb a' c' ca cc ⟨s.R, s.S, act', s.sl⟩ := by
 have hk : ∀ {q : Nat} {t : TypeId} {cs : List Value}, Blk w q t cs → t ≠ 97 → Blk w' q t cs := fun hq hn => Blk.of_heap hq (hg.block _ (Blk.lt hq) (blk_noOwn hq h.act (fun e => hn e.symm)))
 have hbox := hk h.box (by decide)
 have hreg := hk h.reg (by decide)
 have hslo := hk h.slo (by decide)
 have hsl := ownG_kept h.sl fun q hq => hg.block q (h.sl.lt q hq).2 (fun e => own_tyN h.act h.sl (by decide) q e hq)
 refine ⟨(h.be.trans (hg.toBelow (fun q e => (h.act.lt q e).1) h.be.size)).setCell (p := ⟨sb, 3, none⟩) h.lo.1 _, ?_, hreg.setOther (a := ⟨sb, 3, none⟩) (blk_tyne hreg hbox (by decide)) _, hslo.setOther (a := ⟨sb, 3, none⟩) (blk_tyne hslo hbox (by decide)) _, ownG_other (a := ⟨sb, 3, none⟩) hr (blk_noOwn hbox hr (by decide)) _, ownG_other (a := ⟨sb, 3, none⟩) hsl (blk_noOwn hbox hsl (by decide)) _, h.ne, h.ap, h.lo⟩
 exact hbox.set 3 _
end
/-! ## IndexFunc at the slots -/
theorem ended_any (w : World) (xb : Nat) (x : RG) (z : Int) (hx : Blk w xb 97 (rgC x)) : Calls Try.prog 73 #[.int .i64 z, .pointer (some ⟨xb, 0, none⟩)] w fun e w' => e = .returned (.bool (decide (z < x.b))) ∧ w = w' := by
 have c1 := hx.cell 1
 simp only [rgC, List.getElem?_cons_zero, List.getElem?_cons_succ] at c1
 clear hx
 go_enter Try.func73, Try.ntmps73
 go_wp2_with fail
 go_ret
 exact ⟨rfl, rfl⟩
def IxSPost (sl : List Int) (b : Int) (w : World) (e : Ending) (w' : World) : Prop :=
 ∃ i : Int, e = .returned (.int .i64 i) ∧ w = w' ∧ ((∃ k : Nat, i = (k : Int) ∧ ∃ e, sl[k]? = some e ∧ e < b) ∨ i = -1)
set_option maxHeartbeats 1000000 in
theorem ixs_any (w : World) (a : Option Addr) (n c : Nat) (zs : List Int) (h : Came w a n c 1 (zs.map intCells)) (xb : Nat) (x : RG) (hx : Blk w xb 97 (rgC x)) :
  Calls Try.prog 72 #[.slice a n c, .func (.func 73) #[] #[.pointer (some ⟨xb, 0, none⟩)]] w (IxSPost zs x.b w) := by
 have hl : zs.length = n := by simpa using h.count
 have hn := h.le
 have hm := h.max
 have HC : Hid (∀ k, k < n → ∃ g off, a = some ⟨g, off, none⟩ ∧ g < w.heap.size ∧ w.cell? ⟨g, off + k, none⟩ = some (.int .i64 (zs.getD k 0))) := fun k hk => by
  obtain ⟨g, off, ha, hlt, hc⟩ := h.ints (by omega)
  refine ⟨g, off, ha, hlt, ?_⟩
  rw [hc k (by omega)]
  simp [List.getD_eq_getElem?_getD, show k < zs.length by omega]
 have HL := Lib.hid hl
 have HX := Lib.hid hx
 clear h hl hx
 go_enter Try.func72, Try.ntmps72
 go_wp2_with fail
 go_loopw [5, 8] (fun _ u wr => ∃ k : Nat, k ≤ n ∧ u = .int .i64 (k : Int) ∧ wr = w) (fun _ u _ => n - (intOf u).toNat)
 case atStart => exact ⟨0, Nat.zero_le _, rfl, rfl⟩
 case round =>
  obtain ⟨k, hk, rfl, rfl⟩ := hrel
  by_cases hlt : k < n
  ·obtain ⟨g, off, rfl, hg, hc⟩ := HC.out k hlt
   obtain ⟨z, hz⟩ : ∃ z, z = zs.getD k 0 := ⟨_, rfl⟩
   rw [← hz] at hc
   have HZ : Hid (zs[k]? = some z) := by
    show _ = _
    rw [hz, List.getD_eq_getElem?_getD, List.getElem?_eq_getElem (by have := HL.out; omega)]
    rfl
   have hcall := Lib.hid (ended_any wr xb x z HX.out)
   have hki : (k : Int) < (n : Int) := by omega
   clear hz
   by_cases hq : z < x.b
   ·have e1 : decide (z < x.b) = true := by simp [hq]
    rw [e1] at hcall
    have HQ := Lib.hid hq
    clear hq e1
    go_wp2_with fail
    refine hcall.out.mono ?_
    rintro e w' ⟨rfl, hw'⟩
    rw [← hw']
    clear hw' w' hcall
    go_wp2_with fail
    go_ret
    exact ⟨(k : Int), rfl, rfl, .inl ⟨k, rfl, z, HZ.out, HQ.out⟩⟩
   ·have e1 : decide (z < x.b) = false := by simp; omega
    rw [e1] at hcall
    clear hq e1
    go_wp2_with fail
    refine hcall.out.mono ?_
    rintro e w' ⟨rfl, hw'⟩
    rw [← hw']
    clear hw' w' hcall
    go_wp2_with fail
    go_roundw
    case rel => exact ⟨k + 1, by omega, by go_num, trivial⟩
    case measure => simp [intOf]; omega
  ·have hle : ¬ (k : Int) < (n : Int) := by omega
   go_wp2_with fail
   go_ret
   exact ⟨-1, rfl, rfl, .inr rfl⟩
end Go.Proofs.Ytlcnbihfpjhffaa
