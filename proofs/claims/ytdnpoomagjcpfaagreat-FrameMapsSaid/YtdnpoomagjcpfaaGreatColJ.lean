/- color's order: the walk. -/
import Derived.Test.YtdnpoomagjcpfaaGreatColLaw
import Derived.Deep.AppendLies
namespace Go.Proofs.YtdnpoomagjcpfaaGreat
open Go.RowKit
set_option linter.unusedVariables false
set_option linter.unusedSimpArgs false

theorem ownR_weaken {w : World} {base base' : Nat} {e : TypeId} {size n : Nat} {v : Value} {l : List Value} (h : w.ownsRow base' e size v n l) (hb : base ≤ base') : w.ownsRow base e size v n l :=
 ⟨h.1, h.2.imp id fun ⟨g, cap, cur, h0, h1, h2⟩ => ⟨g, cap, cur, h0, Nat.le_trans hb h1, h2⟩⟩
/-- order's memory -/
structure OrdI (w0 w : World) (n lb db : Nat) (left : Nat → Bool) (dg : Nat → Int) : Prop where
 be : Below w0.heap.size w0 w
 lrow : BRow w lb n left
 drow : NRow w db n dg
 lo : w0.heap.size ≤ lb ∧ lb < db
section
variable {w0 w w' : World} {n lb db : Nat} {left : Nat → Bool} {dg : Nat → Int}
theorem OrdI.below (h : OrdI w0 w n lb db left dg) (hb : Below w.heap.size w w') : OrdI w0 w' n lb db left dg :=
 ⟨h.be.trans (hb.mono h.be.size), Blk.below h.lrow hb (Blk.lt h.lrow), Blk.below h.drow hb (Blk.lt h.drow), h.lo⟩
theorem OrdI.setL (h : OrdI w0 w n lb db left dg) (j : Nat) (b : Bool) : OrdI w0 (w.setCell ⟨lb, j, none⟩ (.bool b)) n lb db (fun r => if r = j then b else left r) dg :=
 ⟨h.be.setCell (p := ⟨lb, j, none⟩) h.lo.1 _, h.lrow.setC j b, Blk.setOther h.drow (a := ⟨lb, j, none⟩) (by have := h.lo.2; show db ≠ lb; omega) _, h.lo⟩
theorem OrdI.setD (h : OrdI w0 w n lb db left dg) (j : Nat) (z : Int) : OrdI w0 (w.setCell ⟨db, j, none⟩ (.int .i64 z)) n lb db left (fun r => if r = j then z else dg r) :=
 ⟨h.be.setCell (p := ⟨db, j, none⟩) (by have := h.lo; show _ ≤ db; omega) _, Blk.setOther h.lrow (a := ⟨db, j, none⟩) (by have := h.lo.2; show lb ≠ db; omega) _, h.drow.set j z, h.lo⟩
theorem OrdI.congr (h : OrdI w0 w n lb db left dg) {left' : Nat → Bool} {dg' : Nat → Int} (e1 : ∀ r, r < n → left r = left' r) (e2 : ∀ r, r < n → dg r = dg' r) : OrdI w0 w n lb db left' dg' :=
 ⟨h.be, Blk.rowCongr h.lrow fun r hr => by rw [e1 r hr], h.drow.congr e2, h.lo⟩
end
theorem OrdI.grow {w0 w w' : World} {n lb db : Nat} {left : Nat → Bool} {dg : Nat → Int} (h : OrdI w0 w n lb db left dg) {v : Value} (hg : w.grownBy w' v.ownBlock) (hv : ∀ q, v.ownBlock = some q → db < q) : OrdI w0 w' n lb db left dg := by
 have hr := RestS.ofGrown hg
 have hlo := h.lo
 exact ⟨h.be.trans (hr.toBelow (fun q e => by have := hv q e; omega) h.be.size), Blk.of_heap h.lrow (hr.block _ (Blk.lt h.lrow) (fun e => by have := hv _ e; omega)), Blk.of_heap h.drow (hr.block _ (Blk.lt h.drow) (fun e => by have := hv _ e; omega)), h.lo⟩
theorem cntY_zero {n : Nat} {l : Nat → Bool} (h : cntY n l = 0) : ∀ r, r < n → l r = false := fun r hr => by
 cases e : l r
 ·rfl
 ·have := cntY_lt (n := n) (l := fun _ => false) (l' := l) (fun _ _ h => by cases h) hr rfl e
  omega
theorem cntY_pos {n : Nat} {l : Nat → Bool} (h : 0 < cntY n l) : ∃ r, r < n ∧ l r = true := by
 refine Decidable.byContradiction fun hno => ?_
 have h1 : cntY n l = cntY n fun _ => false := cntY_congr fun r hr => by
  cases e : l r
  ·rfl
  ·exact absurd ⟨r, hr, e⟩ hno
 have h2 : ∀ m, cntY m (fun _ => false) = 0 := fun m => by
  induction m with
  | zero => rfl
  | succ m ih => rw [cntY_succ, ih]; simp
 rw [h1, h2] at h
 omega
theorem cntY_drop {n : Nat} {l : Nat → Bool} {b : Nat} (hb : b < n) (h : l b = true) : cntY n (fun q => if q = b then false else l q) + 1 = cntY n l := by
 have key : ∀ m, cntY m l = cntY m (fun q => if q = b then false else l q) + if b < m then 1 else 0 := by
  intro m
  induction m with
  | zero => rfl
  | succ m ih =>
   rw [cntY_succ, cntY_succ, ih]
   by_cases e : m = b
   ·subst e
    simp [h]
   ·simp only [e, if_false]
    by_cases e2 : b < m
    ·rw [if_pos e2, if_pos (show b < m + 1 by omega)]; omega
    ·rw [if_neg e2, if_neg (show ¬ b < m + 1 by omega)]; omega
 have := key n
 rw [if_pos hb] at this
 omega
def dgA (n : Nat) (X : Nat → Nat → Bool) (left : Nat → Bool) (r m q : Nat) : Int := if q = r then ((cntY m (fun s => X r s && left s) : Nat) : Int) else if q < r then ((dgN n X left q : Nat) : Int) else 0
def OrdPost (n : Nat) (X : Nat → Nat → Bool) (SL TH : Nat → Bool) (k : Nat) (w : World) (e : Ending) (w' : World) : Prop :=
 ∃ (l : List Nat) (a : Option Addr) (c : Nat), e = .returned (.slice a l.length c) ∧ w'.ownsRow w.heap.size 3 1 (.slice a l.length c) l.length ((l.map fun (r : Nat) => (r : Int)).map (Value.int .i64)) ∧ Below w.heap.size w w' ∧ ElimA n X k (fun r => TH r && !SL r) l.reverse
set_option maxRecDepth 100000 in
set_option maxHeartbeats 8000000 in
theorem order_any (w : World) (B n : Nat) (g : GP) (X : Nat → Nat → Bool) (SL TH : Nat → Bool) (mv : Value) (h : GrM w B n g X SL TH mv) (hsym : ∀ i j, i < n → j < n → X i j = X j i) (k : Nat) (hk : k ≤ 8192) (hn : 0 < n ∧ n ≤ 8192) :
  Calls Tryz.prog 24 #[.pointer (some ⟨g.gb, 0, none⟩), .int .i64 (k : Int)] w (OrdPost n X SL TH k w) := by
 have hmkB : ∀ w : World, (Instr.makeSlice 51 (.int .i64 (n : Int)) (.int .i64 (n : Int))).run Tryz.prog w = .ok (.slice (some ⟨w.heap.size, 0, none⟩) n n) (w.alloc (.cells (rowL n fun _ => .bool false).toArray 4)) := fun w => run_make_rep (P := Tryz.prog) 51 4 (.bool false) 1 Tryz.underlying51 Tryz.infoB4 rfl n (by omega) (by omega) w
 have hmkI : ∀ w : World, (Instr.makeSlice 22 (.int .i64 (n : Int)) (.int .i64 (n : Int))).run Tryz.prog w = .ok (.slice (some ⟨w.heap.size, 0, none⟩) n n) (w.alloc (.cells (rowL n fun _ => .int .i64 0).toArray 3)) := fun w => run_make_rep (P := Tryz.prog) 22 3 (.int .i64 0) 8 Tryz.underlying22 Tryz.infoT3 rfl n (by omega) (by omega) w
 have hcap := h.cap
 have hcm := hcap.2
 unfold maxLen at hcm
 have hc1 := hcap.1
 have k0 := h.box.cell 0
 simp only [List.getElem?_cons_zero] at k0
 have hgl := h.box.lt
 have H := Lib.hid h
 have HSYM := Lib.hid hsym
 obtain ⟨gb, hgb⟩ : ∃ x, x = g.gb := ⟨_, rfl⟩
 obtain ⟨G, hG⟩ : ∃ x, x = g.G := ⟨_, rfl⟩
 obtain ⟨rc, hrc⟩ : ∃ x, x = g.rc := ⟨_, rfl⟩
 rw [← hgb, ← hG, ← hrc] at k0
 rw [← hgb] at hgl ⊢
 rw [← hrc] at hcm hc1
 have HGB := Lib.hid hgb
 have HG := Lib.hid hG
 have HRC := Lib.hid hrc
 have hI0 : OrdI w ((w.alloc (.cells (rowL n fun _ => .bool false).toArray 4)).alloc (.cells (rowL n fun _ => .int .i64 0).toArray 3)) n w.heap.size (w.heap.size + 1) (fun q => if q < 0 then TH q && !SL q else false) (fun _ => 0) := by
  refine ⟨((Below.refl _ _).alloc (Nat.le_refl _) _).alloc (by simp) _, (Blk.new w (rowL n fun _ => .bool false) 4).alloc _, ?_, by omega⟩
  have := Blk.new (w.alloc (.cells (rowL n fun _ => .bool false).toArray 4)) (rowL n fun _ => .int .i64 0) 3
  rw [World.size_alloc] at this
  exact this
 have HI0 := Lib.hid hI0
 clear h hsym hcap hgb hG hrc hI0
 go_enter Tryz.func24, Tryz.ntmps24
 go_wp2_with fail
 clear hmkB hmkI k0
 obtain ⟨lb, hlb⟩ : ∃ x, x = w.heap.size := ⟨_, rfl⟩
 obtain ⟨w1, hw1⟩ : ∃ x, x = ((w.alloc (.cells (rowL n fun _ => .bool false).toArray 4)).alloc (.cells (rowL n fun _ => .int .i64 0).toArray 3)) := ⟨_, rfl⟩
 change Code.wp _ _ _ _ ((w.alloc (.cells (rowL n fun _ => .bool false).toArray 4)).alloc (.cells (rowL n fun _ => .int .i64 0).toArray 3))
 rw [← hw1] at HI0 ⊢
 rw [← hlb] at HI0 ⊢
 clear hw1 hlb
 go_loopw [7, 36] (fun u7 u wr => ∃ r : Nat, r ≤ n ∧ u = .int .i64 (r : Int) ∧ u7 = .int .i64 ((cntY r (fun q => TH q && !SL q) : Nat) : Int) ∧ OrdI w wr n lb (lb + 1) (fun q => if q < r then TH q && !SL q else false) (fun _ => 0)) (fun _ u _ => n - (intOf u).toNat)
 case atStart => exact ⟨0, Nat.zero_le _, rfl, rfl, HI0.out⟩
 case round =>
  clear HI0
  obtain ⟨r, hr, rfl, rfl, hi⟩ := hrel
  have HI := Lib.hid hi
  clear hi
  have HGR := Lib.hid (H.out.below HI.out.be)
  by_cases hlt : r < n
  ·have k1 := HGR.out.box.cell 1
   have k2 := HGR.out.box.cell 2
   simp only [List.getElem?_cons_zero, List.getElem?_cons_succ] at k1 k2
   rw [← HGB.out] at k1 k2
   have x1 := HGR.out.slot.cell hlt
   have x2 := HGR.out.there.cell hlt
   have y1 := HI.out.lrow.cell hlt
   have f1 := Blk.free HI.out.lrow r
   have hcs := cntY_succ r (fun q => TH q && !SL q)
   have hcl := cntY_le r (fun q => TH q && !SL q)
   obtain ⟨sb, hsb⟩ : ∃ x, x = g.sb := ⟨_, rfl⟩
   obtain ⟨tb, htb⟩ : ∃ x, x = g.tb := ⟨_, rfl⟩
   rw [← hsb] at k1 x1
   rw [← htb] at k2 x2
   obtain ⟨sl, hsl⟩ : ∃ x, x = SL r := ⟨_, rfl⟩
   obtain ⟨th, hth⟩ : ∃ x, x = TH r := ⟨_, rfl⟩
   rw [← hsl] at x1
   rw [← hth] at x2
   rw [← hsl, ← hth] at hcs
   obtain ⟨c, hc⟩ : ∃ c, c = cntY r (fun q => TH q && !SL q) := ⟨_, rfl⟩
   rw [← hc] at hcs hcl ⊢
   have HCS := Lib.hid hcs
   have HS : Hid (OrdI w (wr.setCell ⟨lb, r, none⟩ (.bool (th && !sl))) n lb (lb + 1) (fun q => if q < r + 1 then TH q && !SL q else false) (fun _ => 0)) := (HI.out.setL r (th && !sl)).congr (fun q hq => by
    by_cases e : q = r
    ·subst e; rw [if_pos rfl, if_pos (by omega), hth, hsl]
    ·rw [if_neg e]
     by_cases e2 : q < r
     ·rw [if_pos e2, if_pos (by omega)]
     ·rw [if_neg e2, if_neg (by omega)]) (fun _ _ => rfl)
   clear hsb htb hsl hth hc hcs HI HGR
   cases th <;> cases sl
   all_goals
    go_wp2_with fail
    go_roundw
    case rel => exact ⟨r + 1, by omega, by go_num, by rw [HCS.out]; go_num, HS.out⟩
    case measure => simp [intOf]; omega
  ·have er : n = r := by omega
   subst er
   obtain ⟨L0, hL0⟩ : ∃ L, L = fun q => TH q && !SL q := ⟨_, rfl⟩
   have HI2 : Hid (OrdI w wr n lb (lb + 1) L0 (fun q => if q < 0 then ((dgN n X L0 q : Nat) : Int) else 0)) := HI.out.congr (fun q hq => by rw [if_pos hq, hL0]) (fun q _ => by simp)
   unfold OrdPost
   rw [← hL0]
   have HL0 := Lib.hid hL0
   clear HI hL0
   have k1 := HGR.out.box.cell 0
   simp only [List.getElem?_cons_zero] at k1
   rw [← HGB.out, ← HG.out, ← HRC.out] at k1
   go_wp2_with fail
   clear k1 HGR
   go_loopw [71] (fun u wx => ∃ r : Nat, r ≤ n ∧ u = .int .i64 (r : Int) ∧ OrdI w wx n lb (lb + 1) L0 (fun q => if q < r then ((dgN n X L0 q : Nat) : Int) else 0)) (fun u _ => n - (intOf u).toNat)
   case atStart => exact ⟨0, Nat.zero_le _, rfl, HI2.out⟩
   case round =>
    clear HI2 hlt hr
    obtain ⟨r, hr, rfl, hi⟩ := hrel
    have HI := Lib.hid hi
    clear hi
    by_cases hlt : r < n
    ·
     have HGR := Lib.hid (H.out.below HI.out.be)
     have cr := HGR.out.rowCell hlt
     obtain ⟨br, hbr⟩ : ∃ x, x = g.bs r := ⟨_, rfl⟩
     rw [← HG.out, ← hbr] at cr
     have HBR := Lib.hid hbr
     have HI3 : Hid (OrdI w wr n lb (lb + 1) L0 (dgA n X L0 r 0)) := HI.out.congr (fun _ _ => rfl) (fun q _ => by
      unfold dgA
      by_cases e : q = r
      ·subst e; rw [if_pos rfl, if_neg (by omega)]; rfl
      ·rw [if_neg e])
     clear HI HGR hbr
     go_wp2_with fail
     clear cr
     go_loopw [78] (fun u wx => ∃ m : Nat, m ≤ n ∧ u = .int .i64 (m : Int) ∧ OrdI w wx n lb (lb + 1) L0 (dgA n X L0 r m)) (fun u _ => n - (intOf u).toNat)
     case atStart => exact ⟨0, Nat.zero_le _, rfl, HI3.out⟩
     case round =>
      clear HI3
      obtain ⟨m, hm, rfl, hi⟩ := hrel
      have HI := Lib.hid hi
      clear hi
      by_cases hml : m < n
      ·have HGR := Lib.hid (H.out.below HI.out.be)
       have x1 := (HGR.out.row r hlt).cell hml
       have x2 := HI.out.lrow.cell hml
       have x3 := HI.out.drow.cell hlt
       have f3 := Blk.free HI.out.drow r
       have hcs := cntY_succ m (fun s => X r s && L0 s)
       have hcl := cntY_le m (fun s => X r s && L0 s)
       have e0 : dgA n X L0 r m r = ((cntY m (fun s => X r s && L0 s) : Nat) : Int) := if_pos rfl
       rw [e0] at x3
       rw [← HBR.out] at x1
       obtain ⟨xv, hxv⟩ : ∃ x, x = X r m := ⟨_, rfl⟩
       obtain ⟨lv, hlv⟩ : ∃ x, x = L0 m := ⟨_, rfl⟩
       rw [← hxv] at x1
       rw [← hlv] at x2
       rw [← hxv, ← hlv] at hcs
       obtain ⟨c, hc⟩ : ∃ c, c = cntY m (fun s => X r s && L0 s) := ⟨_, rfl⟩
       rw [← hc] at x3 hcl hcs
       have HNX : Hid (∀ c' : Nat, cntY (m + 1) (fun s => X r s && L0 s) = c' → ∀ q, (if q = r then (c' : Int) else dgA n X L0 r m q) = dgA n X L0 r (m + 1) q) := fun c' h9 q => by
        unfold dgA
        by_cases e : q = r
        ·rw [if_pos e, if_pos e, h9]
        ·rw [if_neg e, if_neg e, if_neg e]
       have HSM : Hid (cntY (m + 1) (fun s => X r s && L0 s) = c → ∀ q, dgA n X L0 r m q = dgA n X L0 r (m + 1) q) := fun h9 q => by
        unfold dgA
        by_cases e : q = r
        ·rw [if_pos e, if_pos e, h9, hc]
        ·rw [if_neg e, if_neg e]
       have HCS := Lib.hid hcs
       clear hcs hc hxv hlv e0 HGR
       cases xv with
       | false =>
        have HN := Lib.hid (HI.out.congr (fun _ _ => rfl) (fun q _ => HSM.out (by simpa using HCS.out) q))
        clear HNX HSM HCS HI
        go_wp2_with fail
        go_roundw
        case rel => exact ⟨m + 1, by omega, by go_num, HN.out⟩
        case measure => simp [intOf]; omega
       | true =>
        cases lv with
        | false =>
         have HN := Lib.hid (HI.out.congr (fun _ _ => rfl) (fun q _ => HSM.out (by simpa using HCS.out) q))
         clear HNX HSM HCS HI
         go_wp2_with fail
         go_roundw
         case rel => exact ⟨m + 1, by omega, by go_num, HN.out⟩
         case measure => simp [intOf]; omega
        | true =>
         have HN := Lib.hid ((HI.out.setD r ((c : Int) + 1)).congr (fun _ _ => rfl) (fun q _ => by
          have := HNX.out (c + 1) (by simpa using HCS.out) q
          simpa using this))
         clear HNX HSM HCS HI
         go_wp2_with fail
         go_roundw
         case rel => exact ⟨m + 1, by omega, by go_num, HN.out⟩
         case measure => simp [intOf]; omega
      ·have em : n = m := by omega
       subst em
       have HN := Lib.hid (HI.out.congr (dg' := fun q => if q < r + 1 then ((dgN n X L0 q : Nat) : Int) else 0) (fun _ _ => rfl) (fun q _ => by
        unfold dgA
        by_cases e : q = r
        ·subst e; rw [if_pos rfl, if_pos (by omega)]; rfl
        ·rw [if_neg e]
         by_cases e2 : q < r
         ·rw [if_pos e2, if_pos (by omega)]
         ·rw [if_neg e2, if_neg (by omega)]))
       clear HI
       go_wp2_with fail
       go_roundw
       case rel => exact ⟨r + 1, by omega, by go_num, HN.out⟩
       case measure => simp [intOf]; omega
    ·have er : n = r := by omega
     subst er
     have HI3 : Hid (OrdI w wr n lb (lb + 1) L0 (fun q => ((dgN n X L0 q : Nat) : Int))) := HI.out.congr (fun _ _ => rfl) (fun q hq => by rw [if_pos hq])
     have HML := Lib.hid (cntY_le n L0)
     obtain ⟨M, hM⟩ : ∃ M, M = cntY n L0 := ⟨_, rfl⟩
     rw [← hM] at HML ⊢
     have HMM := Lib.hid hM
     have hMl := HML.out
     clear HI hM HML
     go_wp2_with fail
     go_loopw [13, 99] (fun u13 u wx => ∃ (l : List Nat) (left : Nat → Bool) (a : Option Addr) (c : Nat), l.length ≤ M ∧ u = .int .i64 (l.length : Int) ∧ u13 = .slice a l.length c ∧ wx.ownsRow (lb + 2) 3 1 (.slice a l.length c) l.length ((l.map fun (r : Nat) => (r : Int)).map (Value.int .i64)) ∧ ElimP n X k L0 l left ∧ cntY n left + l.length = M ∧ OrdI w wx n lb (lb + 1) left (fun q => ((dgN n X left q : Nat) : Int))) (fun _ u _ => M - (intOf u).toNat)
     case atStart => exact ⟨[], L0, none, 0, Nat.zero_le _, rfl, rfl, World.ownsRow_nil _ _ _ _, .nil, by rw [HMM.out]; rfl, HI3.out⟩
     case round =>
      clear HI3 hlt hr
      obtain ⟨l, left, a, c, hi0, rfl, rfl, ho, hel, hct, hi⟩ := hrel
      have HI := Lib.hid hi
      have HO := Lib.hid ho
      have HEL := Lib.hid hel
      have HCT := Lib.hid hct
      clear hi ho hel hct
      by_cases hlt : l.length < M
      ·
       go_upto_block 8 with fail
       obtain ⟨wb, rfl⟩ : ∃ x, x = wr := ⟨_, rfl⟩
       go_cut [14, 15, 16] from 101 to 160 (fun v _ _ wx => ∃ b : Nat, b < n ∧ v = .int .i64 (b : Int) ∧ left b = true ∧ ((∃ r, r < n ∧ left r = true ∧ dgN n X left r < k) → dgN n X left b < k) ∧ Below wb.heap.size wb wx)
       case first => as_aux_lemma =>
        go_wp2_with fail
        go_loopw [14, 103] (fun u14 u wx => ∃ (r : Nat) (z : Int), r ≤ n ∧ u = .int .i64 (r : Int) ∧ u14 = .int .i64 z ∧ ((z = -1 ∧ ∀ q, q < r → left q = false) ∨ (∃ b : Nat, b < n ∧ z = (b : Int) ∧ left b = true)) ∧ (∀ q, q < r → left q = true → ¬ dgN n X left q < k) ∧ Below wb.heap.size wb wx) (fun _ u _ => n - (intOf u).toNat)
        case atStart => exact ⟨0, -1, Nat.zero_le _, rfl, rfl, .inl ⟨rfl, fun q hq => absurd hq (Nat.not_lt_zero _)⟩, fun q hq => absurd hq (Nat.not_lt_zero _), Below.refl _ _⟩
        case round =>
         obtain ⟨r, z, hr, rfl, rfl, hz, hnk, hbw⟩ := hrel
         have HZ := Lib.hid hz
         have HNK := Lib.hid hnk
         have HBW := Lib.hid hbw
         have HI2 := Lib.hid (HI.out.below hbw)
         clear hz hnk hbw
         by_cases hrn : r < n
         ·have x1 := HI2.out.lrow.cell hrn
          have x2 := HI2.out.drow.cell hrn
          obtain ⟨lv, hlv⟩ : ∃ x, x = left r := ⟨_, rfl⟩
          rw [← hlv] at x1
          have hdl := cntY_le n (fun s => X r s && left s)
          obtain ⟨d, hd⟩ : ∃ d, d = dgN n X left r := ⟨_, rfl⟩
          have hdl2 : d ≤ n := by rw [hd]; exact hdl
          rw [← hd] at x2
          have HD := Lib.hid hd
          clear hdl hd
          cases lv with
          | false =>
           have HL := Lib.hid hlv.symm
           clear hlv
           go_wp2_with fail
           go_roundw
           case rel => exact ⟨r + 1, z, by omega, by go_num, rfl, HZ.out.imp (fun h => ⟨h.1, fun q hq => by
            by_cases e : q = r
            ·subst e; exact HL.out
            ·exact h.2 q (by omega)⟩) id, fun q hq hl => by
            by_cases e : q = r
            ·subst e; rw [HL.out] at hl; cases hl
            ·exact HNK.out q (by omega) hl, HBW.out⟩
           case measure => simp [intOf]; omega
          | true =>
           have HL := Lib.hid hlv.symm
           clear hlv
           by_cases hdk : d < k
           ·have q1 : decide ((d : Int) < (k : Int)) = true := by simp; omega
            go_wp2_with fail
            go_meet
            exact ⟨r, hrn, rfl, HL.out, fun _ => by rw [← HD.out]; exact hdk, HBW.out⟩
           ·have q1 : decide ((d : Int) < (k : Int)) = false := by simp; omega
            have HNK2 : Hid (∀ q, q < r + 1 → left q = true → ¬ dgN n X left q < k) := fun q hq hl => by
             by_cases e : q = r
             ·subst e; rw [← HD.out]; exact hdk
             ·exact HNK.out q (by omega) hl
            have hz := HZ.out
            have HB2 := Lib.hid (HBW.out.trans ((Below.refl wr.heap.size wr).drew.mono HBW.out.size))
            rcases hz with ⟨rfl, _⟩ | ⟨b, hb, rfl, hlb⟩
            ·clear HZ HNK HI2 HBW
             go_upto_region 31 with fail
             refine wp_region_eager wr.heap.size [(0, true), (1, true), (2, true), (3, true), (4, true), (5, true), (6, true), (7, true), (8, true), (9, true), (10, true), (11, true), (12, true)] (by kernel_rfl) (by kernel_rfl) ?_
             repeat (refine eag_read rfl ?_; go_big_quiet_step (fail); refine wpQuiet_nil ?_)
             refine eag_end ?_
             go_wp2_with fail
             go_roundw
             case rel => exact ⟨r + 1, r, by omega, by go_num, rfl, .inr ⟨r, hrn, rfl, HL.out⟩, HNK2.out, HB2.out⟩
             case measure => simp [intOf]; omega
            ·have x3 := HI2.out.drow.cell hb
             have hdl := cntY_le n (fun s => X b s && left s)
             have hdb := Blk.lt HI2.out.drow
             obtain ⟨d2, hd2⟩ : ∃ d, d = dgN n X left b := ⟨_, rfl⟩
             have hdl3 : d2 ≤ n := by rw [hd2]; exact hdl
             rw [← hd2] at x3
             have HLB := Lib.hid hlb
             have r2 := fun z : After wr.heap.size wr.drew => (z.below.cell (p := ⟨lb + 1, r, none⟩) hdb).trans x2
             have r3 := fun z : After wr.heap.size wr.drew => (z.below.cell (p := ⟨lb + 1, b, none⟩) hdb).trans x3
             have hb0 : ((b : Int) < 0) = False := by simp
             clear HZ HNK HI2 HBW hdl hd2 hlb
             by_cases hgt : d2 < d
             ·have q2 : decide ((d2 : Int) < (d : Int)) = true := by simp; omega
              go_upto_region 31 with fail
              refine wp_region_eager wr.heap.size [(0, true), (1, true), (2, true), (3, true), (4, true), (5, true), (6, true), (7, true), (8, true), (9, true), (10, true), (11, true), (12, true)] (by kernel_rfl) (by kernel_rfl) ?_
              repeat (refine eag_read rfl ?_; go_big_quiet_step (fail); refine wpQuiet_nil ?_)
              refine eag_end ?_
              clear r2 r3
              go_wp2_with fail
              go_roundw
              case rel => exact ⟨r + 1, r, by omega, by go_num, rfl, .inr ⟨r, hrn, rfl, HL.out⟩, HNK2.out, HB2.out⟩
              case measure => simp [intOf]; omega
             ·have q2 : decide ((d2 : Int) < (d : Int)) = false := by simp; omega
              go_upto_region 31 with fail
              refine wp_region_eager wr.heap.size [(0, true), (1, true), (2, true), (3, true), (4, true), (5, true), (6, true), (7, true), (8, true), (9, true), (10, true), (11, true), (12, true)] (by kernel_rfl) (by kernel_rfl) ?_
              repeat (refine eag_read rfl ?_; go_big_quiet_step (fail); refine wpQuiet_nil ?_)
              refine eag_end ?_
              clear r2 r3
              go_wp2_with fail
              go_roundw
              case rel => exact ⟨r + 1, b, by omega, by go_num, rfl, .inr ⟨b, hb, rfl, HLB.out⟩, HNK2.out, HB2.out⟩
              case measure => simp [intOf]; omega
         ·have er : n = r := by omega
          subst er
          obtain ⟨q, hq, hlq⟩ : ∃ r, r < n ∧ left r = true := cntY_pos (by have := HCT.out; omega)
          obtain ⟨b, hb, rfl, hlb⟩ : ∃ b : Nat, b < n ∧ z = (b : Int) ∧ left b = true := HZ.out.elim (fun h => by have := h.2 q hq; rw [hlq] at this; cases this) id
          have HLB := Lib.hid hlb
          clear hlb hlq
          go_wp2_with fail
          go_meet
          exact ⟨b, hb, rfl, HLB.out, fun ⟨x, hx, hlx, hdx⟩ => absurd hdx (HNK.out x hx hlx), HBW.out⟩
       case rest => as_aux_lemma =>
        obtain ⟨b, hb, rfl, hlb, hbk, hbw⟩ := hcut
        have HBK := Lib.hid hbk
        have HLB := Lib.hid hlb
        have hlo := HI.out.lo
        have HI2 := Lib.hid (HI.out.below hbw)
        have HO2 := Lib.hid (ownG_below HO.out hbw)
        obtain ⟨left', hleft⟩ : ∃ L, L = fun q => if q = b then false else left q := ⟨_, rfl⟩
        have HE : Hid (ElimP n X k L0 (l ++ [b]) left') := by rw [hleft]; exact .snoc l left b HEL.out hb hlb hbk
        have HC2 : Hid (cntY n left' + (l.length + 1) = M) := by have h1 := cntY_drop hb hlb; have h2 := HCT.out; show _ = _; rw [hleft]; omega
        have HDN : Hid (∀ q, q < n → dgN n X left q = dgN n X left' q + if X b q = true then 1 else 0) := fun q hq => by
         rw [hleft, dgN_drop q hb hlb, HSYM.out q b hq hb]
        clear hbk hlb HI HO HEL HCT hbw
        have y1 := HI2.out.lrow.cell hb
        have f1 := Blk.free HI2.out.lrow b
        have hs := HI2.out.setL b false
        rw [← hleft] at hs
        have ho3 := ownG_other (a := ⟨lb, b, none⟩) HO2.out (fun e => by have h9 : lb + 2 ≤ lb := (HO2.out.lt _ e).1; omega) (.bool false)
        have HI3 := Lib.hid hs
        have HO3 := Lib.hid ho3
        clear hs ho3 hleft HI2 HO2
        go_upto_region 35 with fail
        clear y1 f1
        generalize wc.setCell ⟨lb, b, none⟩ (.bool false) = w3 at HI3 HO3 ⊢
        obtain ⟨i1, hi1, hy0, hy1, hy2⟩ : ∃ i, Tryz.prog.info? 3 = some i ∧ i.zero = some (.int .i64 0) ∧ i.size = 1 ∧ i.bytes = 8 := info_partsV (by kernel_rfl)
        have hba : Below w3.heap.size w3 (w3.alloc (.cells #[.int .i64 (b : Int)] 3)) := (Below.refl _ _).alloc (Nat.le_refl _) _
        have HI4 := Lib.hid (HI3.out.below hba)
        have HO4 := Lib.hid (ownG_below HO3.out hba)
        have hszA : lb + 2 ≤ (w3.alloc (.cells #[.int .i64 (b : Int)] 3)).heap.size := by have := Blk.lt HI4.out.drow; omega
        have hll9 : l.length ≤ 8192 := by omega
        clear hba HI3 HO3
        go_wp2_with (at_builtin; refine wpList_append_own _ rfl _ _ 22 rfl (lb + 2) 3 i1 (.int .i64 0) 1 8 Tryz.underlying22 hi1 hy0 hy1 hy2 rfl (by decide) _ _ _ rfl HO4.out ⟨w3.heap.size, 0, none⟩ 1 1 [.int .i64 (b : Int)] rfl rfl ?a2 ?a3 ?a4 ?a5 ?a6 ?_)
        case a2 =>
         intro j u hj
         cases j with
         | zero => simp at hj; subst hj; rw [Addr.add_lit, World.cell?_alloc_new]; rfl
         | succ j => simp at hj
        case a3 => intro u hu; simp at hu; subst hu; rfl
        case a4 => unfold maxLen; omega
        case a5 => omega
        case a6 => exact hszA
        intro v' w9 hown' hgrow _
        obtain ⟨a9, c9, rfl⟩ := ownG_shape hown'
        have HI9 := Lib.hid (HI4.out.grow hgrow (fun q e => by have := (HO4.out.lt _ e).1; omega))
        have ho9 : w9.ownsRow (lb + 2) 3 1 (.slice a9 (l.length + 1) c9) (l.length + 1) (((l ++ [b]).map fun (r : Nat) => (r : Int)).map (Value.int .i64)) := by simpa using hown'
        have HO9 := Lib.hid ho9
        clear hown' hgrow hszA HI4 HO4 ho9
        have HGR := Lib.hid (H.out.below HI9.out.be)
        have k1 := HGR.out.box.cell 0
        simp only [List.getElem?_cons_zero] at k1
        have cr := HGR.out.rowCell hb
        obtain ⟨bb, hbb⟩ : ∃ x, x = g.bs b := ⟨_, rfl⟩
        rw [← HGB.out, ← HG.out, ← HRC.out] at k1
        rw [← HG.out, ← hbb] at cr
        have HBB := Lib.hid hbb
        have HI10 : Hid (OrdI w w9 n lb (lb + 1) left' (fun q => if q < 0 then ((dgN n X left' q : Nat) : Int) else ((dgN n X left q : Nat) : Int))) := HI9.out
        clear HGR hbb HI9
        go_wp2_with fail
        clear k1 cr
        go_loopw [147] (fun u wx => ∃ m : Nat, m ≤ n ∧ u = .int .i64 (m : Int) ∧ OrdI w wx n lb (lb + 1) left' (fun q => if q < m then ((dgN n X left' q : Nat) : Int) else ((dgN n X left q : Nat) : Int)) ∧ wx.ownsRow (lb + 2) 3 1 (.slice a9 (l.length + 1) c9) (l.length + 1) (((l ++ [b]).map fun (r : Nat) => (r : Int)).map (Value.int .i64))) (fun u _ => n - (intOf u).toNat)
        case atStart => exact ⟨0, Nat.zero_le _, rfl, HI10.out, HO9.out⟩
        case round =>
         clear HI10 HO9
         obtain ⟨m, hm, rfl, hi, ho⟩ := hrel
         have HI := Lib.hid hi
         have HO := Lib.hid ho
         clear hi ho
         by_cases hml : m < n
         ·have HGR := Lib.hid (H.out.below HI.out.be)
          have x1 := (HGR.out.row b hb).cell hml
          have x3 := HI.out.drow.cell hml
          have f3 := Blk.free HI.out.drow m
          rw [← HBB.out] at x1
          rw [if_neg (by omega)] at x3
          obtain ⟨xv, hxv⟩ : ∃ x, x = X b m := ⟨_, rfl⟩
          rw [← hxv] at x1
          have hdn := HDN.out m hml
          rw [← hxv] at hdn
          have hdl := cntY_le n (fun s => X m s && left s)
          obtain ⟨d, hd⟩ : ∃ d, d = dgN n X left m := ⟨_, rfl⟩
          have hdl2 : d ≤ n := by rw [hd]; exact hdl
          have HD := Lib.hid hd
          rw [← hd] at x3 hdn
          have HDM := Lib.hid hdn
          have ho3 := Lib.hid fun z => ownG_other (a := ⟨lb + 1, m, none⟩) HO.out (fun e => by have h9 : lb + 2 ≤ lb + 1 := (HO.out.lt _ e).1; omega) (.int .i64 z)
          clear hxv hdn hdl hd HGR
          cases xv with
          | false =>
           have HN := Lib.hid (HI.out.congr (dg' := fun q => if q < m + 1 then ((dgN n X left' q : Nat) : Int) else ((dgN n X left q : Nat) : Int)) (fun _ _ => rfl) (fun q _ => by
            by_cases e : q = m
            ·subst e; rw [if_neg (by omega), if_pos (by omega), ← HD.out, HDM.out]; simp
            ·by_cases e2 : q < m
             ·rw [if_pos e2, if_pos (by omega)]
             ·rw [if_neg e2, if_neg (by omega)]))
           clear HI
           go_wp2_with fail
           go_roundw
           case rel => exact ⟨m + 1, by omega, by go_num, HN.out, HO.out⟩
           case measure => simp [intOf]; omega
          | true =>
           have HN := Lib.hid ((HI.out.setD m ((d : Int) - 1)).congr (dg' := fun q => if q < m + 1 then ((dgN n X left' q : Nat) : Int) else ((dgN n X left q : Nat) : Int)) (fun _ _ => rfl) (fun q _ => by
            by_cases e : q = m
            ·subst e; rw [if_pos rfl, if_pos (by omega)]; have := HDM.out; simp at this; omega
            ·rw [if_neg e]
             by_cases e2 : q < m
             ·rw [if_pos e2, if_pos (by omega)]
             ·rw [if_neg e2, if_neg (by omega)]))
           clear HI
           go_wp2_with fail
           go_roundw
           case rel => exact ⟨m + 1, by omega, by go_num, HN.out, ho3.out _⟩
           case measure => simp [intOf]; omega
         ·have em : n = m := by omega
          subst em
          have HN := Lib.hid (HI.out.congr (dg' := fun q => ((dgN n X left' q : Nat) : Int)) (fun _ _ => rfl) (fun q hq => by rw [if_pos hq]))
          clear HI
          have hl9 : (l ++ [b]).length = l.length + 1 := by simp
          have HL9 := Lib.hid hl9
          clear hl9
          go_wp2_with fail
          go_roundw
          case rel => exact ⟨l ++ [b], left', a9, c9, by rw [HL9.out]; omega, by rw [HL9.out]; go_num, by rw [HL9.out], by rw [HL9.out]; exact HO.out, HE.out, by rw [HL9.out]; exact HC2.out, HN.out⟩
          case measure => simp [intOf]; omega
      ·
       have ei : M = l.length := by omega
       subst ei
       have hle : (l.map fun (r : Nat) => (r : Int)).length = l.length := by simp
       have hrv := reverse_any wr (lb + 2) a c (l.map fun (r : Nat) => (r : Int)) (by rw [hle]; exact HO.out) (by rw [hle]; omega)
       rw [hle] at hrv
       have HRV := Lib.hid hrv
       have HZ : Hid (ElimA n X k L0 l) := ⟨left, HEL.out, cntY_zero (by have := HCT.out; omega)⟩
       have hlb2 := HI.out.lo
       have HSZ : Hid (∀ q, (Value.slice a l.length c).ownBlock = some q → w.heap.size ≤ q) := fun q e => by have := (HO.out.lt _ e).1; omega
       clear hle hrv HO HEL HCT
       go_wp2_with fail
       refine HRV.out.mono ?_
       rintro e w9 ⟨rfl, ho9, hr9⟩
       have HB9 := Lib.hid (HI.out.be.trans (hr9.toBelow (fun q e => HSZ.out q (by simpa using e)) HI.out.be.size))
       have HO9 : (w9.ownsRow w.heap.size 3 1 (.slice a l.reverse.length c) l.reverse.length ((l.reverse.map fun (r : Nat) => (r : Int)).map (Value.int .i64))) := by
        have h1 := ownR_weaken ho9 (base := w.heap.size) (by omega)
        rw [← List.map_reverse] at h1
        simpa using h1
       have HO9 := Lib.hid HO9
       clear ho9 hr9 HRV
       go_wp2_with fail
       go_ret
       exact ⟨l.reverse, a, c, by rw [List.length_reverse]; rfl, HO9.out, HB9.out, by rw [List.reverse_reverse, ← HL0.out]; exact HZ.out⟩
end Go.Proofs.YtdnpoomagjcpfaaGreat
