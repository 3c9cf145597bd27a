/- color's Interfere. -/
import Derived.Test.YtlcnbihfpjhffaaColC
import Derived.Test.YtlcnbihfpjhffaaColLaw
import Derived.Test.YtlcnbihfpjhffaaVCheck
namespace Go.Proofs.Ytlcnbihfpjhffaa
open Go.RowKit
set_option linter.unusedVariables false
set_option linter.unusedSimpArgs false

/-- the pairs of a row, up to m -/
def rowTo (X : Nat → Nat → Bool) (a m : Nat) : List (Int × Int) := ((List.range m).filter fun b => decide (a < b) && X a b).map fun (b : Nat) => ((a : Int), (b : Int))
def pairsTo (X : Nat → Nat → Bool) (n m : Nat) : List (Int × Int) := (List.range m).flatMap fun a => rowTo X a n
theorem rowTo_snoc (X : Nat → Nat → Bool) (a m : Nat) : rowTo X a (m + 1) = rowTo X a m ++ if a < m ∧ X a m = true then [((a : Int), (m : Int))] else [] := by
 unfold rowTo
 rw [List.range_succ, List.filter_append, List.map_append]
 congr 1
 by_cases h : a < m ∧ X a m = true
 ·rw [if_pos h]; simp [h.1, h.2]
 ·rw [if_neg h]
  by_cases h1 : a < m
  ·have : X a m = false := by cases hx : X a m; rfl; exact absurd ⟨h1, hx⟩ h
   simp [h1, this]
  ·simp [h1]
theorem rowTo_nil (X : Nat → Nat → Bool) (a : Nat) : rowTo X a (a + 1) = [] := by
 unfold rowTo
 rw [List.map_eq_nil_iff, List.filter_eq_nil_iff]
 intro b hb
 have := List.mem_range.1 hb
 simp; omega
theorem pairsTo_snoc (X : Nat → Nat → Bool) (n m : Nat) : pairsTo X n (m + 1) = pairsTo X n m ++ rowTo X m n := by
 unfold pairsTo
 rw [List.range_succ, List.flatMap_append]
 simp
theorem rowTo_len (X : Nat → Nat → Bool) (a m : Nat) : (rowTo X a m).length ≤ m := by
 unfold rowTo
 rw [List.length_map]
 have := List.length_filter_le (fun b => decide (a < b) && X a b) (List.range m)
 simpa using this
theorem pairsTo_len (X : Nat → Nat → Bool) (n : Nat) : ∀ m, (pairsTo X n m).length ≤ m * n
 | 0 => by simp [pairsTo]
 | m + 1 => by
  rw [pairsTo_snoc, List.length_append, Nat.add_mul]
  have := rowTo_len X m n
  have := pairsTo_len X n m
  omega
def InterPost (f : VF) (w : World) (e : Ending) (w' : World) : Prop :=
 Below w.heap.size w w' ∧ ((fnE f ≠ 0 ∧ e = .returned (.tuple #[.slice none 0 0, .int .i64 (fnE f)])) ∨
  (fnE f = 0 ∧ ∃ (n nb : Nat) (X : Nat → Nat → Bool) (a : Option Addr) (c : Nat), FnOk f n nb ∧ (∀ x y, 1 ≤ x ∧ x < n → 1 ≤ y ∧ y < n → x ≠ y → (X x y = true ↔ ClashP f nb x y)) ∧ (∀ y, X 0 y = false) ∧
   e = .returned (.tuple #[.slice a (pairsTo X n n).length c, .int .i64 0]) ∧ w'.ownsRow w.heap.size 32 2 (.slice a (pairsTo X n n).length c) (pairsTo X n n).length ((pairsTo X n n).flatMap wpC)))
/-- Interfere's memory -/
structure IntI (w0 w : World) (B n : Nat) (g : GP) (X : Nat → Nat → Bool) (SL TH : Nat → Bool) (mv : Value) (l : List (Int × Int)) (v : Value) : Prop where
 be : Below w0.heap.size w0 w
 gr : GrM w B n g X SL TH mv
 own : w.ownsRow w0.heap.size 32 2 v l.length (l.flatMap wpC)
theorem IntI.below {w0 w w' : World} {B n : Nat} {g : GP} {X : Nat → Nat → Bool} {SL TH : Nat → Bool} {mv : Value} {l : List (Int × Int)} {v : Value} (h : IntI w0 w B n g X SL TH mv l v) (hb : Below w.heap.size w w') : IntI w0 w' B n g X SL TH mv l v :=
 ⟨h.be.trans (hb.mono h.be.size), h.gr.below hb, ownG_below h.own hb⟩
theorem GrM.grown {w w' w0 : World} {B n : Nat} {g : GP} {X : Nat → Nat → Bool} {SL TH : Nat → Bool} {mv v : Value} {k : Nat} {l : List Value} (h : GrM w B n g X SL TH mv) (ho : w.ownsRow w0.heap.size 32 2 v k l) (hg : w.grownBy w' v.ownBlock) : GrM w' B n g X SL TH mv := by
 have hr := RestS.ofGrown hg
 have hG : ¬ v.ownBlock = some g.G := fun e => own_tyN h.rows ho (by decide) g.G rfl e
 exact h.rest hr (blk_noOwn h.box ho (by decide)) hG (blk_noOwn h.slot ho (by decide)) (blk_noOwn h.there ho (by decide)) fun i hi => blk_noOwn (h.row i hi) ho (by decide)
theorem IntI.push {w0 w w' : World} {B n : Nat} {g : GP} {X : Nat → Nat → Bool} {SL TH : Nat → Bool} {mv : Value} {l l' : List (Int × Int)} {v v' : Value} (h : IntI w0 w B n g X SL TH mv l v) (hg : w.grownBy w' v.ownBlock) (ho : w'.ownsRow w0.heap.size 32 2 v' l'.length (l'.flatMap wpC)) : IntI w0 w' B n g X SL TH mv l' v' :=
 ⟨h.be.trans ((RestS.ofGrown hg).toBelow (fun q e => (h.own.lt q e).1) h.be.size), h.gr.grown h.own hg, ho⟩
theorem parX_zero (n : Nat) (ps : List Nat) (L0 : Nat → Bool) {X : Nat → Nat → Bool} (h : ∀ y, X 0 y = false) : ∀ k y, parX n ps L0 X k 0 y = false
 | 0, y => h y
 | k + 1, y => by
  have ih := parX_zero n ps L0 h k
  refine Bool.eq_false_iff.2 fun h1 => ?_
  have h2 : defE ((ps.take k).foldl (fun Y s => addE Y (ps.getD k 0) s) (parX n ps L0 X k)) (ps.getD k 0) 0 L0 n 0 y = true := h1
  rw [defE_iff, foldA_iff, ih] at h2
  rcases h2 with (h2 | ⟨s, _, h3, h4, h5, h6⟩) | ⟨h3, h4, h5, h6⟩
  ·cases h2
  ·omega
  ·exact h4 rfl
theorem blksC_zero (n : Nat) (f : VF) (EL : Nat → Nat → Bool) : ∀ m y, (blksC n f EL m).X 0 y = false
 | 0, y => rfl
 | m + 1, y => by
  have ih := blksC_zero n f EL m y
  obtain ⟨s, hs⟩ : ∃ s, s = blksC n f EL m := ⟨_, rfl⟩
  refine Bool.eq_false_iff.2 fun h1 => ?_
  have h2 : ((f.blk m).ins.foldr (insC n) (startC (f.blk m) (EL m) s)).X 0 y = true := by rw [hs]; exact h1
  rw [fold_X] at h2
  rcases h2 with h2 | ⟨k, x, _, h3, h4, _⟩
  ·have : s.X 0 y = true := h2
   rw [hs, ih] at this; cases this
  ·exact h4 rfl
set_option maxRecDepth 100000 in
set_option maxHeartbeats 8000000 in
theorem interfere_any (w : World) (f : VF) (hf : f.Ok w) : Calls Try.prog 6 #[f.v] w (InterPost f w) := by
 have hb0 : Below w.heap.size w (w.alloc (.cells (fC f).toArray 25)) := (Below.refl _ _).alloc (Nat.le_refl _) _
 have hbf := Blk.new w (fC f) 25
 have HCK := Lib.hid fun wx (h : Below w.heap.size w wx) => vcheck_any wx f (hf.below h)
 unfold VF.v at HCK ⊢
 have HF := Lib.hid hf
 have HB0 := Lib.hid hb0
 have HBF := Lib.hid hbf
 clear hf hb0 hbf
 go_enter Try.func6, Try.ntmps6
 go_upto_region 1 with fail
 change Code.wp _ _ _ _ (w.alloc (.cells (fC f).toArray 25))
 obtain ⟨pf, hpf⟩ : ∃ x, x = w.heap.size := ⟨_, rfl⟩
 have HB1 : Hid (Below w.heap.size w (w.alloc (.cells (fC f).toArray 25))) := HB0.out
 rw [← hpf] at HBF ⊢
 generalize w.alloc (.cells (fC f).toArray 25) = w1 at HB1 HBF ⊢
 clear HB0 hpf
 have c0 := HBF.out.cell 0
 have c1 := HBF.out.cell 1
 have c2 := HBF.out.cell 2
 have c3 := HBF.out.cell 3
 simp only [fC, List.getElem?_cons_zero, List.getElem?_cons_succ] at c0 c1 c2 c3
 go_wp2_with fail
 refine (HCK.out w1 HB1.out).mono ?_
 rintro e w2 ⟨rfl, hb2⟩
 have HB2 := Lib.hid (HB1.out.trans (hb2.mono HB1.out.size))
 have HBF2 := Lib.hid (HBF.out.below hb2 HBF.out.lt)
 clear hb2 HB1 HBF c0 c1 c2 c3 HCK
 by_cases hz : fnE f = 0
 ·rw [hz]
  have HZ := Lib.hid hz
  clear hz
  obtain ⟨n, hok⟩ := fnOk HF.out HZ.out
  obtain ⟨nb, hnb⟩ : ∃ x, x = f.blocks.length := ⟨_, rfl⟩
  rw [← hnb] at hok
  have HOK := Lib.hid hok
  have hn2 := hok.n2
  have c0 := HBF2.out.cell 0
  have c1 := HBF2.out.cell 1
  have c2 := HBF2.out.cell 2
  have c3 := HBF2.out.cell 3
  simp only [fC, List.getElem?_cons_zero, List.getElem?_cons_succ] at c0 c1 c2 c3
  have hbd := build_any w2 f (HF.out.below HB2.out) n nb hok HZ.out
  unfold VF.v at hbd
  have HBD := Lib.hid hbd
  have hpl : f.params.length = f.pn := HF.out.plen
  have HPL := Lib.hid hpl
  clear hok hnb hbd hpl
  go_wp2_with fail
  refine HBD.out.mono ?_
  rintro e w3 ⟨g, XL, EL, mv, rfl, hb3, hXL, hEL, hgr, hmo⟩
  subst hEL
  have HCL : Hid (∀ x y, 1 ≤ x ∧ x < n → 1 ≤ y ∧ y < n → x ≠ y → (parX n (f.params.map Int.toNat) (XL 0) (blksC n f (fun i => aftF (f.blk i).e.to XL) nb).X f.pn x y = true ↔ ClashP f nb x y)) := fun x y hx hy hxy => graph_X HOK.out HPL.out hXL hx hy hxy
  have HZR : Hid (∀ y, parX n (f.params.map Int.toNat) (XL 0) (blksC n f (fun i => aftF (f.blk i).e.to XL) nb).X f.pn 0 y = false) := parX_zero _ _ _ (blksC_zero _ _ _ _) _
  obtain ⟨X, hX⟩ : ∃ X, X = parX n (f.params.map Int.toNat) (XL 0) (blksC n f (fun i => aftF (f.blk i).e.to XL) nb).X f.pn := ⟨_, rfl⟩
  rw [← hX] at hgr HCL HZR
  have HI0 : Hid (IntI w w3 w2.heap.size n g X _ _ mv [] (.slice none 0 0)) := ⟨HB2.out.trans (hb3.mono HB2.out.size), hgr, World.ownsRow_nil _ _ _ _⟩
  have hcap := hgr.cap
  have hcm := hcap.2
  unfold maxLen at hcm
  have hc1 := hcap.1
  have k0 := hgr.box.cell 0
  simp only [List.getElem?_cons_zero] at k0
  have hpn := pairsTo_len X n
  have HPN := Lib.hid hpn
  clear hb3 hXL hX hgr hmo hcap hpn HBD HB2 HBF2 c0 c1 c2 c3 HPL
  obtain ⟨SL, hSL⟩ : ∃ S, S = (blksC n f (fun i => aftF (f.blk i).e.to XL) nb).SL := ⟨_, rfl⟩
  obtain ⟨TH, hTH⟩ : ∃ T, T = fun r => if r = 0 then false else markL (blksC n f (fun i => aftF (f.blk i).e.to XL) nb).TH (f.params.map Int.toNat) r := ⟨_, rfl⟩
  rw [← hSL, ← hTH] at HI0
  clear hSL hTH
  obtain ⟨G, hG⟩ : ∃ x, x = g.G := ⟨_, rfl⟩
  obtain ⟨rc, hrc⟩ : ∃ x, x = g.rc := ⟨_, rfl⟩
  rw [← hG, ← hrc] at k0
  rw [← hrc] at hcm hc1
  have HG := Lib.hid hG
  clear hG hrc
  obtain ⟨i0, hi0, hz0, hz1, hz2⟩ : ∃ i, Try.prog.info? 32 = some i ∧ i.zero = some (.agg #[.int .i64 0, .int .i64 0]) ∧ i.size = 2 ∧ i.bytes = 16 := info_partsV (by kernel_rfl)
  have HIL : Hid (IntI w w3 w2.heap.size n g X SL TH mv (pairsTo X n 0) (.slice none 0 0)) := HI0.out
  clear HI0
  go_wp2_with fail
  clear k0
  go_loopw [6, 22] (fun u6 u wx => ∃ (a : Nat) (va : Option Addr) (vc : Nat), a ≤ n ∧ u = .int .i64 (a : Int) ∧ u6 = .slice va (pairsTo X n a).length vc ∧ IntI w wx w2.heap.size n g X SL TH mv (pairsTo X n a) (.slice va (pairsTo X n a).length vc)) (fun _ u _ => n - (intOf u).toNat)
  case atStart => exact ⟨0, none, 0, Nat.zero_le _, rfl, rfl, HIL.out⟩
  case round =>
   clear HIL
   obtain ⟨a, va, vc, ha, rfl, rfl, hi⟩ := hrel
   have HI := Lib.hid hi
   clear hi
   by_cases hlt : a < n
   ·have cr := HI.out.gr.rowCell hlt
    obtain ⟨ba, hba⟩ : ∃ x, x = g.bs a := ⟨_, rfl⟩
    rw [← HG.out, ← hba] at cr
    have HBA := Lib.hid hba
    have hpl := HPN.out a
    have HPA : Hid ((pairsTo X n a).length ≤ 67108864) := Nat.le_trans hpl (Nat.mul_le_mul (show a ≤ 8192 by omega) hn2.2)
    have HPS := Lib.hid (pairsTo_snoc X n a)
    have HI2 : Hid (IntI w wr w2.heap.size n g X SL TH mv (pairsTo X n a ++ rowTo X a (a + 1)) (.slice va (pairsTo X n a ++ rowTo X a (a + 1)).length vc)) := by
     rw [rowTo_nil, List.append_nil]; exact HI.out
    have HLE : Hid ((pairsTo X n a ++ rowTo X a (a + 1)).length = (pairsTo X n a).length) := by show _ = _; rw [rowTo_nil, List.append_nil]
    clear hba hpl HI
    go_wp2_with fail
    clear cr
    rw [← HLE.out]
    clear HLE
    go_loopw [6, 9] (fun u6 u wx => ∃ (b : Nat) (va : Option Addr) (vc : Nat), b ≤ n ∧ a + 1 ≤ b ∧ u = .int .i64 (b : Int) ∧ u6 = .slice va (pairsTo X n a ++ rowTo X a b).length vc ∧ IntI w wx w2.heap.size n g X SL TH mv (pairsTo X n a ++ rowTo X a b) (.slice va (pairsTo X n a ++ rowTo X a b).length vc)) (fun _ u _ => n - (intOf u).toNat)
    case atStart => exact ⟨a + 1, va, vc, by omega, Nat.le_refl _, by go_num, rfl, HI2.out⟩
    case round =>
     clear HI2
     obtain ⟨b, va, vc, hb, hab, rfl, rfl, hi⟩ := hrel
     have HI := Lib.hid hi
     clear hi
     by_cases hbl : b < n
     ·have cx := (HI.out.gr.row a hlt).cell hbl
      rw [← HBA.out] at cx
      have hrs := rowTo_snoc X a b
      obtain ⟨x, hx⟩ : ∃ x, x = X a b := ⟨_, rfl⟩
      rw [← hx] at cx hrs
      obtain ⟨L, hL⟩ : ∃ L, L = pairsTo X n a ++ rowTo X a b := ⟨_, rfl⟩
      have hLl : L.length ≤ 67117056 := by rw [hL, List.length_append]; have := rowTo_len X a b; have := HPA.out; omega
      cases x with
      | false =>
       have HN : Hid (pairsTo X n a ++ rowTo X a (b + 1) = L) := by show _ = _; rw [hrs, hL]; simp
       rw [← hL] at HI ⊢
       clear hrs hx hL
       go_wp2_with fail
       go_roundw
       case rel => exact ⟨b + 1, va, vc, by omega, by omega, by go_num, by rw [HN.out], by rw [HN.out]; exact HI.out⟩
       case measure => simp [intOf]; omega
      | true =>
       have HN : Hid (pairsTo X n a ++ rowTo X a (b + 1) = L ++ [((a : Int), (b : Int))]) := by show _ = _; rw [hrs, hL, if_pos ⟨by omega, rfl⟩, List.append_assoc]
       rw [← hL] at HI ⊢
       clear hrs hx hL
       have hba2 : Below wr.heap.size wr (wr.alloc (.cells #[.int .i64 (a : Int), .int .i64 (b : Int)] 32)) := (Below.refl _ _).alloc (Nat.le_refl _) _
       have HIA := Lib.hid (HI.out.below hba2)
       have HNEW : Hid (Blk (wr.alloc (.cells #[.int .i64 (a : Int), .int .i64 (b : Int)] 32)) wr.heap.size 32 [.int .i64 (a : Int), .int .i64 (b : Int)]) := Blk.new wr [.int .i64 (a : Int), .int .i64 (b : Int)] 32
       have hszA := HIA.out.be.size
       clear hba2 HI
       go_wp2_with (at_builtin; refine wpList_append_own _ rfl _ _ 27 rfl w.heap.size 32 i0 (.agg #[.int .i64 0, .int .i64 0]) 2 16 Try.underlying27 hi0 hz0 hz1 hz2 rfl (by decide) _ _ _ rfl HIA.out.own ⟨wr.heap.size, 0, none⟩ 1 1 [.int .i64 (a : Int), .int .i64 (b : Int)] rfl rfl ?a2 ?a3 ?a4 ?a5 ?a6 ?_)
       case a2 =>
        intro j u hj
        rw [Addr.add_lit, Nat.zero_add]
        exact (HNEW.out.cell j).trans hj
       case a3 => intro u hu; simp at hu; rcases hu with rfl | rfl <;> rfl
       case a4 => unfold maxLen; omega
       case a5 => omega
       case a6 => exact hszA
       intro v' w9 hown' hgrow _
       obtain ⟨a9, c9, rfl⟩ := ownG_shape hown'
       have ho9 : w9.ownsRow w.heap.size 32 2 (.slice a9 (L ++ [((a : Int), (b : Int))]).length c9) (L ++ [((a : Int), (b : Int))]).length ((L ++ [((a : Int), (b : Int))]).flatMap wpC) := by
        rw [List.flatMap_append, List.length_append]
        simpa [wpC] using hown'
       have HI9 := Lib.hid (HIA.out.push hgrow ho9)
       have HL9 : Hid ((L ++ [((a : Int), (b : Int))]).length = L.length + 1) := by show _ = _; simp
       clear hown' hgrow ho9 hszA HIA HNEW
       go_wp2_with fail
       go_roundw
       case rel => exact ⟨b + 1, a9, c9, by omega, by omega, by go_num, by rw [HN.out, HL9.out], by rw [HN.out]; exact HI9.out⟩
       case measure => simp [intOf]; omega
     ·have eb : n = b := by omega
      subst eb
      rw [← HPS.out] at HI ⊢
      go_wp2_with fail
      go_roundw
      case rel => exact ⟨a + 1, va, vc, by omega, by go_num, rfl, HI.out⟩
      case measure => simp [intOf]; omega
   ·have ea : n = a := by omega
    subst ea
    go_wp2_with fail
    exact bodyPost_ret (v := .tuple #[_, _]) (by simp [results, Try.results6, go_sem]) rfl ⟨HI.out.be, .inr ⟨HZ.out, n, nb, X, va, vc, HOK.out, HCL.out, HZR.out, rfl, HI.out.own⟩⟩
 ·obtain ⟨e0, he0⟩ : ∃ e, e = fnE f := ⟨_, rfl⟩
  rw [← he0] at hz ⊢
  have hne : (e0 == 0) = false := by simpa using hz
  have HE0 : Hid (fnE f ≠ 0) := by rw [← he0]; exact hz
  have HE1 := Lib.hid he0
  clear hz he0
  go_wp2_with fail
  exact bodyPost_ret (v := .tuple #[.slice none 0 0, .int .i64 e0]) (by simp [results, Try.results6, go_sem]) rfl ⟨HB2.out, .inl ⟨HE0.out, by rw [← HE1.out]⟩⟩
end Go.Proofs.Ytlcnbihfpjhffaa
