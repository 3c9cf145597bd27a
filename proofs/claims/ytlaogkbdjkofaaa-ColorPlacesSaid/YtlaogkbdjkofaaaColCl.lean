/- color's Interfere. The reference's Clash (printed by wip/clash.py). -/
import Derived.Test.YtlaogkbdjkofaaaColC
import Derived.Test.YtlaogkbdjkofaaaColLaw
import Derived.Test.YtlaogkbdjkofaaaVCheck
import Derived.Test.YtlaogkbdjkofaaaVAlive
namespace Go.Proofs.Ytlaogkbdjkofaaa
open Go.RowKit
set_option linter.unusedVariables false
set_option linter.unusedSimpArgs false

/-- the pairs of a row, up to m -/
def rowTo (X : Nat → Nat → Bool) (a m : Nat) : List (Int × Int) := ((List.range m).filter fun b => decide (a < b) && X a b).map fun (b : Nat) => ((a : Int), (b : Int))
def pairsTo (X : Nat → Nat → Bool) (n m : Nat) : List (Int × Int) := (List.range m).flatMap fun a => rowTo X a n
theorem rowTo_snoc (X : Nat → Nat → Bool) (a m : Nat) : rowTo X a (m + 1) = rowTo X a m ++ if a < m ∧ X a m = true then [((a : Int), (m : Int))] else [] := by
  unfold rowTo
  rw [List.range_succ, List.filter_append, List.map_append]
  congr 1
  by_cases h : a < m ∧ X a m = true
  · rw [if_pos h]; simp [h.1, h.2]
  · rw [if_neg h]
    by_cases h1 : a < m
    · have : X a m = false := by cases hx : X a m; rfl; exact absurd ⟨h1, hx⟩ h
      simp [h1, this]
    · simp [h1]
theorem rowTo_nil (X : Nat → Nat → Bool) (a : Nat) : rowTo X a (a + 1) = [] := by
  unfold rowTo
  rw [List.map_eq_nil_iff, List.filter_eq_nil_iff]
  intro b hb
  have := List.mem_range.1 hb
  simp; omega
theorem pairsTo_snoc (X : Nat → Nat → Bool) (n m : Nat) : pairsTo X n (m + 1) = pairsTo X n m ++ rowTo X m n := by
  unfold pairsTo
  rw [List.range_succ, List.flatMap_append]
  simp
theorem rowTo_len (X : Nat → Nat → Bool) (a m : Nat) : (rowTo X a m).length ≤ m := by
  unfold rowTo
  rw [List.length_map]
  have := List.length_filter_le (fun b => decide (a < b) && X a b) (List.range m)
  simpa using this
theorem pairsTo_len (X : Nat → Nat → Bool) (n : Nat) : ∀ m, (pairsTo X n m).length ≤ m * n
  | 0 => by simp [pairsTo]
  | m + 1 => by
    rw [pairsTo_snoc, List.length_append, Nat.add_mul]
    have := rowTo_len X m n
    have := pairsTo_len X n m
    omega
def InterPost (f : VF) (w : World) (e : Ending) (w' : World) : Prop :=
  Below w.heap.size w w' ∧ ((fnE f ≠ 0 ∧ e = .returned (.tuple #[.slice none 0 0, .int .i64 (fnE f)])) ∨
    (fnE f = 0 ∧ ∃ (n nb : Nat) (X : Nat → Nat → Bool) (a : Option Addr) (c : Nat), FnOk f n nb ∧ (∀ x y, 1 ≤ x ∧ x < n → 1 ≤ y ∧ y < n → x ≠ y → (X x y = true ↔ ClashP f nb x y)) ∧ (∀ y, X 0 y = false) ∧
      e = .returned (.tuple #[.slice a (pairsTo X n n).length c, .int .i64 0]) ∧ w'.ownsRow w.heap.size 41 2 (.slice a (pairsTo X n n).length c) (pairsTo X n n).length ((pairsTo X n n).flatMap wpC)))
/-- Interfere's memory -/
structure IntI (w0 w : World) (B n : Nat) (g : GP) (X : Nat → Nat → Bool) (SL TH : Nat → Bool) (mv : Value) (l : List (Int × Int)) (v : Value) : Prop where
  be : Below w0.heap.size w0 w
  gr : GrM w B n g X SL TH mv
  own : w.ownsRow w0.heap.size 41 2 v l.length (l.flatMap wpC)
theorem IntI.below {w0 w w' : World} {B n : Nat} {g : GP} {X : Nat → Nat → Bool} {SL TH : Nat → Bool} {mv : Value} {l : List (Int × Int)} {v : Value} (h : IntI w0 w B n g X SL TH mv l v) (hb : Below w.heap.size w w') : IntI w0 w' B n g X SL TH mv l v :=
  ⟨h.be.trans (hb.mono h.be.size), h.gr.below hb, ownG_below h.own hb⟩
theorem GrM.grown {w w' w0 : World} {B n : Nat} {g : GP} {X : Nat → Nat → Bool} {SL TH : Nat → Bool} {mv v : Value} {k : Nat} {l : List Value} (h : GrM w B n g X SL TH mv) (ho : w.ownsRow w0.heap.size 41 2 v k l) (hg : w.grownBy w' v.ownBlock) : GrM w' B n g X SL TH mv := by
  have hr := RestS.ofGrown hg
  have hG : ¬ v.ownBlock = some g.G := fun e => own_tyN h.rows ho (by decide) g.G rfl e
  exact h.rest hr (blk_noOwn h.box ho (by decide)) hG (blk_noOwn h.slot ho (by decide)) (blk_noOwn h.there ho (by decide)) fun i hi => blk_noOwn (h.row i hi) ho (by decide)
theorem IntI.push {w0 w w' : World} {B n : Nat} {g : GP} {X : Nat → Nat → Bool} {SL TH : Nat → Bool} {mv : Value} {l l' : List (Int × Int)} {v v' : Value} (h : IntI w0 w B n g X SL TH mv l v) (hg : w.grownBy w' v.ownBlock) (ho : w'.ownsRow w0.heap.size 41 2 v' l'.length (l'.flatMap wpC)) : IntI w0 w' B n g X SL TH mv l' v' :=
  ⟨h.be.trans ((RestS.ofGrown hg).toBelow (fun q e => (h.own.lt q e).1) h.be.size), h.gr.grown h.own hg, ho⟩
theorem parX_zero (n : Nat) (ps : List Nat) (L0 : Nat → Bool) {X : Nat → Nat → Bool} (h : ∀ y, X 0 y = false) : ∀ k y, parX n ps L0 X k 0 y = false
  | 0, y => h y
  | k + 1, y => by
    have ih := parX_zero n ps L0 h k
    refine Bool.eq_false_iff.2 fun h1 => ?_
    have h2 : defE ((ps.take k).foldl (fun Y s => addE Y (ps.getD k 0) s) (parX n ps L0 X k)) (ps.getD k 0) 0 L0 n 0 y = true := h1
    rw [defE_iff, foldA_iff, ih] at h2
    rcases h2 with (h2 | ⟨s, _, h3, h4, h5, h6⟩) | ⟨h3, h4, h5, h6⟩
    · cases h2
    · omega
    · exact h4 rfl
theorem blksC_zero (n : Nat) (f : VF) (EL : Nat → Nat → Bool) : ∀ m y, (blksC n f EL m).X 0 y = false
  | 0, y => rfl
  | m + 1, y => by
    have ih := blksC_zero n f EL m y
    obtain ⟨s, hs⟩ : ∃ s, s = blksC n f EL m := ⟨_, rfl⟩
    refine Bool.eq_false_iff.2 fun h1 => ?_
    have h2 : ((f.blk m).ins.foldr (insC n) (startC (f.blk m) (EL m) s)).X 0 y = true := by rw [hs]; exact h1
    rw [fold_X] at h2
    rcases h2 with h2 | ⟨k, x, _, h3, h4, _⟩
    · have : s.X 0 y = true := h2
      rw [hs, ih] at this; cases this
    · exact h4 rfl
set_option maxRecDepth 100000 in
set_option maxHeartbeats 8000000 in
theorem interfere_any (w : World) (f : VF) (hf : f.Ok w) : Calls Try.prog 20 #[f.v] w (InterPost f w) := by
  have hb0 : Below w.heap.size w (w.alloc (.cells (fC f).toArray 25)) := (Below.refl _ _).alloc (Nat.le_refl _) _
  have hbf := Blk.new w (fC f) 25
  have HCK := Lib.hid fun wx (h : Below w.heap.size w wx) => vcheck_any wx f (hf.below h)
  unfold VF.v at HCK ⊢
  have HF := Lib.hid hf
  have HB0 := Lib.hid hb0
  have HBF := Lib.hid hbf
  clear hf hb0 hbf
  go_enter Try.func20, Try.ntmps20
  go_upto_region 1 with fail
  change Code.wp _ _ _ _ (w.alloc (.cells (fC f).toArray 25))
  obtain ⟨pf, hpf⟩ : ∃ x, x = w.heap.size := ⟨_, rfl⟩
  have HB1 : Hid (Below w.heap.size w (w.alloc (.cells (fC f).toArray 25))) := HB0.out
  rw [← hpf] at HBF ⊢
  generalize w.alloc (.cells (fC f).toArray 25) = w1 at HB1 HBF ⊢
  clear HB0 hpf
  have c0 := HBF.out.cell 0
  have c1 := HBF.out.cell 1
  have c2 := HBF.out.cell 2
  have c3 := HBF.out.cell 3
  simp only [fC, List.getElem?_cons_zero, List.getElem?_cons_succ] at c0 c1 c2 c3
  go_wp2_with fail
  refine (HCK.out w1 HB1.out).mono ?_
  rintro e w2 ⟨rfl, hb2⟩
  have HB2 := Lib.hid (HB1.out.trans (hb2.mono HB1.out.size))
  have HBF2 := Lib.hid (HBF.out.below hb2 HBF.out.lt)
  clear hb2 HB1 HBF c0 c1 c2 c3 HCK
  by_cases hz : fnE f = 0
  · rw [hz]
    have HZ := Lib.hid hz
    clear hz
    obtain ⟨n, hok⟩ := fnOk HF.out HZ.out
    obtain ⟨nb, hnb⟩ : ∃ x, x = f.blocks.length := ⟨_, rfl⟩
    rw [← hnb] at hok
    have HOK := Lib.hid hok
    have hn2 := hok.n2
    have c0 := HBF2.out.cell 0
    have c1 := HBF2.out.cell 1
    have c2 := HBF2.out.cell 2
    have c3 := HBF2.out.cell 3
    simp only [fC, List.getElem?_cons_zero, List.getElem?_cons_succ] at c0 c1 c2 c3
    have hbd := build_any w2 f (HF.out.below HB2.out) n nb hok HZ.out
    unfold VF.v at hbd
    have HBD := Lib.hid hbd
    have hpl : f.params.length = f.pn := HF.out.plen
    have HPL := Lib.hid hpl
    clear hok hnb hbd hpl
    go_wp2_with fail
    refine HBD.out.mono ?_
    rintro e w3 ⟨g, XL, EL, mv, rfl, hb3, hXL, hEL, hgr, hmo⟩
    subst hEL
    have HCL : Hid (∀ x y, 1 ≤ x ∧ x < n → 1 ≤ y ∧ y < n → x ≠ y → (parX n (f.params.map Int.toNat) (XL 0) (blksC n f (fun i => aftF (f.blk i).e.to XL) nb).X f.pn x y = true ↔ ClashP f nb x y)) := fun x y hx hy hxy => graph_X HOK.out HPL.out hXL hx hy hxy
    have HZR : Hid (∀ y, parX n (f.params.map Int.toNat) (XL 0) (blksC n f (fun i => aftF (f.blk i).e.to XL) nb).X f.pn 0 y = false) := parX_zero _ _ _ (blksC_zero _ _ _ _) _
    obtain ⟨X, hX⟩ : ∃ X, X = parX n (f.params.map Int.toNat) (XL 0) (blksC n f (fun i => aftF (f.blk i).e.to XL) nb).X f.pn := ⟨_, rfl⟩
    rw [← hX] at hgr HCL HZR
    have HI0 : Hid (IntI w w3 w2.heap.size n g X _ _ mv [] (.slice none 0 0)) := ⟨HB2.out.trans (hb3.mono HB2.out.size), hgr, World.ownsRow_nil _ _ _ _⟩
    have hcap := hgr.cap
    have hcm := hcap.2
    unfold maxLen at hcm
    have hc1 := hcap.1
    have k0 := hgr.box.cell 0
    simp only [List.getElem?_cons_zero] at k0
    have hpn := pairsTo_len X n
    have HPN := Lib.hid hpn
    clear hb3 hXL hX hgr hmo hcap hpn HBD HB2 HBF2 c0 c1 c2 c3 HPL
    obtain ⟨SL, hSL⟩ : ∃ S, S = (blksC n f (fun i => aftF (f.blk i).e.to XL) nb).SL := ⟨_, rfl⟩
    obtain ⟨TH, hTH⟩ : ∃ T, T = fun r => if r = 0 then false else markL (blksC n f (fun i => aftF (f.blk i).e.to XL) nb).TH (f.params.map Int.toNat) r := ⟨_, rfl⟩
    rw [← hSL, ← hTH] at HI0
    clear hSL hTH
    obtain ⟨G, hG⟩ : ∃ x, x = g.G := ⟨_, rfl⟩
    obtain ⟨rc, hrc⟩ : ∃ x, x = g.rc := ⟨_, rfl⟩
    rw [← hG, ← hrc] at k0
    rw [← hrc] at hcm hc1
    have HG := Lib.hid hG
    clear hG hrc
    obtain ⟨i0, hi0, hz0, hz1, hz2⟩ : ∃ i, Try.prog.info? 41 = some i ∧ i.zero = some (.agg #[.int .i64 0, .int .i64 0]) ∧ i.size = 2 ∧ i.bytes = 16 := info_partsV (by kernel_rfl)
    have HIL : Hid (IntI w w3 w2.heap.size n g X SL TH mv (pairsTo X n 0) (.slice none 0 0)) := HI0.out
    clear HI0
    go_wp2_with fail
    clear k0
    go_loopw [6, 22] (fun u6 u wx => ∃ (a : Nat) (va : Option Addr) (vc : Nat), a ≤ n ∧ u = .int .i64 (a : Int) ∧ u6 = .slice va (pairsTo X n a).length vc ∧ IntI w wx w2.heap.size n g X SL TH mv (pairsTo X n a) (.slice va (pairsTo X n a).length vc)) (fun _ u _ => n - (intOf u).toNat)
    case atStart => exact ⟨0, none, 0, Nat.zero_le _, rfl, rfl, HIL.out⟩
    case round =>
      clear HIL
      obtain ⟨a, va, vc, ha, rfl, rfl, hi⟩ := hrel
      have HI := Lib.hid hi
      clear hi
      by_cases hlt : a < n
      · have cr := HI.out.gr.rowCell hlt
        obtain ⟨ba, hba⟩ : ∃ x, x = g.bs a := ⟨_, rfl⟩
        rw [← HG.out, ← hba] at cr
        have HBA := Lib.hid hba
        have hpl := HPN.out a
        have HPA : Hid ((pairsTo X n a).length ≤ 67108864) := Nat.le_trans hpl (Nat.mul_le_mul (show a ≤ 8192 by omega) hn2.2)
        have HPS := Lib.hid (pairsTo_snoc X n a)
        have HI2 : Hid (IntI w wr w2.heap.size n g X SL TH mv (pairsTo X n a ++ rowTo X a (a + 1)) (.slice va (pairsTo X n a ++ rowTo X a (a + 1)).length vc)) := by
          rw [rowTo_nil, List.append_nil]; exact HI.out
        have HLE : Hid ((pairsTo X n a ++ rowTo X a (a + 1)).length = (pairsTo X n a).length) := by show _ = _; rw [rowTo_nil, List.append_nil]
        clear hba hpl HI
        go_wp2_with fail
        clear cr
        rw [← HLE.out]
        clear HLE
        go_loopw [6, 9] (fun u6 u wx => ∃ (b : Nat) (va : Option Addr) (vc : Nat), b ≤ n ∧ a + 1 ≤ b ∧ u = .int .i64 (b : Int) ∧ u6 = .slice va (pairsTo X n a ++ rowTo X a b).length vc ∧ IntI w wx w2.heap.size n g X SL TH mv (pairsTo X n a ++ rowTo X a b) (.slice va (pairsTo X n a ++ rowTo X a b).length vc)) (fun _ u _ => n - (intOf u).toNat)
        case atStart => exact ⟨a + 1, va, vc, by omega, Nat.le_refl _, by go_num, rfl, HI2.out⟩
        case round =>
          clear HI2
          obtain ⟨b, va, vc, hb, hab, rfl, rfl, hi⟩ := hrel
          have HI := Lib.hid hi
          clear hi
          by_cases hbl : b < n
          · have cx := (HI.out.gr.row a hlt).cell hbl
            rw [← HBA.out] at cx
            have hrs := rowTo_snoc X a b
            obtain ⟨x, hx⟩ : ∃ x, x = X a b := ⟨_, rfl⟩
            rw [← hx] at cx hrs
            obtain ⟨L, hL⟩ : ∃ L, L = pairsTo X n a ++ rowTo X a b := ⟨_, rfl⟩
            have hLl : L.length ≤ 67117056 := by rw [hL, List.length_append]; have := rowTo_len X a b; have := HPA.out; omega
            cases x with
            | false =>
              have HN : Hid (pairsTo X n a ++ rowTo X a (b + 1) = L) := by show _ = _; rw [hrs, hL]; simp
              rw [← hL] at HI ⊢
              clear hrs hx hL
              go_wp2_with fail
              go_roundw
              case rel => exact ⟨b + 1, va, vc, by omega, by omega, by go_num, by rw [HN.out], by rw [HN.out]; exact HI.out⟩
              case measure => simp [intOf]; omega
            | true =>
              have HN : Hid (pairsTo X n a ++ rowTo X a (b + 1) = L ++ [((a : Int), (b : Int))]) := by show _ = _; rw [hrs, hL, if_pos ⟨by omega, rfl⟩, List.append_assoc]
              rw [← hL] at HI ⊢
              clear hrs hx hL
              have hba2 : Below wr.heap.size wr (wr.alloc (.cells #[.int .i64 (a : Int), .int .i64 (b : Int)] 41)) := (Below.refl _ _).alloc (Nat.le_refl _) _
              have HIA := Lib.hid (HI.out.below hba2)
              have HNEW : Hid (Blk (wr.alloc (.cells #[.int .i64 (a : Int), .int .i64 (b : Int)] 41)) wr.heap.size 41 [.int .i64 (a : Int), .int .i64 (b : Int)]) := Blk.new wr [.int .i64 (a : Int), .int .i64 (b : Int)] 41
              have hszA := HIA.out.be.size
              clear hba2 HI
              go_wp2_with (at_builtin; refine wpList_append_own _ rfl _ _ 36 rfl w.heap.size 41 i0 (.agg #[.int .i64 0, .int .i64 0]) 2 16 Try.underlying36 hi0 hz0 hz1 hz2 rfl (by decide) _ _ _ rfl HIA.out.own ⟨wr.heap.size, 0, none⟩ 1 1 [.int .i64 (a : Int), .int .i64 (b : Int)] rfl rfl ?a2 ?a3 ?a4 ?a5 ?a6 ?_)
              case a2 =>
                intro j u hj
                rw [Addr.add_lit, Nat.zero_add]
                exact (HNEW.out.cell j).trans hj
              case a3 => intro u hu; simp at hu; rcases hu with rfl | rfl <;> rfl
              case a4 => unfold maxLen; omega
              case a5 => omega
              case a6 => exact hszA
              intro v' w9 hown' hgrow _
              obtain ⟨a9, c9, rfl⟩ := ownG_shape hown'
              have ho9 : w9.ownsRow w.heap.size 41 2 (.slice a9 (L ++ [((a : Int), (b : Int))]).length c9) (L ++ [((a : Int), (b : Int))]).length ((L ++ [((a : Int), (b : Int))]).flatMap wpC) := by
                rw [List.flatMap_append, List.length_append]
                simpa [wpC] using hown'
              have HI9 := Lib.hid (HIA.out.push hgrow ho9)
              have HL9 : Hid ((L ++ [((a : Int), (b : Int))]).length = L.length + 1) := by show _ = _; simp
              clear hown' hgrow ho9 hszA HIA HNEW
              go_wp2_with fail
              go_roundw
              case rel => exact ⟨b + 1, a9, c9, by omega, by omega, by go_num, by rw [HN.out, HL9.out], by rw [HN.out]; exact HI9.out⟩
              case measure => simp [intOf]; omega
          · have eb : n = b := by omega
            subst eb
            rw [← HPS.out] at HI ⊢
            go_wp2_with fail
            go_roundw
            case rel => exact ⟨a + 1, va, vc, by omega, by go_num, rfl, HI.out⟩
            case measure => simp [intOf]; omega
      · have ea : n = a := by omega
        subst ea
        go_wp2_with fail
        exact bodyPost_ret (v := .tuple #[_, _]) (by simp [results, Try.results20, go_sem]) rfl ⟨HI.out.be, .inr ⟨HZ.out, n, nb, X, va, vc, HOK.out, HCL.out, HZR.out, rfl, HI.out.own⟩⟩
  · obtain ⟨e0, he0⟩ : ∃ e, e = fnE f := ⟨_, rfl⟩
    rw [← he0] at hz ⊢
    have hne : (e0 == 0) = false := by simpa using hz
    have HE0 : Hid (fnE f ≠ 0) := by rw [← he0]; exact hz
    have HE1 := Lib.hid he0
    clear hz he0
    go_wp2_with fail
    exact bodyPost_ret (v := .tuple #[.slice none 0 0, .int .i64 e0]) (by simp [results, Try.results20, go_sem]) rfl ⟨HB2.out, .inl ⟨HE0.out, by rw [← HE1.out]⟩⟩

def ClashPost (f : VF) (nb a b : Nat) (w : World) (e : Ending) (w' : World) : Prop := ∃ t : Bool, e = .returned (.bool t) ∧ (t = true ↔ ClashP f nb a b) ∧ Below w.heap.size w w'
set_option maxRecDepth 100000 in
set_option maxHeartbeats 8000000 in
theorem clash_any (w : World) (f : VF) (hf : f.Ok w) (n nb : Nat) (hok : FnOk f n nb) (a b : Nat) (ha : 1 ≤ a ∧ a < n) (hb : 1 ≤ b ∧ b < n) (hab : a ≠ b) :
    Calls Try.prog 22 #[f.v, .int .i64 (a : Int), .int .i64 (b : Int)] w (ClashPost f nb a b w) := by
  have HF := Lib.hid hf
  have hlen := hf.len
  have hplen := hf.plen
  have hsn := hok.sn
  have hn2 := hok.n2
  have hnb2 := hok.nb2
  have hb0 : BoxV f w (w.alloc (.cells #[.int .i64 f.name, .slice f.pa f.pn f.pc, .int .i64 f.regs, .slice f.sa f.sn f.sc] 25)) f.pa f.sa := ⟨(Below.refl _ _).alloc (Nat.le_refl _) _, Blk.new w [.int .i64 f.name, .slice f.pa f.pn f.pc, .int .i64 f.regs, .slice f.sa f.sn f.sc] 25⟩
  have htos : TosV f nb := by rw [hok.nbl]; exact hok.fits.tos
  have HAL := fun wx (h : Below w.heap.size w wx) (i q r : Nat) (hi : i < nb) (hq : q ≤ 10000) (hr : r ≠ 0) (hr2 : r ≤ 10000) => alive_any wx f (hf.below h) nb hok.nbl hnb2.2 htos hok.ins i q r hi hq hr hr2
  have HAM := fun wx (h : Below w.heap.size w wx) (r : Int) => among_any wx f.pa f.pn f.pc f.params (hf.pcame.below h) r
  have HOK := Lib.hid hok
  unfold VF.v at HAL ⊢
  obtain ⟨pa, hpa⟩ : ∃ s, s = f.pa := ⟨_, rfl⟩
  obtain ⟨sa, hsa⟩ : ∃ s, s = f.sa := ⟨_, rfl⟩
  rw [← hpa, ← hsa] at hb0 HAL ⊢
  rw [← hpa] at HAM
  rw [hsn] at hb0 HAL ⊢
  have HB0 := Lib.hid hb0
  have HSA := Lib.hid hsa
  have HAL := Lib.hid HAL
  have HAM := Lib.hid HAM
  have HSN := Lib.hid hsn
  clear hf hok htos hb0 hpa hsa hsn hplen
  go_enter Try.func22, Try.ntmps22
  go_upto_region 1 with fail
  generalize w.alloc (.cells #[.int .i64 f.name, .slice pa f.pn f.pc, .int .i64 f.regs, .slice sa nb f.sc] 25) = w1 at HB0 ⊢
  have c1 := HB0.out.box.cell 1
  simp only [List.getElem?_cons_zero, List.getElem?_cons_succ] at c1
  have hwl := HB0.out.box.lt
  have r1 := fun z : After w1.heap.size w1.drew => (z.below.cell (p := ⟨w.heap.size, 1, none⟩) hwl).trans c1
  have HB1 := Lib.hid (HB0.out.below (Below.refl w1.heap.size w1).drew)
  clear c1 hwl HB0
  refine wp_region_eager w1.heap.size [(0, true), (1, true), (2, true), (4, true), (5, true), (6, true), (3, false), (7, false), (8, true), (9, true)] (by kernel_rfl) (by kernel_rfl) ?_
  repeat (refine eag_read rfl ?_; go_big_quiet_step (fail); refine wpQuiet_nil ?_)
  clear r1
  refine eag_does rfl rfl ?_
  intro K hK
  go_simp
  refine (HAM.out _ HB1.out.be _).mono ?_
  rintro e w5 ⟨rfl, hw5⟩
  refine hK _ _ (by rw [← hw5]; exact Below.refl _ _) ?_
  rw [← hw5]
  clear hK K hw5 w5
  go_simp
  refine eag_does rfl rfl ?_
  intro K hK
  go_simp
  refine (HAM.out _ HB1.out.be _).mono ?_
  rintro e w5 ⟨rfl, hw5⟩
  refine hK _ _ (by rw [← hw5]; exact Below.refl _ _) ?_
  rw [← hw5]
  clear hK K hw5 w5
  go_simp
  repeat (refine eag_read rfl ?_; go_big_quiet_step (fail); refine wpQuiet_nil ?_)
  refine eag_end ?_
  generalize w1.drew = w2 at HB1 ⊢
  obtain ⟨p1, hp1⟩ : ∃ x, x = decide ((a : Int) ∈ f.params) := ⟨_, rfl⟩
  obtain ⟨p2, hp2⟩ : ∃ x, x = decide ((b : Int) ∈ f.params) := ⟨_, rfl⟩
  rw [← hp1, ← hp2]
  have HP1 : Hid (p1 = true ↔ (a : Int) ∈ f.params) := by rw [hp1]; exact decide_eq_true_iff
  have HP2 : Hid (p2 = true ↔ (b : Int) ∈ f.params) := by rw [hp2]; exact decide_eq_true_iff
  clear hp1 hp2
  go_upto_region 2 with fail
  go_cut [42] from 23 (fun v wx => ∃ t : Bool, v = .bool t ∧ (t = true ↔ (((a : Int) ∈ f.params ∧ (b : Int) ∈ f.params) ∨ ((a : Int) ∈ f.params ∧ LiveI f 0 b) ∨ ((b : Int) ∈ f.params ∧ LiveI f 0 a))) ∧ BoxV f w wx pa sa)
  case first =>
    have c0 := HB1.out.box.cell 0
    have c1 := HB1.out.box.cell 1
    have c2 := HB1.out.box.cell 2
    have c3 := HB1.out.box.cell 3
    simp only [List.getElem?_cons_zero, List.getElem?_cons_succ] at c0 c1 c2 c3
    rw [HSN.out] at c3
    have HALB := Lib.hid (HAL.out w2 HB1.out.be 0 0 b hnb2.1 (by omega) (by omega) (by omega))
    have HALA := Lib.hid (HAL.out w2 HB1.out.be 0 0 a hnb2.1 (by omega) (by omega) (by omega))
    rw [show ((0 : Nat) : Int) = 0 from rfl] at HALB HALA
    cases p1 <;> cases p2
    · have h1 : (a : Int) ∉ f.params := fun h => by have := HP1.out.2 h; simp at this
      have h2 : (b : Int) ∉ f.params := fun h => by have := HP2.out.2 h; simp at this
      have HN := Lib.hid (And.intro h1 h2)
      clear h1 h2
      go_wp2_with fail
      go_meet
      exact ⟨false, rfl, ⟨fun h => (by cases h), fun h => h.elim (fun h => absurd h.1 HN.out.1) fun h => h.elim (fun h => absurd h.1 HN.out.1) fun h => absurd h.1 HN.out.2⟩, HB1.out⟩
    · have h1 : (a : Int) ∉ f.params := fun h => by have := HP1.out.2 h; simp at this
      have h2 : (b : Int) ∈ f.params := HP2.out.1 rfl
      have HN := Lib.hid (And.intro h1 h2)
      clear h1 h2
      go_wp2_with fail
      refine HALA.out.mono ?_
      rintro e w5 ⟨t, rfl, ht, hb5⟩
      have HB5 := Lib.hid (HB1.out.below hb5)
      have HT := Lib.hid (ht.trans (aliveP_zero (by omega)))
      clear ht hb5 c0 c1 c2 c3
      go_wp2_with fail
      go_meet
      exact ⟨t, rfl, ⟨fun h => .inr (.inr ⟨HN.out.2, HT.out.1 h⟩), fun h => h.elim (fun h => absurd h.1 HN.out.1) fun h => h.elim (fun h => absurd h.1 HN.out.1) fun h => HT.out.2 h.2⟩, HB5.out⟩
    · have h1 : (a : Int) ∈ f.params := HP1.out.1 rfl
      have h2 : (b : Int) ∉ f.params := fun h => by have := HP2.out.2 h; simp at this
      have HN := Lib.hid (And.intro h1 h2)
      clear h1 h2
      go_wp2_with fail
      refine HALB.out.mono ?_
      rintro e w5 ⟨t, rfl, ht, hb5⟩
      have HB5 := Lib.hid (HB1.out.below hb5)
      have HT := Lib.hid (ht.trans (aliveP_zero (by omega)))
      clear ht hb5 c0 c1 c2 c3
      cases t with
      | true =>
        have HLV := Lib.hid (HT.out.1 rfl)
        go_wp2_with fail
        go_meet
        exact ⟨true, rfl, ⟨fun _ => .inr (.inl ⟨HN.out.1, HLV.out⟩), fun _ => rfl⟩, HB5.out⟩
      | false =>
        have HLV : Hid (¬ LiveI f 0 b) := fun h => by have := HT.out.2 h; cases this
        go_wp2_with fail
        go_meet
        exact ⟨false, rfl, ⟨fun h => (by cases h), fun h => h.elim (fun h => absurd h.2 HN.out.2) fun h => h.elim (fun h => absurd h.2 HLV.out) fun h => absurd h.1 HN.out.2⟩, HB5.out⟩
    · have HN := Lib.hid (And.intro (HP1.out.1 rfl) (HP2.out.1 rfl))
      go_wp2_with fail
      go_meet
      exact ⟨true, rfl, ⟨fun _ => .inl HN.out, fun _ => rfl⟩, HB1.out⟩
  case rest =>
    obtain ⟨t, rfl, ht, hbx⟩ := hcut
    have HBX := Lib.hid hbx
    cases t
    · have HNP : Hid (¬ (((a : Int) ∈ f.params ∧ (b : Int) ∈ f.params) ∨ ((a : Int) ∈ f.params ∧ LiveI f 0 b) ∨ ((b : Int) ∈ f.params ∧ LiveI f 0 a))) := fun h => by have := ht.2 h; cases this
      have c3 := HBX.out.box.cell 3
      simp only [List.getElem?_cons_zero, List.getElem?_cons_succ] at c3
      rw [HSN.out] at c3
      clear ht hbx HB1 HP1 HP2
      go_wp2_with fail
      clear c3
      go_loopw [46] (fun u wr => ∃ i : Nat, i ≤ nb ∧ u = .int .i64 (i : Int) ∧ BoxV f w wr pa sa ∧ ¬ ClashB f i a b) (fun u _ => nb - (intOf u).toNat)
      case atStart => exact ⟨0, Nat.zero_le _, rfl, HBX.out, fun ⟨i, hi, _⟩ => absurd hi (Nat.not_lt_zero _)⟩
      case round =>
        clear HBX
        obtain ⟨i, hi, rfl, hbx, hno⟩ := hrel
        have HBX := Lib.hid hbx
        have HNO := Lib.hid hno
        clear hbx hno
        by_cases hlt : i < nb
        · have hib : i < f.blocks.length := by have := HOK.out.nbl; omega
          obtain ⟨gb, ob, hsa, hgb, d0, d1, d2, d3, d4, d5, d6⟩ := HF.out.cells HBX.out.be hib
          have hbo : f.blocks[i].Ok w := HF.out.blocks _ (List.getElem_mem _)
          rw [VF.blk_get f hib] at d0 d1 d2 d3 d4 d5 d6 hbo
          have hins := HOK.out.ins i hlt
          obtain ⟨bk, hbk⟩ : ∃ b, b = f.blk i := ⟨_, rfl⟩
          rw [← hbk] at d0 d1 d2 d3 d4 d5 d6 hbo hins
          rw [← HSA.out] at hsa
          subst hsa
          have hbl := hbo.len
          have HBO := Lib.hid hbo
          have HBK := Lib.hid hbk
          obtain ⟨sb, hsb⟩ : ∃ s, s = bk.sa := ⟨_, rfl⟩
          rw [← hsb] at d0
          have HSB := Lib.hid hsb
          have hb4 : Below wr.heap.size wr (wr.alloc (.cells #[.slice sb bk.sn bk.sc, .int .i64 bk.e.kind, .int .i64 bk.e.op, .int .i64 bk.e.a, .int .i64 bk.e.b, .int .i64 bk.e.n, .slice bk.e.sa bk.e.sn bk.e.sc] 63)) := (Below.refl _ _).alloc (Nat.le_refl _) _
          have hbv : Blk (wr.alloc (.cells #[.slice sb bk.sn bk.sc, .int .i64 bk.e.kind, .int .i64 bk.e.op, .int .i64 bk.e.a, .int .i64 bk.e.b, .int .i64 bk.e.n, .slice bk.e.sa bk.e.sn bk.e.sc] 63)) wr.heap.size 63 [.slice sb bk.sn bk.sc, .int .i64 bk.e.kind, .int .i64 bk.e.op, .int .i64 bk.e.a, .int .i64 bk.e.b, .int .i64 bk.e.n, .slice bk.e.sa bk.e.sn bk.e.sc] := Blk.new wr _ _
          have HBX4 := Lib.hid (HBX.out.below hb4)
          have HBV := Lib.hid hbv
          clear hbk hsb hb4 hbv hbo
          go_upto_region 7 with fail
          obtain ⟨vb, hvb⟩ : ∃ x, x = wr.heap.size := ⟨_, rfl⟩
          rw [← hvb] at HBV ⊢
          clear hvb d0 d1 d2 d3 d4 d5 d6 HBX
          generalize wr.alloc (.cells #[.slice sb bk.sn bk.sc, .int .i64 bk.e.kind, .int .i64 bk.e.op, .int .i64 bk.e.a, .int .i64 bk.e.b, .int .i64 bk.e.n, .slice bk.e.sa bk.e.sn bk.e.sc] 63) = w4 at HBX4 HBV ⊢
          have v0 := HBV.out.cell 0
          simp only [List.getElem?_cons_zero] at v0
          go_wp2_with fail
          clear v0
          go_loopw [54] (fun u wx => ∃ k : Nat, k ≤ bk.sn ∧ u = .int .i64 (k : Int) ∧ BoxV f w wx pa (some ⟨gb, ob, none⟩) ∧ ¬ ∃ (k' : Nat) (x : VI), k' < k ∧ bk.ins[k']? = some x ∧ ClashI f i k' x a b) (fun u _ => bk.sn - (intOf u).toNat)
          case atStart => exact ⟨0, Nat.zero_le _, rfl, HBX4.out, fun ⟨k, x, hk, _⟩ => absurd hk (Nat.not_lt_zero _)⟩
          case round =>
            clear HBX4 HBV
            obtain ⟨k, hk, rfl, hbx, hnk⟩ := hrel
            have HBX := Lib.hid hbx
            have HNK := Lib.hid hnk
            clear hbx hnk
            by_cases hkl : k < bk.sn
            · have hkb : k < bk.ins.length := by omega
              obtain ⟨z, hz⟩ : ∃ z, z = bk.ins[k] := ⟨_, rfl⟩
              obtain ⟨gi, oi, hsb2, hgi, d0, d1, d2, d3, d4, d5⟩ := HBO.out.cells HBX.out.be hkb
              rw [← hz] at d0 d1 d2 d3 d4 d5
              rw [← HSB.out] at hsb2
              subst hsb2
              have HID := insDef_any z
              unfold viV at HID
              have HZQ0 : bk.ins[k]? = some z := by rw [hz]; exact List.getElem?_eq_getElem hkb
              have HZQ : Hid ((f.blk i).ins[k]? = some z) := by rw [← HBK.out]; exact HZQ0
              have hfz := HOK.out.fits.ins i hib z (by rw [← HBK.out]; exact List.mem_of_getElem? HZQ0)
              have HNX : Hid (¬ ClashI f i k z a b → ¬ ∃ (k' : Nat) (x : VI), k' < k + 1 ∧ bk.ins[k']? = some x ∧ ClashI f i k' x a b) := fun hn ⟨k', x, h1, h2, h3⟩ => by
                by_cases e : k' = k
                · subst e
                  rw [HZQ0] at h2
                  injection h2 with h2
                  subst h2
                  exact hn h3
                · exact HNK.out ⟨k', x, by omega, h2, h3⟩
              have hb5 : Below wr.heap.size wr (wr.alloc (.cells #[.int .i64 z.op, .int .i64 z.d, .int .i64 z.a, .int .i64 z.b, .int .i64 z.n, .slice z.sa z.sn z.sc] 65)) := (Below.refl _ _).alloc (Nat.le_refl _) _
              have hxb : Blk (wr.alloc (.cells #[.int .i64 z.op, .int .i64 z.d, .int .i64 z.a, .int .i64 z.b, .int .i64 z.n, .slice z.sa z.sn z.sc] 65)) wr.heap.size 65 (viC z) := Blk.new wr _ _
              have HBV5 := Lib.hid (And.intro (HBX.out.below hb5) hxb)
              have hdz := hfz.d
              clear hz HZQ0 hfz hb5 hxb HBX HNK
              go_upto_region 10 with fail
              obtain ⟨xb, hxb⟩ : ∃ x, x = wr.heap.size := ⟨_, rfl⟩
              rw [← hxb] at HBV5 ⊢
              clear hxb d0 d1 d2 d3 d4 d5
              generalize wr.alloc (.cells #[.int .i64 z.op, .int .i64 z.d, .int .i64 z.a, .int .i64 z.b, .int .i64 z.n, .slice z.sa z.sn z.sc] 65) = w5 at HBV5 ⊢
              have d0 := HBV5.out.2.cell 0
              have d1 := HBV5.out.2.cell 1
              have d2 := HBV5.out.2.cell 2
              have d3 := HBV5.out.2.cell 3
              have d4 := HBV5.out.2.cell 4
              have d5 := HBV5.out.2.cell 5
              simp only [viC, List.getElem?_cons_zero, List.getElem?_cons_succ] at d0 d1 d2 d3 d4 d5
              have HID := Lib.hid HID
              have hcs : defV z = (a : Int) ∨ defV z = (b : Int) ∨ (defV z ≠ (a : Int) ∧ defV z ≠ (b : Int)) := by omega
              rcases hcs with hdp | hdp | ⟨hd1, hd2⟩
              · as_aux_lemma =>
                have HDP : Hid (defV z = (a : Int)) := hdp
                have hq1 : (defV z != (a : Int)) = false := by simp [hdp]
                rw [hdp] at HID
                clear hdp
                by_cases hmv : z.op = 100 ∧ z.a = (b : Int)
                · have hm1 : (z.op == 100) = true := by simp [hmv.1]
                  have hm2 : (z.a == (a : Int) + (b : Int) - (a : Int)) = true := by have h9 := hmv.2; simp; omega
                  have HNO : Hid (¬ ClashI f i k z a b) := fun h => h.elim (fun h1 => h1.1.2 hmv) fun h1 => (by have h2 := h1.1.1; have h3 := HDP.out; omega)
                  clear hmv
                  go_wp2_with fail
                  refine (HID.out _).mono ?_
                  rintro e w8 ⟨rfl, hb8⟩
                  have HB8 := Lib.hid (HBV5.out.1.below hb8)
                  have HX8 := (HBV5.out.2.below hb8 HBV5.out.2.lt)
                  have y0 := HX8.cell 0
                  have y2 := HX8.cell 2
                  simp only [viC, List.getElem?_cons_zero, List.getElem?_cons_succ] at y0 y2
                  clear hb8 d0 d1 d2 d3 d4 d5 HX8
                  go_wp2_with fail
                  go_roundw
                  case rel => exact ⟨k + 1, by omega, by go_num, HB8.out, HNX.out HNO.out⟩
                  case measure => simp [intOf]; omega
                · have hm3 : (z.op == 100) = false ∨ ((z.op == 100) = true ∧ (z.a == (a : Int) + (b : Int) - (a : Int)) = false) := by
                    by_cases h : z.op = 100
                    · right; exact ⟨by simp [h], by rw [beq_eq_false_iff_ne]; exact fun h2 => hmv ⟨h, by omega⟩⟩
                    · left; simp [h]
                  have HMV := Lib.hid hmv
                  clear hmv
                  rcases hm3 with hm1 | ⟨hm1, hm2⟩
                  all_goals
                    go_wp2_with fail
                    refine (HID.out _).mono ?_
                    rintro e w8 ⟨rfl, hb8⟩
                    have HB8 := Lib.hid (HBV5.out.1.below hb8)
                    have HX8 := (HBV5.out.2.below hb8 HBV5.out.2.lt)
                    have y0 := HX8.cell 0
                    have y2 := HX8.cell 2
                    simp only [viC, List.getElem?_cons_zero, List.getElem?_cons_succ] at y0 y2
                    have c0 := HB8.out.box.cell 0
                    have c1 := HB8.out.box.cell 1
                    have c2 := HB8.out.box.cell 2
                    have c3 := HB8.out.box.cell 3
                    simp only [List.getElem?_cons_zero, List.getElem?_cons_succ] at c0 c1 c2 c3
                    rw [HSN.out] at c3
                    have HAL2 := Lib.hid (HAL.out w8 HB8.out.be i (k + 1) b hlt (by omega) (by omega) (by omega))
                    have ek1 : ((k + 1 : Nat) : Int) = (k : Int) + 1 := by omega
                    rw [ek1] at HAL2
                    have eo1 : ((b : Int)) = (a : Int) + (b : Int) - (a : Int) := by omega
                    rw [eo1] at HAL2
                    clear eo1
                    clear hb8 d0 d1 d2 d3 d4 d5 HX8 ek1
                    go_wp2_with fail
                    refine HAL2.out.mono ?_
                    rintro e w9 ⟨t, rfl, ht, hb9⟩
                    have HB9 := Lib.hid (HB8.out.below hb9)
                    cases t with
                    | true =>
                      have HCY : Hid (ClashI f i k z a b) := .inl ⟨⟨HDP.out, HMV.out⟩, ht.1 rfl⟩
                      clear ht hb9 c0 c1 c2 c3 y0 y2
                      go_wp2_with fail
                      go_ret
                      exact ⟨true, rfl, ⟨fun _ => .inr ⟨i, hlt, k, z, HZQ.out, HCY.out⟩, fun _ => rfl⟩, HB9.out.be⟩
                    | false =>
                      have HNO : Hid (¬ ClashI f i k z a b) := fun h => h.elim (fun h1 => absurd (ht.2 h1.2) (by simp)) fun h1 => (by have h2 := h1.1.1; have h3 := HDP.out; omega)
                      clear ht hb9 c0 c1 c2 c3 y0 y2
                      go_wp2_with fail
                      go_roundw
                      case rel => exact ⟨k + 1, by omega, by go_num, HB9.out, HNX.out HNO.out⟩
                      case measure => simp [intOf]; omega
              · as_aux_lemma =>
                have HDP : Hid (defV z = (b : Int)) := hdp
                have hq1 : (defV z != (b : Int)) = false := by simp [hdp]
                have hq2 : ((b : Int) != (a : Int)) = true := by simp; omega
                rw [hdp] at HID
                clear hdp
                by_cases hmv : z.op = 100 ∧ z.a = (a : Int)
                · have hm1 : (z.op == 100) = true := by simp [hmv.1]
                  have hm2 : (z.a == (a : Int)) = true := by have h9 := hmv.2; simp; omega
                  have HNO : Hid (¬ ClashI f i k z a b) := fun h => h.elim (fun h1 => (by have h2 := h1.1.1; have h3 := HDP.out; omega)) fun h1 => h1.1.2 hmv
                  clear hmv
                  go_wp2_with fail
                  refine (HID.out _).mono ?_
                  rintro e w8 ⟨rfl, hb8⟩
                  have HB8 := Lib.hid (HBV5.out.1.below hb8)
                  have HX8 := (HBV5.out.2.below hb8 HBV5.out.2.lt)
                  have y0 := HX8.cell 0
                  have y2 := HX8.cell 2
                  simp only [viC, List.getElem?_cons_zero, List.getElem?_cons_succ] at y0 y2
                  clear hb8 d0 d1 d2 d3 d4 d5 HX8
                  go_wp2_with fail
                  go_roundw
                  case rel => exact ⟨k + 1, by omega, by go_num, HB8.out, HNX.out HNO.out⟩
                  case measure => simp [intOf]; omega
                · have hm3 : (z.op == 100) = false ∨ ((z.op == 100) = true ∧ (z.a == (a : Int)) = false) := by
                    by_cases h : z.op = 100
                    · right; exact ⟨by simp [h], by rw [beq_eq_false_iff_ne]; exact fun h2 => hmv ⟨h, by omega⟩⟩
                    · left; simp [h]
                  have HMV := Lib.hid hmv
                  clear hmv
                  rcases hm3 with hm1 | ⟨hm1, hm2⟩
                  all_goals
                    go_wp2_with fail
                    refine (HID.out _).mono ?_
                    rintro e w8 ⟨rfl, hb8⟩
                    have HB8 := Lib.hid (HBV5.out.1.below hb8)
                    have HX8 := (HBV5.out.2.below hb8 HBV5.out.2.lt)
                    have y0 := HX8.cell 0
                    have y2 := HX8.cell 2
                    simp only [viC, List.getElem?_cons_zero, List.getElem?_cons_succ] at y0 y2
                    have c0 := HB8.out.box.cell 0
                    have c1 := HB8.out.box.cell 1
                    have c2 := HB8.out.box.cell 2
                    have c3 := HB8.out.box.cell 3
                    simp only [List.getElem?_cons_zero, List.getElem?_cons_succ] at c0 c1 c2 c3
                    rw [HSN.out] at c3
                    have HAL2 := Lib.hid (HAL.out w8 HB8.out.be i (k + 1) a hlt (by omega) (by omega) (by omega))
                    have ek1 : ((k + 1 : Nat) : Int) = (k : Int) + 1 := by omega
                    rw [ek1] at HAL2
                    clear hb8 d0 d1 d2 d3 d4 d5 HX8 ek1
                    go_wp2_with fail
                    refine HAL2.out.mono ?_
                    rintro e w9 ⟨t, rfl, ht, hb9⟩
                    have HB9 := Lib.hid (HB8.out.below hb9)
                    cases t with
                    | true =>
                      have HCY : Hid (ClashI f i k z a b) := .inr ⟨⟨HDP.out, HMV.out⟩, ht.1 rfl⟩
                      clear ht hb9 c0 c1 c2 c3 y0 y2
                      go_wp2_with fail
                      go_ret
                      exact ⟨true, rfl, ⟨fun _ => .inr ⟨i, hlt, k, z, HZQ.out, HCY.out⟩, fun _ => rfl⟩, HB9.out.be⟩
                    | false =>
                      have HNO : Hid (¬ ClashI f i k z a b) := fun h => h.elim (fun h1 => (by have h2 := h1.1.1; have h3 := HDP.out; omega)) fun h1 => absurd (ht.2 h1.2) (by simp)
                      clear ht hb9 c0 c1 c2 c3 y0 y2
                      go_wp2_with fail
                      go_roundw
                      case rel => exact ⟨k + 1, by omega, by go_num, HB9.out, HNX.out HNO.out⟩
                      case measure => simp [intOf]; omega
              · have hq1 : (defV z != (a : Int)) = true := by simp [hd1]
                have hq2 : (defV z != (b : Int)) = true := by simp [hd2]
                have HNO : Hid (¬ ClashI f i k z a b) := fun h => h.elim (fun h => hd1 h.1.1) fun h => hd2 h.1.1
                clear hd1 hd2
                go_wp2_with fail
                refine (HID.out _).mono ?_
                rintro e w8 ⟨rfl, hb8⟩
                have HB8 := Lib.hid (HBV5.out.1.below hb8)
                clear hb8 d0 d1 d2 d3 d4 d5
                go_wp2_with fail
                go_roundw
                case rel => exact ⟨k + 1, by omega, by go_num, HB8.out, HNX.out HNO.out⟩
                case measure => simp [intOf]; omega
            · have HNI : Hid (¬ ClashB f (i + 1) a b) := fun ⟨i', h1, k', x, h2, h3⟩ => by
                by_cases e : i' = i
                · subst e
                  rw [← HBK.out] at h2
                  exact HNK.out ⟨k', x, by have := (List.getElem?_eq_some_iff.1 h2).1; omega, h2, h3⟩
                · exact HNO.out ⟨i', by omega, k', x, h2, h3⟩
              go_wp2_with fail
              go_roundw
              case rel => exact ⟨i + 1, by omega, by go_num, HBX.out, HNI.out⟩
              case measure => simp [intOf]; omega
        · have ei : nb = i := by omega
          subst ei
          go_wp2_with fail
          go_ret
          exact ⟨false, rfl, ⟨fun h => (by cases h), fun h => h.elim (fun h => absurd h HNP.out) fun h => absurd h HNO.out⟩, HBX.out.be⟩
    · have HYP := Lib.hid (ht.1 rfl)
      clear ht hbx
      go_wp2_with fail
      go_ret
      exact ⟨true, rfl, ⟨fun _ => .inl HYP.out, fun _ => rfl⟩, HBX.out.be⟩
end Go.Proofs.Ytlaogkbdjkofaaa
