/- color's graph in memory; add, define. color's closure 'mark'. color's build: its memory while the blocks are gone through. No function of the program is walked. -/
import Derived.Test.YtdnpoomagjcpfaaGreatHoldAll
import Derived.Test.YtdnpoomagjcpfaaGreatAccLaw
import Derived.Test.YtdnpoomagjcpfaaGreatBase
import Derived.Test.YtdnpoomagjcpfaaGreatAccRef
import Derived.Test.YtdnpoomagjcpfaaGreatVLiveDE
namespace Go.Proofs.YtdnpoomagjcpfaaGreat
open Go.RowKit
set_option linter.unusedVariables false
set_option linter.unusedSimpArgs false

/-- blocks a and b stay -/
def Keep2C (a b : Nat) (w w' : World) : Prop := w'.heap[a]? = w.heap[a]? ∧ w'.heap[b]? = w.heap[b]?
instance (a b : Nat) : PreR (Keep2C a b) := ⟨fun w => ⟨rfl, rfl⟩, fun h k => ⟨k.1.trans h.1, k.2.trans h.2⟩⟩
/-- where the graph's parts lie -/
structure GP where
 (gb G rc sb tb : Nat) (bs : Nat → Nat)
theorem BRow.setC {w : World} {g n : Nat} {l : Nat → Bool} (h : BRow w g n l) (j : Nat) (b : Bool) : BRow (w.setCell ⟨g, j, none⟩ (.bool b)) g n (fun r => if r = j then b else l r) := by
 refine Blk.rowCongr (Blk.rowSet h j (.bool b)) fun i _ => ?_
 by_cases e : i = j <;> simp [e]
theorem BRow.other {w : World} {g n q : Nat} {l : Nat → Bool} (h : BRow w g n l) (hq : g ≠ q) (j : Nat) (v : Value) : BRow (w.setCell ⟨q, j, none⟩ v) g n l := Blk.setOther h (a := ⟨q, j, none⟩) hq v
theorem brow_ne {w : World} {g n q : Nat} {l : Nat → Bool} {t : TypeId} {cs : List Value} (h : BRow w g n l) (k : Blk w q t cs) (ht : t ≠ 4) : q ≠ g := fun e => by
 subst e
 have h1 : w.heap[q]? = _ := h
 have h2 : w.heap[q]? = _ := k
 rw [h1] at h2
 injection h2 with h2
 injection h2 with _ h2 _
 exact ht h2.symm
/-- the graph -/
structure GrM (w : World) (B n : Nat) (g : GP) (X : Nat → Nat → Bool) (SL TH : Nat → Bool) (mv : Value) : Prop where
 box : Blk w g.gb 76 [.slice (some ⟨g.G, 0, none⟩) n g.rc, .slice (some ⟨g.sb, 0, none⟩) n n, .slice (some ⟨g.tb, 0, none⟩) n n, mv]
 rows : w.ownsRow B 51 1 (.slice (some ⟨g.G, 0, none⟩) n g.rc) n (rowL n fun i => .slice (some ⟨g.bs i, 0, none⟩) n n)
 row : ∀ i, i < n → BRow w (g.bs i) n (X i)
 inj : ∀ i j, i < n → j < n → g.bs i = g.bs j → i = j
 slot : BRow w g.sb n SL
 there : BRow w g.tb n TH
 ne : g.sb ≠ g.tb ∧ ∀ i, i < n → g.bs i ≠ g.sb ∧ g.bs i ≠ g.tb
 lo : (B ≤ g.gb ∧ B ≤ g.sb ∧ B ≤ g.tb) ∧ ∀ i, i < n → B ≤ g.bs i
section
variable {w w' : World} {B n : Nat} {g : GP} {X : Nat → Nat → Bool} {SL TH : Nat → Bool} {mv : Value}
theorem GrM.rest {T : Nat → Prop} (h : GrM w B n g X SL TH mv) (hr : RestS T w w') (h1 : ¬ T g.gb) (h2 : ¬ T g.G) (h3 : ¬ T g.sb) (h4 : ¬ T g.tb) (h5 : ∀ i, i < n → ¬ T (g.bs i)) : GrM w' B n g X SL TH mv :=
 ⟨Blk.of_heap h.box (hr.block _ (Blk.lt h.box) h1), ownG_kept h.rows fun q hq => by
   have : q = g.G := by simpa [Value.ownBlock] using hq.symm
   subst this
   exact hr.block _ (h.rows.lt _ hq).2 h2, fun i hi => Blk.of_heap (h.row i hi) (hr.block _ (Blk.lt (h.row i hi)) (h5 i hi)), h.inj, Blk.of_heap h.slot (hr.block _ (Blk.lt h.slot) h3), Blk.of_heap h.there (hr.block _ (Blk.lt h.there) h4), h.ne, h.lo⟩
theorem GrM.below (h : GrM w B n g X SL TH mv) (hb : Below w.heap.size w w') : GrM w' B n g X SL TH mv := h.rest (below_refl_of hb (fun _ => False)) id id id id (fun _ _ => id)
theorem GrM.congr {X' : Nat → Nat → Bool} {SL' TH' : Nat → Bool} (h : GrM w B n g X SL TH mv) (e : ∀ i, i < n → ∀ r, r < n → X i r = X' i r) (e2 : ∀ r, r < n → SL r = SL' r) (e3 : ∀ r, r < n → TH r = TH' r) : GrM w B n g X' SL' TH' mv :=
 ⟨h.box, h.rows, fun i hi => Blk.rowCongr (h.row i hi) fun r hr => by rw [e i hi r hr], h.inj, Blk.rowCongr h.slot fun r hr => by rw [e2 r hr], Blk.rowCongr h.there fun r hr => by rw [e3 r hr], h.ne, h.lo⟩
theorem GrM.noG (h : GrM w B n g X SL TH mv) {q : Nat} {l : Nat → Bool} (hq : BRow w q n l) : g.gb ≠ q ∧ g.G ≠ q := by
 refine ⟨brow_ne hq h.box (by decide), fun e => ?_⟩
 obtain ⟨cur, hc⟩ := own_blkTy h.rows (g := g.G) rfl
 have h2 : w.heap[q]? = _ := hq
 rw [← e, hc] at h2
 injection h2 with h2
 injection h2 with _ h2 _
 exact absurd h2 (by decide)
theorem GrM.set (h : GrM w B n g X SL TH mv) {i : Nat} (hi : i < n) (j : Nat) (b : Bool) : GrM (w.setCell ⟨g.bs i, j, none⟩ (.bool b)) B n g (fun k r => if k = i then (if r = j then b else X k r) else X k r) SL TH mv := by
 obtain ⟨h1, h2⟩ := h.noG (h.row i hi)
 obtain ⟨h3, h4⟩ := h.ne.2 i hi
 refine ⟨Blk.setOther h.box (a := ⟨g.bs i, j, none⟩) h1 _, ownG_other (a := ⟨g.bs i, j, none⟩) h.rows (fun e => h2 (by simpa [Value.ownBlock] using e)) _, fun k hk => ?_, h.inj, h.slot.other (fun e => h3 e.symm) j _, h.there.other (fun e => h4 e.symm) j _, h.ne, h.lo⟩
 by_cases e : k = i
 ·subst e
  refine Blk.rowCongr ((h.row k hk).setC j b) fun r _ => ?_
  simp
 ·refine Blk.rowCongr ((h.row k hk).other (fun e2 => e (h.inj k i hk hi e2)) j _) fun r _ => ?_
  simp [e]
theorem GrM.setT (h : GrM w B n g X SL TH mv) (j : Nat) (b : Bool) : GrM (w.setCell ⟨g.tb, j, none⟩ (.bool b)) B n g X SL (fun r => if r = j then b else TH r) mv := by
 obtain ⟨h1, h2⟩ := h.noG h.there
 exact ⟨Blk.setOther h.box (a := ⟨g.tb, j, none⟩) h1 _, ownG_other (a := ⟨g.tb, j, none⟩) h.rows (fun e => h2 (by simpa [Value.ownBlock] using e)) _, fun k hk => (h.row k hk).other (h.ne.2 k hk).2 j _, h.inj, h.slot.other h.ne.1 j _, h.there.setC j b, h.ne, h.lo⟩
theorem GrM.setS (h : GrM w B n g X SL TH mv) (j : Nat) (b : Bool) : GrM (w.setCell ⟨g.sb, j, none⟩ (.bool b)) B n g X (fun r => if r = j then b else SL r) TH mv := by
 obtain ⟨h1, h2⟩ := h.noG h.slot
 exact ⟨Blk.setOther h.box (a := ⟨g.sb, j, none⟩) h1 _, ownG_other (a := ⟨g.sb, j, none⟩) h.rows (fun e => h2 (by simpa [Value.ownBlock] using e)) _, fun k hk => (h.row k hk).other (h.ne.2 k hk).1 j _, h.inj, h.slot.setC j b, h.there.other (fun e => h.ne.1 e.symm) j _, h.ne, h.lo⟩
theorem GrM.rowCell (h : GrM w B n g X SL TH mv) {i : Nat} (hi : i < n) : w.cell? ⟨g.G, i, none⟩ = some (.slice (some ⟨g.bs i, 0, none⟩) n n) := by
 rw [World.ownsRow.cellAt h.rows i (by omega), rowL_get hi]
theorem GrM.cap (h : GrM w B n g X SL TH mv) : n ≤ g.rc ∧ g.rc ≤ maxLen := by
 rcases h.rows.2 with ⟨h1, _⟩ | ⟨q, c, cur, h1, _, _, h3, h4, _⟩
 ·cases h1
 ·injection h1 with _ _ e; subst e; exact ⟨h3, h4⟩
end
def addE (X : Nat → Nat → Bool) (a b i j : Nat) : Bool := if a ≠ b ∧ a ≠ 0 ∧ b ≠ 0 then (if (i = a ∧ j = b) ∨ (i = b ∧ j = a) then true else X i j) else X i j
def CAddPost (B n : Nat) (g : GP) (X : Nat → Nat → Bool) (SL TH : Nat → Bool) (mv : Value) (w : World) (e : Ending) (w' : World) : Prop :=
 e = .returned (.tuple #[]) ∧ GrM w' B n g X SL TH mv ∧ RestS (inB' n g.bs) w w'
set_option maxRecDepth 100000 in
set_option maxHeartbeats 8000000 in
theorem cadd_any (w : World) (B n : Nat) (g : GP) (X : Nat → Nat → Bool) (SL TH : Nat → Bool) (mv : Value) (h : GrM w B n g X SL TH mv) (a b : Nat) (ha : a < n) (hb : b < n) (hn : n ≤ 8192) :
  Calls Tryz.prog 47 #[.pointer (some ⟨g.gb, 0, none⟩), .int .i64 (a : Int), .int .i64 (b : Int)] w (CAddPost B n g (addE X a b) SL TH mv w) := by
 have H := Lib.hid h
 have HNO : Hid (¬ (a ≠ b ∧ a ≠ 0 ∧ b ≠ 0) → GrM w.drew B n g (addE X a b) SL TH mv ∧ GrM w B n g (addE X a b) SL TH mv) := fun hh => by
  have e : addE X a b = X := by funext i j; unfold addE; rw [if_neg hh]
  rw [e]
  exact ⟨H.out.below (Below.refl _ _).drew, H.out⟩
 clear h
 by_cases h1 : a = b
 ·have q1 : ((a : Int) != (b : Int)) = false := by simp [h1]
  have HN := Lib.hid (HNO.out (fun h => h.1 h1))
  go_enter Tryz.func47, Tryz.ntmps47
  go_wp2_with fail
  exact bodyPost_ret (v := .tuple #[]) (by simp [results, Tryz.results47, go_sem]) rfl ⟨rfl, HN.out.2, RestS.refl _ _⟩
 ·have q1 : ((a : Int) != (b : Int)) = true := by simp; omega
  by_cases h2 : a = 0
  ·have q2 : ((a : Int) != 0) = false := by simp [h2]
   have HN := Lib.hid (HNO.out (fun h => h.2.1 h2))
   go_enter Tryz.func47, Tryz.ntmps47
   go_wp2_with fail
   exact bodyPost_ret (v := .tuple #[]) (by simp [results, Tryz.results47, go_sem]) rfl ⟨rfl, HN.out.2, RestS.refl _ _⟩
  ·have q2 : ((a : Int) != 0) = true := by simp; omega
   by_cases h3 : b = 0
   ·have q3 : ((b : Int) != 0) = false := by simp [h3]
    have HN := Lib.hid (HNO.out (fun h => h.2.2 h3))
    go_enter Tryz.func47, Tryz.ntmps47
    go_wp2_with fail
    exact bodyPost_ret (v := .tuple #[]) (by simp [results, Tryz.results47, go_sem]) rfl ⟨rfl, HN.out.2, RestS.refl _ _⟩
   ·have q3 : ((b : Int) != 0) = true := by simp; omega
    have HAE : Hid (addE X a b = fun i j => if (i = a ∧ j = b) ∨ (i = b ∧ j = a) then true else X i j) := by show _ = _; funext i j; unfold addE; rw [if_pos ⟨h1, h2, h3⟩]
    have HAB := Lib.hid h1
    clear HNO h1 h2 h3
    obtain ⟨wd, hwd⟩ : ∃ wd, wd = w.drew := ⟨_, rfl⟩
    have hde : Below w.heap.size w wd := by rw [hwd]; exact (Below.refl _ _).drew
    have HD := Lib.hid (H.out.below hde)
    have HRS : Hid (RestS (inB' n g.bs) w wd) := below_refl_of hde _
    have hcap := HD.out.cap
    have hcm := hcap.2
    unfold maxLen at hcm
    have hc1 := hcap.1
    have k0 := HD.out.box.cell 0
    simp only [List.getElem?_cons_zero] at k0
    have ca := HD.out.rowCell ha
    have cb := HD.out.rowCell hb
    obtain ⟨gb, hgb⟩ : ∃ x, x = g.gb := ⟨_, rfl⟩
    obtain ⟨G, hG⟩ : ∃ x, x = g.G := ⟨_, rfl⟩
    obtain ⟨rc, hrc⟩ : ∃ x, x = g.rc := ⟨_, rfl⟩
    obtain ⟨ba, hba⟩ : ∃ x, x = g.bs a := ⟨_, rfl⟩
    obtain ⟨bb, hbb⟩ : ∃ x, x = g.bs b := ⟨_, rfl⟩
    rw [← hgb, ← hG, ← hrc] at k0
    rw [← hG, ← hba] at ca
    rw [← hG, ← hbb] at cb
    rw [← hrc] at hcm hc1
    rw [← hgb]
    have r0 := fun z : AfterR (Keep2C gb G) wd => (World.cell?_of_block (a := ⟨gb, 0, none⟩) z.rel.1).trans k0
    have r1 := fun z : AfterR (Keep2C gb G) wd => (World.cell?_of_block (a := ⟨G, a, none⟩) z.rel.2).trans ca
    have r2 := fun z : AfterR (Keep2C gb G) wd => (World.cell?_of_block (a := ⟨G, b, none⟩) z.rel.2).trans cb
    have HBA := Lib.hid hba
    have HBB := Lib.hid hbb
    clear k0 ca cb hcap hgb hG hrc hba hbb hde
    go_enter Tryz.func47, Tryz.ntmps47
    go_upto_region 1 with fail
    refine wp_region_eagerRT (Keep2C gb G) [(0, true), (1, true), (2, true), (3, true), (4, true), (5, true), (6, true), (7, true), (8, true), (9, true), (10, true), (11, true), (12, true), (13, true), (14, true), (15, true), (16, true), (17, false), (18, true), (19, false)] (by kernel_rfl) (by kernel_rfl) ?_
    rw [← hwd]
    clear hwd
    repeat (refine eagR_readT rfl ?_; go_big_quiet_step (fail); refine wpQuiet_nil ?_)
    clear r0 r1 r2
    have f1 := Blk.free (HD.out.row a ha) b
    have x1 := (HD.out.row a ha).cell hb
    rw [← HBA.out] at f1 x1
    refine eagR_freeT rfl rfl (by kernel_rfl) ?_
    intro K hK
    go_simp
    refine hK _ _ ?_
    clear hK K f1 x1
    go_simp
    repeat (refine eagR_readT rfl ?_; go_big_quiet_step (fail); refine wpQuiet_nil ?_)
    have hs1 := HD.out.set ha b true
    rw [← HBA.out] at hs1
    have HR1 : Hid (RestS (inB' n g.bs) w (wd.setCell ⟨ba, b, none⟩ (.bool true))) := HRS.out.set (p := ⟨ba, b, none⟩) ⟨a, ha, HBA.out⟩ _
    have HS1 := Lib.hid hs1
    generalize wd.setCell ⟨ba, b, none⟩ (.bool true) = w2 at hs1 HS1 HR1 ⊢
    have f2 := Blk.free (hs1.row b hb) a
    have x2 := (hs1.row b hb).cell ha
    rw [← HBB.out] at f2 x2
    clear hs1
    refine eagR_freeT rfl rfl (by kernel_rfl) ?_
    intro K hK
    go_simp
    refine hK _ _ ?_
    clear hK K f2 x2
    go_simp
    refine eagR_endT ?_
    have hs2 := HS1.out.set hb a true
    rw [← HBB.out] at hs2
    have HR2 : Hid (RestS (inB' n g.bs) w (w2.setCell ⟨bb, a, none⟩ (.bool true))) := HR1.out.set (p := ⟨bb, a, none⟩) ⟨b, hb, HBB.out⟩ _
    have HF : Hid (GrM (w2.setCell ⟨bb, a, none⟩ (.bool true)) B n g (addE X a b) SL TH mv) := hs2.congr (fun i hi r hr => by
     rw [HAE.out]
     have hne := HAB.out
     by_cases e1 : i = a <;> by_cases e2 : i = b <;> by_cases e3 : r = a <;> by_cases e4 : r = b <;> simp [e1, e2, e3, e4] <;> omega) (fun _ _ => rfl) (fun _ _ => rfl)
    clear hs2
    go_wp2_with fail
    exact bodyPost_ret (v := .tuple #[]) (by simp [results, Tryz.results47, go_sem]) rfl ⟨rfl, HF.out, HR2.out⟩
/-- a register that is defined where others are live; the first k of them -/
def defE (X : Nat → Nat → Bool) (d exc : Nat) (L : Nat → Bool) : Nat → Nat → Nat → Bool
 | 0 => X
 | k + 1 => if L k = true ∧ k ≠ exc then addE (defE X d exc L k) d k else defE X d exc L k
set_option maxRecDepth 100000 in
set_option maxHeartbeats 8000000 in
theorem cdefine_any (w : World) (B n : Nat) (g : GP) (X : Nat → Nat → Bool) (SL TH : Nat → Bool) (mv : Value) (h : GrM w B n g X SL TH mv) (d exc : Nat) (hd : d < n) (lb : Nat) (L : Nat → Bool) (hl : BRow w lb n L) (hlb : ¬ inB' n g.bs lb) (hn : n ≤ 8192) :
  Calls Tryz.prog 44 #[.pointer (some ⟨g.gb, 0, none⟩), .int .i64 (d : Int), .int .i64 (exc : Int), .slice (some ⟨lb, 0, none⟩) n n] w (CAddPost B n g (defE X d exc L n) SL TH mv w) := by
 have H := Lib.hid h
 have HL := Lib.hid hl
 have HLB := Lib.hid hlb
 obtain ⟨gb, hgb⟩ : ∃ x, x = g.gb := ⟨_, rfl⟩
 have HGB := Lib.hid hgb
 rw [← hgb]
 clear h hl hlb hgb
 go_enter Tryz.func44, Tryz.ntmps44
 go_wp2_with fail
 go_loopw [12] (fun u wr => ∃ k : Nat, k ≤ n ∧ u = .int .i64 (k : Int) ∧ GrM wr B n g (defE X d exc L k) SL TH mv ∧ RestS (inB' n g.bs) w wr) (fun u _ => n - (intOf u).toNat)
 case atStart => exact ⟨0, Nat.zero_le _, rfl, H.out, RestS.refl _ _⟩
 case round =>
  clear H
  obtain ⟨k, hk, rfl, hg, hr⟩ := hrel
  have HG := Lib.hid hg
  have HR := Lib.hid hr
  clear hg hr
  by_cases hlt : k < n
  ·have hrow : BRow wr lb n L := Blk.of_heap HL.out (HR.out.block _ (Blk.lt HL.out) HLB.out)
   have cl := hrow.cell hlt
   obtain ⟨l, hle⟩ : ∃ l, l = L k := ⟨_, rfl⟩
   rw [← hle] at cl
   have HCA := Lib.hid (cadd_any wr B n g (defE X d exc L k) SL TH mv HG.out d k hd hlt hn)
   rw [← HGB.out] at HCA
   cases l with
   | false =>
    have HN : Hid (defE X d exc L (k + 1) = defE X d exc L k) := by show _ = _; conv => lhs; unfold defE; rw [if_neg (by rw [← hle]; simp)]
    clear hle hrow
    go_wp2_with fail
    go_roundw
    case rel => exact ⟨k + 1, by omega, by go_num, by rw [HN.out]; exact HG.out, HR.out⟩
    case measure => simp [intOf]; omega
   | true =>
    by_cases he : k = exc
    ·have q1 : ((k : Int) != (exc : Int)) = false := by simp [he]
     have HN : Hid (defE X d exc L (k + 1) = defE X d exc L k) := by show _ = _; conv => lhs; unfold defE; rw [if_neg (by rintro ⟨_, h⟩; exact h he)]
     clear hle hrow he
     go_wp2_with fail
     go_roundw
     case rel => exact ⟨k + 1, by omega, by go_num, by rw [HN.out]; exact HG.out, HR.out⟩
     case measure => simp [intOf]; omega
    ·have q1 : ((k : Int) != (exc : Int)) = true := by simp; omega
     have HN : Hid (defE X d exc L (k + 1) = addE (defE X d exc L k) d k) := by show _ = _; conv => lhs; unfold defE; rw [if_pos ⟨hle.symm, he⟩]
     clear hle hrow he
     go_wp2_with fail
     refine HCA.out.mono ?_
     rintro e w3 ⟨rfl, hg3, hr3⟩
     have HG3 := Lib.hid hg3
     have HR3 := Lib.hid (HR.out.trans hr3)
     clear hg3 hr3 HCA
     go_wp2_with fail
     go_roundw
     case rel => exact ⟨k + 1, by omega, by go_num, by rw [HN.out]; exact HG3.out, HR3.out⟩
     case measure => simp [intOf]; omega
  ·have ek : k = n := by omega
   subst ek
   go_wp2_with fail
   exact bodyPost_ret (v := .tuple #[]) (by simp [results, Tryz.results44, go_sem]) rfl ⟨rfl, HG.out, HR.out⟩

/-- blocks a, b and c stay -/
def Keep3C (a b c : Nat) (w w' : World) : Prop := w'.heap[a]? = w.heap[a]? ∧ w'.heap[b]? = w.heap[b]? ∧ w'.heap[c]? = w.heap[c]?
instance (a b c : Nat) : PreR (Keep3C a b c) := ⟨fun w => ⟨rfl, rfl, rfl⟩, fun h k => ⟨k.1.trans h.1, k.2.1.trans h.2.1, k.2.2.trans h.2.2⟩⟩
theorem Keep3C.set {a b c q : Nat} (w : World) (h1 : a ≠ q) (h2 : b ≠ q) (h3 : c ≠ q) (j : Nat) (v : Value) : Keep3C a b c w (w.setCell ⟨q, j, none⟩ v) :=
 ⟨Below.heap_setCell _ _ _ _ h1, Below.heap_setCell _ _ _ _ h2, Below.heap_setCell _ _ _ _ h3⟩
/-- a row of bools that is none of the graph's -/
def GP.Apart (g : GP) (n lb : Nat) : Prop := g.sb ≠ lb ∧ g.tb ≠ lb ∧ ∀ i, i < n → g.bs i ≠ lb
theorem GrM.other {w : World} {B n : Nat} {g : GP} {X : Nat → Nat → Bool} {SL TH : Nat → Bool} {mv : Value} (h : GrM w B n g X SL TH mv) {lb : Nat} {L : Nat → Bool} (hl : BRow w lb n L) (ha : g.Apart n lb) (j : Nat) (v : Value) : GrM (w.setCell ⟨lb, j, none⟩ v) B n g X SL TH mv := by
 obtain ⟨h1, h2⟩ := h.noG hl
 exact h.rest (T := fun k => k = lb) (RestS.set (S := fun k => k = lb) (RestS.refl _ w) (p := ⟨lb, j, none⟩) rfl v) h1 h2 ha.1 ha.2.1 ha.2.2
def markL (L : Nat → Bool) (rs : List Nat) (r : Nat) : Bool := L r || decide (r ∈ rs)
/-- what stands while marks are set -/
structure MarkI (w : World) (B n : Nat) (g : GP) (X : Nat → Nat → Bool) (SL TH : Nat → Bool) (mv : Value) (lx gx lb : Nat) (L : Nat → Bool) : Prop where
 gr : GrM w B n g X SL TH mv
 lbox : Blk w lx 51 [.slice (some ⟨lb, 0, none⟩) n n]
 gbox : Blk w gx 67 [.pointer (some ⟨g.gb, 0, none⟩)]
 row : BRow w lb n L
 ap : g.Apart n lb
def MarkPost (B n : Nat) (g : GP) (X : Nat → Nat → Bool) (SL TH : Nat → Bool) (mv : Value) (lx gx lb : Nat) (L : Nat → Bool) (w : World) (e : Ending) (w' : World) : Prop :=
 e = .returned (.tuple #[]) ∧ MarkI w' B n g X SL TH mv lx gx lb L ∧ RestS (fun k => k = lb ∨ k = g.tb) w w'
theorem MarkI.below {w w' : World} {B n : Nat} {g : GP} {X : Nat → Nat → Bool} {SL TH : Nat → Bool} {mv : Value} {lx gx lb : Nat} {L : Nat → Bool} (h : MarkI w B n g X SL TH mv lx gx lb L) (hb : Below w.heap.size w w') : MarkI w' B n g X SL TH mv lx gx lb L :=
 ⟨h.gr.below hb, h.lbox.below hb h.lbox.lt, h.gbox.below hb h.gbox.lt, Blk.below h.row hb (Blk.lt h.row), h.ap⟩
theorem MarkI.setL {w : World} {B n : Nat} {g : GP} {X : Nat → Nat → Bool} {SL TH : Nat → Bool} {mv : Value} {lx gx lb : Nat} {L : Nat → Bool} (h : MarkI w B n g X SL TH mv lx gx lb L) (j : Nat) (b : Bool) : MarkI (w.setCell ⟨lb, j, none⟩ (.bool b)) B n g X SL TH mv lx gx lb (fun r => if r = j then b else L r) :=
 ⟨h.gr.other h.row h.ap j _, h.lbox.setOther (a := ⟨lb, j, none⟩) (brow_ne h.row h.lbox (by decide)) _, h.gbox.setOther (a := ⟨lb, j, none⟩) (brow_ne h.row h.gbox (by decide)) _, h.row.setC j b, h.ap⟩
theorem MarkI.setT {w : World} {B n : Nat} {g : GP} {X : Nat → Nat → Bool} {SL TH : Nat → Bool} {mv : Value} {lx gx lb : Nat} {L : Nat → Bool} (h : MarkI w B n g X SL TH mv lx gx lb L) (j : Nat) (b : Bool) : MarkI (w.setCell ⟨g.tb, j, none⟩ (.bool b)) B n g X SL (fun r => if r = j then b else TH r) mv lx gx lb L :=
 ⟨h.gr.setT j b, h.lbox.setOther (a := ⟨g.tb, j, none⟩) (brow_ne h.gr.there h.lbox (by decide)) _, h.gbox.setOther (a := ⟨g.tb, j, none⟩) (brow_ne h.gr.there h.gbox (by decide)) _, h.row.other (fun e => h.ap.2.1 e.symm) j _, h.ap⟩
theorem MarkI.congr {w : World} {B n : Nat} {g : GP} {X : Nat → Nat → Bool} {SL TH TH' : Nat → Bool} {mv : Value} {lx gx lb : Nat} {L L' : Nat → Bool} (h : MarkI w B n g X SL TH mv lx gx lb L) (e1 : ∀ r, r < n → L r = L' r) (e2 : ∀ r, r < n → TH r = TH' r) : MarkI w B n g X SL TH' mv lx gx lb L' :=
 ⟨h.gr.congr (fun _ _ _ _ => rfl) (fun _ _ => rfl) e2, h.lbox, h.gbox, Blk.rowCongr h.row fun r hr => by rw [e1 r hr], h.ap⟩
theorem markL_snoc (L : Nat → Bool) (rs : List Nat) (r q : Nat) : (if q = r then true else markL L rs q) = markL L (rs ++ [r]) q := by
 unfold markL
 by_cases e : q = r
 ·subst e; simp
 ·simp [e]

set_option maxRecDepth 100000 in
set_option maxHeartbeats 8000000 in
theorem mark_any (w : World) (B n : Nat) (g : GP) (X : Nat → Nat → Bool) (SL TH : Nat → Bool) (mv : Value) (lx gx lb : Nat) (L : Nat → Bool) (h : MarkI w B n g X SL TH mv lx gx lb L) (hn : n ≤ 8192) (la : Option Addr) (ll lc : Nat) (rs : List Nat) (hl : Came w la ll lc 1 ((rs.map fun (x : Nat) => (x : Int)).map intCells)) (hrs : ∀ r ∈ rs, r < n)
  (hla : ∀ p, la = some p → p.block ≠ lb ∧ p.block ≠ g.tb) :
  Calls Tryz.prog 41 #[.slice la ll lc, .pointer (some ⟨lx, 0, none⟩), .pointer (some ⟨gx, 0, none⟩)] w (MarkPost B n g X SL (markL TH rs) mv lx gx lb (markL L rs) w) := by
 have hll : rs.length = ll := by simpa using hl.count
 have hle := hl.le
 have hmx := hl.max
 have H := Lib.hid h
 have HC := Lib.hid hl
 have HLL := Lib.hid hll
 have HRS := Lib.hid hrs
 have HLA := Lib.hid hla
 clear h hl hll hrs hla
 go_enter Tryz.func41, Tryz.ntmps41
 go_wp2_with fail
 go_loopw [8] (fun u wr => ∃ k : Nat, k ≤ ll ∧ u = .int .i64 (k : Int) ∧ MarkI wr B n g X SL (markL TH (rs.take k)) mv lx gx lb (markL L (rs.take k)) ∧ RestS (fun k => k = lb ∨ k = g.tb) w wr) (fun u _ => ll - (intOf u).toNat)
 case atStart => exact ⟨0, Nat.zero_le _, rfl, H.out.congr (fun r _ => by simp [markL]) (fun r _ => by simp [markL]), RestS.refl _ _⟩
 case round =>
  clear H
  obtain ⟨k, hk, rfl, hm, hr⟩ := hrel
  have HM := Lib.hid hm
  have HR := Lib.hid hr
  clear hm hr
  by_cases hlt : k < ll
  ·obtain ⟨b', off, ea, hbl, hcell⟩ := HC.out.ints (by omega)
   have hap := HLA.out _ ea
   subst ea
   have hkl : k < rs.length := by have := HLL.out; omega
   have cl0 := hcell k (by simpa using hkl)
   have cl : wr.cell? ⟨b', off + k, none⟩ = some (.int .i64 ((rs[k] : Nat) : Int)) := by
    rw [World.cell?_of_block (a := ⟨b', off + k, none⟩) (HR.out.block b' hbl (fun e => by rcases e with e | e; exact hap.1 e; exact hap.2 e)), cl0]
    simp
   have HT := Lib.hid (List.take_succ_eq_append_getElem hkl)
   have hrn := HRS.out _ (List.getElem_mem hkl)
   obtain ⟨r, hre⟩ : ∃ r, r = rs[k] := ⟨_, rfl⟩
   rw [← hre] at cl HT hrn
   clear hcell cl0 hre hap
   obtain ⟨wd, hwd⟩ : ∃ wd, wd = wr.drew := ⟨_, rfl⟩
   have hde : Below wr.heap.size wr wd := by rw [hwd]; exact (Below.refl _ _).drew
   have HD := Lib.hid (HM.out.below hde)
   have HRD : Hid (RestS (fun k => k = lb ∨ k = g.tb) w wd) := HR.out.trans (below_refl_of hde _)
   have l0 := HD.out.lbox.cell 0
   have g0 := HD.out.gbox.cell 0
   have t2 := HD.out.gr.box.cell 2
   simp only [List.getElem?_cons_zero, List.getElem?_cons_succ] at l0 g0 t2
   have hne1 := brow_ne HD.out.row HD.out.lbox (by decide)
   have hne2 := brow_ne HD.out.row HD.out.gbox (by decide)
   have hne3 := (HD.out.gr.noG HD.out.row).1
   obtain ⟨gb, hgb⟩ : ∃ x, x = g.gb := ⟨_, rfl⟩
   obtain ⟨tb, htb⟩ : ∃ x, x = g.tb := ⟨_, rfl⟩
   rw [← hgb] at g0 t2 hne3
   rw [← htb] at t2
   have HTB := Lib.hid htb
   have r0 := fun z : AfterR (Keep3C lx gx gb) wd => (World.cell?_of_block (a := ⟨lx, 0, none⟩) z.rel.1).trans l0
   have r1 := fun z : AfterR (Keep3C lx gx gb) wd => (World.cell?_of_block (a := ⟨gx, 0, none⟩) z.rel.2.1).trans g0
   have r2 := fun z : AfterR (Keep3C lx gx gb) wd => (World.cell?_of_block (a := ⟨gb, 2, none⟩) z.rel.2.2).trans t2
   clear l0 g0 t2 hgb htb hde
   go_upto_region 3 with fail
   refine wp_region_eagerRT (Keep3C lx gx gb) [(0, true), (1, true), (2, true), (3, true), (4, true), (5, true), (6, true), (7, true), (8, false), (9, true), (10, false)] (by kernel_rfl) (by kernel_rfl) ?_
   rw [← hwd]
   clear hwd cl
   repeat (refine eagR_readT rfl ?_; go_big_quiet_step (fail); refine wpQuiet_nil ?_)
   clear r0 r1 r2
   have x1 := BRow.cell HD.out.row hrn
   have f1 := Blk.free HD.out.row r
   refine eagR_doesT rfl rfl ?_
   intro K hK
   go_simp
   refine hK _ _ (fun _ => Keep3C.set wd hne1 hne2 hne3 r (.bool true)) ?_
   clear hK K x1 f1 hne1 hne2 hne3
   go_simp
   have HD2 := Lib.hid (HD.out.setL r true)
   have HR2 : Hid (RestS (fun k => k = lb ∨ k = g.tb) w (wd.setCell ⟨lb, r, none⟩ (.bool true))) := HRD.out.set (p := ⟨lb, r, none⟩) (.inl rfl) _
   generalize wd.setCell ⟨lb, r, none⟩ (.bool true) = w2 at HD2 HR2 ⊢
   repeat (refine eagR_readT rfl ?_; go_big_quiet_step (fail); refine wpQuiet_nil ?_)
   have x2 := BRow.cell HD2.out.gr.there hrn
   have f2 := Blk.free HD2.out.gr.there r
   rw [← HTB.out] at x2 f2
   refine eagR_freeT rfl rfl (by kernel_rfl) ?_
   intro K hK
   go_simp
   refine hK _ _ ?_
   clear hK K x2 f2
   go_simp
   refine eagR_endT ?_
   have hd3 := HD2.out.setT r true
   rw [← HTB.out] at hd3
   have HR3 : Hid (RestS (fun k => k = lb ∨ k = g.tb) w (w2.setCell ⟨tb, r, none⟩ (.bool true))) := HR2.out.set (p := ⟨tb, r, none⟩) (.inr HTB.out) _
   have HD3 : Hid (MarkI (w2.setCell ⟨tb, r, none⟩ (.bool true)) B n g X SL (markL TH (rs.take (k + 1))) mv lx gx lb (markL L (rs.take (k + 1)))) := hd3.congr (fun q _ => by rw [HT.out]; exact markL_snoc _ _ _ _) (fun q _ => by rw [HT.out]; exact markL_snoc _ _ _ _)
   clear hd3 HD HD2 HRD HR2
   go_wp2_with fail
   go_roundw
   case rel => exact ⟨k + 1, by omega, by go_num, HD3.out, HR3.out⟩
   case measure => simp [intOf]; omega
  ·have ek : rs.take k = rs := List.take_of_length_le (by have := HLL.out; omega)
   rw [ek] at HM
   go_wp2_with fail
   exact bodyPost_ret (v := .tuple #[]) (by simp [results, Tryz.results41, go_sem]) rfl ⟨rfl, HM.out, HR.out⟩

/-- blocks of one type only -/
def TyB (e : TypeId) (w : World) (T : Nat → Prop) : Prop := ∀ k, T k → ∃ cur, w.heap[k]? = some (.cells cur e (0, 0))
theorem TyB.noBlk {e : TypeId} {w : World} {T : Nat → Prop} (h : TyB e w T) {b : Nat} {t : TypeId} {cs : List Value} (hb : Blk w b t cs) (hne : t ≠ e) : ¬ T b := fun hT => by
 obtain ⟨cur, h1⟩ := h b hT
 have h2 : w.heap[b]? = _ := hb
 rw [h1] at h2
 injection h2 with h2
 injection h2 with _ h2 _
 exact hne h2.symm
theorem TyB.noOwn {e : TypeId} {w : World} {T : Nat → Prop} (h : TyB e w T) {base size k : Nat} {e' : TypeId} {v : Value} {l : List Value} (ho : w.ownsRow base e' size v k l) (hne : e' ≠ e) : ∀ g, v.ownBlock = some g → ¬ T g := fun g hg hT => by
 obtain ⟨cur, h1⟩ := h g hT
 obtain ⟨cur', h2⟩ := own_blkTy ho hg
 rw [h1] at h2
 injection h2 with h2
 injection h2 with _ h2 _
 exact hne h2.symm
theorem brow_ty {w : World} {g n : Nat} {l : Nat → Bool} (h : BRow w g n l) : ∃ cur, w.heap[g]? = some (.cells cur 4 (0, 0)) := ⟨_, h⟩
/-- build's memory -/
structure BldI (w0 w : World) (f : VF) (n nb pf gx : Nat) (g : GP) (X : Nat → Nat → Bool) (SL TH : Nat → Bool) (mvs : List (Int × Int)) (mv : Value) (bl es : Nat → Nat) (Gl : Nat) (XL EL : Nat → Nat → Bool) (ev : Value) : Prop where
 be : Below w0.heap.size w0 w
 bf : Blk w pf 25 (fC f)
 gbox : Blk w gx 67 [.pointer (some ⟨g.gb, 0, none⟩)]
 gr : GrM w w0.heap.size n g X SL TH mv
 mo : w.ownsRow w0.heap.size 85 2 mv mvs.length (mvs.flatMap wpC)
 beg : BRows w Gl nb n XL bl
 eown : w.ownsRow w0.heap.size 51 1 ev nb (rowL nb fun i => .slice (some ⟨es i, 0, none⟩) n n)
 erow : ∀ i, i < nb → BRow w (es i) n (EL i)
 einj : ∀ i j, i < nb → j < nb → es i = es j → i = j
 eap : ∀ i, i < nb → g.Apart n (es i)
 bap : ∀ i, i < nb → g.Apart n (bl i)
 eb : ∀ i j, i < nb → j < nb → es i ≠ bl j
 lo : ∀ i, i < nb → w0.heap.size ≤ es i
section
variable {w0 w w' : World} {f : VF} {n nb pf gx : Nat} {g : GP} {X : Nat → Nat → Bool} {SL TH : Nat → Bool} {mvs : List (Int × Int)} {mv : Value} {bl es : Nat → Nat} {Gl : Nat} {XL EL : Nat → Nat → Bool} {ev : Value}
theorem BldI.below (h : BldI w0 w f n nb pf gx g X SL TH mvs mv bl es Gl XL EL ev) (hb : Below w.heap.size w w') : BldI w0 w' f n nb pf gx g X SL TH mvs mv bl es Gl XL EL ev :=
 ⟨h.be.trans (hb.mono h.be.size), h.bf.below hb h.bf.lt, h.gbox.below hb h.gbox.lt, h.gr.below hb, ownG_below h.mo hb, h.beg.below hb, ownG_below h.eown hb, fun i hi => Blk.below (h.erow i hi) hb (Blk.lt (h.erow i hi)), h.einj, h.eap, h.bap, h.eb, h.lo⟩
/-- rows of bools are written -/
theorem BldI.upd {T : Nat → Prop} (h : BldI w0 w f n nb pf gx g X SL TH mvs mv bl es Gl XL EL ev) (hr : RestS T w w') (hT : TyB 4 w T) (hlo : ∀ k, T k → w0.heap.size ≤ k) (hb : ∀ i, i < nb → ¬ T (bl i)) {X' : Nat → Nat → Bool} {SL' TH' : Nat → Bool} {EL' : Nat → Nat → Bool}
  (hg : GrM w' w0.heap.size n g X' SL' TH' mv) (he : ∀ i, i < nb → BRow w' (es i) n (EL' i)) : BldI w0 w' f n nb pf gx g X' SL' TH' mvs mv bl es Gl XL EL' ev :=
 ⟨h.be.trans (hr.toBelow hlo h.be.size), Blk.of_heap h.bf (hr.block _ (Blk.lt h.bf) (hT.noBlk h.bf (by decide))), Blk.of_heap h.gbox (hr.block _ (Blk.lt h.gbox) (hT.noBlk h.gbox (by decide))), hg,
  ownG_kept h.mo fun q hq => hr.block q (h.mo.lt q hq).2 (hT.noOwn h.mo (by decide) q hq),
  ⟨Blk.of_heap h.beg.blk (hr.block _ (Blk.lt h.beg.blk) (hT.noBlk h.beg.blk (by decide))), fun i hi => Blk.of_heap (h.beg.row i hi) (hr.block _ (Blk.lt (h.beg.row i hi)) (hb i hi))⟩,
  ownG_kept h.eown fun q hq => hr.block q (h.eown.lt q hq).2 (hT.noOwn h.eown (by decide) q hq), he, h.einj, h.eap, h.bap, h.eb, h.lo⟩
theorem GrM.tyBs {B : Nat} (h : GrM w B n g X SL TH mv) : TyB 4 w (inB' n g.bs) := fun k ⟨i, hi, e⟩ => by rw [e]; exact brow_ty (h.row i hi)
/-- edges are written -/
theorem BldI.edges (h : BldI w0 w f n nb pf gx g X SL TH mvs mv bl es Gl XL EL ev) (hr : RestS (inB' n g.bs) w w') {X' : Nat → Nat → Bool} (hg : GrM w' w0.heap.size n g X' SL TH mv) : BldI w0 w' f n nb pf gx g X' SL TH mvs mv bl es Gl XL EL ev :=
 h.upd hr h.gr.tyBs (fun k ⟨i, hi, e⟩ => by rw [e]; exact h.gr.lo.2 i hi) (fun i hi ⟨j, hj, e⟩ => (h.bap i hi).2.2 j hj e.symm) hg
  (fun i hi => Blk.of_heap (h.erow i hi) (hr.block _ (Blk.lt (h.erow i hi)) (fun ⟨j, hj, e⟩ => (h.eap i hi).2.2 j hj e.symm)))
/-- a row of what is live, and what occurs, are written -/
theorem BldI.marks (h : BldI w0 w f n nb pf gx g X SL TH mvs mv bl es Gl XL EL ev) {i : Nat} (hi : i < nb) (hr : RestS (fun k => k = es i ∨ k = g.tb) w w') {TH' L' : Nat → Bool} (hg : GrM w' w0.heap.size n g X SL TH' mv) (hl : BRow w' (es i) n L') : BldI w0 w' f n nb pf gx g X SL TH' mvs mv bl es Gl XL (fun k => if k = i then L' else EL k) ev :=
 h.upd hr (fun k hk => by rcases hk with e | e; exact e ▸ brow_ty (h.erow i hi); exact e ▸ brow_ty h.gr.there) (fun k hk => by rcases hk with e | e; exact e ▸ h.lo i hi; exact e ▸ h.gr.lo.1.2.2) (fun j hj hk => by
   rcases hk with e | e
   ·exact h.eb i j hi hj e.symm
   ·exact (h.bap j hj).2.1 e.symm) hg
  (fun j hj => by
   by_cases e : j = i
   ·subst e; simp only [if_true]; exact hl
   ·simp only [e, if_false]
    exact Blk.of_heap (h.erow j hj) (hr.block _ (Blk.lt (h.erow j hj)) (fun hk => by
     rcases hk with e2 | e2
     ·exact e (h.einj j i hj hi e2)
     ·exact (h.eap j hj).2.1 e2.symm)))
/-- what is live after calls is written -/
theorem BldI.slots (h : BldI w0 w f n nb pf gx g X SL TH mvs mv bl es Gl XL EL ev) (hr : RestS (fun k => k = g.sb) w w') {SL' : Nat → Bool} (hg : GrM w' w0.heap.size n g X SL' TH mv) : BldI w0 w' f n nb pf gx g X SL' TH mvs mv bl es Gl XL EL ev :=
 h.upd hr (fun k e => e ▸ brow_ty h.gr.slot) (fun k e => e ▸ h.gr.lo.1.2.1) (fun j hj e => (h.bap j hj).1 e.symm) hg
  (fun j hj => Blk.of_heap (h.erow j hj) (hr.block _ (Blk.lt (h.erow j hj)) (fun e => (h.eap j hj).1 e.symm)))
/-- a move is put behind the others -/
theorem BldI.move (h : BldI w0 w f n nb pf gx g X SL TH mvs mv bl es Gl XL EL ev) {mv' : Value} {mvs' : List (Int × Int)} (hg : w.grownBy w' mv.ownBlock) (hown : w'.ownsRow w0.heap.size 85 2 mv' mvs'.length (mvs'.flatMap wpC)) : BldI w0 (w'.setCell ⟨g.gb, 3, none⟩ mv') f n nb pf gx g X SL TH mvs' mv' bl es Gl XL EL ev := by
 have hrs := RestS.ofGrown hg
 have hbl : ∀ {q : Nat} {t : TypeId} {cs : List Value}, Blk w q t cs → t ≠ 85 → Blk w' q t cs := fun hq ht => Blk.of_heap hq (hrs.block _ (Blk.lt hq) (blk_noOwn hq h.mo (fun e => ht e.symm)))
 have hgb := hbl h.gr.box (by decide)
 have hset : ∀ {q : Nat} {t : TypeId} {cs : List Value}, Blk w q t cs → t ≠ 85 → t ≠ 76 → Blk (w'.setCell ⟨g.gb, 3, none⟩ mv') q t cs := fun hq h1 h2 => Blk.setOther (hbl hq h1) (a := ⟨g.gb, 3, none⟩) (fun e => by
  have e1 := hbl hq h1
  have h3 : w'.heap[_]? = _ := e1
  have h4 : w'.heap[_]? = _ := hgb
  rw [show _ = g.gb from e, h4] at h3
  injection h3 with h3
  injection h3 with _ h3 _
  exact h2 h3.symm) _
 have hown2 : ∀ {base size k : Nat} {e : TypeId} {v : Value} {l : List Value}, w.ownsRow base e size v k l → e ≠ 85 → e ≠ 76 → (w'.setCell ⟨g.gb, 3, none⟩ mv').ownsRow base e size v k l := fun ho h1 h2 => by
  have h3 := ownG_kept ho fun q hq => hrs.block q (ho.lt q hq).2 (fun e => own_tyN ho h.mo h1 q hq e)
  exact ownG_other (a := ⟨g.gb, 3, none⟩) h3 (fun e => blk_noOwn hgb h3 h2 e) mv'
 refine ⟨(h.be.trans (hrs.toBelow (fun q e => (h.mo.lt q e).1) h.be.size)).setCell (p := ⟨g.gb, 3, none⟩) h.gr.lo.1.1 _, hset h.bf (by decide) (by decide), hset h.gbox (by decide) (by decide), ⟨?_, hown2 h.gr.rows (by decide) (by decide), fun i hi => hset (h.gr.row i hi) (by decide) (by decide), h.gr.inj, hset h.gr.slot (by decide) (by decide), hset h.gr.there (by decide) (by decide), h.gr.ne, h.gr.lo⟩,
  ownG_other (a := ⟨g.gb, 3, none⟩) hown (fun e => blk_noOwn hgb hown (by decide) e) mv', ⟨hset h.beg.blk (by decide) (by decide), fun i hi => hset (h.beg.row i hi) (by decide) (by decide)⟩, hown2 h.eown (by decide) (by decide), fun i hi => hset (h.erow i hi) (by decide) (by decide), h.einj, h.eap, h.bap, h.eb, h.lo⟩
 have := Blk.set hgb 3 mv'
 simpa using this
end
/-- what occurs is written -/
theorem BldI.occ {w0 w : World} {f : VF} {n nb pf gx : Nat} {g : GP} {X : Nat → Nat → Bool} {SL TH : Nat → Bool} {mvs : List (Int × Int)} {mv : Value} {bl es : Nat → Nat} {Gl : Nat} {XL EL : Nat → Nat → Bool} {ev : Value} (h : BldI w0 w f n nb pf gx g X SL TH mvs mv bl es Gl XL EL ev) (j : Nat) (b : Bool) : BldI w0 (w.setCell ⟨g.tb, j, none⟩ (.bool b)) f n nb pf gx g X SL (fun r => if r = j then b else TH r) mvs mv bl es Gl XL EL ev :=
 h.upd (T := fun k => k = g.tb) (RestS.set (S := fun k => k = g.tb) (RestS.refl _ w) (p := ⟨g.tb, j, none⟩) rfl _) (fun k e => e ▸ brow_ty h.gr.there) (fun k e => e ▸ h.gr.lo.1.2.2) (fun i hi e => (h.bap i hi).2.1 e.symm) (h.gr.setT j b)
  (fun i hi => (h.erow i hi).other (fun e => (h.eap i hi).2.1 e.symm) j _)
/-- what build knows -/
structure CS where
 (X : Nat → Nat → Bool) (SL TH : Nat → Bool) (mv : List (Int × Int)) (L : Nat → Bool)
/-- an instruction, from its end to its beginning -/
def insC (n : Nat) (x : VI) (s : CS) : CS :=
 let d := (defV x).toNat
 let exc := if x.op = 100 then x.a.toNat else 0
 let L1 := fun r => if r = d then false else s.L r
 {
  X := defE s.X d exc s.L n
  SL := if callB x.op = true then fun r => s.SL r || L1 r else s.SL
  TH := markL (fun r => if r = d then true else s.TH r) (usesN x)
  mv := if x.op = 100 ∧ x.a ≠ 0 ∧ defV x ≠ 0 ∧ x.a ≠ defV x then s.mv ++ [(defV x, x.a)] else s.mv
  L := markL L1 (usesN x) }
def blkC (n : Nat) (b : VB) (l : Nat → Bool) (s : CS) : CS := b.ins.foldr (insC n) { s with TH := markL s.TH ((endV b.e).map Int.toNat), L := markL l ((endV b.e).map Int.toNat) }
def blksC (n : Nat) (f : VF) (EL : Nat → Nat → Bool) : Nat → CS
 | 0 => ⟨fun _ _ => false, fun _ => false, fun _ => false, [], fun _ => false⟩
 | k + 1 => blkC n (f.blk k) (EL k) (blksC n f EL k)
/-- what stands while a block is gone through -/
structure BlkB (w0 w : World) (f : VF) (n nb pf gx : Nat) (g : GP) (cs : CS) (mv : Value) (bl es : Nat → Nat) (Gl : Nat) (XL EL : Nat → Nat → Bool) (ev : Value) (i lx bb : Nat) (b : VB) : Prop where
 bi : BldI w0 w f n nb pf gx g cs.X cs.SL cs.TH cs.mv mv bl es Gl XL (fun k => if k = i then cs.L else EL k) ev
 lbox : Blk w lx 51 [.slice (some ⟨es i, 0, none⟩) n n]
 bbox : Blk w bb 46 (vbC b)
section
variable {w0 w w' : World} {f : VF} {n nb pf gx : Nat} {g : GP} {cs : CS} {mv : Value} {bl es : Nat → Nat} {Gl : Nat} {XL EL : Nat → Nat → Bool} {ev : Value} {i lx bb : Nat} {b : VB}
theorem BlkB.below (h : BlkB w0 w f n nb pf gx g cs mv bl es Gl XL EL ev i lx bb b) (hb : Below w.heap.size w w') : BlkB w0 w' f n nb pf gx g cs mv bl es Gl XL EL ev i lx bb b := ⟨h.bi.below hb, h.lbox.below hb h.lbox.lt, h.bbox.below hb h.bbox.lt⟩
theorem BlkB.row (h : BlkB w0 w f n nb pf gx g cs mv bl es Gl XL EL ev i lx bb b) (hi : i < nb) : BRow w (es i) n cs.L := by
 have := h.bi.erow i hi
 simpa using this
theorem BlkB.mark (h : BlkB w0 w f n nb pf gx g cs mv bl es Gl XL EL ev i lx bb b) (hi : i < nb) : MarkI w w0.heap.size n g cs.X cs.SL cs.TH mv lx gx (es i) cs.L :=
 ⟨h.bi.gr, h.lbox, h.bi.gbox, h.row hi, h.bi.eap i hi⟩
theorem BlkB.marked (h : BlkB w0 w f n nb pf gx g cs mv bl es Gl XL EL ev i lx bb b) (hi : i < nb) {TH' L' : Nat → Bool} (hm : MarkI w' w0.heap.size n g cs.X cs.SL TH' mv lx gx (es i) L') (hr : RestS (fun k => k = es i ∨ k = g.tb) w w') : BlkB w0 w' f n nb pf gx g { cs with TH := TH', L := L' } mv bl es Gl XL EL ev i lx bb b := by
 have h1 := h.bi.marks hi hr hm.gr hm.row
 have ht : TyB 4 w (fun k => k = es i ∨ k = g.tb) := fun k hk => by
  rcases hk with e | e
  ·exact e ▸ brow_ty (h.row hi)
  ·exact e ▸ brow_ty h.bi.gr.there
 refine ⟨?_, hm.lbox, Blk.of_heap h.bbox (hr.block _ (Blk.lt h.bbox) (ht.noBlk h.bbox (by decide)))⟩
 have e : (fun k => if k = i then L' else if k = i then cs.L else EL k) = fun k => if k = i then L' else EL k := by funext k; by_cases e : k = i <;> simp [e]
 rw [e] at h1
 exact h1
theorem BlkB.edges (h : BlkB w0 w f n nb pf gx g cs mv bl es Gl XL EL ev i lx bb b) (hr : RestS (inB' n g.bs) w w') {X' : Nat → Nat → Bool} (hg : GrM w' w0.heap.size n g X' cs.SL cs.TH mv) : BlkB w0 w' f n nb pf gx g { cs with X := X' } mv bl es Gl XL EL ev i lx bb b :=
 ⟨h.bi.edges hr hg, Blk.of_heap h.lbox (hr.block _ (Blk.lt h.lbox) (h.bi.gr.tyBs.noBlk h.lbox (by decide))), Blk.of_heap h.bbox (hr.block _ (Blk.lt h.bbox) (h.bi.gr.tyBs.noBlk h.bbox (by decide)))⟩
theorem BlkB.slots (h : BlkB w0 w f n nb pf gx g cs mv bl es Gl XL EL ev i lx bb b) (hr : RestS (fun k => k = g.sb) w w') {SL' : Nat → Bool} (hg : GrM w' w0.heap.size n g cs.X SL' cs.TH mv) : BlkB w0 w' f n nb pf gx g { cs with SL := SL' } mv bl es Gl XL EL ev i lx bb b := by
 have ht : TyB 4 w (fun k => k = g.sb) := fun k e => e ▸ brow_ty h.bi.gr.slot
 exact ⟨h.bi.slots hr hg, Blk.of_heap h.lbox (hr.block _ (Blk.lt h.lbox) (ht.noBlk h.lbox (by decide))), Blk.of_heap h.bbox (hr.block _ (Blk.lt h.bbox) (ht.noBlk h.bbox (by decide)))⟩
theorem BlkB.move (h : BlkB w0 w f n nb pf gx g cs mv bl es Gl XL EL ev i lx bb b) {mv' : Value} {mvs' : List (Int × Int)} (hg : w.grownBy w' mv.ownBlock) (hown : w'.ownsRow w0.heap.size 85 2 mv' mvs'.length (mvs'.flatMap wpC)) : BlkB w0 (w'.setCell ⟨g.gb, 3, none⟩ mv') f n nb pf gx g { cs with mv := mvs' } mv' bl es Gl XL EL ev i lx bb b := by
 have hrs := RestS.ofGrown hg
 have hgb : Blk w' g.gb 76 _ := Blk.of_heap h.bi.gr.box (hrs.block _ (Blk.lt h.bi.gr.box) (blk_noOwn h.bi.gr.box h.bi.mo (by decide)))
 have hset : ∀ {q : Nat} {t : TypeId} {cs' : List Value}, Blk w q t cs' → t ≠ 85 → t ≠ 76 → Blk (w'.setCell ⟨g.gb, 3, none⟩ mv') q t cs' := fun hq h1 h2 => by
  have e1 := Blk.of_heap (w' := w') hq (hrs.block _ (Blk.lt hq) (blk_noOwn hq h.bi.mo (fun e => h1 e.symm)))
  refine Blk.setOther e1 (a := ⟨g.gb, 3, none⟩) (fun e => ?_) _
  have h3 : w'.heap[_]? = _ := e1
  have h4 : w'.heap[_]? = _ := hgb
  rw [show _ = g.gb from e, h4] at h3
  injection h3 with h3
  injection h3 with _ h3 _
  exact h2 h3.symm
 exact ⟨h.bi.move hg hown, hset h.lbox (by decide) (by decide), hset h.bbox (by decide) (by decide)⟩
end
theorem insC_mv (n : Nat) (x : VI) (s : CS) : (insC n x s).mv.length ≤ s.mv.length + 1 := by
 show (if _ then _ else _ : List (Int × Int)).length ≤ _
 split
 ·simp
 ·omega
theorem foldC_mv (n : Nat) (s : CS) : ∀ l : List VI, (l.foldr (insC n) s).mv.length ≤ s.mv.length + l.length
 | [] => Nat.le_refl _
 | x :: l => by
  have h1 := foldC_mv n s l
  have h2 := insC_mv n x (l.foldr (insC n) s)
  simp only [List.foldr_cons, List.length_cons]
  omega
theorem blksC_mv (n : Nat) (f : VF) (EL : Nat → Nat → Bool) {nb : Nat} (h : ∀ i, i < nb → (f.blk i).ins.length ≤ 4096) : ∀ k, k ≤ nb → (blksC n f EL k).mv.length ≤ k * 4096
 | 0, _ => Nat.le_refl _
 | k + 1, hk => by
  have h1 := blksC_mv n f EL h k (by omega)
  have h2 := h k (by omega)
  have h3 := foldC_mv n { blksC n f EL k with TH := markL (blksC n f EL k).TH ((endV (f.blk k).e).map Int.toNat), L := markL (EL k) ((endV (f.blk k).e).map Int.toNat) } (f.blk k).ins
  have h4 : (blksC n f EL (k + 1)).mv.length ≤ (blksC n f EL k).mv.length + (f.blk k).ins.length := h3
  omega
/-- the parameters, the first k of them -/
def parX (n : Nat) (ps : List Nat) (L0 : Nat → Bool) (X : Nat → Nat → Bool) : Nat → Nat → Nat → Bool
 | 0 => X
 | k + 1 => defE ((ps.take k).foldl (fun Y s => addE Y (ps.getD k 0) s) (parX n ps L0 X k)) (ps.getD k 0) 0 L0 n
end Go.Proofs.YtdnpoomagjcpfaaGreat
