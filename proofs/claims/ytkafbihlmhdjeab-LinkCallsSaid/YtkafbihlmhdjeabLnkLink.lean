/- link's Link. -/
import Derived.Test.YtkafbihlmhdjeabLnkFinV
namespace Go.Proofs.Ytkafbihlmhdjeab
open Go.RowKit
set_option linter.unusedVariables false
set_option linter.unusedSimpArgs false

theorem bpos_bound {l : List LF} {c : Nat → Nat} (h : ∀ k, k < l.length → (fnAt l k).its.length ≤ 16384) : ∀ k, k ≤ l.length → bpos l c k ≤ 2 + k * 16384
  | 0, _ => by show 2 ≤ _; omega
  | k + 1, hk => by
    have h1 := bpos_bound (c := c) h k (by omega)
    have h2 := h k (by omega)
    have e : (k + 1) * 16384 = k * 16384 + 16384 := by rw [Nat.add_mul, Nat.one_mul]
    have e2 : bpos l c (k + 1) = bpos l c k + (if c k = k then (fnAt l k).its.length else 0) := rfl
    rw [e, e2]
    generalize k * 16384 = z at h1 ⊢
    by_cases hc : c k = k
    · rw [if_pos hc]; omega
    · rw [if_neg hc]; omega
theorem FnOk.short {many : Nat} {f : LF} (h : FnOk many f) : f.its.length ≤ 16384 := (items_ok h.items).1
theorem FnOk.few {many : Nat} {f : LF} (h : FnOk many f) : f.calls.length ≤ f.its.length := by
  have key : ∀ (cs : List LC) (n : Nat) (last : Int), -1 ≤ last → last < n → cs.Pairwise (fun a b => a.item < b.item) → (∀ x ∈ cs, last < x.item ∧ x.item < n) → (cs.length : Int) ≤ n - 1 - last := by
    intro cs n
    induction cs with
    | nil => intro last h1 h2 _ _; simp; omega
    | cons x cs ih =>
      intro last h1 h2 hp hx
      rw [List.pairwise_cons] at hp
      have h3 := hx x (by simp)
      have := ih x.item (by omega) h3.2 hp.2 (fun y hy => ⟨hp.1 y hy, (hx y (by simp [hy])).2⟩)
      rw [List.length_cons]; omega
  have := key f.calls f.its.length (-1) (by omega) (by have := h.some_; omega) h.order (fun x hx => by have := h.calls x hx; omega)
  omega

/-- what refs keeps, and what is read ahead of it -/
def KeptC (p gb j : Nat) (w w' : World) : Prop := KeptF w w' ∧ w'.cell? ⟨p, 1, none⟩ = w.cell? ⟨p, 1, none⟩ ∧ w'.cell? ⟨gb, j, none⟩ = w.cell? ⟨gb, j, none⟩
instance (p gb j : Nat) : PreR (KeptC p gb j) := ⟨fun w => ⟨fun _ _ h => h, rfl, rfl⟩, fun h k => ⟨fun g cs hg => k.1 g cs (h.1 g cs hg), k.2.1.trans h.2.1, k.2.2.trans h.2.2⟩⟩
theorem itsTo_zero (l : List LF) (c : Nat → Nat) : ∀ k, (itsTo l c k)[0]? = some ⟨20, 0, 0, 0, 0, 0⟩
  | 0 => rfl
  | k + 1 => by
    have ih := itsTo_zero l c k
    unfold itsTo
    split
    · rw [List.getElem?_append_left (List.getElem?_eq_some_iff.1 ih).1]; exact ih
    · exact ih
theorem refsTo_ads {l : List LF} {c : Nat → Nat} (n main : Nat) (h : ∀ k, k < n → (fnAt l k).calls.length ≤ 16384) : ∀ k, k ≤ n → (refsTo l c n main k).2.length ≤ k * 16384
  | 0, _ => Nat.zero_le _
  | k + 1, hk => by
    have h1 := refsTo_ads (c := c) n main h k (by omega)
    have h2 := h k (by omega)
    have e : (k + 1) * 16384 = k * 16384 + 16384 := by rw [Nat.add_mul, Nat.one_mul]
    rw [e]
    generalize k * 16384 = z at h1 ⊢
    unfold refsTo
    split
    · have := (refFold_len (bgTo l c n) c (bpos l c k) (fnAt l k).calls (refsTo l c n main k)).2
      omega
    · omega

set_option maxRecDepth 100000 in
set_option maxHeartbeats 8000000 in
theorem link_any (w : World) (a : Option Addr) (n cp : Nat) (l : List LF) (h : Lnk w a n cp l) (hchk : chkE l = 0) (gc : Nat) (c : Nat → Nat) (hcl : ClsAt w gc n c) (main : Nat) (hI : LinkIn l c main) (long : Bool) :
    Calls Try.prog 29 #[.slice a n cp, .slice (some ⟨gc, 0, none⟩) n n, .int .i64 (main : Int), .bool long] w (ImgPost (finS l c main).1 (finS l c main).2 long n c (bpos l c) w) := by
  have hl := h.len
  have hnle := h.came.le
  have hnmx := h.came.max
  have hn256 : n ≤ 256 := by have := (chkE_in hchk).2; omega
  have hmn : main < n := by have := hI.main; omega
  have H := Lib.hid h
  have HI := Lib.hid hI
  have HC := Lib.hid hcl
  have HL := Lib.hid hl
  have HSZ : Hid ((Try.prog.info? 60).map (·.size) = some 5) := by unfold Hid; kernel_rfl
  have HB1 : Hid (Below w.heap.size w (w.alloc (.cells #[.slice none 0 0, .int .i64 0, .slice none 0 0, .slice none 0 0, .slice none 0 0] 60))) := (Below.refl _ _).alloc (Nat.le_refl _) _
  have HR1 : Hid (Blk (w.alloc (.cells #[.slice none 0 0, .int .i64 0, .slice none 0 0, .slice none 0 0, .slice none 0 0] 60)) w.heap.size 60 zImg) := Blk.new w zImg 60
  have hck := linkCheck_any _ a n cp l (h.below HB1.out)
  rw [hchk] at hck
  have HCK := Lib.hid hck
  have HCE := Lib.hid hchk
  clear h hI hcl hl hck hchk
  go_enter Try.func29, Try.ntmps29
  go_wp2_with fail
  generalize hw1 : (w.alloc (.cells #[.slice none 0 0, .int .i64 0, .slice none 0 0, .slice none 0 0, .slice none 0 0] 60)) = w1 at HB1 HR1 HCK ⊢
  have HW1S : Hid (w1.heap.size = w.heap.size + 1) := by show _ = _; rw [← hw1]; simp
  clear hw1
  refine HCK.out.mono ?_
  rintro e w2 ⟨rfl, hb2⟩
  have HB2 := Lib.hid (HB1.out.trans (hb2.mono HB1.out.size))
  have HR2 := Lib.hid (HR1.out.below hb2 HR1.out.lt)
  have HC2 := Lib.hid (HC.out.below (HB1.out.trans (hb2.mono HB1.out.size)))
  clear hb2 HCK HB1 HR1
  go_wp2_with fail
  go_loopw [33] (fun u wr => ∃ k : Nat, k ≤ n ∧ u = .int .i64 (k : Int) ∧ wr = w2) (fun u _ => n - (intOf u).toNat)
  case atStart => exact ⟨0, Nat.zero_le _, rfl, rfl⟩
  case round =>
    obtain ⟨k, hk, rfl, rfl⟩ := hrel
    by_cases hlt : k < n
    · have e0 := HC2.out.cell hlt
      have hck := HI.out.le k (by have := HL.out; omega)
      have hcr := HI.out.rep k (by have := HL.out; omega)
      have e1 := HC2.out.cell (show c k < n by omega)
      rw [hcr] at e1
      obtain ⟨ck, hck2⟩ : ∃ ck, ck = c k := ⟨_, rfl⟩
      rw [← hck2] at e0 e1 hck
      have hckI : (ck : Int) < (n : Int) := by omega
      have t1 : ((ck : Int) != (ck : Int)) = false := by simp
      clear hck2 hcr
      go_wp2_with fail
      go_roundw
      case rel => exact ⟨k + 1, by omega, by go_num, by first | rfl | trivial⟩
      case measure => simp [intOf]; omega
    · have hmI : (main : Int) < (n : Int) := by omega
      have hmd : decide (n ≤ main) = false := by simp; omega
      have hmd2 : decide ((n : Int) ≤ (main : Int)) = false := by simp; omega
      have hmd3 : decide ((main : Int) < 0) = false := by simp
      go_wp2_with fail
      obtain ⟨w3, hw3⟩ : ∃ w3, w3 = wr := ⟨_, rfl⟩
      rw [← hw3] at HB2 HR2 HC2 ⊢
      clear hw3
      have HLK0 : Hid (LK w3.heap.size ((w3.alloc (.cells #[.int .i64 20, .int .i64 0, .int .i64 0, .int .i64 0, .int .i64 0, .int .i64 0, .int .i64 0, .int .i64 0, .int .i64 0, .int .i64 0, .int .i64 0, .int .i64 (-1)] 68)).alloc (.cells #[.slice (some ⟨w3.heap.size, 0, none⟩) 2 2, .slice none 0 0, .slice none 0 0] 91)) (w3.heap.size + 1) (.slice (some ⟨w3.heap.size, 0, none⟩) 2 2) (.slice none 0 0) (.slice none 0 0) (itsTo l c 0) (bgTo l c 0) []) := by
        have h9 := Blk.new (w3.alloc (.cells #[.int .i64 20, .int .i64 0, .int .i64 0, .int .i64 0, .int .i64 0, .int .i64 0, .int .i64 0, .int .i64 0, .int .i64 0, .int .i64 0, .int .i64 0, .int .i64 (-1)] 68)) [.slice (some ⟨w3.heap.size, 0, none⟩) 2 2, .slice none 0 0, .slice none 0 0] 91
        rw [World.size_alloc] at h9
        refine ⟨h9, Nat.le_succ _, ?_, World.ownsRow_nil _ _ _ _, World.ownsRow_nil _ _ _ _⟩
        have h8 : Blk ((w3.alloc (.cells #[.int .i64 20, .int .i64 0, .int .i64 0, .int .i64 0, .int .i64 0, .int .i64 0, .int .i64 0, .int .i64 0, .int .i64 0, .int .i64 0, .int .i64 0, .int .i64 (-1)] 68)).alloc (.cells #[.slice (some ⟨w3.heap.size, 0, none⟩) 2 2, .slice none 0 0, .slice none 0 0] 91)) w3.heap.size 68 ((itsTo l c 0).flatMap itemCells) := (Blk.new w3 ((itsTo l c 0).flatMap itemCells) 68).alloc _
        exact ⟨rfl, .inr ⟨w3.heap.size, 2, _, rfl, Nat.le_refl _, h8, Nat.le_refl _, by unfold maxLen; omega, rfl, rfl⟩⟩
      have HB4 : Hid (Below w3.heap.size w3 ((w3.alloc (.cells #[.int .i64 20, .int .i64 0, .int .i64 0, .int .i64 0, .int .i64 0, .int .i64 0, .int .i64 0, .int .i64 0, .int .i64 0, .int .i64 0, .int .i64 0, .int .i64 (-1)] 68)).alloc (.cells #[.slice (some ⟨w3.heap.size, 0, none⟩) 2 2, .slice none 0 0, .slice none 0 0] 91))) := ((Below.refl _ _).alloc (Nat.le_refl _) _).alloc (by simp) _
      generalize ((w3.alloc (.cells #[.int .i64 20, .int .i64 0, .int .i64 0, .int .i64 0, .int .i64 0, .int .i64 0, .int .i64 0, .int .i64 0, .int .i64 0, .int .i64 0, .int .i64 0, .int .i64 (-1)] 68)).alloc (.cells #[.slice (some ⟨w3.heap.size, 0, none⟩) 2 2, .slice none 0 0, .slice none 0 0] 91)) = w4 at HLK0 HB4 ⊢
      obtain ⟨B, hB⟩ : ∃ B, B = w3.heap.size := ⟨_, rfl⟩
      rw [← hB] at HLK0 HB4 ⊢
      have HBE := Lib.hid hB
      have hwB : w.heap.size ≤ B := by rw [hB]; exact HB2.out.size
      have hwB1 : w.heap.size < B := by rw [hB]; exact Nat.lt_of_lt_of_le (by have := HR2.out.lt; exact this) (Nat.le_refl _)
      clear hB
      obtain ⟨p, hp⟩ : ∃ p, p = B + 1 := ⟨_, rfl⟩
      rw [← hp] at HLK0 ⊢
      clear hp
      obtain ⟨is0, his0, hzs0, hzs1, hzs2⟩ := info_parts Try.infoT3
      have HFN : Hid (∀ k, k < n → FnOk n (fnAt l k)) := fun k hk => by have h1 := HI.out.fn k (by have := HL.out; omega); rwa [HL.out] at h1
      have HBB : Hid (∀ k, k ≤ n → bpos l c k ≤ 2 + k * 16384) := fun k hk => bpos_bound (fun j hj => (HI.out.fn j hj).short) k (by have := HL.out; omega)
      go_loopw [73] (fun u wr => ∃ (i : Nat) (vi vb va : Value), i ≤ n ∧ u = .int .i64 (i : Int) ∧ LK B wr p vi vb va (itsTo l c i) (bgTo l c i) [] ∧ Below B w3 wr) (fun u _ => n - (intOf u).toNat)
      case atStart => exact ⟨0, _, _, _, Nat.zero_le _, rfl, HLK0.out, HB4.out⟩
      case round =>
        clear HLK0 HB4
        obtain ⟨i, vi, vb, va, hi, rfl, hlk, hbe⟩ := hrel
        obtain ⟨wx, hwx⟩ : ∃ wx, wx = wr := ⟨_, rfl⟩
        rw [← hwx] at hlk hbe ⊢
        clear hwx
        obtain ⟨ai, ci, ab, cb, aa, ca, rfl, rfl, rfl⟩ := hlk.shapes
        have hBx : B ≤ wx.heap.size := by rw [HBE.out]; exact hbe.size
        have hbw : Below w.heap.size w wx := HB2.out.trans (hbe.mono hwB)
        have HBW := Lib.hid hbw
        have HBX := Lib.hid hbe
        have hbgl := bgTo_len l c i
        by_cases hin : i < n
        · have hil : i < l.length := by have := HL.out; omega
          obtain ⟨gl, off, rfl, hgl, hlc⟩ := came_lfs H.out.came (by omega)
          obtain ⟨d0, d1, d2, d3, d4⟩ := (hlc i hil).later hbw hgl
          have hglx : gl < wx.heap.size := Nat.lt_of_lt_of_le hgl hbw.size
          have HFO := Lib.hid (H.out.ok _ (List.getElem_mem hil))
          have HFE : Hid (fnAt l i = l[i]) := fnAt_get hil
          generalize l[i] = f at d0 d1 d2 d3 d4 HFO HFE
          have hci0 := (Below.cell hbe (p := ⟨gc, i, none⟩) (by rw [HBE.out]; exact Blk.lt HC2.out)).trans (HC2.out.cell hin)
          have hgcx : gc < wx.heap.size := Nat.lt_of_lt_of_le (Blk.lt HC2.out) (by rw [← HBE.out]; exact hBx)
          have p1 : wx.cell? ⟨p, 1, none⟩ = some (.slice ab (bgTo l c i).length cb) := hlk.box.cell 1
          rw [hbgl] at p1
          have hpx := hlk.box.lt
          have HLA : Hid (LK B (wx.alloc (.cells #[.int .i64 f.name, .slice f.ia f.il f.ic, .slice f.ca f.cl f.cc, .slice f.ma f.ml f.mc, .int .i64 f.size] 53)) p (.slice ai (itsTo l c i).length ci) (.slice ab (bgTo l c i).length cb) (.slice aa ([] : List (Int × Int)).length ca) (itsTo l c i) (bgTo l c i) []) := hlk.below ((Below.refl _ _).alloc (Nat.le_refl _) _)
          have hby : Below wx.heap.size wx (wx.alloc (.cells #[.int .i64 f.name, .slice f.ia f.il f.ic, .slice f.ca f.cl f.cc, .slice f.ma f.ml f.mc, .int .i64 f.size] 53)) := (Below.refl _ _).alloc (Nat.le_refl _) _
          have hfb : Blk (wx.alloc (.cells #[.int .i64 f.name, .slice f.ia f.il f.ic, .slice f.ca f.cl f.cc, .slice f.ma f.ml f.mc, .int .i64 f.size] 53)) wx.heap.size 53 (lfC f) := Blk.new wx _ _
          have HBGL := Lib.hid hbgl
          clear hlc hlk hbe hbgl
          obtain ⟨cci, hcci⟩ : ∃ cci, cci = c i := ⟨_, rfl⟩
          rw [← hcci] at hci0
          have HCCI := Lib.hid hcci
          clear hcci
          go_upto_region 18 with fail
          generalize (wx.alloc (.cells #[.int .i64 f.name, .slice f.ia f.il f.ic, .slice f.ca f.cl f.cc, .slice f.ma f.ml f.mc, .int .i64 f.size] 53)) = wy at HLA hby hfb ⊢
          have p1y : wy.cell? ⟨p, 1, none⟩ = some (.slice ab i cb) := (hby.cell (p := ⟨p, 1, none⟩) hpx).trans p1
          have hrow := HLA.out.ob
          have hnew : (bgTo l c i).length = i := HBGL.out
          rw [hnew] at hrow
          have HROW := Lib.hid hrow
          have hBy : B ≤ wy.heap.size := Nat.le_trans hBx hby.size
          have HBY := Lib.hid (HBX.out.trans (hby.mono hBx))
          have hciy := (hby.cell (p := ⟨gc, i, none⟩) hgcx).trans hci0
          have hgcB : gc < B := by rw [HBE.out]; exact Blk.lt HC2.out
          have HFB := Lib.hid hfb
          clear p1 hrow hnew hby hfb hci0 d0 d1 d2 d3 d4
          go_wp2_with (at_builtin; refine wpList_append_own _ rfl _ _ 24 rfl B 3 is0 (.int .i64 0) 1 8 Try.underlying24 his0 hzs0 hzs1 hzs2 rfl (by decide) _ _ _ rfl (HROW.out.alloc _) ⟨wy.heap.size, 0, none⟩ 1 1 [.int .i64 (-1)] rfl rfl ?a2 ?a3 ?a4 ?a5 ?a6 ?_)
          case a2 => exact cell_one_new _ _ _
          case a3 => first | rfl | (intro u hu; simp at hu; subst hu; rfl)
          case a4 => unfold maxLen; omega
          case a5 => omega
          case a6 => first | omega | (simp; omega)
          intro v' w7 hown' hgrow _
          obtain ⟨va7, vc7, rfl⟩ := ownG_shape hown'
          have hLA2 := HLA.out.below ((Below.refl wy.heap.size wy).alloc (Nat.le_refl _) (.cells #[.int .i64 (-1)] 3))
          have hgr7 : (wy.alloc (.cells #[.int .i64 (-1)] 3)).grownBy w7 (Value.slice ab (bgTo l c i).length cb).ownBlock := by rw [HBGL.out]; exact hgrow
          have hown7 : w7.ownsRow B 3 1 (.slice va7 (i + 1) vc7) (bgTo l c i ++ [-1]).length ((bgTo l c i ++ [-1]).map (Value.int .i64)) := by
            rw [List.length_append, List.map_append, HBGL.out]; exact hown'
          have HL7 := Lib.hid (hLA2.growB hown7 hgr7)
          have hkp : ∀ g, g < wy.heap.size → (Value.slice ab (bgTo l c i).length cb).ownBlock ≠ some g → w7.heap[g]? = wy.heap[g]? := fun g hg hne => (hgr7.block g (by simp; omega) (fun e => hne e.symm)).trans (Below.heap_alloc _ _ _ hg)
          have hpy : p < wy.heap.size := Nat.lt_of_lt_of_le HLA.out.box.lt (Nat.le_refl _)
          have hbx7 := HLA.out.box.of_heap (hkp p hpy (own_ty HLA.out.ob HLA.out.box (by decide)))
          have f1 := hbx7.free 1
          have f1c := hbx7.cell 1
          simp only [List.getElem?_cons_zero, List.getElem?_cons_succ] at f1c
          have hp7 := hbx7.lt
          have HB7 := Lib.hid ((HBY.out.trans ((Below.refl B wy).alloc hBy (.cells #[.int .i64 (-1)] 3))).grown hgr7 (by simp; omega) (fun q hq => (HLA.out.ob.lt q hq).1))
          have hfb7 : w7.heap[wx.heap.size]? = wy.heap[wx.heap.size]? := hkp _ HFB.out.lt (own_ty HLA.out.ob HFB.out (by decide))
          have HFB7 := Lib.hid (Blk.setOther (HFB.out.of_heap hfb7) (a := ⟨p, 1, none⟩) (by show wx.heap.size ≠ p; omega) (.slice va7 (i + 1) vc7))
          have hci7 := ((Below.cell HB7.out (p := ⟨gc, i, none⟩) hgcB).trans (HC2.out.cell hin))
          rw [← HCCI.out] at hci7
          have hgc7 : gc < w7.heap.size := by have := hgr7.size; simp at this; omega
          have hne7 : gc ≠ p := by have := HLA.out.hp; omega
          clear hown' hgrow hLA2 hgr7 hown7 hkp hbx7 hfb7 p1y hciy
          go_upto_region 19 with fail
          have hci8 : (w7.setCell ⟨p, 1, none⟩ (.slice va7 (i + 1) vc7)).cell? ⟨gc, i, none⟩ = some (.int .i64 (cci : Int)) := (World.cell?_of_block (a := ⟨gc, i, none⟩) (Below.heap_setCell _ _ _ _ hne7)).trans hci7
          have HB8 := Lib.hid (HB7.out.setCell (p := (⟨p, 1, none⟩ : Addr)) HLA.out.hp (.slice va7 (i + 1) vc7))
          generalize (w7.setCell ⟨p, 1, none⟩ (.slice va7 (i + 1) vc7)) = w8 at HL7 HFB7 hci8 HB8 ⊢
          clear f1 f1c hp7 HB7 hci7 hgc7 hne7
          have hgc8 : gc < w8.heap.size := Nat.lt_of_lt_of_le hgcB (by rw [HBE.out]; exact HB8.out.size)
          by_cases hci : cci = i
          · have t1 : ((cci : Int) == (i : Int)) = true := by simp [hci]
            have HCI : Hid (c i = i) := by show _ = _; rw [← HCCI.out]; exact hci
            clear hci
            go_wp2_with fail
            obtain ⟨gb, cb7, hvb, _, hgbl, _, _⟩ := ownG_has HL7.out.ob (by simp)
            injection hvb with hvb hvb2 hvb3
            clear hvb2
            subst hvb hvb3
            have hbln : (bgTo l c i ++ [-1]).length = i + 1 := by rw [List.length_append, HBGL.out]; rfl
            have HL7b := HL7.out
            rw [show Value.slice (some ⟨gb, 0, none⟩) (i + 1) vc7 = .slice (some ⟨gb, 0, none⟩) (bgTo l c i ++ [-1]).length vc7 by rw [hbln]] at HL7b
            have hbeg := HL7b.begin (i := i) (by omega)
            have hset := HL7b.setB (i := i) (z := ((bpos l c i : Nat) : Int)) (by omega)
            have hsl : (bgTo l c i ++ [-1]).set i ((bpos l c i : Nat) : Int) = bgTo l c (i + 1) := by
              show (bgTo l c i ++ [-1]).set i _ = bgTo l c i ++ [if c i = i then ((bpos l c i : Nat) : Int) else -1]
              rw [List.set_append_right _ _ (by rw [HBGL.out]; omega), HBGL.out, Nat.sub_self, if_pos HCI.out]
              rfl
            rw [hsl, hbln] at hset
            have HL9 := Lib.hid hset
            have HB9 := Lib.hid (HB8.out.setCell (p := (⟨gb, i, none⟩ : Addr)) hbeg.2.2.1 (.int .i64 ((bpos l c i : Nat) : Int)))
            have HFB9 := Lib.hid (Blk.setOther HFB7.out (a := ⟨gb, i, none⟩) (fun e => own_ty HL7.out.ob HFB7.out (by decide) (by rw [show wx.heap.size = gb from e]; rfl)) (.int .i64 ((bpos l c i : Nat) : Int)))
            have p1c : w8.cell? ⟨p, 1, none⟩ = some (.slice (some ⟨gb, 0, none⟩) (i + 1) vc7) := HL7.out.box.cell 1
            have p0c : w8.cell? ⟨p, 0, none⟩ = some (.slice ai (itsTo l c i).length ci) := HL7.out.box.cell 0
            rw [itsTo_len] at p0c
            have r0 := fun z : AfterR (KeptP fun g => g = p) w8.drew => (World.cell?_of_block (a := ⟨p, 0, none⟩) (z.rel p rfl)).trans p0c
            have r1 := fun z : AfterR (KeptP fun g => g = p) w8.drew => (World.cell?_of_block (a := ⟨p, 1, none⟩) (z.rel p rfl)).trans p1c
            have f0 := hbeg.2.1
            have f0c := hbeg.1
            have hii : (i : Int) < ((i + 1 : Nat) : Int) := by omega
            have hii2 : (i : Int) < (i : Int) + 1 := by omega
            generalize (bgTo l c i ++ [-1])[i]'(by omega) = oldb at f0c
            have hgb8 := hbeg.2.2.2
            clear hbeg hset hsl hbln p0c p1c HL7b hci8
            refine wp_region_eagerRT (KeptP fun g => g = p) [(0, true), (1, true), (2, true), (3, true), (4, true), (5, true), (6, true), (7, true), (8, true), (9, true), (10, true), (11, false)] (by kernel_rfl) (by kernel_rfl) ?_
            repeat (refine eagR_readT rfl ?_; go_big_quiet_step (fail); refine wpQuiet_nil ?_)
            clear r0 r1
            refine eagR_freeT rfl rfl (by kernel_rfl) ?_
            intro K hK
            go_simp
            refine hK _ _ ?_
            clear hK K f0 f0c
            go_simp
            refine eagR_endT ?_
            have HLA9 := Lib.hid (HL9.out.below (Below.refl _ _).drew)
            have HBD9 := Lib.hid HB9.out.drew
            have HFD9 := Lib.hid HFB9.out.drew
            generalize (w8.setCell ⟨gb, i, none⟩ (.int .i64 ((bpos l c i : Nat) : Int))).drew = w9 at HLA9 HBD9 HFD9 ⊢
            have e0 : w9.cell? ⟨wx.heap.size, 0, none⟩ = some (.int .i64 f.name) := HFD9.out.cell 0
            have e1 : w9.cell? ⟨wx.heap.size, 1, none⟩ = some (.slice f.ia f.il f.ic) := HFD9.out.cell 1
            have e2 : w9.cell? ⟨wx.heap.size, 2, none⟩ = some (.slice f.ca f.cl f.cc) := HFD9.out.cell 2
            have e3 : w9.cell? ⟨wx.heap.size, 3, none⟩ = some (.slice f.ma f.ml f.mc) := HFD9.out.cell 3
            have e4 : w9.cell? ⟨wx.heap.size, 4, none⟩ = some (.int .i64 f.size) := HFD9.out.cell 4
            have hfn := HFN.out i hin
            rw [HFE.out] at hfn
            have hbb := HBB.out i hi
            have hsh := hfn.short
            have htg : ∀ x ∈ f.its, x.tg ≤ 100000 := fun x hx => by
              obtain ⟨t, ht, rfl⟩ := List.getElem_of_mem hx
              rcases hfn.at ht with ⟨_, q, _⟩ | ⟨q, _⟩ <;> omega
            have hfil := HFO.out.ilen
            have HADD := Lib.hid (lkAdd_any w3 w9 B p _ _ _ (itsTo l c i) (bgTo l c (i + 1)) [] HLA9.out f (HFO.out.below HB2.out) (by rw [HBE.out]; exact Nat.le_refl _) (by rw [← HBE.out]; exact HBD9.out) htg (by rw [itsTo_len]; omega) (by omega))
            unfold LF.v at HADD
            clear hfn hbb hsh htg hfil
            go_wp2_with fail
            refine HADD.out.mono ?_
            rintro e wa ⟨va9, vi9, rfl, hlka, hba⟩
            have HLN : Hid (LK B wa p vi9 (.slice (some ⟨gb, 0, none⟩) (i + 1) vc7) (.slice aa ([] : List (Int × Int)).length ca) (itsTo l c (i + 1)) (bgTo l c (i + 1)) []) := by
              have e9 : itsTo l c (i + 1) = itsTo l c i ++ f.its.map (shiftI (itsTo l c i).length) := by
                show (if c i = i then itsTo l c i ++ (fnAt l i).its.map (shiftI (bpos l c i)) else itsTo l c i) = _
                rw [if_pos HCI.out, itsTo_len, HFE.out]
              rw [e9]
              exact hlka
            have HBN := Lib.hid (HBD9.out.trans hba)
            clear hlka hba e0 e1 e2 e3 e4
            go_wp2_with fail
            go_roundw
            case rel => exact ⟨i + 1, _, _, _, by omega, by go_num, HLN.out, HBN.out⟩
            case measure => simp [intOf]; omega
          · have t1 : ((cci : Int) == (i : Int)) = false := by simp; omega
            have HLN : Hid (LK B w8 p (.slice ai (itsTo l c i).length ci) (.slice va7 (i + 1) vc7) (.slice aa ([] : List (Int × Int)).length ca) (itsTo l c (i + 1)) (bgTo l c (i + 1)) []) := by
              have hne : ¬ c i = i := fun e => hci (by rw [HCCI.out, e])
              have e8 : itsTo l c (i + 1) = itsTo l c i := by
                show (if c i = i then itsTo l c i ++ (fnAt l i).its.map (shiftI (bpos l c i)) else itsTo l c i) = _
                rw [if_neg hne]
              have e9 : bgTo l c (i + 1) = bgTo l c i ++ [-1] := by
                show bgTo l c i ++ [if c i = i then ((bpos l c i : Nat) : Int) else -1] = _
                rw [if_neg hne]
              rw [e8, e9]
              exact HL7.out
            clear hci
            go_wp2_with fail
            go_roundw
            case rel => exact ⟨i + 1, _, _, _, by omega, by go_num, HLN.out, HB8.out⟩
            case measure => simp [intOf]; omega
        · have hin2 : i = n := by omega
          subst hin2
          have HLK := Lib.hid hlk
          have hN := HBB.out i (Nat.le_refl _)
          have hcm : c main < i := by have := HI.out.lt (k := main) HI.out.main; rwa [HL.out] at this
          have hcmr : c (c main) = c main := HI.out.rep main HI.out.main
          have hbm := bgTo_get l c i (c main) hcm
          rw [if_pos hcmr] at hbm
          obtain ⟨gb, cb7, hvb, _, hgbl, _, _⟩ := ownG_has hlk.ob (by omega)
          injection hvb with hvb hvb2 hvb3
          clear hvb2
          subst hvb hvb3
          obtain ⟨gi, ci7, hvi, hgiB, hgil, _, _⟩ := ownG_has hlk.oi (by rw [itsTo_len]; have := bpos_two l c i; omega)
          injection hvi with hvi hvi2 hvi3
          clear hvi2
          subst hvi hvi3
          obtain ⟨N, hNN⟩ : ∃ N, N = bpos l c i := ⟨_, rfl⟩
          obtain ⟨bm, hbmN⟩ : ∃ bm, bm = bpos l c (c main) := ⟨_, rfl⟩
          obtain ⟨cm, hcmN⟩ : ∃ cm, cm = c main := ⟨_, rfl⟩
          have hbeg := hlk.begin (i := c main) (by rw [hbgl]; exact hcm)
          rw [List.getElem?_eq_getElem (by rw [hbgl]; exact hcm), Option.some.injEq] at hbm
          rw [hbm, ← hbmN, ← hcmN] at hbeg
          have hi0 : 0 < (itsTo l c i).length := by rw [itsTo_len]; have := bpos_two l c i; omega
          have h00 := itsTo_zero l c i
          rw [List.getElem?_eq_getElem hi0, Option.some.injEq] at h00
          have hit := hlk.item hi0
          have hset := hlk.setI (i := 0) (j := 5) (u := .int .i64 ((bm : Nat) : Int)) (y := ⟨20, 0, 0, 0, 0, ((bm : Nat) : Int)⟩) hi0 (by omega) (by rw [h00]; rfl)
          have HL0 : Hid (LK B (wx.setCell ⟨gi, 5, none⟩ (.int .i64 ((bm : Nat) : Int))) p (.slice (some ⟨gi, 0, none⟩) N ci) (.slice (some ⟨gb, 0, none⟩) i cb) (.slice aa ([] : List (Int × Int)).length ca) (refsTo l c i main 0).1 (bgTo l c i) (refsTo l c i main 0).2) := by
            have e9 : (refsTo l c i main 0) = ((itsTo l c i).set 0 ⟨20, 0, 0, 0, 0, ((bm : Nat) : Int)⟩, []) := by rw [hbmN]; rfl
            rw [e9]
            have h9 := hset
            rw [hbgl, itsTo_len, ← hNN] at h9
            exact h9
          have f5 := hit.2.1 5 (by omega)
          have c5 := hit.1.c5
          simp only [Nat.zero_mul, Nat.zero_add] at f5 c5
          rw [h00] at c5
          have p0c : wx.cell? ⟨p, 0, none⟩ = some (.slice (some ⟨gi, 0, none⟩) (itsTo l c i).length ci) := hlk.box.cell 0
          have p1c : wx.cell? ⟨p, 1, none⟩ = some (.slice (some ⟨gb, 0, none⟩) (bgTo l c i).length cb) := hlk.box.cell 1
          rw [itsTo_len, ← hNN] at p0c
          rw [hbgl] at p1c
          have hgcB : gc < B := by rw [HBE.out]; exact Blk.lt HC2.out
          have kc := (Below.cell hbe (p := ⟨gc, main, none⟩) hgcB).trans (HC2.out.cell hmn)
          rw [← hcmN] at kc
          have hN2 : 2 ≤ N := by rw [hNN]; exact bpos_two l c i
          have hcmI : (cm : Int) < (i : Int) := by omega
          have HNN := Lib.hid hNN
          have HBX2 := Lib.hid (hbe.setCell (p := (⟨gi, 5, none⟩ : Addr)) hgiB (.int .i64 ((bm : Nat) : Int)))
          have r0 := fun z : AfterR (KeptP fun g => g = p ∨ g = gc ∨ g = gb) wx.drew => (World.cell?_of_block (a := ⟨p, 0, none⟩) (z.rel p (.inl rfl))).trans p0c
          have r1 := fun z : AfterR (KeptP fun g => g = p ∨ g = gc ∨ g = gb) wx.drew => (World.cell?_of_block (a := ⟨p, 1, none⟩) (z.rel p (.inl rfl))).trans p1c
          have r2 := fun z : AfterR (KeptP fun g => g = p ∨ g = gc ∨ g = gb) wx.drew => (World.cell?_of_block (a := ⟨gc, main, none⟩) (z.rel gc (.inr (.inl rfl)))).trans kc
          have r3 := fun z : AfterR (KeptP fun g => g = p ∨ g = gc ∨ g = gb) wx.drew => (World.cell?_of_block (a := ⟨gb, cm, none⟩) (z.rel gb (.inr (.inr rfl)))).trans hbeg.1
          have hN0 : (0 : Int) < (N : Int) := by omega
          clear hlk hbe hbgl hN hcmr hbm hNN hbmN hcmN hbeg h00 hit hset p0c p1c kc
          go_wp2_with fail
          refine wp_region_eagerRT (KeptP fun g => g = p ∨ g = gc ∨ g = gb) [(0, true), (1, true), (2, true), (3, true), (4, true), (5, true), (6, true), (7, true), (8, true), (9, true), (10, true), (11, true), (12, true), (13, true), (14, true), (15, true), (16, false)] (by kernel_rfl) (by kernel_rfl) ?_
          repeat (refine eagR_readT rfl ?_; go_big_quiet_step (fail); refine wpQuiet_nil ?_)
          clear r0 r1 r2 r3
          refine eagR_freeT rfl rfl (by kernel_rfl) ?_
          intro K hK
          go_simp
          refine hK _ _ ?_
          clear hK K f5 c5
          go_simp
          refine eagR_endT ?_
          have HL1 := Lib.hid (HL0.out.below (Below.refl _ _).drew)
          have HB1X := Lib.hid HBX2.out.drew
          generalize (wx.setCell ⟨gi, 5, none⟩ (.int .i64 ((bm : Nat) : Int))).drew = w5 at HL1 HB1X ⊢
          clear HL0 HBX2 HLK
          go_wp2_with fail
          have HFC : Hid (∀ k, k < i → (fnAt l k).calls.length ≤ 16384) := fun k hk => Nat.le_trans (HFN.out k hk).few (HFN.out k hk).short
          go_loopw [126] (fun u wr => ∃ (j : Nat) (va : Value), j ≤ i ∧ u = .int .i64 (j : Int) ∧ LK B wr p (.slice (some ⟨gi, 0, none⟩) N ci) (.slice (some ⟨gb, 0, none⟩) i cb) va (refsTo l c i main j).1 (bgTo l c i) (refsTo l c i main j).2 ∧ Below B w3 wr) (fun u _ => i - (intOf u).toNat)
          case atStart => exact ⟨0, _, Nat.zero_le _, rfl, HL1.out, HB1X.out⟩
          case round =>
            clear HL1 HB1X
            obtain ⟨j, va, hj, rfl, hlk, hbe⟩ := hrel
            obtain ⟨wx2, hwx2⟩ : ∃ wx2, wx2 = wr := ⟨_, rfl⟩
            rw [← hwx2] at hlk hbe ⊢
            clear hwx2
            have HLK := Lib.hid hlk
            have HBE2 := Lib.hid hbe
            by_cases hji : j < i
            · have hjl : j < l.length := by have := HL.out; omega
              have hw3B : w3.heap.size ≤ B := by rw [HBE.out]; exact Nat.le_refl _
              have hbw3 : Below w3.heap.size w3 wx2 := by rw [← HBE.out]; exact hbe
              obtain ⟨off2, hofs, hcl2⟩ : ∃ off2, off2 = off2 ∧ ∃ gl2, a = some ⟨gl2, off2, none⟩ ∧ gl2 < w3.heap.size ∧ LfAt wx2 gl2 (off2 + j * 5) l[j] := by
                obtain ⟨gl2, off2, e1, e2, e3⟩ := came_lfs (H.out.below HB2.out).came (by omega)
                exact ⟨off2, rfl, gl2, e1, e2, (e3 j hjl).later hbw3 e2⟩
              obtain ⟨gl2, rfl, hgl2, d0, d1, d2, d3, d4⟩ := hcl2
              have hglx : gl2 < wx2.heap.size := Nat.lt_of_lt_of_le hgl2 hbw3.size
              have HFO := Lib.hid ((H.out.ok _ (List.getElem_mem hjl)).below HB2.out)
              have HFE : Hid (fnAt l j = l[j]) := fnAt_get hjl
              generalize l[j] = f at d0 d1 d2 d3 d4 HFO HFE
              have hcj0 := (hbw3.cell (p := ⟨gc, j, none⟩) (Blk.lt HC2.out)).trans (HC2.out.cell hji)
              have hgcx : gc < wx2.heap.size := Nat.lt_of_lt_of_le (Blk.lt HC2.out) hbw3.size
              have hjI : (j : Int) < (i : Int) := by omega
              have hby : Below wx2.heap.size wx2 (wx2.alloc (.cells #[.int .i64 f.name, .slice f.ia f.il f.ic, .slice f.ca f.cl f.cc, .slice f.ma f.ml f.mc, .int .i64 f.size] 53)) := (Below.refl _ _).alloc (Nat.le_refl _) _
              have hfb : Blk (wx2.alloc (.cells #[.int .i64 f.name, .slice f.ia f.il f.ic, .slice f.ca f.cl f.cc, .slice f.ma f.ml f.mc, .int .i64 f.size] 53)) wx2.heap.size 53 (lfC f) := Blk.new wx2 _ _
              obtain ⟨cj, hcj⟩ : ∃ cj, cj = c j := ⟨_, rfl⟩
              rw [← hcj] at hcj0
              have HCJ := Lib.hid hcj
              have hBx2 : B ≤ wx2.heap.size := by rw [HBE.out]; exact hbw3.size
              clear hofs hcj hlk hbe hbw3
              go_upto_region 27 with fail
              generalize (wx2.alloc (.cells #[.int .i64 f.name, .slice f.ia f.il f.ic, .slice f.ca f.cl f.cc, .slice f.ma f.ml f.mc, .int .i64 f.size] 53)) = wy at hby hfb ⊢
              have hcjy := (hby.cell (p := ⟨gc, j, none⟩) hgcx).trans hcj0
              have HLY := Lib.hid (HLK.out.below hby)
              have HBY := Lib.hid (HBE2.out.trans (hby.mono hBx2))
              have HFB := Lib.hid hfb
              clear hby hfb hcj0 d0 d1 d2 d3 d4
              by_cases hcje : cj = j
              · have t1 : ((cj : Int) == (j : Int)) = true := by simp [hcje]
                have HCJE : Hid (c j = j) := by show _ = _; rw [← HCJ.out]; exact hcje
                clear hcje
                go_wp2_with fail
                have hpy := HLY.out.box.lt
                have p1c : wy.cell? ⟨p, 1, none⟩ = some (.slice (some ⟨gb, 0, none⟩) i cb) := HLY.out.box.cell 1
                have hbgl := bgTo_len l c i
                have hLYb := HLY.out
                rw [show Value.slice (some ⟨gb, 0, none⟩) i cb = .slice (some ⟨gb, 0, none⟩) (bgTo l c i).length cb by rw [hbgl]] at hLYb
                have hbeg := hLYb.begin (i := j) (by rw [hbgl]; exact hji)
                have hbv := bgTo_get l c i j hji
                rw [if_pos HCJE.out, List.getElem?_eq_getElem (by rw [hbgl]; exact hji), Option.some.injEq] at hbv
                rw [hbv] at hbeg
                obtain ⟨bj, hbj⟩ : ∃ bj, bj = bpos l c j := ⟨_, rfl⟩
                rw [← hbj] at hbeg
                have HBJ := Lib.hid hbj
                have e0 : wy.cell? ⟨wx2.heap.size, 0, none⟩ = some (.int .i64 f.name) := HFB.out.cell 0
                have e1 : wy.cell? ⟨wx2.heap.size, 1, none⟩ = some (.slice f.ia f.il f.ic) := HFB.out.cell 1
                have e2 : wy.cell? ⟨wx2.heap.size, 2, none⟩ = some (.slice f.ca f.cl f.cc) := HFB.out.cell 2
                have e3 : wy.cell? ⟨wx2.heap.size, 3, none⟩ = some (.slice f.ma f.ml f.mc) := HFB.out.cell 3
                have e4 : wy.cell? ⟨wx2.heap.size, 4, none⟩ = some (.int .i64 f.size) := HFB.out.cell 4
                have r0 := fun z : AfterR (KeptC p gb j) wy.drew => z.rel.2.1.trans p1c
                have r1 := fun z : AfterR (KeptC p gb j) wy.drew => z.rel.2.2.trans hbeg.1
                have q0 : ∀ z : AfterR (KeptC p gb j) wy.drew, z.world.cell? ⟨wx2.heap.size, 0, none⟩ = some (.int .i64 f.name) := fun z => (z.rel.1 _ _ HFB.out.drew).cell 0
                have q1 : ∀ z : AfterR (KeptC p gb j) wy.drew, z.world.cell? ⟨wx2.heap.size, 1, none⟩ = some (.slice f.ia f.il f.ic) := fun z => (z.rel.1 _ _ HFB.out.drew).cell 1
                have q2 : ∀ z : AfterR (KeptC p gb j) wy.drew, z.world.cell? ⟨wx2.heap.size, 2, none⟩ = some (.slice f.ca f.cl f.cc) := fun z => (z.rel.1 _ _ HFB.out.drew).cell 2
                have q3 : ∀ z : AfterR (KeptC p gb j) wy.drew, z.world.cell? ⟨wx2.heap.size, 3, none⟩ = some (.slice f.ma f.ml f.mc) := fun z => (z.rel.1 _ _ HFB.out.drew).cell 3
                have q4 : ∀ z : AfterR (KeptC p gb j) wy.drew, z.world.cell? ⟨wx2.heap.size, 4, none⟩ = some (.int .i64 f.size) := fun z => (z.rel.1 _ _ HFB.out.drew).cell 4
                have HSLE : Hid (Value.slice (some ⟨gb, 0, none⟩) i cb = .slice (some ⟨gb, 0, none⟩) (bgTo l c i).length cb) := by show _ = _; rw [hbgl]
                have HPC := Lib.hid p1c
                have HGC9 : Hid (wy.cell? ⟨gb, j, none⟩ = ((bgTo l c i).map (Value.int .i64))[j]?) := (ownG_cellAt hLYb.ob (j := j) (by rw [hbgl]; omega)).1
                have HBGL9 := Lib.hid hbgl
                have hfn := HFN.out j hji
                have hbn := bpos_next l c hji HCJE.out
                rw [HFE.out] at hfn hbn
                have hcll := HFO.out.clen
                have hfew := hfn.few
                have hsh := hfn.short
                have hrl := refsTo_len l c i main j
                have hra := refsTo_ads (c := c) i main HFC.out j hj
                have hN := HBB.out i (Nat.le_refl _)
                have HRF := Lib.hid (lkRefs_any w3 wy.drew B p _ _ _ (refsTo l c i main j).1 (bgTo l c i) (refsTo l c i main j).2 (HLY.out.below (Below.refl _ _).drew) f HFO.out hw3B (by have := HBY.out.drew; rw [HBE.out] at this; exact this) (bpos l c j) gc i c HC2.out
                  (fun x hx => by have h1 := hfn.calls x hx; rw [hrl]; exact ⟨h1.1, by omega⟩)
                  (fun x hx => by
                    have h1 := hfn.calls x hx
                    have h2 := HI.out.lt (k := x.fn.toNat) (by have := HL.out; omega)
                    rw [HL.out] at h2
                    exact ⟨h1.2.2.1, h1.2.2.2.1, by rw [hbgl]; exact h2⟩)
                  (by rw [hrl]; omega) (by omega))
                unfold LF.v at HRF
                rw [← HBJ.out] at HRF
                clear p1c hbgl hLYb hbeg hbv hbj e0 e1 e2 e3 e4 hfn hbn hcll hfew hsh hrl hra hN
                refine wp_region_eagerRT (KeptC p gb j) [(0, true), (1, true), (2, true), (3, true), (4, true), (5, true), (6, true), (7, true), (8, true), (9, true), (10, false)] (by kernel_rfl) (by kernel_rfl) ?_
                repeat (refine eagR_readT rfl ?_; go_big_quiet_step (fail); refine wpQuiet_nil ?_)
                clear r0 r1 q0 q1 q2 q3 q4
                refine eagR_doesT rfl rfl ?_
                intro K hK
                go_simp
                refine HRF.out.mono ?_
                rintro e wz ⟨vz, vaz, rfl, hlkz, hbz, hkz⟩
                refine hK _ _ (fun _ => ⟨hkz, (hlkz.box.cell 1).trans HPC.out.symm, ?_⟩) ?_
                · have h9 := hlkz.ob
                  rw [HSLE.out] at h9
                  exact (ownG_cellAt h9 (j := j) (by rw [HBGL9.out]; omega)).1.trans HGC9.out.symm
                have HLN : Hid (LK B wz p (.slice (some ⟨gi, 0, none⟩) N ci) (.slice (some ⟨gb, 0, none⟩) i cb) vaz (refsTo l c i main (j + 1)).1 (bgTo l c i) (refsTo l c i main (j + 1)).2) := by
                  have e9 : refsTo l c i main (j + 1) = f.calls.foldl (refStep (bgTo l c i) c bj) (refsTo l c i main j) := by
                    show (if c j = j then (fnAt l j).calls.foldl (refStep (bgTo l c i) c (bpos l c j)) (refsTo l c i main j) else refsTo l c i main j) = _
                    rw [if_pos HCJE.out, HFE.out, HBJ.out]
                  rw [e9]
                  exact hlkz
                have HBN := Lib.hid (HBY.out.trans ((Below.refl B wy).drew.trans hbz))
                clear hK K hlkz hbz HRF
                go_simp
                refine eagR_endT ?_
                go_wp2_with fail
                go_roundw
                case rel => exact ⟨j + 1, _, by omega, by go_num, HLN.out, HBN.out⟩
                case measure => simp [intOf]; omega
              · have t1 : ((cj : Int) == (j : Int)) = false := by simp; omega
                have HLN : Hid (LK B wy p (.slice (some ⟨gi, 0, none⟩) N ci) (.slice (some ⟨gb, 0, none⟩) i cb) va (refsTo l c i main (j + 1)).1 (bgTo l c i) (refsTo l c i main (j + 1)).2) := by
                  have e9 : refsTo l c i main (j + 1) = refsTo l c i main j := by
                    show (if c j = j then (fnAt l j).calls.foldl (refStep (bgTo l c i) c (bpos l c j)) (refsTo l c i main j) else refsTo l c i main j) = _
                    rw [if_neg (fun e => hcje (by rw [HCJ.out, e]))]
                  rw [e9]
                  exact HLY.out
                clear hcje
                go_wp2_with fail
                go_roundw
                case rel => exact ⟨j + 1, _, by omega, by go_num, HLN.out, HBY.out⟩
                case measure => simp [intOf]; omega
            · have hji2 : j = i := by omega
              subst hji2
              have hfs : refsTo l c j main j = finS l c main := by unfold finS; rw [HL.out]
              rw [hfs] at HLK
              have hw3B : w3.heap.size ≤ B := by rw [HBE.out]; exact Nat.le_refl _
              have hNb := HBB.out j (Nat.le_refl _)
              have hfl : (finS l c main).1.length = bpos l c j := by rw [finS_len, HL.out]
              have hIN : ImgIn w3 wx2 B p (.slice (some ⟨gi, 0, none⟩) N ci) (.slice (some ⟨gb, 0, none⟩) j cb) va (finS l c main).1 (bgTo l c j) (finS l c main).2 a j cp l gc c (bpos l c) := by
                refine ⟨HLK.out, H.out.below HB2.out, hw3B, by rw [← HBE.out]; exact hbe, HC2.out, fun k hk => ⟨?_, HI.out.rep k (by have := HL.out; omega)⟩, bgTo_len l c j, fun k hk hc => ?_, fun k hk hc => ?_, fun f hf => ?_, hn256, fun h16 => HI.out.items (by rw [HL.out, ← hfl]; exact h16), HI.out.ads, ?_, by rw [hfl]; omega⟩
                · have := HI.out.lt (k := k) (by have := HL.out; omega); rwa [HL.out] at this
                · rw [bgTo_get l c j k hk, if_pos hc]
                · have h1 := bpos_next l c (show k < j by have := HL.out; omega) hc
                  rw [fnAt_get hk, (H.out.ok _ (List.getElem_mem hk)).ilen] at h1
                  rw [hfl]
                  exact h1
                · obtain ⟨t, ht, rfl⟩ := List.getElem_of_mem hf
                  have h1 := HI.out.fn t ht
                  rw [fnAt_get ht] at h1
                  have h2 := (H.out.ok _ (List.getElem_mem ht)).ilen
                  rw [← h2]
                  exact ⟨h1.maps, h1.some_, h1.short⟩
                · have h1 := refsTo_ads (c := c) j main HFC.out j (Nat.le_refl _)
                  rw [hfs] at h1
                  omega
              have HIM := Lib.hid (image_any w3 wx2 B p _ _ _ _ _ _ a j cp l gc c (bpos l c) long hIN)
              have HR9 : Hid (Blk wx2 w.heap.size 60 zImg) := Blk.of_heap HR2.out (hbe.block _ hwB1)
              clear hIN hfl hNb hfs hlk hbe
              go_wp2_with fail
              refine HIM.out.mono ?_
              rintro e w9 (⟨hwhy, rfl, hb9⟩ | ⟨h16, hb9, L, vc, vs, vm, ga, rfl, hok⟩)
              · have HRR := Lib.hid (HR9.out.below hb9 HR9.out.lt)
                have HBR : Hid (Below w.heap.size w w9) := HB2.out.trans ((HBE2.out.mono hwB).trans (hb9.mono (by have := HBE2.out.size; have := HB2.out.size; omega)))
                have HWHY := Lib.hid hwhy
                clear hb9 HIM hwhy
                go_wp2_with (refine wpList_store_rowTo rfl 60 _ _ rfl rfl w.heap.size #[.slice none 0 0, .int .i64 0, .slice none 0 0, .slice none 0 0, .slice none 0 0] rfl rfl _ _ HRR.out HSZ.out rfl zero5 ?_)
                have hr4 := setRowBlkL HRR.out [.slice none 0 0, .int .i64 0, .slice none 0 0, .slice none 0 0, .slice none 0 0]
                exact bodyPost_ret (results_row_twoL rfl _ _ w.heap.size _ _ _ _ rfl hr4 Try.underlying60 rfl HSZ.out) rfl (.inl ⟨HWHY.out, rfl, HBR.out.trans ((setRow_rest w9 w.heap.size _).below (Nat.le_refl _) (by have := HBR.out.size; omega))⟩)
              · obtain ⟨h1, h2, h3, h4, ⟨vma, vmn, vmc, rfl⟩, h6⟩ := hok
                obtain ⟨vca, vcc, rfl⟩ := ownG_shape h3
                obtain ⟨vsa, vsc, rfl⟩ := ownG_shape h4
                obtain ⟨mc, hmc⟩ : ∃ mc, mc = (patch (posL (allL (finS l c main).1 long L)) (finS l c main).2 (codeTo (finS l c main).1 (allL (finS l c main).1 long L) (finS l c main).1.length)).length := ⟨_, rfl⟩
                obtain ⟨ms, hms⟩ : ∃ ms, ms = ((repsL c j).map fun r => posL (allL (finS l c main).1 long L) (bpos l c r)).length := ⟨_, rfl⟩
                have HMC := Lib.hid hmc
                have HMS := Lib.hid hms
                have HK1 := Lib.hid h1
                have HK2 := Lib.hid h2
                have HK3 := Lib.hid h3
                have HK4 := Lib.hid h4
                have HK6 := Lib.hid h6
                have HK16 := Lib.hid h16
                have hwx2 : w.heap.size < wx2.heap.size := HR9.out.lt
                have HRR := Lib.hid (HR9.out.below hb9 HR9.out.lt)
                have HBR : Hid (Below w.heap.size w w9) := HB2.out.trans ((HBE2.out.mono hwB).trans (hb9.mono (by have := HBE2.out.size; have := HB2.out.size; omega)))
                rw [← hmc, ← hms]
                clear hb9 HIM h1 h2 h3 h4 h6 h16 hmc hms
                go_wp2_with (refine wpList_store_rowTo rfl 60 _ _ rfl rfl w.heap.size #[.slice vca mc vcc, .int .i64 0, .slice vsa ms vsc, .slice vma vmn vmc, .slice none 0 0] rfl rfl _ _ HRR.out HSZ.out rfl (five_one _ _ _ _ _ _ _ _ _) ?_)
                have hr4 := setRowBlkL HRR.out [.slice vca mc vcc, .int .i64 0, .slice vsa ms vsc, .slice vma vmn vmc, .slice none 0 0]
                have hkp : ∀ g, g ≠ w.heap.size → g < w9.heap.size → (w9.setRow w.heap.size #[.slice vca mc vcc, .int .i64 0, .slice vsa ms vsc, .slice vma vmn vmc, .slice none 0 0]).heap[g]? = w9.heap[g]? := fun g hg hl => (setRow_rest w9 w.heap.size _).block g hl hg
                refine bodyPost_ret (results_row_twoL rfl _ _ w.heap.size _ _ _ _ rfl hr4 Try.underlying60 rfl HSZ.out) rfl (.inr ⟨HK16.out, HBR.out.trans ((setRow_rest w9 w.heap.size _).below (Nat.le_refl _) (by have := HBR.out.size; omega)), L, .slice vca mc vcc, .slice vsa ms vsc, .slice vma vmn vmc, ga, rfl, ?_⟩)
                rw [HMC.out, HMS.out] at hkp ⊢
                refine ⟨HK1.out, HK2.out, ?_, ?_, ⟨_, _, _, rfl⟩, ?_⟩
                · refine ownG_base (ownG_kept HK3.out fun g hg => ?_) (Nat.le_of_lt hwx2)
                  have hg1 := HK3.out.lt g hg
                  exact hkp g (by omega) hg1.2
                · refine ownG_base (ownG_kept HK4.out fun g hg => ?_) (Nat.le_of_lt hwx2)
                  have hg1 := HK4.out.lt g hg
                  exact hkp g (by omega) hg1.2
                · refine Blk.of_heap HK6.out (hkp ga (fun e => ?_) HK6.out.lt)
                  have h1 : w9.heap[ga]? = _ := HK6.out
                  have h2 : w9.heap[w.heap.size]? = _ := HRR.out
                  rw [e, h2] at h1
                  injection h1 with h1
                  injection h1 with _ h1 _
                  exact absurd h1 (by decide)
end Go.Proofs.Ytkafbihlmhdjeab
