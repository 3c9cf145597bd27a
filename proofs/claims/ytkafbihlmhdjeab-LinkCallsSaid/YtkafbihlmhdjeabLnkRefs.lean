/- The form of references and stack maps: link's checkRefs. -/
import Derived.Test.YtkafbihlmhdjeabLnk
import Derived.Test.YtkafbihlmhdjeabRefB
namespace Go.Proofs.Ytkafbihlmhdjeab
open Go.RowKit
set_option linter.unusedVariables false
set_option linter.unusedSimpArgs false

def nilItem : Item := ⟨0, 0, 0, 0, 0, 0⟩
def callE (its : List Item) (many : Nat) (last : Int) (c : LC) : Int :=
  if c.item ≤ last ∨ (its.length : Int) ≤ c.item ∨ c.fn < 0 ∨ (many : Int) ≤ c.fn then 4
  else if ((its.getD c.item.toNat nilItem).op ≠ 20 ∧ (its.getD c.item.toNat nilItem).op ≠ 11) ∨ 0 ≤ (its.getD c.item.toNat nilItem).tg ∨ (its.getD c.item.toNat nilItem).n ≠ 0 then 3 else 0
def callsE (its : List Item) (many : Nat) : Int → List LC → Int
  | _, [] => 0
  | last, c :: cs => if callE its many last c ≠ 0 then callE its many last c else callsE its many c.item cs
def mapE (n : Nat) (last : Int) (m : LM) : Int := if m.item ≤ last ∨ (n : Int) ≤ m.item ∨ (m.after = true ∧ (n : Int) ≤ m.item + 1) then 4 else 0
def mapsE (n : Nat) : Int → List LM → Int
  | _, [] => 0
  | last, m :: ms => if mapE n last m ≠ 0 then mapE n last m else mapsE n m.item ms
def refsE (f : LF) (many : Nat) : Int :=
  if (f.its.any fun x => x.tg == (f.its.length : Int)) = true then 4 else if callsE f.its many (-1) f.calls ≠ 0 then callsE f.its many (-1) f.calls else mapsE f.its.length (-1) f.maps

/-- a function in its box -/
structure BoxL (f : LF) (w wr : World) : Prop where
  be : Below w.heap.size w wr
  box : Blk wr w.heap.size 53 (lfC f)
theorem BoxL.below {f : LF} {w wr wx : World} (h : BoxL f w wr) (hb : Below wr.heap.size wr wx) : BoxL f w wx := ⟨h.be.trans (hb.mono h.be.size), h.box.below hb h.box.lt⟩
theorem BoxL.at {f : LF} {w wr : World} (h : BoxL f w wr) : w.heap.size < wr.heap.size ∧ wr.cell? ⟨w.heap.size, 0, none⟩ = some (.int .i64 f.name) ∧ wr.cell? ⟨w.heap.size, 1, none⟩ = some (.slice f.ia f.il f.ic) ∧ wr.cell? ⟨w.heap.size, 2, none⟩ = some (.slice f.ca f.cl f.cc) ∧ wr.cell? ⟨w.heap.size, 3, none⟩ = some (.slice f.ma f.ml f.mc) ∧ wr.cell? ⟨w.heap.size, 4, none⟩ = some (.int .i64 f.size) := ⟨h.box.lt, h.box.cell 0, h.box.cell 1, h.box.cell 2, h.box.cell 3, h.box.cell 4⟩

theorem callsE_step (its : List Item) (many : Nat) (last : Int) (cs : List LC) {k : Nat} (hk : k < cs.length) (h : callE its many last cs[k] = 0) : callsE its many last (cs.drop k) = callsE its many cs[k].item (cs.drop (k + 1)) := by
  rw [List.drop_eq_getElem_cons hk]
  show (if callE its many last cs[k] ≠ 0 then _ else _) = _
  rw [if_neg (by simp [h])]
theorem callsE_err (its : List Item) (many : Nat) (last : Int) (cs : List LC) {k : Nat} (hk : k < cs.length) (h : callE its many last cs[k] ≠ 0) : callsE its many last (cs.drop k) = callE its many last cs[k] := by
  rw [List.drop_eq_getElem_cons hk]
  show (if callE its many last cs[k] ≠ 0 then _ else _) = _
  rw [if_pos h]
theorem mapsE_step (n : Nat) (last : Int) (cs : List LM) {k : Nat} (hk : k < cs.length) (h : mapE n last cs[k] = 0) : mapsE n last (cs.drop k) = mapsE n cs[k].item (cs.drop (k + 1)) := by
  rw [List.drop_eq_getElem_cons hk]
  show (if mapE n last cs[k] ≠ 0 then _ else _) = _
  rw [if_neg (by simp [h])]
theorem mapsE_err (n : Nat) (last : Int) (cs : List LM) {k : Nat} (hk : k < cs.length) (h : mapE n last cs[k] ≠ 0) : mapsE n last (cs.drop k) = mapE n last cs[k] := by
  rw [List.drop_eq_getElem_cons hk]
  show (if mapE n last cs[k] ≠ 0 then _ else _) = _
  rw [if_pos h]
theorem call_cases (its : List Item) (n : Nat) (hn : its.length = n) (many : Nat) (last ci cf : Int) (h1 : -1 ≤ last) :
    (ci ≤ last ∧ callE its many last ⟨ci, cf⟩ = 4) ∨ (last < ci ∧ (n : Int) ≤ ci ∧ callE its many last ⟨ci, cf⟩ = 4) ∨ (last < ci ∧ ci < (n : Int) ∧ cf < 0 ∧ callE its many last ⟨ci, cf⟩ = 4) ∨ (last < ci ∧ ci < (n : Int) ∧ 0 ≤ cf ∧ (many : Int) ≤ cf ∧ callE its many last ⟨ci, cf⟩ = 4) ∨
    (last < ci ∧ ci < (n : Int) ∧ 0 ≤ cf ∧ cf < (many : Int) ∧ ∃ j x, ci = ((j : Nat) : Int) ∧ ∃ (hj : j < its.length), x = its[j] ∧
      (((x.op != 20) = true ∧ (x.op != 11) = true ∧ callE its many last ⟨ci, cf⟩ = 3) ∨ ((x.op != 20) = false ∧ 0 ≤ x.tg ∧ callE its many last ⟨ci, cf⟩ = 3) ∨ ((x.op != 20) = true ∧ (x.op != 11) = false ∧ 0 ≤ x.tg ∧ callE its many last ⟨ci, cf⟩ = 3) ∨
      ((x.op != 20) = false ∧ x.tg < 0 ∧ (x.n != 0) = true ∧ callE its many last ⟨ci, cf⟩ = 3) ∨ ((x.op != 20) = true ∧ (x.op != 11) = false ∧ x.tg < 0 ∧ (x.n != 0) = true ∧ callE its many last ⟨ci, cf⟩ = 3) ∨
      ((x.op != 20) = false ∧ x.tg < 0 ∧ (x.n != 0) = false ∧ callE its many last ⟨ci, cf⟩ = 0) ∨ ((x.op != 20) = true ∧ (x.op != 11) = false ∧ x.tg < 0 ∧ (x.n != 0) = false ∧ callE its many last ⟨ci, cf⟩ = 0))) := by
  subst hn
  unfold callE
  by_cases a1 : ci ≤ last
  · exact .inl ⟨a1, by rw [if_pos (.inl a1)]⟩
  by_cases a2 : (its.length : Int) ≤ ci
  · exact .inr (.inl ⟨by omega, a2, by rw [if_pos (.inr (.inl a2))]⟩)
  by_cases a3 : cf < 0
  · exact .inr (.inr (.inl ⟨by omega, by omega, a3, by rw [if_pos (.inr (.inr (.inl a3)))]⟩))
  by_cases a4 : (many : Int) ≤ cf
  · exact .inr (.inr (.inr (.inl ⟨by omega, by omega, by omega, a4, by rw [if_pos (.inr (.inr (.inr a4)))]⟩)))
  rw [if_neg (by simp only; omega)]
  obtain ⟨j, rfl⟩ := Int.eq_ofNat_of_zero_le (show 0 ≤ ci by omega)
  have hj : j < its.length := by omega
  refine .inr (.inr (.inr (.inr ⟨by omega, by omega, by omega, by omega, j, its[j], rfl, hj, rfl, ?_⟩)))
  simp only [Int.toNat_natCast, List.getD_eq_getElem?_getD, List.getElem?_eq_getElem hj, Option.getD_some]
  generalize its[j] = x
  simp only [bne_iff_ne, bne_eq_false_iff_eq]
  by_cases b1 : x.op = 20 <;> by_cases b2 : x.op = 11 <;> by_cases b3 : 0 ≤ x.tg <;> by_cases b4 : x.n = 0 <;> simp [b1, b2, b3, b4] <;> omega

theorem map_cases (n : Nat) (last mi : Int) (mf : Bool) (sa : Option Addr) (sn sc : Nat) (sl : List Int) (mr : Int) :
    (mi ≤ last ∧ mapE n last ⟨mi, mf, sa, sn, sc, sl, mr⟩ = 4) ∨ (last < mi ∧ (n : Int) ≤ mi ∧ mapE n last ⟨mi, mf, sa, sn, sc, sl, mr⟩ = 4) ∨ (last < mi ∧ mi < (n : Int) ∧ mf = true ∧ (n : Int) ≤ mi + 1 ∧ mapE n last ⟨mi, mf, sa, sn, sc, sl, mr⟩ = 4) ∨
    (last < mi ∧ mi < (n : Int) ∧ mf = true ∧ mi + 1 < (n : Int) ∧ mapE n last ⟨mi, mf, sa, sn, sc, sl, mr⟩ = 0) ∨ (last < mi ∧ mi < (n : Int) ∧ mf = false ∧ mapE n last ⟨mi, mf, sa, sn, sc, sl, mr⟩ = 0) := by
  unfold mapE
  by_cases a1 : mi ≤ last <;> by_cases a2 : (n : Int) ≤ mi <;> by_cases a3 : (n : Int) ≤ mi + 1 <;> cases mf <;> simp [a1, a2, a3] <;> omega

set_option maxRecDepth 100000 in
set_option maxHeartbeats 8000000 in
theorem checkRefs_any (w : World) (f : LF) (hf : f.Ok w) (many : Nat) (hm : many ≤ 256) : Calls Try.prog 35 #[f.v, .int .i64 (many : Int)] w (IntPost (refsE f many) w) := by
  have hb0 : BoxL f w (w.alloc (.cells #[.int .i64 f.name, .slice f.ia f.il f.ic, .slice f.ca f.cl f.cc, .slice f.ma f.ml f.mc, .int .i64 f.size] 53)) := ⟨(Below.refl _ _).alloc (Nat.le_refl _) _, Blk.new w _ _⟩
  have HRE : Hid (refsE f many = if (f.its.any fun x => x.tg == (f.its.length : Int)) = true then 4 else if callsE f.its many (-1) f.calls ≠ 0 then callsE f.its many (-1) f.calls else mapsE f.its.length (-1) f.maps) := rfl
  have HB0 := Lib.hid hb0
  have HCI := Lib.hid hf.icame
  have HCC := Lib.hid hf.ccame
  have HCM := Lib.hid hf.mcame
  have hil := hf.ilen
  have hcl := hf.clen
  have hml := hf.mlen
  have hir := hf.ireach
  have hcr := hf.creach
  have hmr := hf.mreach
  unfold LF.v
  clear hb0 hf
  generalize hR : refsE f many = R at HRE ⊢
  clear hR
  go_enter Try.func35, Try.ntmps35
  go_wp2_with fail
  generalize hw1 : (w.alloc (.cells #[.int .i64 f.name, .slice f.ia f.il f.ic, .slice f.ca f.cl f.cc, .slice f.ma f.ml f.mc, .int .i64 f.size] 53)) = w1 at HB0 ⊢
  clear hw1
  generalize hia : f.ia = ia at HCI ⊢
  generalize hca : f.ca = ca at HCC ⊢
  generalize hma : f.ma = ma at HCM ⊢
  have HIA := Lib.hid hia
  have HCA := Lib.hid hca
  have HMA := Lib.hid hma
  clear hia hca hma
  go_loopw [16] (fun u wr => ∃ k : Nat, k ≤ f.il ∧ u = .int .i64 (k : Int) ∧ (∀ i (hi : i < f.its.length), i < k → f.its[i].tg ≠ (f.il : Int)) ∧ BoxL f w wr) (fun u _ => f.il - (intOf u).toNat)
  case atStart => exact ⟨0, Nat.zero_le _, rfl, fun i _ hi => absurd hi (Nat.not_lt_zero _), HB0.out⟩
  case round =>
    obtain ⟨k, hk, rfl, hz, hb⟩ := hrel
    have HZ := Lib.hid hz
    have HB := Lib.hid hb
    clear hz hb
    by_cases hlt : k < f.il
    · obtain ⟨g, off, rfl, hg, hci⟩ := came_items HCI.out (by omega)
      obtain ⟨d0, d1, d2, d3, d4, d5⟩ := (hci k (by omega)).later HB.out.be hg
      obtain ⟨hwl, c0, c1, c2, c3, c4⟩ := HB.out.at
      have HIT : Hid (f.its[k]'(by omega) = f.its[k]'(by omega)) := rfl
      obtain ⟨x, hx⟩ : ∃ x, x = f.its[k]'(by omega) := ⟨_, rfl⟩
      rw [← hx] at d0 d1 d2 d3 d4 d5
      have HX := Lib.hid hx
      rw [HIA.out] at c1
      clear hx hci HIT
      by_cases ht : x.tg = (f.il : Int)
      · have ht' : (x.tg == (f.il : Int)) = true := by simp [ht]
        have HE : Hid (R = 4) := by
          show _ = _
          rw [HRE.out, if_pos]
          rw [List.any_eq_true]
          exact ⟨x, by rw [HX.out]; exact List.getElem_mem _, by rw [hil]; exact ht'⟩
        clear ht
        go_wp2_with fail
        go_ret
        exact ⟨ret_int HE.out.symm, HB.out.be.alloc HB.out.be.size _⟩
      · have ht' : (x.tg == (f.il : Int)) = false := by simp [ht]
        have HT := Lib.hid ht
        clear ht
        have HB2 : Hid (BoxL f w (wr.alloc (.cells #[.int .i64 x.op, .int .i64 x.d, .int .i64 x.a, .int .i64 x.b, .int .i64 x.n, .int .i64 x.tg] 68))) := HB.out.below ((Below.refl _ _).alloc (Nat.le_refl _) _)
        go_wp2_with fail
        go_roundw
        case rel =>
          refine ⟨k + 1, by omega, by go_num, fun i hi hik => ?_, HB2.out⟩
          by_cases e : i = k
          · subst e; rw [← HX.out]; exact HT.out
          · exact HZ.out i hi (by omega)
        case measure => simp [intOf]; omega
    · have ek : k = f.il := by omega
      have HR2 : Hid (R = if callsE f.its many (-1) f.calls ≠ 0 then callsE f.its many (-1) f.calls else mapsE f.its.length (-1) f.maps) := by
        show _ = _
        rw [HRE.out, if_neg]
        rw [List.any_eq_true]
        rintro ⟨x, hx, hxe⟩
        obtain ⟨i, hi, rfl⟩ := List.getElem_of_mem hx
        exact HZ.out i hi (by omega) (by rw [hil] at hxe; simpa using hxe)
      clear ek
      obtain ⟨hwl, c0, c1, c2, c3, c4⟩ := HB.out.at
      rw [HCA.out] at c2
      rw [HIA.out] at c1
      go_wp2_with fail
      clear c0 c1 c2 c3 c4
      obtain ⟨w2, hw2⟩ : ∃ w2, w2 = wr := ⟨_, rfl⟩
      rw [← hw2] at HB ⊢
      clear hw2 hwl
      go_loopw [7, 30] (fun v u wr => ∃ (q : Nat) (last : Int), q ≤ f.cl ∧ v = .int .i64 last ∧ u = .int .i64 (q : Int) ∧ (-1 ≤ last ∧ last ≤ 9223372036854775807) ∧ callsE f.its many (-1) f.calls = callsE f.its many last (f.calls.drop q) ∧ BoxL f w wr) (fun _ u _ => f.cl - (intOf u).toNat)
      case atStart => exact ⟨0, -1, Nat.zero_le _, rfl, rfl, by omega, rfl, HB.out⟩
      case round =>
        obtain ⟨q, last, hq, rfl, rfl, hlast, hz, hb⟩ := hrel
        have HZ2 := Lib.hid hz
        have HB := Lib.hid hb
        clear hz hb
        obtain ⟨hwl, c0, c1, c2, c3, c4⟩ := HB.out.at
        rw [HCA.out] at c2
        rw [HIA.out] at c1
        by_cases hlt2 : q < f.cl
        · obtain ⟨g2, off2, rfl, hg2, hcc⟩ := came_lcs HCC.out (by omega)
          obtain ⟨e0, e1⟩ := hcc q (by omega)
          replace e0 := (HB.out.be.cell (p := ⟨g2, off2 + q * 2, none⟩) hg2).trans e0
          replace e1 := (HB.out.be.cell (p := ⟨g2, off2 + q * 2 + 1, none⟩) hg2).trans e1
          have hq' : q < f.calls.length := by omega
          have HSTP := Lib.hid (fun (h : callE f.its many last f.calls[q] = 0) => HZ2.out.trans (callsE_step f.its many last f.calls hq' h))
          have HSTE := Lib.hid (fun (h : callE f.its many last f.calls[q] ≠ 0) => HZ2.out.trans (callsE_err f.its many last f.calls hq' h))
          generalize f.calls[q] = c at e0 e1 HSTP HSTE
          obtain ⟨ci, cf⟩ := c
          simp only at e0 e1 HSTP HSTE
          have hcs := call_cases f.its f.il hil many last ci cf hlast.1
          have HIT : Hid (0 < f.il → ∃ g off, ia = some ⟨g, off, none⟩ ∧ g < w.heap.size ∧ ∀ i (hi : i < f.its.length), ItemAt wr g (off + i * 6) f.its[i]) := fun h => by
            obtain ⟨g, off, h1, hg, hci⟩ := came_items HCI.out h
            exact ⟨g, off, h1, hg, fun i hi => (hci i hi).later HB.out.be hg⟩
          clear hcc HZ2
          rcases hcs with ⟨h1, hce⟩ | ⟨h1, h2, hce⟩ | ⟨h1, h2, h3, hce⟩ | ⟨h1, h2, h3, h4, hce⟩ | ⟨h1, h2, h3, h4, j, x, rfl, hj, hx, hcs⟩
          · have HE : Hid (R = 4) := by show _ = _; rw [HR2.out, HSTE.out (by rw [hce]; decide), hce, if_pos (by decide)]
            clear hce
            go_wp2_with fail
            go_ret
            exact ⟨ret_int HE.out.symm, HB.out.be.alloc HB.out.be.size _⟩
          · have HE : Hid (R = 4) := by show _ = _; rw [HR2.out, HSTE.out (by rw [hce]; decide), hce, if_pos (by decide)]
            clear hce
            go_wp2_with fail
            go_ret
            exact ⟨ret_int HE.out.symm, HB.out.be.alloc HB.out.be.size _⟩
          · have HE : Hid (R = 4) := by show _ = _; rw [HR2.out, HSTE.out (by rw [hce]; decide), hce, if_pos (by decide)]
            clear hce
            go_wp2_with fail
            go_ret
            exact ⟨ret_int HE.out.symm, HB.out.be.alloc HB.out.be.size _⟩
          · have HE : Hid (R = 4) := by show _ = _; rw [HR2.out, HSTE.out (by rw [hce]; decide), hce, if_pos (by decide)]
            clear hce
            go_wp2_with fail
            go_ret
            exact ⟨ret_int HE.out.symm, HB.out.be.alloc HB.out.be.size _⟩
          · obtain ⟨g, off, rfl, hg, hit⟩ := HIT.out (by omega)
            obtain ⟨d0, d1, d2, d3, d4, d5⟩ := hit j hj
            rw [← hx] at d0 d1 d2 d3 d4 d5
            have hgl : g < wr.heap.size := Nat.lt_of_lt_of_le hg HB.out.be.size
            clear hx HIT hit
            obtain ⟨xo, xd, xa, xb, xn, xt⟩ := x
            simp only at d0 d1 d2 d3 d4 d5 hcs
            rcases hcs with ⟨b1, b2, hce⟩ | ⟨b1, b2, hce⟩ | ⟨b1, b2, b3, hce⟩ | ⟨b1, b2, b3, hce⟩ | ⟨b1, b2, b3, b4, hce⟩ | ⟨b1, b2, b3, hce⟩ | ⟨b1, b2, b3, b4, hce⟩
            · have HE : Hid (R = 3) := by show _ = _; rw [HR2.out, HSTE.out (by rw [hce]; decide), hce, if_pos (by decide)]
              clear hce
              go_wp2_with fail
              go_ret
              exact ⟨ret_int HE.out.symm, (HB.out.be.alloc HB.out.be.size _).alloc (by have := HB.out.be.size; simp; omega) _⟩
            · have HE : Hid (R = 3) := by show _ = _; rw [HR2.out, HSTE.out (by rw [hce]; decide), hce, if_pos (by decide)]
              clear hce
              go_wp2_with fail
              go_ret
              exact ⟨ret_int HE.out.symm, (HB.out.be.alloc HB.out.be.size _).alloc (by have := HB.out.be.size; simp; omega) _⟩
            · have HE : Hid (R = 3) := by show _ = _; rw [HR2.out, HSTE.out (by rw [hce]; decide), hce, if_pos (by decide)]
              clear hce
              go_wp2_with fail
              go_ret
              exact ⟨ret_int HE.out.symm, (HB.out.be.alloc HB.out.be.size _).alloc (by have := HB.out.be.size; simp; omega) _⟩
            · have HE : Hid (R = 3) := by show _ = _; rw [HR2.out, HSTE.out (by rw [hce]; decide), hce, if_pos (by decide)]
              clear hce
              go_wp2_with fail
              go_ret
              exact ⟨ret_int HE.out.symm, (HB.out.be.alloc HB.out.be.size _).alloc (by have := HB.out.be.size; simp; omega) _⟩
            · have HE : Hid (R = 3) := by show _ = _; rw [HR2.out, HSTE.out (by rw [hce]; decide), hce, if_pos (by decide)]
              clear hce
              go_wp2_with fail
              go_ret
              exact ⟨ret_int HE.out.symm, (HB.out.be.alloc HB.out.be.size _).alloc (by have := HB.out.be.size; simp; omega) _⟩
            · have HN := Lib.hid (HSTP.out hce)
              clear hce
              go_wp2_with fail
              go_roundw
              case rel => exact ⟨q + 1, _, by omega, rfl, by go_num, by omega, HN.out, HB.out.below (((Below.refl _ _).alloc (Nat.le_refl _) _).alloc (by simp) _)⟩
              case measure => simp [intOf]; omega
            · have HN := Lib.hid (HSTP.out hce)
              clear hce
              go_wp2_with fail
              go_roundw
              case rel => exact ⟨q + 1, _, by omega, rfl, by go_num, by omega, HN.out, HB.out.below (((Below.refl _ _).alloc (Nat.le_refl _) _).alloc (by simp) _)⟩
              case measure => simp [intOf]; omega
        · have ek : q = f.cl := by omega
          have HC0 : Hid (callsE f.its many (-1) f.calls = 0) := by
            show _ = _
            rw [HZ2.out, List.drop_of_length_le (by omega)]
            rfl
          have HR3 : Hid (R = mapsE f.its.length (-1) f.maps) := by show _ = _; rw [HR2.out, if_neg (by simp [HC0.out])]
          rw [hil] at HR3
          clear ek HZ2 HC0 HR2
          rw [HMA.out] at c3
          go_wp2_with fail
          clear c0 c1 c2 c3 c4
          obtain ⟨w3, hw3⟩ : ∃ w3, w3 = wr := ⟨_, rfl⟩
          rw [← hw3] at HB ⊢
          clear hw3 hwl
          go_loopw [7, 90] (fun v u wr => ∃ (p : Nat) (last : Int), p ≤ f.ml ∧ v = .int .i64 last ∧ u = .int .i64 (p : Int) ∧ (-1 ≤ last ∧ last ≤ 9223372036854775807) ∧ mapsE f.il (-1) f.maps = mapsE f.il last (f.maps.drop p) ∧ BoxL f w wr) (fun _ u _ => f.ml - (intOf u).toNat)
          case atStart => exact ⟨0, -1, Nat.zero_le _, rfl, rfl, by omega, rfl, HB.out⟩
          case round =>
            obtain ⟨p, last, hp, rfl, rfl, hlast, hz, hb⟩ := hrel
            have HZ3 := Lib.hid hz
            have HB := Lib.hid hb
            clear hz hb
            obtain ⟨hwl, c0, c1, c2, c3, c4⟩ := HB.out.at
            rw [HMA.out] at c3
            by_cases hlt3 : p < f.ml
            · obtain ⟨g3, off3, rfl, hg3, hcm⟩ := came_lms HCM.out (by omega)
              obtain ⟨e0, e1, e2, e3⟩ := hcm p (by omega)
              replace e0 := (HB.out.be.cell (p := ⟨g3, off3 + p * 4, none⟩) hg3).trans e0
              replace e1 := (HB.out.be.cell (p := ⟨g3, off3 + p * 4 + 1, none⟩) hg3).trans e1
              replace e2 := (HB.out.be.cell (p := ⟨g3, off3 + p * 4 + 2, none⟩) hg3).trans e2
              replace e3 := (HB.out.be.cell (p := ⟨g3, off3 + p * 4 + 3, none⟩) hg3).trans e3
              have hp' : p < f.maps.length := by omega
              have HSTP := Lib.hid (fun (h : mapE f.il last f.maps[p] = 0) => HZ3.out.trans (mapsE_step f.il last f.maps hp' h))
              have HSTE := Lib.hid (fun (h : mapE f.il last f.maps[p] ≠ 0) => HZ3.out.trans (mapsE_err f.il last f.maps hp' h))
              generalize f.maps[p] = m at e0 e1 e2 e3 HSTP HSTE
              obtain ⟨mi, mf, sa, sn, sc, sl, mr⟩ := m
              simp only at e0 e1 e2 e3 HSTP HSTE
              have hcs := map_cases f.il last mi mf sa sn sc sl mr
              clear hcm HZ3
              rcases hcs with ⟨h1, hce⟩ | ⟨h1, h2, hce⟩ | ⟨h1, h2, rfl, h3, hce⟩ | ⟨h1, h2, rfl, h3, hce⟩ | ⟨h1, h2, rfl, hce⟩
              · have HE : Hid (R = 4) := by show _ = _; rw [HR3.out, HSTE.out (by rw [hce]; decide), hce]
                clear hce
                go_wp2_with fail
                go_ret
                exact ⟨ret_int HE.out.symm, HB.out.be.alloc HB.out.be.size _⟩
              · have HE : Hid (R = 4) := by show _ = _; rw [HR3.out, HSTE.out (by rw [hce]; decide), hce]
                clear hce
                go_wp2_with fail
                go_ret
                exact ⟨ret_int HE.out.symm, HB.out.be.alloc HB.out.be.size _⟩
              · have HE : Hid (R = 4) := by show _ = _; rw [HR3.out, HSTE.out (by rw [hce]; decide), hce]
                clear hce
                go_wp2_with fail
                go_ret
                exact ⟨ret_int HE.out.symm, HB.out.be.alloc HB.out.be.size _⟩
              · have HN := Lib.hid (HSTP.out hce)
                clear hce
                go_wp2_with fail
                go_roundw
                case rel => exact ⟨p + 1, _, by omega, rfl, by go_num, by omega, HN.out, HB.out.below ((Below.refl _ _).alloc (Nat.le_refl _) _)⟩
                case measure => simp [intOf]; omega
              · have HN := Lib.hid (HSTP.out hce)
                clear hce
                go_wp2_with fail
                go_roundw
                case rel => exact ⟨p + 1, _, by omega, rfl, by go_num, by omega, HN.out, HB.out.below ((Below.refl _ _).alloc (Nat.le_refl _) _)⟩
                case measure => simp [intOf]; omega
            · have ek : p = f.ml := by omega
              have HE : Hid (R = 0) := by
                show _ = _
                rw [HR3.out, HZ3.out, List.drop_of_length_le (by omega)]
                rfl
              clear ek HZ3
              go_wp2_with fail
              go_ret
              exact ⟨ret_int HE.out.symm, HB.out.be⟩
end Go.Proofs.Ytkafbihlmhdjeab
