/- The form of functions before they are linked: link's Check. -/
import Derived.Test.YtkafbihlmhdjeabLnkRefs
import Derived.Test.YtkafbihlmhdjeabLnkMath
import Derived.Test.YtkafbihlmhdjeabRelaxChk
namespace Go.Proofs.Ytkafbihlmhdjeab
open Go.RowKit
set_option linter.unusedVariables false
set_option linter.unusedSimpArgs false

def fnL (many : Nat) (f : LF) : Int := if itemsE f.its ≠ 0 then itemsE f.its else if f.il = 0 ∨ f.size < 1 ∨ 4096 < f.size then 4 else refsE f many
def chkL (many : Nat) : List LF → Int
  | [] => 0
  | f :: r => if fnL many f ≠ 0 then fnL many f else chkL many r
def chkE (l : List LF) : Int := if 256 < l.length then 2 else chkL l.length l
theorem chkL_step (many : Nat) (l : List LF) {k : Nat} (hk : k < l.length) (h : fnL many l[k] = 0) : chkL many (l.drop k) = chkL many (l.drop (k + 1)) := by
  rw [List.drop_eq_getElem_cons hk]
  show (if fnL many l[k] ≠ 0 then _ else _) = _
  rw [if_neg (by simp [h])]
theorem chkL_err (many : Nat) (l : List LF) {k : Nat} (hk : k < l.length) (h : fnL many l[k] ≠ 0) : chkL many (l.drop k) = fnL many l[k] := by
  rw [List.drop_eq_getElem_cons hk]
  show (if fnL many l[k] ≠ 0 then _ else _) = _
  rw [if_pos h]
theorem fnL_cases (many : Nat) (f : LF) (n : Nat) (size : Int) (hn : f.il = n) (hs : f.size = size) :
    (∃ c, itemsE f.its = c ∧ (c != 0) = true ∧ fnL many f = c ∧ c ≠ 0) ∨ (itemsE f.its = 0 ∧ n = 0 ∧ fnL many f = 4) ∨ (itemsE f.its = 0 ∧ n ≠ 0 ∧ size < 1 ∧ fnL many f = 4) ∨ (itemsE f.its = 0 ∧ n ≠ 0 ∧ 1 ≤ size ∧ 4096 < size ∧ fnL many f = 4) ∨
    (itemsE f.its = 0 ∧ n ≠ 0 ∧ 1 ≤ size ∧ size ≤ 4096 ∧ ∃ c, refsE f many = c ∧ (c != 0) = true ∧ fnL many f = c ∧ c ≠ 0) ∨ (itemsE f.its = 0 ∧ n ≠ 0 ∧ 1 ≤ size ∧ size ≤ 4096 ∧ refsE f many = 0 ∧ fnL many f = 0) := by
  subst hn hs
  unfold fnL
  by_cases h1 : itemsE f.its = 0
  · rw [if_neg (by simp [h1])]
    by_cases h2 : f.il = 0
    · exact .inr (.inl ⟨h1, h2, by rw [if_pos (.inl h2)]⟩)
    by_cases h3 : f.size < 1
    · exact .inr (.inr (.inl ⟨h1, h2, h3, by rw [if_pos (.inr (.inl h3))]⟩))
    by_cases h4 : 4096 < f.size
    · exact .inr (.inr (.inr (.inl ⟨h1, h2, by omega, h4, by rw [if_pos (.inr (.inr h4))]⟩)))
    rw [if_neg (by omega)]
    by_cases h5 : refsE f many = 0
    · exact .inr (.inr (.inr (.inr (.inr ⟨h1, h2, by omega, by omega, h5, h5⟩))))
    · exact .inr (.inr (.inr (.inr (.inl ⟨h1, h2, by omega, by omega, _, rfl, by simp [h5], rfl, h5⟩))))
  · exact .inl ⟨_, rfl, by simp [h1], by rw [if_pos h1], h1⟩

set_option maxRecDepth 100000 in
set_option maxHeartbeats 8000000 in
theorem linkCheck_any (w : World) (a : Option Addr) (n c : Nat) (l : List LF) (h : Lnk w a n c l) : Calls Try.prog 9 #[.slice a n c] w (IntPost (chkE l) w) := by
  have hl := h.len
  have hle := h.came.le
  have hmx := h.came.max
  have HH := Lib.hid h
  have HE : Hid (chkE l = if 256 < l.length then 2 else chkL l.length l) := rfl
  rw [hl] at HE
  generalize chkE l = R at HE ⊢
  clear h
  by_cases hbig : 256 < n
  · have HR : Hid (R = 2) := by show _ = _; rw [HE.out, if_pos hbig]
    go_enter Try.func9, Try.ntmps9
    go_wp2_with fail
    go_ret
    exact ⟨ret_int HR.out.symm, Below.refl _ _⟩
  · have HR : Hid (R = chkL n l) := by show _ = _; rw [HE.out, if_neg hbig]
    clear HE
    go_enter Try.func9, Try.ntmps9
    go_wp2_with fail
    go_loopw [12] (fun u wr => ∃ k : Nat, k ≤ n ∧ u = .int .i64 (k : Int) ∧ chkL n l = chkL n (l.drop k) ∧ Below w.heap.size w wr) (fun u _ => n - (intOf u).toNat)
    case atStart => exact ⟨0, Nat.zero_le _, rfl, rfl, Below.refl _ _⟩
    case round =>
      obtain ⟨k, hk, rfl, hz, hb⟩ := hrel
      have HZ := Lib.hid hz
      have HB := Lib.hid hb
      clear hz
      by_cases hlt : k < n
      · obtain ⟨g, off, rfl, hg, hcl⟩ := came_lfs HH.out.came (by omega)
        obtain ⟨c0, c1, c2, c3, c4⟩ := (hcl k (by omega)).later hb hg
        have hk' : k < l.length := by omega
        have HSTP := Lib.hid (fun (h : fnL n l[k] = 0) => HZ.out.trans (chkL_step n l hk' h))
        have HSTE := Lib.hid (fun (h : fnL n l[k] ≠ 0) => HZ.out.trans (chkL_err n l hk' h))
        have hok := HH.out.ok _ (List.getElem_mem hk')
        generalize l[k] = f at c0 c1 c2 c3 c4 HSTP HSTE hok
        have hok1 := hok.below hb
        have HB1 : Hid (BoxL f wr (wr.alloc (.cells #[.int .i64 f.name, .slice f.ia f.il f.ic, .slice f.ca f.cl f.cc, .slice f.ma f.ml f.mc, .int .i64 f.size] 53))) := ⟨(Below.refl _ _).alloc (Nat.le_refl _) _, Blk.new wr _ _⟩
        have HRC := Lib.hid (relaxCheck_any f.ia f.il f.ic f.its _ (hok1.below HB1.out.be).icame)
        have HOK := Lib.hid hok1
        have hfr := hok.ireach
        obtain ⟨size, hsz⟩ : ∃ size, size = f.size := ⟨_, rfl⟩
        obtain ⟨il, hil⟩ : ∃ il, il = f.il := ⟨_, rfl⟩
        have hcs := fnL_cases n f il size hil.symm hsz.symm
        have HSZ := Lib.hid hsz
        have HIL := Lib.hid hil
        have hwz := hb.size
        clear hcl hok hok1 hb hsz
        rw [← hil] at hfr
        clear hil
        obtain ⟨ie, hie⟩ : ∃ ie, ie = itemsE f.its := ⟨_, rfl⟩
        rw [← hie] at hcs HRC
        have HIEE := Lib.hid hie
        clear hie
        go_wp2_with fail
        generalize hw1 : (wr.alloc (.cells #[.int .i64 f.name, .slice f.ia f.il f.ic, .slice f.ca f.cl f.cc, .slice f.ma f.ml f.mc, .int .i64 f.size] 53)) = w1 at HB1 HRC ⊢
        clear hw1 c0 c1 c2 c3 c4
        refine HRC.out.mono ?_
        rintro e w2 ⟨rfl, hb2⟩
        have HB2 := Lib.hid (HB1.out.below hb2)
        have HCR := Lib.hid (checkRefs_any w2 f (HOK.out.below HB2.out.be) n (by omega))
        unfold LF.v at HCR
        have HBW : Hid (Below w.heap.size w w2) := HB.out.trans (HB2.out.be.mono hwz)
        clear hb2 HRC HB1
        obtain ⟨hwl, c0, c1, c2, c3, c4⟩ := HB2.out.at
        rw [← HIL.out] at c1
        rw [← HSZ.out] at c4
        rcases hcs with ⟨c, rfl, hc, hce, hne⟩ | ⟨rfl, h1, hce⟩ | ⟨rfl, h1, h2, hce⟩ | ⟨rfl, h1, h2, h3, hce⟩ | ⟨rfl, h1, h2, h3, c, hr, hc, hce, hne⟩ | ⟨rfl, h1, h2, h3, hr, hce⟩
        · have HF : Hid (R = ie) := by show _ = _; rw [HR.out, HSTE.out (by rw [hce]; exact hne), hce]
          clear hce hne
          go_wp2_with fail
          go_ret
          exact ⟨ret_int HF.out.symm, HBW.out⟩
        · have HF : Hid (R = 4) := by show _ = _; rw [HR.out, HSTE.out (by rw [hce]; decide), hce]
          clear hce
          subst h1
          go_wp2_with fail
          go_ret
          exact ⟨ret_int HF.out.symm, HBW.out⟩
        · have HF : Hid (R = 4) := by show _ = _; rw [HR.out, HSTE.out (by rw [hce]; decide), hce]
          have h1' : ((il : Int) == 0) = false := by simp [h1]
          clear hce h1
          go_wp2_with fail
          go_ret
          exact ⟨ret_int HF.out.symm, HBW.out⟩
        · have HF : Hid (R = 4) := by show _ = _; rw [HR.out, HSTE.out (by rw [hce]; decide), hce]
          have h1' : ((il : Int) == 0) = false := by simp [h1]
          clear hce h1
          go_wp2_with fail
          go_ret
          exact ⟨ret_int HF.out.symm, HBW.out⟩
        · have HF : Hid (R = c) := by show _ = _; rw [HR.out, HSTE.out (by rw [hce]; exact hne), hce]
          have h1' : ((il : Int) == 0) = false := by simp [h1]
          rw [hr, ← HIL.out, ← HSZ.out] at HCR
          clear hce h1 hne hr
          go_wp2_with fail
          refine HCR.out.mono ?_
          rintro e w3 ⟨rfl, hb3⟩
          have HBX : Hid (Below w.heap.size w w3) := HBW.out.trans (hb3.mono HBW.out.size)
          clear hb3 HCR c0 c1 c2 c3 c4
          go_wp2_with fail
          go_ret
          exact ⟨ret_int HF.out.symm, HBX.out⟩
        · have h1' : ((il : Int) == 0) = false := by simp [h1]
          have HN := Lib.hid (HSTP.out hce)
          rw [hr, ← HIL.out, ← HSZ.out] at HCR
          clear hce h1 hr
          go_wp2_with fail
          refine HCR.out.mono ?_
          rintro e w3 ⟨rfl, hb3⟩
          have HBX : Hid (Below w.heap.size w w3) := HBW.out.trans (hb3.mono HBW.out.size)
          clear hb3 HCR c0 c1 c2 c3 c4
          go_wp2_with fail
          go_roundw
          case rel => exact ⟨k + 1, by omega, by go_num, HN.out, HBX.out⟩
          case measure => simp [intOf]; omega
      · have HF : Hid (R = 0) := by
          show _ = _
          rw [HR.out, HZ.out, List.drop_of_length_le (by omega)]
          rfl
        go_wp2_with fail
        go_ret
        exact ⟨ret_int HF.out.symm, HB.out⟩
end Go.Proofs.Ytkafbihlmhdjeab
