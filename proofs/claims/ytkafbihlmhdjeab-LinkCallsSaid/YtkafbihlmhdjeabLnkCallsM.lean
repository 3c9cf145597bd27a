/- What is decoded where a function has come to lie. No program. -/
import Derived.Test.YtkafbihlmhdjeabLnkLink
namespace Go.Proofs.Ytkafbihlmhdjeab
open Go.RowKit
set_option linter.unusedVariables false
set_option linter.unusedSimpArgs false

theorem patch_other (P : Nat → Int) (q : Nat) : ∀ (ads : List (Int × Int)) (code : List Int), (∀ x ∈ ads, (P x.1.toNat + 1).toNat ≠ q) → (patch P ads code)[q]? = code[q]?
  | [], code, _ => rfl
  | x :: ads, code, h => by
    have h1 := patch_other P q ads (patch1 P code x) (fun y hy => h y (by simp [hy]))
    have h2 : (patch P (x :: ads) code)[q]? = (patch P ads (patch1 P code x))[q]? := rfl
    rw [h2, h1]
    unfold patch1
    rw [List.getElem?_set_ne (h x (by simp))]
theorem patch_at (P : Nat → Int) (q : Nat) (v : Int) : ∀ (ads : List (Int × Int)) (code : List Int), q < code.length → (∃ x ∈ ads, (P x.1.toNat + 1).toNat = q) → (∀ x ∈ ads, (P x.1.toNat + 1).toNat = q → 2 * P x.2.toNat + 1 = v) → (patch P ads code)[q]? = some v
  | [], code, _, h, _ => by obtain ⟨x, hx, _⟩ := h; cases hx
  | x :: ads, code, hq, h, hv => by
    have h2 : (patch P (x :: ads) code)[q]? = (patch P ads (patch1 P code x))[q]? := rfl
    have hl : (patch1 P code x).length = code.length := by unfold patch1; simp
    rw [h2]
    by_cases ht : ∃ y ∈ ads, (P y.1.toNat + 1).toNat = q
    · exact patch_at P q v ads _ (by omega) ht (fun y hy => hv y (by simp [hy]))
    · rw [patch_other P q ads _ (fun y hy e => ht ⟨y, hy, e⟩)]
      obtain ⟨y, hy, he⟩ := h
      rcases List.mem_cons.1 hy with rfl | hy
      · unfold patch1
        rw [he, List.getElem?_set_self hq, hv y (by simp) he]
      · exact absurd ⟨y, hy, he⟩ ht
theorem codeTo_splitL (its : List Item) (M : Nat → Bool) (n i : Nat) (h : i < n) : ∃ rest, (codeTo its M n).drop (codeTo its M i).length = wordsAt its M i ++ rest := by
  induction n with
  | zero => omega
  | succ n ih =>
    show ∃ rest, (codeTo its M n ++ wordsAt its M n).drop _ = _
    by_cases e : i = n
    · subst e; exact ⟨[], by simp⟩
    · obtain ⟨rest, hr⟩ := ih (by omega)
      have hle : (codeTo its M i).length ≤ (codeTo its M n).length := by
        have h1 := codeTo_len its M i
        have h2 := codeTo_len its M n
        have h3 := pos_lt M i (n - i)
        rw [show i + (n - i) = n by omega] at h3
        omega
      exact ⟨rest ++ wordsAt its M n, by rw [List.drop_append_of_le_length hle, hr, List.append_assoc]⟩
theorem drop_one {zs : List Int} {p : Nat} {x : Int} (h : zs[p]? = some x) : zs.drop p = x :: zs.drop (p + 1) := by
  have hl := (List.getElem?_eq_some_iff.1 h).1
  rw [List.drop_eq_getElem_cons hl]
  rw [List.getElem?_eq_getElem hl, Option.some.injEq] at h
  rw [h]
theorem pos_ord (M : Nat → Bool) {i j : Nat} (h : i ≤ j) : posL M i ≤ posL M j := by
  have := pos_lt M i (j - i)
  rw [show i + (j - i) = j by omega] at this
  omega
/-- the words of item j after patching: those of an item whose number may differ -/
theorem patch_words {its : List Item} {M : Nat → Bool} {n : Nat} {ads : List (Int × Int)} (hads : ∀ x ∈ ads, M x.1.toNat = true) {j : Nat} (hj : j < n) (hno : ∀ x ∈ ads, x.1.toNat ≠ j) :
    ∃ rest, (patch (posL M) ads (codeTo its M n)).drop (posL M j).toNat = wordsAt its M j ++ rest := by
  obtain ⟨rest, hr⟩ := codeTo_splitL its M n j hj
  have hl := codeTo_len its M j
  have hp : (posL M j).toNat = (codeTo its M j).length := by omega
  have hne : ∀ q, (posL M j).toNat ≤ q → q < (posL M (j + 1)).toNat → ∀ x ∈ ads, (posL M x.1.toNat + 1).toNat ≠ q := by
    intro q h1 h2 x hx e
    have hm := hads x hx
    have hb := posL_bd M x.1.toNat
    have hb2 := posL_bd M j
    rcases Nat.lt_or_gt_of_ne (hno x hx) with h3 | h3
    · have h4 := pos_ord M (show x.1.toNat + 1 ≤ j from h3)
      have h5 : posL M (x.1.toNat + 1) = posL M x.1.toNat + (if M x.1.toNat = true then 2 else 1) := rfl
      rw [if_pos hm] at h5
      omega
    · have h4 := pos_ord M (show j + 1 ≤ x.1.toNat from h3)
      omega
  have hget : ∀ k, k < (wordsAt its M j).length → (patch (posL M) ads (codeTo its M n))[(posL M j).toNat + k]? = (wordsAt its M j)[k]? := by
    intro k hk
    have hw := wordsAt_len its M j
    have h5 : posL M (j + 1) = posL M j + (if M j = true then 2 else 1) := rfl
    have hb := posL_bd M j
    rw [patch_other _ _ _ _ (hne _ (by omega) (by omega))]
    have h6 : (codeTo its M n)[(posL M j).toNat + k]? = ((codeTo its M n).drop (posL M j).toNat)[k]? := by rw [List.getElem?_drop]
    rw [h6, hp, hr, List.getElem?_append_left hk]
  have hw := wordsAt_len its M j
  cases hm : M j
  · rw [hm, if_neg (by simp)] at hw
    obtain ⟨x, hx⟩ : ∃ x, wordsAt its M j = [x] := List.length_eq_one_iff.1 (by omega)
    have h0 := hget 0 (by omega)
    rw [hx, Nat.add_zero] at h0
    exact ⟨_, by rw [hx]; exact drop_one h0⟩
  · rw [hm, if_pos rfl] at hw
    obtain ⟨x, y, hx⟩ : ∃ x y, wordsAt its M j = [x, y] := ⟨_, _, by unfold wordsAt; rw [hm]; rfl⟩
    have h0 := hget 0 (by omega)
    have h1 := hget 1 (by omega)
    rw [hx] at h0 h1
    rw [Nat.add_zero] at h0
    exact ⟨_, by rw [hx, drop_one h0, drop_one h1]; rfl⟩
theorem patch_words2 {its : List Item} {M : Nat → Bool} {n : Nat} {ads : List (Int × Int)} (hads : ∀ x ∈ ads, M x.1.toNat = true) {j : Nat} (hj : j < n) {to_ : Int} (hin : ∃ x ∈ ads, x.1.toNat = j) (hall : ∀ x ∈ ads, x.1.toNat = j → x.2 = to_) (hMj : M j = true) :
    ∃ rest, (patch (posL M) ads (codeTo its M n)).drop (posL M j).toNat = (wordOf (itAt its j).op (itAt its j).d (itAt its j).a (itAt its j).b + 67108864) :: (2 * posL M to_.toNat + 1) :: rest := by
  obtain ⟨rest, hr⟩ := codeTo_splitL its M n j hj
  have hl := codeTo_len its M j
  have hln := codeTo_len its M n
  have hb := posL_bd M j
  have hp : (posL M j).toNat = (codeTo its M j).length := by omega
  have h5 : posL M (j + 1) = posL M j + (if M j = true then 2 else 1) := rfl
  rw [if_pos hMj] at h5
  have h6 := pos_ord M (show j + 1 ≤ n from hj)
  have hwd : wordsAt its M j = [wordOf (itAt its j).op (itAt its j).d (itAt its j).a (itAt its j).b + 67108864, nOf its M j % 4294967296] := by
    unfold wordsAt; rw [hMj]; rfl
  have hsame : ∀ x ∈ ads, (posL M x.1.toNat + 1).toNat = (posL M j).toNat + 1 → x.1.toNat = j := by
    intro x hx e
    have hb3 := posL_bd M x.1.toNat
    have hm := hads x hx
    have h7 : posL M (x.1.toNat + 1) = posL M x.1.toNat + (if M x.1.toNat = true then 2 else 1) := rfl
    rw [if_pos hm] at h7
    rcases Nat.lt_trichotomy x.1.toNat j with h3 | h3 | h3
    · have := pos_ord M (show x.1.toNat + 1 ≤ j from h3); omega
    · exact h3
    · have := pos_ord M (show j + 1 ≤ x.1.toNat from h3); omega
  have h0 : (patch (posL M) ads (codeTo its M n))[(posL M j).toNat]? = some (wordOf (itAt its j).op (itAt its j).d (itAt its j).a (itAt its j).b + 67108864) := by
    rw [patch_other _ _ _ _ (fun x hx e => by
      have hb3 := posL_bd M x.1.toNat
      have hm := hads x hx
      have h7 : posL M (x.1.toNat + 1) = posL M x.1.toNat + (if M x.1.toNat = true then 2 else 1) := rfl
      rw [if_pos hm] at h7
      rcases Nat.lt_trichotomy x.1.toNat j with h3 | h3 | h3
      · have := pos_ord M (show x.1.toNat + 1 ≤ j from h3); omega
      · rw [h3] at e; omega
      · have := pos_ord M (show j + 1 ≤ x.1.toNat from h3); omega)]
    have h7 : (codeTo its M n)[(posL M j).toNat + 0]? = ((codeTo its M n).drop (posL M j).toNat)[0]? := by rw [List.getElem?_drop]
    rw [Nat.add_zero] at h7
    rw [h7, hp, hr, hwd]
    rfl
  have h1 : (patch (posL M) ads (codeTo its M n))[(posL M j).toNat + 1]? = some (2 * posL M to_.toNat + 1) := by
    obtain ⟨x, hx, hxj⟩ := hin
    refine patch_at _ _ _ _ _ (by omega) ⟨x, hx, by rw [hxj]; omega⟩ fun y hy he => ?_
    rw [hall y hy (hsame y hy he)]
  exact ⟨_, by rw [drop_one h0, drop_one h1]⟩
section
variable {l : List LF} {c : Nat → Nat} {main : Nat}
theorem LinkIn.adsAt (h : LinkIn l c main) {i : Nat} (hi : i < l.length) (hc : c i = i) {t : Nat} (ht : t < (fnAt l i).its.length) {z : Int × Int} (hz : z ∈ (finS l c main).2) (hzt : z.1.toNat = bpos l c i + t) :
    (fnAt l i).its[t].op ≠ 20 ∧ ∃ y ∈ (fnAt l i).calls, y.item = (t : Int) ∧ z.2 = ((bpos l c (c y.fn.toNat) : Nat) : Int) := by
  obtain ⟨f1, f2, f3⟩ := h.fold
  obtain ⟨r, hr, ho, rfl⟩ := (f3 z).1 hz
  obtain ⟨h2, i', hi', hc', y, hy, rfl⟩ := h.place hr
  have hyc := (h.fn i' hi').calls y hy
  simp only [Int.toNat_natCast] at hzt
  obtain ⟨rfl, e2⟩ := bpos_inj (l := l) hc' hc (t := y.item.toNat) (t' := t) (by omega) ht hzt
  refine ⟨fun e => ho ?_, y, hy, by omega, (h.toBv (f := y.fn.toNat) (by omega)).1⟩
  have hma : itAt (itsMain l c l.length main) (bpos l c i' + t) = shiftI (bpos l c i') (fnAt l i').its[t] := by unfold itAt; rw [List.getD_eq_getElem?_getD, itsMain_at _ (by have := bpos_two l c i'; omega), itsTo_at l c hc' ht l.length hi']; rfl
  simp only
  rw [e2, hma, shift_op, e]
theorem FnOk.one {many : Nat} {f : LF} (h : FnOk many f) {x y : LC} (hx : x ∈ f.calls) (hy : y ∈ f.calls) (he : x.item = y.item) : x = y := by
  obtain ⟨a, ha, rfl⟩ := List.getElem_of_mem hx
  obtain ⟨b, hb, rfl⟩ := List.getElem_of_mem hy
  rcases Nat.lt_trichotomy a b with h1 | h1 | h1
  · have := List.pairwise_iff_getElem.1 h.order a b ha hb h1; omega
  · subst h1; rfl
  · have := List.pairwise_iff_getElem.1 h.order b a hb ha h1; omega
/-- what is decoded at an item, and where a reference leads -/
theorem LinkIn.dec (h : LinkIn l c main) {long : Bool} {L : Nat → Bool} (hN : bpos l c l.length ≤ 16384) (hS : SizesOf (finS l c main).1 (finS l c main).1.length L) {i : Nat} (hi : i < l.length) (hc : c i = i) {t : Nat} (ht : t < (fnAt l i).its.length) :
    ∃ n9 : Int, decode ((patch (posL (allL (finS l c main).1 long L)) (finS l c main).2 (codeTo (finS l c main).1 (allL (finS l c main).1 long L) (finS l c main).1.length)).drop (posL (allL (finS l c main).1 long L) (bpos l c i + t)).toNat) =
        ⟨(fnAt l i).its[t].op, (fnAt l i).its[t].d, (fnAt l i).its[t].a, (fnAt l i).its[t].b, n9, if allL (finS l c main).1 long L (bpos l c i + t) = true then 2 else 1, 0⟩ ∧
      ∀ y ∈ (fnAt l i).calls, y.item = (t : Int) → ((fnAt l i).its[t].op = 20 → posL (allL (finS l c main).1 long L) (bpos l c i + t + 1) + n9 = posL (allL (finS l c main).1 long L) (bpos l c (c y.fn.toNat))) ∧ ((fnAt l i).its[t].op = 11 → n9 = 2 * posL (allL (finS l c main).1 long L) (bpos l c (c y.fn.toNat)) + 1) := by
  have hit := h.item hi hc ht
  have hval := h.valid
  have hadsAt := fun {z : Int × Int} => h.adsAt (z := z) hi hc ht
  have hfn := h.fn i hi
  have hnx := bpos_next l c hi hc
  have hlen := finS_len (l := l) (c := c) (main := main)
  have hadsM : ∀ x ∈ (finS l c main).2, allL (finS l c main).1 long L x.1.toNat = true := fun x hx => by
    have h1 := h.ads x hx
    unfold allL
    rw [hS.holds.base _ h1.2.1 h1.2.2.1]
    rfl
  have hT : ∀ j, j < (finS l c main).1.length → tgt (finS l c main).1 j ≤ (finS l c main).1.length := by
    intro j hj
    have h1 := hval j (by rw [← hlen]; exact hj)
    unfold tgt
    rw [← hlen] at h1
    rcases item_ok h1 with ⟨_, h2, _⟩ | ⟨h2, _⟩ <;> omega
  have hvj := hval (bpos l c i + t) (by omega)
  rw [← hlen] at hvj
  have hjn : bpos l c i + t < (finS l c main).1.length := by rw [hlen]; omega
  obtain ⟨hw1, hw2⟩ := item_words (all := long) (by rw [hlen]; exact hN) hS hT hjn hvj
  have hsh := shift_op (bpos l c i) (fnAt l i).its[t]
  have hsd : (shiftI (bpos l c i) (fnAt l i).its[t]).d = (fnAt l i).its[t].d ∧ (shiftI (bpos l c i) (fnAt l i).its[t]).a = (fnAt l i).its[t].a ∧ (shiftI (bpos l c i) (fnAt l i).its[t]).b = (fnAt l i).its[t].b := by unfold shiftI; split <;> exact ⟨rfl, rfl, rfl⟩
  generalize hI : (finS l c main).1 = I at *
  generalize hA : (finS l c main).2 = A at *
  generalize hM : allL I long L = M at *
  have hat : ∀ {x : Item}, I[bpos l c i + t]? = some x → itAt I (bpos l c i + t) = x := fun hx => by unfold itAt; rw [List.getD_eq_getElem?_getD, hx]; rfl
  have plain : itAt I (bpos l c i + t) = itAt I (bpos l c i + t) → (∀ x ∈ A, x.1.toNat ≠ bpos l c i + t) → decode ((patch (posL M) A (codeTo I M I.length)).drop (posL M (bpos l c i + t)).toNat) = ⟨(itAt I (bpos l c i + t)).op, (itAt I (bpos l c i + t)).d, (itAt I (bpos l c i + t)).a, (itAt I (bpos l c i + t)).b, nOf I M (bpos l c i + t), if M (bpos l c i + t) = true then 2 else 1, 0⟩ := fun _ hno => by
    obtain ⟨rest, hr⟩ := patch_words (its := I) hadsM hjn hno
    rw [hr]
    exact decode_words hw1 hw2 rest
  rcases hit with ⟨y, hy, hyt, hx, hadm⟩ | ⟨hnone, hx⟩
  · have hyc := hfn.calls y hy
    rw [hyt, Int.toNat_natCast] at hyc
    have e1 : (fnAt l i).its.getD t nilItem = (fnAt l i).its[t] := by rw [List.getD_eq_getElem?_getD, List.getElem?_eq_getElem ht]; rfl
    rw [e1] at hyc
    obtain ⟨_, _, h4, h5, hop, htg, hnz⟩ := hyc
    have hI1 := hat hx
    by_cases hop20 : (fnAt l i).its[t].op = 20
    · refine ⟨nOf I M (bpos l c i + t), ?_, fun y' hy' hyt' => ?_⟩
      · rw [plain rfl (fun z hz e => (hadsAt hz e).1 hop20), hI1]
        unfold updI
        rw [if_pos (by rw [hsh]; exact hop20)]
        simp only
        rw [hsh, hsd.1, hsd.2.1, hsd.2.2]
      · have := hfn.one hy hy' (by rw [hyt, hyt'])
        subst this
        refine ⟨fun _ => ?_, fun e => by omega⟩
        have hlab : (itAt I (bpos l c i + t)).tg = ((bpos l c (c y.fn.toNat) : Nat) : Int) := by
          rw [hI1]; unfold updI; rw [if_pos (by rw [hsh]; exact hop20)]
        have hl9 : lab I (bpos l c i + t) = true := by unfold lab; rw [hlab]; simp
        have ht9 : tgt I (bpos l c i + t) = bpos l c (c y.fn.toNat) := by unfold tgt; rw [hlab]; rfl
        unfold nOf
        rw [if_pos hl9, ht9]
        omega
    · have hop11 : (fnAt l i).its[t].op = 11 := by rcases hop with h | h <;> omega
      have hmem := hadm (by rw [hsh]; exact hop20)
      have hMj := hadsM _ hmem
      simp only [Int.toNat_natCast] at hMj
      obtain ⟨rest, hr⟩ := patch_words2 (its := I) hadsM hjn (to_ := ((bpos l c (c y.fn.toNat) : Nat) : Int)) ⟨_, hmem, Int.toNat_natCast _⟩ (fun z hz e => by
        obtain ⟨_, y2, hy2, hyt2, hz2⟩ := hadsAt hz e
        have := hfn.one hy hy2 (by rw [hyt, hyt2])
        subst this
        exact hz2) hMj
      refine ⟨2 * posL M (bpos l c (c y.fn.toNat)) + 1, ?_, fun y' hy' hyt' => ?_⟩
      · rw [hr, hI1]
        unfold updI
        rw [if_neg (by rw [hsh]; exact hop20)]
        simp only
        rw [hsh, hsd.1, hsd.2.1, hsd.2.2, Int.toNat_natCast]
        have hB := (h.toBv (f := y.fn.toNat) (by omega)).2
        have hb := posL_bd M (bpos l c (c y.fn.toNat))
        rcases hfn.at ht with ⟨a, _⟩ | ⟨_, b⟩
        · omega
        rw [hnz, hop11] at b
        have hck := check_li b (2 * posL M (bpos l c (c y.fn.toNat)) + 1) (by omega)
        have hmod : (2 * posL M (bpos l c (c y.fn.toNat)) + 1) % 4294967296 = 2 * posL M (bpos l c (c y.fn.toNat)) + 1 := by omega
        have := decode_words (l := true) hck (by simp) rest
        rw [hop11, hMj, if_pos rfl]
        rw [if_pos rfl] at this
        rw [← this]
        show decode (_ :: _ :: rest) = decode ((wordOf _ _ _ _ + 67108864) :: (2 * posL M (bpos l c (c y.fn.toNat)) + 1) % 4294967296 :: rest)
        rw [hmod]
      · have := hfn.one hy hy' (by rw [hyt, hyt'])
        subst this
        exact ⟨fun e => absurd e hop20, fun _ => rfl⟩
  · refine ⟨nOf I M (bpos l c i + t), ?_, fun y hy hyt => absurd hyt (hnone y hy)⟩
    rw [plain rfl (fun z hz e => by
      obtain ⟨_, y, hy, hyt, _⟩ := hadsAt hz e
      exact hnone y hy hyt), hat hx, hsh, hsd.1, hsd.2.1, hsd.2.2]
end
end Go.Proofs.Ytkafbihlmhdjeab
