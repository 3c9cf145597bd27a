/- The contract of relax's Encode. -/
import Derived.Test.YtkafbihlmhdjeabSizes
import Derived.Test.YtkafbihlmhdjeabTimingC
namespace Go.Proofs.Ytkafbihlmhdjeab
open Go.RowKit
set_option linter.unusedVariables false

/-- which items are long, where all that have labels may have to be -/
def allL (its : List Item) (all : Bool) (L : Nat → Bool) (i : Nat) : Bool := L i || (all && lab its i)
/-- the distance that an item is given -/
def nOf (its : List Item) (M : Nat → Bool) (i : Nat) : Int := if lab its i = true then posL M (tgt its i) - posL M (i + 1) else (itAt its i).n
def wordsAt (its : List Item) (M : Nat → Bool) (i : Nat) : List Int := refWords (itAt its i).op (itAt its i).d (itAt its i).a (itAt its i).b (nOf its M i) (M i)
def codeTo (its : List Item) (M : Nat → Bool) : Nat → List Int
  | 0 => []
  | k + 1 => codeTo its M k ++ wordsAt its M k
theorem wordsAt_len (its : List Item) (M : Nat → Bool) (i : Nat) : ((wordsAt its M i).length : Int) = if M i = true then 2 else 1 := by
  unfold wordsAt refWords longWords; cases M i <;> simp
theorem codeTo_len (its : List Item) (M : Nat → Bool) (k : Nat) : ((codeTo its M k).length : Int) = posL M k := by
  induction k with
  | zero => rfl
  | succ k ih =>
    show (((codeTo its M k ++ wordsAt its M k).length : Nat) : Int) = posL M k + _
    rw [List.length_append, Int.natCast_add, ih, wordsAt_len]

theorem check_jump {op d a b : Int} (h : checkE op d a b 0 = 0) (hj : jumpB op = true) (n : Int) (hn : -2147483648 ≤ n ∧ n ≤ 2147483647) : checkE op d a b n = 0 := by
  obtain ⟨h0, h1, h2, h3, h4, h5, h6⟩ := checkE_ok h
  have hj2 : 16 ≤ op ∧ op ≤ 20 := by unfold jumpB at hj; simpa using hj
  have hu : (usesOf op).n = true := by
    rcases (show op = 16 ∨ op = 17 ∨ op = 18 ∨ op = 19 ∨ op = 20 by omega) with rfl | rfl | rfl | rfl | rfl <;> rfl
  unfold checkE
  rw [if_neg (by rw [inB_true.2 h0]; simp), if_neg, if_neg, if_neg]
  · unfold limBad
    rw [show (op == 9) = false from beq_eq_false_iff_ne.2 (by omega), show (op == 10) = false from beq_eq_false_iff_ne.2 (by omega), show (op == 14) = false from beq_eq_false_iff_ne.2 (by omega), show (op == 24) = false from beq_eq_false_iff_ne.2 (by omega)]
    simp
  · unfold formBad at h5 ⊢
    rw [hu] at h5 ⊢
    simpa using h5
  · unfold rangeBad
    rw [inB_true.2 h1, inB_true.2 h2, inB_true.2 h3, inB_true.2 hn]; simp

/-- what each item is encoded as: valid, and short where it was chosen so -/
theorem item_words {its : List Item} {len : Nat} {all : Bool} {L : Nat → Bool} (hn : len ≤ 16384) (hS : SizesOf its len L) (hT : ∀ i, i < len → tgt its i ≤ len) {i : Nat} (hi : i < len) (hok : itemErr len (itAt its i) = 0) :
    checkE (itAt its i).op (itAt its i).d (itAt its i).a (itAt its i).b (nOf its (allL its all L) i) = 0 ∧ (allL its all L i = false → shortB (nOf its (allL its all L) i) = true) := by
  have hp1 := posL_bd (allL its all L) (tgt its i)
  have hp2 := posL_bd (allL its all L) (i + 1)
  have ht := hT i hi
  rcases item_ok hok with ⟨h1, h2, h3, h4, h5⟩ | ⟨h1, h2⟩
  · have hl : lab its i = true := decide_eq_true h1
    have hno : nOf its (allL its all L) i = posL (allL its all L) (tgt its i) - posL (allL its all L) (i + 1) := by unfold nOf; rw [if_pos hl]
    rw [hno]
    refine ⟨check_jump h3 h4 _ (by omega), fun hm => ?_⟩
    unfold allL at hm
    rw [hl] at hm
    simp only [Bool.and_true, Bool.or_eq_false_iff] at hm
    obtain ⟨hm1, rfl⟩ := hm
    have e : allL its false L = L := by funext k; unfold allL; simp
    rw [e]
    have hf := hS.far i hi
    rw [hm1] at hf
    have hf2 : farL its L i = false := by cases h : farL its L i <;> simp [h] at hf ⊢
    unfold farL at hf2
    rw [hl] at hf2
    simp only [Bool.true_and, Bool.not_eq_false'] at hf2
    have e2 : posL L (i + 1) = posL L i + 1 := by show posL L i + _ = _; rw [hm1]; rfl
    rw [e2]
    unfold distL at hf2
    rw [show posL L (tgt its i) - (posL L i + 1) = posL L (tgt its i) - posL L i - 1 by omega]
    exact hf2
  · have hl : lab its i = false := decide_eq_false (by omega)
    have hno : nOf its (allL its all L) i = (itAt its i).n := by unfold nOf; rw [if_neg (by rw [hl]; simp)]
    rw [hno]
    refine ⟨h2, fun hm => ?_⟩
    unfold allL at hm
    rw [hl, hS.base i hi hl] at hm
    simpa using hm

def EncPost (its : List Item) (len : Nat) (all : Bool) (w : World) (e : Ending) (w' : World) : Prop :=
  ∃ v gs L, e = .returned (.tuple #[v, .slice (some ⟨gs, 0, none⟩) len (len + 1), .int .i64 0]) ∧ SizesOf its len L ∧ posL (allL its all L) len ≤ 16384 ∧
    w'.ownsRow w.heap.size 3 1 v (codeTo its (allL its all L) len).length ((codeTo its (allL its all L) len).map (Value.int .i64)) ∧
    Blk w' gs 3 (rowL (len + 1) (fun i => .int .i64 (posL (allL its all L) i))) ∧ w.heap.size ≤ gs ∧ Below w.heap.size w w'
def NoCode (c : Int) (w : World) (e : Ending) (w' : World) : Prop := e = .returned (.tuple #[.slice none 0 0, .slice none 0 0, .int .i64 c]) ∧ Below w.heap.size w w'
/-- what Encode hands back where the check finds nothing -/
def EncAny (its : List Item) (len : Nat) (all : Bool) (w : World) (e : Ending) (w' : World) : Prop :=
  EncPost its len all w e w' ∨ ((∃ L, SizesOf its len L ∧ 16384 < posL (allL its all L) len) ∧ NoCode 2 w e w')

/-- the same, with what is known of the rows' places -/
def EncPostX (its : List Item) (len : Nat) (all : Bool) (w : World) (e : Ending) (w' : World) : Prop :=
  ∃ v gs L, e = .returned (.tuple #[v, .slice (some ⟨gs, 0, none⟩) len (len + 1), .int .i64 0]) ∧ SizesOf its len L ∧ posL (allL its all L) len ≤ 16384 ∧
    w'.ownsRow w.heap.size 3 1 v (codeTo its (allL its all L) len).length ((codeTo its (allL its all L) len).map (Value.int .i64)) ∧
    Blk w' gs 3 (rowL (len + 1) (fun i => .int .i64 (posL (allL its all L) i))) ∧ w.heap.size ≤ gs ∧ Below w.heap.size w w' ∧ (∀ q, v.ownBlock = some q → q ≠ gs)
def EncAnyX (its : List Item) (len : Nat) (all : Bool) (w : World) (e : Ending) (w' : World) : Prop :=
  EncPostX its len all w e w' ∨ ((∃ L, SizesOf its len L ∧ 16384 < posL (allL its all L) len) ∧ NoCode 2 w e w')

set_option maxHeartbeats 1000000 in
theorem renc_err (a : Option Addr) (len cap : Nat) (its : List Item) (all : Bool) (w : World) (h : Came w a len cap 6 (its.map itemCells)) (he : itemsE its ≠ 0) :
    Calls Try.prog 64 #[.slice a len cap, .bool all] w (NoCode (itemsE its) w) := by
  have HC := Lib.hid (sizes_err a len cap its w h he)
  obtain ⟨c, hc⟩ : ∃ c, c = itemsE its := ⟨_, rfl⟩
  rw [← hc] at HC he ⊢
  have hcn : (c != 0) = true := by rw [bne_iff_ne]; exact he
  clear hc he h
  go_enter Try.func64, Try.ntmps64
  go_wp2_with (go_at_call 68; refine HC.out.mono ?_; rintro e w' ⟨rfl, hb⟩; have HB := Lib.hid hb; clear hb)
  go_ret3
  exact ⟨rfl, HB.out⟩

theorem ref_as_enc (op d a b n : Int) (w : World) (l : Bool) (hc : checkE op d a b n = 0) (hs : l = false → shortB n = true) (hl : l = false) :
    Calls Try.prog 70 #[.agg #[.int .i64 op, .int .i64 d, .int .i64 a, .int .i64 b, .int .i64 n]] w (WordsPost (refWords op d a b n l) w) := by
  have := enc_ok op d a b n w hc
  rw [← refWords_enc, hs hl] at this
  rw [hl]; exact this
theorem ref_as_long (op d a b n : Int) (w : World) (l : Bool) (hc : checkE op d a b n = 0) (hl : l = true) :
    Calls Try.prog 71 #[.agg #[.int .i64 op, .int .i64 d, .int .i64 a, .int .i64 b, .int .i64 n]] w (WordsPost (refWords op d a b n l) w) := by
  rw [hl]; exact long_ok op d a b n w hc

theorem owns_laterR {w w' : World} {base : Nat} {e : TypeId} {size : Nat} {v : Value} {n : Nat} {l : List Value} (h : w.ownsRow base e size v n l) (hb : Below w.heap.size w w') : w'.ownsRow base e size v n l := by
  obtain ⟨h1, h2⟩ := h
  refine ⟨h1, ?_⟩
  rcases h2 with h2 | ⟨g, cap, cur, hv, hg, hh, r⟩
  · exact .inl h2
  · exact .inr ⟨g, cap, cur, hv, hg, by rw [hb.block g (lt_of_block hh)]; exact hh, r⟩
theorem ownsR_drewN {w : World} {base : Nat} {e : TypeId} {size : Nat} {v : Value} {n : Nat} {l : List Value} (h : w.ownsRow base e size v n l) (m : Nat) : (w.drewN m).ownsRow base e size v n l := owns_laterR h (below_drewN_self _ _ m)
theorem below_swap (w : World) (o o' : Obj) : Below w.heap.size (w.alloc o).drew (w.alloc o').drew :=
  ⟨rfl, rfl, rfl, by show (World.alloc _ _).heap.size ≤ (World.alloc _ _).heap.size; simp, fun k hk => (Below.heap_alloc w o' k hk).trans (Below.heap_alloc w o k hk).symm⟩

set_option maxRecDepth 100000 in
set_option maxHeartbeats 4000000 in
theorem renc_okX (a : Option Addr) (len cap : Nat) (its : List Item) (all : Bool) (w : World) (h : Came w a len cap 6 (its.map itemCells)) (he : itemsE its = 0) :
    Calls Try.prog 64 #[.slice a len cap, .bool all] w (EncAnyX its len all w) := by
  have hl : its.length = len := by simpa using h.count
  have hle := h.le
  have hmx := h.max
  obtain ⟨hbig, hok⟩ := items_ok he
  have HC := Lib.hid (sizes_ok a len cap its w h he)
  rw [hl] at hbig hok
  have HCM := Lib.hid h
  have HL := Lib.hid hl
  have HOK := Lib.hid hok
  have hT : ∀ i, i < len → tgt its i ≤ len := by
    intro i hi
    unfold tgt
    rcases item_ok (hok i hi) with ⟨_, h2, _⟩ | ⟨h2, _⟩ <;> omega
  have HT := Lib.hid hT
  clear h hl hok he hT
  go_enter Try.func64, Try.ntmps64
  go_wp2_with (go_at_call 68; refine HC.out.mono ?_; rintro e w1 ⟨gl, L, rfl, hbl, hS, hgl, hb⟩; have HBL := Lib.hid hbl; have HS := Lib.hid hS; have HGL := Lib.hid hgl; have HB1 := Lib.hid hb; clear hbl hS hgl hb)
  clear HC
  go_loopw [29] (fun u wr => ∃ k : Nat, k ≤ len ∧ u = .int .i64 k ∧ Blk wr gl 4 (rowL len (fun i => .bool (if i < k then allL its all L i else L i))) ∧ Below w.heap.size w wr) (fun u _ => len - (intOf u).toNat)
  case atStart =>
    exact ⟨0, Nat.zero_le _, rfl, HBL.out.rowCongr fun i _ => by rw [if_neg (Nat.not_lt_zero i)], HB1.out⟩
  case round =>
    clear HBL HB1
    obtain ⟨k, hk, rfl, hblk, hb⟩ := hrel
    by_cases hlt : k < len
    · obtain ⟨b0, off, ea, hbl, hcell⟩ := came_items HCM.out (by omega)
      subst ea
      have hkl : k < its.length := by have := HL.out; omega
      have hcs := (hcell k hkl).later hb hbl
      rw [← itAt_get hkl] at hcs
      have HAL : Hid (allL its all L k = (L k || (all && lab its k))) := rfl
      have HLB : Hid (lab its k = decide (0 ≤ (itAt its k).tg)) := rfl
      obtain ⟨it, hit⟩ : ∃ it, it = itAt its k := ⟨_, rfl⟩
      rw [← hit] at hcs HLB
      have HCS := Lib.hid hcs
      have hb1 := hblk.row (i := k) hlt
      have hf1 := hblk.free k
      rw [if_neg (Nat.lt_irrefl k)] at hb1
      have hglt : gl < wr.heap.size := hblk.lt
      have hws : w.heap.size ≤ wr.heap.size := hb.size
      have hwg := HGL.out
      have HBLK := Lib.hid hblk
      have HB := Lib.hid hb
      clear hit hcs hcell hblk hb
      obtain ⟨op, d, a, b, n, tg⟩ := it
      obtain ⟨c0, c1, c2, c3, c4, c5⟩ := HCS.out
      simp only at c0 c1 c2 c3 c4 c5 HLB
      obtain ⟨nv, hnv⟩ : ∃ nv, nv = allL its all L k := ⟨_, rfl⟩
      rw [← hnv] at HAL
      have HNV := Lib.hid hnv
      clear hnv
      have hcases : (L k = true ∧ nv = true) ∨ (L k = false ∧ all = false ∧ nv = false) ∨ (L k = false ∧ all = true ∧ 0 ≤ tg ∧ nv = true) ∨ (L k = false ∧ all = true ∧ tg < 0 ∧ nv = false) := by
        have h1 := HAL.out
        rw [HLB.out] at h1
        cases hlk : L k
        · cases all
          · right; left; exact ⟨rfl, rfl, by rw [h1, hlk]; rfl⟩
          · by_cases ht : 0 ≤ tg
            · right; right; left; exact ⟨rfl, rfl, ht, by rw [h1, hlk, decide_eq_true ht]; rfl⟩
            · right; right; right; exact ⟨rfl, rfl, by omega, by rw [h1, hlk, decide_eq_false ht]; rfl⟩
        · left; exact ⟨rfl, by rw [h1, hlk]; rfl⟩
      clear HAL HLB
      rcases hcases with ⟨hlk, rfl⟩ | ⟨hlk, rfl, rfl⟩ | ⟨hlk, rfl, htg, rfl⟩ | ⟨hlk, rfl, htg, rfl⟩
      all_goals
        rw [hlk] at hb1
        clear hlk
        go_wp2_with fail
        go_roundw
        case rel =>
          refine ⟨k + 1, by omega, by go_num, ((HBLK.out.rowSet k _).alloc _).rowCongr fun i hi => ?_, (HB.out.setCell (p := ⟨gl, k, none⟩) (by exact hwg) _).alloc (by simp; omega) _⟩
          by_cases e : i = k
          · subst e; rw [if_pos rfl, if_pos (by omega), ← HNV.out] <;> rw [decide_eq_false (by omega)]
          · rw [if_neg e]
            by_cases e2 : i < k
            · rw [if_pos e2, if_pos (by omega)]
            · rw [if_neg e2, if_neg (by omega)]
        case measure => simp [intOf]; omega
    · have ek : k = len := by omega
      subst ek
      have HBLK := Lib.hid (hblk.rowCongr (g := fun i => .bool (allL its all L i)) fun i hi => by rw [if_pos hi])
      have HB := Lib.hid hb
      clear hblk hb
      have HST := Lib.hid (starts_any a k cap gl 0 k (allL its all L) wr hbig (fun i hi => by rw [Nat.zero_add]; exact HBLK.out.row hi) HBLK.out.lt ⟨Nat.le_refl _, by omega⟩)
      have HIW := Lib.hid (fun i (hi : i < k) => item_words (all := all) hbig HS.out HT.out hi (HOK.out i hi))
      obtain ⟨M, hM⟩ : ∃ M, M = allL its all L := ⟨_, rfl⟩
      rw [← hM] at HST HIW HBLK
      have HMM := Lib.hid hM
      clear hM
      have hpe := posL_bd M k
      by_cases hbg : 16384 < posL M k
      · have HBG := Lib.hid hbg
        go_wp2_with (go_at_call 69; refine HST.out.mono ?_; rintro e w3 ⟨gs, rfl, hst, hge, hb3⟩; have e5 := hst.row (i := k) (by omega); have HB3 := Lib.hid hb3; clear hst hge hb3)
        go_ret3
        exact .inr ⟨⟨L, HS.out, by rw [← HMM.out]; exact HBG.out⟩, rfl, HB.out.trans (HB3.out.mono HB.out.size)⟩
      · have HBG := Lib.hid hbg
        go_wp2_with (go_at_call 69; refine HST.out.mono ?_; rintro e w3 ⟨gs, rfl, hst, hge, hb3⟩; have e5 := hst.row (i := k) (by omega); have HGS := Lib.hid hst; have HGE := Lib.hid hge; have HB3 := Lib.hid hb3; have HBLK3 := Lib.hid (HBLK.out.below hb3 HBLK.out.lt); clear hst hge hb3)
        have HBW := Lib.hid (HB.out.trans (HB3.out.mono HB.out.size))
        have HGG : Hid (w.heap.size ≤ gs) := by have h1 := HB.out.size; have h2 := HGE.out; unfold Hid; omega
        obtain ⟨i0, hi0, hz0, hz1, hz2⟩ := info_parts Try.infoT3
        clear HST HBLK HB HB3 HGE e5 hbg
        obtain ⟨w4, hw4⟩ : ∃ w4, w4 = w3 := ⟨_, rfl⟩
        rw [← hw4] at HBLK3 HGS HBW ⊢
        clear hw4
        go_loopw [12, 61] (fun v u w5 => ∃ j : Nat, j ≤ k ∧ u = .int .i64 j ∧ w5.ownsRow w4.heap.size 3 1 v (codeTo its M j).length ((codeTo its M j).map (Value.int .i64)) ∧ Below w4.heap.size w4 w5) (fun _ u _ => k - (intOf u).toNat)
        case atStart => exact ⟨0, Nat.zero_le _, rfl, World.ownsRow_nil _ _ _ _, Below.refl _ _⟩
        case round =>
          obtain ⟨j, hj, rfl, hown, hb⟩ := hrel
          by_cases hlt2 : j < k
          · obtain ⟨b0, off, ea, hbl, hcell⟩ := came_items HCM.out (by omega)
            subst ea
            have hjl : j < its.length := by have := HL.out; omega
            have hcs := (hcell j hjl).later (HBW.out.trans (hb.mono HBW.out.size)) hbl
            rw [← itAt_get hjl] at hcs
            have hwd := HIW.out j hlt2
            have hblj := HBLK3.out.below hb HBLK3.out.lt
            have hstj := HGS.out.below hb HGS.out.lt
            have e0 := hblj.row (i := j) hlt2
            have hglt : gl < wr.heap.size := Nat.lt_of_lt_of_le HBLK3.out.lt hb.size
            have hgst : gs < wr.heap.size := Nat.lt_of_lt_of_le HGS.out.lt hb.size
            have hw4r : w4.heap.size ≤ wr.heap.size := hb.size
            have HNO : Hid (nOf its M j = if lab its j = true then posL M (tgt its j) - posL M (j + 1) else (itAt its j).n) := rfl
            have HLB : Hid (lab its j = decide (0 ≤ (itAt its j).tg)) := rfl
            have HTG : Hid (tgt its j = (itAt its j).tg.toNat) := rfl
            have HWA : Hid (wordsAt its M j = refWords (itAt its j).op (itAt its j).d (itAt its j).a (itAt its j).b (nOf its M j) (M j)) := rfl
            have hwl := wordsAt_len its M j
            have hcl := codeTo_len its M j
            have hpj := posL_bd M j
            have htl := HT.out j hlt2
            obtain ⟨it, hit⟩ : ∃ it, it = itAt its j := ⟨_, rfl⟩
            rw [← hit] at hcs HNO HLB HTG hwd HWA
            have HCS := Lib.hid hcs
            have HOWN := Lib.hid hown
            have HB := Lib.hid hb
            have HSTJ := Lib.hid hstj
            clear hit hcs hcell hown hb hblj hstj
            obtain ⟨op, d, a, b, n, tg⟩ := it
            obtain ⟨c0, c1, c2, c3, c4, c5⟩ := HCS.out
            simp only at c0 c1 c2 c3 c4 c5 HNO HLB HTG hwd HWA
            have HWD := Lib.hid hwd
            clear hwd
            obtain ⟨ml, hml⟩ : ∃ ml, ml = M j := ⟨_, rfl⟩
            obtain ⟨N, hN⟩ : ∃ N, N = nOf its M j := ⟨_, rfl⟩
            obtain ⟨ws, hws⟩ : ∃ ws, ws = wordsAt its M j := ⟨_, rfl⟩
            obtain ⟨cd, hcd⟩ : ∃ cd, cd = codeTo its M j := ⟨_, rfl⟩
            have HC1 : Hid (codeTo its M (j + 1) = cd ++ ws) := by unfold Hid; rw [hcd, hws]; rfl
            rw [← hml] at e0 HWD HWA hwl
            rw [← hN] at HWD HNO HWA
            rw [← hws] at hwl HWA
            rw [← hcd] at HOWN hcl
            have hwl2 : ws.length ≤ 2 := by cases ml <;> simp at hwl <;> omega
            have hwl1 : 1 ≤ ws.length := by cases ml <;> simp at hwl <;> omega
            have hcl2 : cd.length ≤ 32768 := by omega
            clear hml hN hws hcd hwl hcl hpj
            have HEN := fun w => Lib.hid (fun (hl : ml = false) => ref_as_enc op d a b N w ml HWD.out.1 HWD.out.2 hl)
            have HLO := fun w => Lib.hid (fun (hl : ml = true) => ref_as_long op d a b N w ml HWD.out.1 hl)
            rw [← HWA.out] at HEN HLO
            clear HWA HWD
            by_cases htg : tg < 0
            · have hNn : N = n := by rw [HNO.out, HLB.out, decide_eq_false (by omega), if_neg (by simp)]
              clear HNO HLB HTG htl
              subst hNn
              cases ml
              · have HE := fun w => Lib.hid ((HEN w).out rfl)
                clear HEN HLO
                go_wp2_with fail
                refine (HE _).out.mono ?_
                rintro e w6 ⟨g, rfl, hs, hg, hb6⟩
                have HOWN6 := Lib.hid (owns_laterR ((HOWN.out.alloc _).alloc _) hb6)
                have HS6 := Lib.hid hs
                have HBB := Lib.hid (((HB.out.alloc hw4r _).alloc (by simp; omega) _).trans (hb6.mono (B' := w4.heap.size) (by simp; omega)))
                clear hs hg hb6
                go_wp2_with (at_builtin; refine wpList_append_own _ rfl _ _ 24 rfl w4.heap.size 3 i0 (.int .i64 0) 1 8 Try.underlying24 hi0 hz0 hz1 hz2 rfl (by decide) _ _ _ rfl HOWN6.out ⟨g, 0, none⟩ ws.length ws.length (ws.map (Value.int .i64)) rfl ?q14e1 ?q14e2 ?q14e3 ?q14e4 ?q14e5 ?q14e6 ?_)
                case q14e1 => simp
                case q14e2 => intro q u hu; rw [Addr.add_lit, Nat.zero_add]; exact (HS6.out.cell q).trans hu
                case q14e3 => exact ints_oneCell _ _
                case q14e4 => unfold maxLen; omega
                case q14e5 => omega
                case q14e6 => exact HBB.out.size
                · intro v' w7 hown' hgrow _
                  have hb7 := HBB.out.grown hgrow HBB.out.size (fun q hq => (HOWN6.out.lt q hq).1)
                  have hown7 : w7.ownsRow w4.heap.size 3 1 v' (codeTo its M (j + 1)).length ((codeTo its M (j + 1)).map (Value.int .i64)) := by rw [HC1.out, List.length_append, List.map_append]; exact hown'
                  have HO7 := Lib.hid hown7
                  have HB7 := Lib.hid hb7
                  clear hown' hgrow hb7 hown7
                  go_wp2_with fail
                  go_roundw
                  case rel => exact ⟨j + 1, by omega, by go_num, HO7.out, HB7.out⟩
                  case measure => simp [intOf]; omega
              · have HE := fun w => Lib.hid ((HLO w).out rfl)
                clear HEN HLO
                go_wp2_with fail
                refine (HE _).out.mono ?_
                rintro e w6 ⟨g, rfl, hs, hg, hb6⟩
                have HOWN6 := Lib.hid (owns_laterR ((HOWN.out.alloc _).alloc _) hb6)
                have HS6 := Lib.hid hs
                have HBB := Lib.hid (((HB.out.alloc hw4r _).alloc (by simp; omega) _).trans (hb6.mono (B' := w4.heap.size) (by simp; omega)))
                clear hs hg hb6
                go_wp2_with (at_builtin; refine wpList_append_own _ rfl _ _ 24 rfl w4.heap.size 3 i0 (.int .i64 0) 1 8 Try.underlying24 hi0 hz0 hz1 hz2 rfl (by decide) _ _ _ rfl HOWN6.out ⟨g, 0, none⟩ ws.length ws.length (ws.map (Value.int .i64)) rfl ?q14l1 ?q14l2 ?q14l3 ?q14l4 ?q14l5 ?q14l6 ?_)
                case q14l1 => simp
                case q14l2 => intro q u hu; rw [Addr.add_lit, Nat.zero_add]; exact (HS6.out.cell q).trans hu
                case q14l3 => exact ints_oneCell _ _
                case q14l4 => unfold maxLen; omega
                case q14l5 => omega
                case q14l6 => exact HBB.out.size
                · intro v' w7 hown' hgrow _
                  have hb7 := HBB.out.grown hgrow HBB.out.size (fun q hq => (HOWN6.out.lt q hq).1)
                  have hown7 : w7.ownsRow w4.heap.size 3 1 v' (codeTo its M (j + 1)).length ((codeTo its M (j + 1)).map (Value.int .i64)) := by rw [HC1.out, List.length_append, List.map_append]; exact hown'
                  have HO7 := Lib.hid hown7
                  have HB7 := Lib.hid hb7
                  clear hown' hgrow hb7 hown7
                  go_wp2_with fail
                  go_roundw
                  case rel => exact ⟨j + 1, by omega, by go_num, HO7.out, HB7.out⟩
                  case measure => simp [intOf]; omega
            · obtain ⟨t, rfl⟩ := Int.eq_ofNat_of_zero_le (show 0 ≤ tg by omega)
              have ht : tgt its j = t := by rw [HTG.out]; omega
              have hNn : N = posL M t - posL M (j + 1) := by rw [HNO.out, HLB.out, decide_eq_true (by omega), if_pos rfl, ht]
              rw [ht] at htl
              have e1 := HSTJ.out.row (i := t) (by omega)
              have e2 := HSTJ.out.row (i := j + 1) (by omega)
              have hp1 := posL_bd M t
              have hp2 := posL_bd M (j + 1)
              obtain ⟨p1, hq1⟩ : ∃ p, p = posL M t := ⟨_, rfl⟩
              obtain ⟨p2, hq2⟩ : ∃ p, p = posL M (j + 1) := ⟨_, rfl⟩
              rw [← hq1] at e1 hp1 hNn
              rw [← hq2] at e2 hp2 hNn
              clear HNO HLB HTG ht hq1 hq2
              subst hNn
              go_wp2_with fail
              have hbw : Below (wr.heap.size + 1) ((wr.alloc (.cells #[.int .i64 op, .int .i64 d, .int .i64 a, .int .i64 b, .int .i64 n, .int .i64 (t : Int)] 68)).alloc (.cells #[.int .i64 op, .int .i64 d, .int .i64 a, .int .i64 b, .int .i64 n] 36)) ((wr.alloc (.cells #[.int .i64 op, .int .i64 d, .int .i64 a, .int .i64 b, .int .i64 n, .int .i64 (t : Int)] 68)).alloc (.cells #[.int .i64 op, .int .i64 d, .int .i64 a, .int .i64 b, .int .i64 n] 36)).drew := (Below.refl _ _).drew
              have g5 : ((wr.alloc (.cells #[.int .i64 op, .int .i64 d, .int .i64 a, .int .i64 b, .int .i64 n, .int .i64 (t : Int)] 68)).alloc (.cells #[.int .i64 op, .int .i64 d, .int .i64 a, .int .i64 b, .int .i64 n] 36)).cell? ⟨wr.heap.size, 5, none⟩ = some (.int .i64 (t : Int)) := by rw [World.cell?_alloc_lt _ _ _ (by simp), World.cell?_alloc_new]; rfl
              have g1 : ((wr.alloc (.cells #[.int .i64 op, .int .i64 d, .int .i64 a, .int .i64 b, .int .i64 n, .int .i64 (t : Int)] 68)).alloc (.cells #[.int .i64 op, .int .i64 d, .int .i64 a, .int .i64 b, .int .i64 n] 36)).cell? ⟨gs, t, none⟩ = some (.int .i64 p1) := by rw [World.cell?_alloc_lt _ _ _ (by simp; omega), World.cell?_alloc_lt _ _ _ hgst]; exact e1
              have g2 : ((wr.alloc (.cells #[.int .i64 op, .int .i64 d, .int .i64 a, .int .i64 b, .int .i64 n, .int .i64 (t : Int)] 68)).alloc (.cells #[.int .i64 op, .int .i64 d, .int .i64 a, .int .i64 b, .int .i64 n] 36)).cell? ⟨gs, j + 1, none⟩ = some (.int .i64 p2) := by rw [World.cell?_alloc_lt _ _ _ (by simp; omega), World.cell?_alloc_lt _ _ _ hgst]; exact e2
              have r5 := fun x : After (wr.heap.size + 1) ((wr.alloc (.cells #[.int .i64 op, .int .i64 d, .int .i64 a, .int .i64 b, .int .i64 n, .int .i64 (t : Int)] 68)).alloc (.cells #[.int .i64 op, .int .i64 d, .int .i64 a, .int .i64 b, .int .i64 n] 36)).drew => ((hbw.trans x.below).cell (p := ⟨wr.heap.size, 5, none⟩) (by simp)).trans g5
              have r1 := fun x : After (wr.heap.size + 1) ((wr.alloc (.cells #[.int .i64 op, .int .i64 d, .int .i64 a, .int .i64 b, .int .i64 n, .int .i64 (t : Int)] 68)).alloc (.cells #[.int .i64 op, .int .i64 d, .int .i64 a, .int .i64 b, .int .i64 n] 36)).drew => ((hbw.trans x.below).cell (p := ⟨gs, t, none⟩) (by simp; omega)).trans g1
              have r2 := fun x : After (wr.heap.size + 1) ((wr.alloc (.cells #[.int .i64 op, .int .i64 d, .int .i64 a, .int .i64 b, .int .i64 n, .int .i64 (t : Int)] 68)).alloc (.cells #[.int .i64 op, .int .i64 d, .int .i64 a, .int .i64 b, .int .i64 n] 36)).drew => ((hbw.trans x.below).cell (p := ⟨gs, j + 1, none⟩) (by simp; omega)).trans g2
              clear hbw g5 g1 g2
              have htn : (t : Int) < (k : Int) + 1 := by omega
              have hjn : (j : Int) + 1 < (k : Int) + 1 := by omega
              refine wp_region_eager (wr.heap.size + 1) [(0, true), (1, true), (2, true), (3, true), (4, true), (5, true), (6, true), (7, true), (8, true), (9, true), (10, true), (11, true), (12, false)] (by kernel_rfl) (by kernel_rfl) ?_
              repeat (refine eag_read rfl ?_; go_big_quiet_step (fail); refine wpQuiet_nil ?_)
              clear r5 r1 r2
              refine eag_does rfl rfl ?_
              intro K hK
              go_simp
              refine hK _ _ ?_ ?_
              · simpa using below_swap (wr.alloc (.cells #[.int .i64 op, .int .i64 d, .int .i64 a, .int .i64 b, .int .i64 n, .int .i64 (t : Int)] 68)) _ _
              clear hK K
              refine eag_end ?_
              cases ml
              · have HE := fun w => Lib.hid ((HEN w).out rfl)
                clear HEN HLO
                go_wp2_with fail
                refine (HE _).out.mono ?_
                rintro e w6 ⟨g, rfl, hs, hg, hb6⟩
                have HOWN6 := Lib.hid (owns_laterR (((HOWN.out.alloc _).alloc _).drew) hb6)
                have HS6 := Lib.hid hs
                have HBB := Lib.hid ((((HB.out.alloc hw4r _).alloc (by simp; omega) _).drew).trans (hb6.mono (B' := w4.heap.size) (by show _ ≤ (World.alloc _ _).heap.size; simp; omega)))
                clear hs hg hb6
                go_wp2_with (at_builtin; refine wpList_append_own _ rfl _ _ 24 rfl w4.heap.size 3 i0 (.int .i64 0) 1 8 Try.underlying24 hi0 hz0 hz1 hz2 rfl (by decide) _ _ _ rfl HOWN6.out ⟨g, 0, none⟩ ws.length ws.length (ws.map (Value.int .i64)) rfl ?p14e1 ?p14e2 ?p14e3 ?p14e4 ?p14e5 ?p14e6 ?_)
                case p14e1 => simp
                case p14e2 => intro q u hu; rw [Addr.add_lit, Nat.zero_add]; exact (HS6.out.cell q).trans hu
                case p14e3 => exact ints_oneCell _ _
                case p14e4 => unfold maxLen; omega
                case p14e5 => omega
                case p14e6 => exact HBB.out.size
                · intro v' w7 hown' hgrow _
                  have hb7 := HBB.out.grown hgrow HBB.out.size (fun q hq => (HOWN6.out.lt q hq).1)
                  have hown7 : w7.ownsRow w4.heap.size 3 1 v' (codeTo its M (j + 1)).length ((codeTo its M (j + 1)).map (Value.int .i64)) := by rw [HC1.out, List.length_append, List.map_append]; exact hown'
                  have HO7 := Lib.hid hown7
                  have HB7 := Lib.hid hb7
                  clear hown' hgrow hb7 hown7
                  go_wp2_with fail
                  go_roundw
                  case rel => exact ⟨j + 1, by omega, by go_num, HO7.out, HB7.out⟩
                  case measure => simp [intOf]; omega
              · have HE := fun w => Lib.hid ((HLO w).out rfl)
                clear HEN HLO
                go_wp2_with fail
                refine (HE _).out.mono ?_
                rintro e w6 ⟨g, rfl, hs, hg, hb6⟩
                have HOWN6 := Lib.hid (owns_laterR (((HOWN.out.alloc _).alloc _).drew) hb6)
                have HS6 := Lib.hid hs
                have HBB := Lib.hid ((((HB.out.alloc hw4r _).alloc (by simp; omega) _).drew).trans (hb6.mono (B' := w4.heap.size) (by show _ ≤ (World.alloc _ _).heap.size; simp; omega)))
                clear hs hg hb6
                go_wp2_with (at_builtin; refine wpList_append_own _ rfl _ _ 24 rfl w4.heap.size 3 i0 (.int .i64 0) 1 8 Try.underlying24 hi0 hz0 hz1 hz2 rfl (by decide) _ _ _ rfl HOWN6.out ⟨g, 0, none⟩ ws.length ws.length (ws.map (Value.int .i64)) rfl ?p14l1 ?p14l2 ?p14l3 ?p14l4 ?p14l5 ?p14l6 ?_)
                case p14l1 => simp
                case p14l2 => intro q u hu; rw [Addr.add_lit, Nat.zero_add]; exact (HS6.out.cell q).trans hu
                case p14l3 => exact ints_oneCell _ _
                case p14l4 => unfold maxLen; omega
                case p14l5 => omega
                case p14l6 => exact HBB.out.size
                · intro v' w7 hown' hgrow _
                  have hb7 := HBB.out.grown hgrow HBB.out.size (fun q hq => (HOWN6.out.lt q hq).1)
                  have hown7 : w7.ownsRow w4.heap.size 3 1 v' (codeTo its M (j + 1)).length ((codeTo its M (j + 1)).map (Value.int .i64)) := by rw [HC1.out, List.length_append, List.map_append]; exact hown'
                  have HO7 := Lib.hid hown7
                  have HB7 := Lib.hid hb7
                  clear hown' hgrow hb7 hown7
                  go_wp2_with fail
                  go_roundw
                  case rel => exact ⟨j + 1, by omega, by go_num, HO7.out, HB7.out⟩
                  case measure => simp [intOf]; omega
          · have ej : j = k := by omega
            subst ej
            have HOWN := Lib.hid hown
            have HBR := Lib.hid hb
            clear hown hb
            go_wp2_with fail
            go_quiet (fail)
            go_wp2_with fail
            go_ret3
            exact .inl ⟨_, gs, L, rfl, HS.out, by rw [← HMM.out]; exact HBG.out, by rw [← HMM.out]; exact owns_base (ownsR_drewN HOWN.out nq) HBW.out.size, by rw [← HMM.out]; exact (HGS.out.below HBR.out HGS.out.lt).drewN nq, HGG.out, (HBW.out.trans (HBR.out.mono HBW.out.size)).trans (below_drewN_self _ _ nq), fun q hq e => by have h1 := (HOWN.out.lt q hq).1; have h2 := HGS.out.lt; omega⟩
theorem renc_ok (a : Option Addr) (len cap : Nat) (its : List Item) (all : Bool) (w : World) (h : Came w a len cap 6 (its.map itemCells)) (he : itemsE its = 0) :
    Calls Try.prog 64 #[.slice a len cap, .bool all] w (EncAny its len all w) :=
  (renc_okX a len cap its all w h he).mono fun e w' hx => by
    rcases hx with ⟨v, gs, L, h1, h2, h3, h4, h5, h6, h7, _⟩ | hx
    · exact .inl ⟨v, gs, L, h1, h2, h3, h4, h5, h6, h7⟩
    · exact .inr hx
end Go.Proofs.Ytkafbihlmhdjeab
