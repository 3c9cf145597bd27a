/- FrameMaps: the plain law. No function of the program is walked. -/
import Derived.Test.YtdnpoomagjcpfaaGreatRetAl
import Derived.Test.YtdnpoomagjcpfaaGreatFrmM
import Derived.Test.YtdnpoomagjcpfaaGreatVAliveM
namespace Go.Proofs.YtdnpoomagjcpfaaGreat
open Go.RowKit
set_option linter.unusedVariables false
set_option linter.unusedSimpArgs false

theorem fold_alive (b : VB) (l : Nat → Bool) (r : Nat) : ∀ m : List VI, m.foldr insF (markF (endV b.e) l) r = (m.foldr insF (fun r => if (r : Int) ∈ endV b.e then true else false) r || (m.foldr insF (fun r => if (r : Int) ∈ endV b.e then true else true) r && l r))
 | [] => by
  show markF _ _ _ = _
  unfold markF
  by_cases h : (r : Int) ∈ endV b.e <;> simp [h]
 | x :: m => by
  have ih := fold_alive b l r m
  simp only [List.foldr_cons]
  unfold insF at ih ⊢
  by_cases h : (r : Int) ∈ usesV x
  ·simp [h]
  ·by_cases h2 : (r : Int) = defV x
   ·rw [if_neg h, if_pos h2, if_neg h, if_pos h2, if_neg h, if_pos h2]; rfl
   ·simp only [h, h2, if_false]
    exact ih
theorem lvB_alive (b : VB) (l : Nat → Bool) (q r : Nat) : lvB b l q r = (genAt b q r || (thruAt b q r && l r)) := fold_alive b l r _
/-- what Emit keeps behind an instruction is what the reference says -/
theorem after_alive {f : VF} {n nb : Nat} {XL : Nat → Nat → Bool} (hX : ∀ i, i < nb → ∀ r, r < n → (XL i r = true ↔ LiveI f i r)) (ht : TosV f nb) {i j r : Nat} (hi : i < nb) (hr : r < n) :
  afB (f.blk i) (aftF (f.blk i).e.to XL) j r = true ↔ (r : Int) ≠ defV ((f.blk i).at j) ∧ AliveP f i (j + 1) r := by
 unfold afB AliveP
 rw [lvB_alive]
 have h1 : aftF (f.blk i).e.to XL r = true ↔ ∃ t : Nat, (t : Int) ∈ (f.blk i).e.to ∧ LiveI f t r := by
  unfold aftF
  rw [List.any_eq_true]
  constructor
  ·rintro ⟨t, h2, h3⟩
   have h4 := ht i hi t h2
   refine ⟨t.toNat, ?_, (hX _ (by omega) r hr).1 h3⟩
   rw [Int.toNat_of_nonneg (by omega)]
   exact h2
  ·rintro ⟨t, h2, h3⟩
   have h4 := ht i hi t h2
   exact ⟨t, h2, (hX _ (by omega) r hr).2 (by simpa using h3)⟩
 by_cases hd : (r : Int) = defV ((f.blk i).at j)
 ·simp [hd]
 ·simp only [hd, if_false, Bool.or_eq_true, Bool.and_eq_true, h1, ne_eq, not_false_eq_true, true_and]
theorem insP_len (live : Nat → Nat → Bool) : ∀ (l : List VI) (s : Nat), (insP live s l).length = (l.filter mapB).length
 | [], _ => rfl
 | x :: l, s => by
  unfold insP
  by_cases h : mapB x = true
  ·rw [if_pos h, List.length_cons, insP_len live l, List.filter_cons, if_pos h, List.length_cons]
  ·rw [if_neg h, insP_len live l, List.filter_cons, if_neg h]
theorem insP_app (live : Nat → Nat → Bool) : ∀ (l m : List VI) (s : Nat), insP live s (l ++ m) = insP live s l ++ insP live (s + l.length) m
 | [], m, s => rfl
 | x :: l, m, s => by
  rw [List.cons_append]
  unfold insP
  rw [insP_app live l m (s + 1), List.length_cons, show s + 1 + l.length = s + (l.length + 1) by omega]
  by_cases h : mapB x = true
  ·rw [if_pos h, if_pos h]; cases m <;> rfl
  ·rw [if_neg h, if_neg h]; cases m <;> rfl
theorem blksP_len (live : Nat → Nat → Nat → Bool) : ∀ (l : List VB) (s : Nat), (blksP live s l).length = (l.flatMap fun b => b.ins.filter mapB).length
 | [], _ => rfl
 | b :: l, s => by
  unfold blksP
  rw [List.length_append, insP_len, blksP_len live l, List.flatMap_cons, List.length_append]
theorem blksP_app (live : Nat → Nat → Nat → Bool) : ∀ (l m : List VB) (s : Nat), blksP live s (l ++ m) = blksP live s l ++ blksP live (s + l.length) m
 | [], m, s => rfl
 | b :: l, m, s => by
  rw [List.cons_append]
  unfold blksP
  rw [blksP_app live l m (s + 1), List.length_cons, show s + 1 + l.length = s + (l.length + 1) by omega, ← List.append_assoc]
  cases m <;> rfl
/-- the maps of the blocks up to block i -/
def mapN (l : List VB) (i : Nat) : Nat := ((l.take i).flatMap fun b => b.ins.filter mapB).length
/-- those of a block up to its instruction j -/
def mapJ (b : VB) (j : Nat) : Nat := ((b.ins.take j).filter mapB).length
theorem mapN_succ {l : List VB} {i : Nat} {b : VB} (hb : l[i]? = some b) : mapN l (i + 1) = mapN l i + mapJ b b.ins.length := by
 unfold mapN mapJ
 rw [take_app hb, List.flatMap_append, List.length_append, List.take_length]
 simp
theorem mapJ_succ {b : VB} {j : Nat} {x : VI} (hx : b.ins[j]? = some x) : mapJ b (j + 1) = mapJ b j + (if mapB x = true then 1 else 0) := by
 unfold mapJ
 rw [take_app hx, List.filter_append, List.length_append]
 by_cases h : mapB x = true <;> simp [h]
theorem maps_at (live : Nat → Nat → Nat → Bool) {l : List VB} {i j : Nat} {b : VB} {x : VI} (hb : l[i]? = some b) (hx : b.ins[j]? = some x) (hm : mapB x = true) : (blksP live 0 l)[mapN l i + mapJ b j]? = some (x, live i j) := by
 have hi := (List.getElem?_eq_some_iff.mp hb).1
 have hj := (List.getElem?_eq_some_iff.mp hx).1
 have h2 : insP (live i) 0 b.ins = insP (live i) 0 (b.ins.take j) ++ (x, live i j) :: insP (live i) (j + 1) (b.ins.drop (j + 1)) := by
  conv => lhs; rw [split_at hx, insP_app]
  rw [List.length_take, Nat.min_eq_left (by omega), Nat.zero_add]
  conv => lhs; rhs; unfold insP
  rw [if_pos hm]
 have h1 : blksP live 0 l = blksP live 0 (l.take i) ++ (insP (live i) 0 (b.ins.take j) ++ ((x, live i j) :: (insP (live i) (j + 1) (b.ins.drop (j + 1)) ++ blksP live (i + 1) (l.drop (i + 1))))) := by
  conv => lhs; rw [split_at hb, blksP_app]
  rw [List.length_take, Nat.min_eq_left (by omega), Nat.zero_add]
  conv => lhs; rhs; unfold blksP
  rw [h2, List.append_assoc, List.cons_append]
 have e1 : mapN l i = (blksP live 0 (l.take i)).length := (blksP_len _ _ _).symm
 have e2 : mapJ b j = (insP (live i) 0 (b.ins.take j)).length := (insP_len _ _ _).symm
 rw [h1, e1, e2, List.getElem?_append_right (by omega), Nat.add_sub_cancel_left, List.getElem?_append_right (by omega), Nat.sub_self]
 rfl
/-- the registers that the law reads off -/
def setF (a : AL) (A : Nat → Bool) (m : Nat) : Nat := (List.range m).foldl (fun b r => if A r = true ∧ r ≠ 0 ∧ (ofP a r).2 < 0 then b ||| 1 <<< (ofP a r).1.toNat else b) 0
/-- the slots -/
def sloF (a : AL) (A : Nat → Bool) (m t : Nat) : Bool := (List.range m).any fun r => A r && r != 0 && decide ((ofP a r).2 = (t : Int))
theorem setF_succ (a : AL) (A : Nat → Bool) (m : Nat) : setF a A (m + 1) = if A m = true ∧ m ≠ 0 ∧ (ofP a m).2 < 0 then setF a A m ||| 1 <<< (ofP a m).1.toNat else setF a A m := by
 unfold setF
 rw [List.range_succ, List.foldl_append]
 rfl
theorem sloF_succ (a : AL) (A : Nat → Bool) (m t : Nat) : sloF a A (m + 1) t = (sloF a A m t || (A m && m != 0 && decide ((ofP a m).2 = (t : Int)))) := by
 unfold sloF
 rw [List.range_succ, List.any_append]
 simp
/-- a live register is in a register or in a slot -/
structure PlaceOk (a : AL) (n : Nat) (A : Nat → Bool) : Prop where
 one : ∀ r, r < n → r ≠ 0 → A r = true → ((ofP a r).1 < 0 ∧ 0 ≤ (ofP a r).2) ∨ (0 < (ofP a r).1 ∧ (ofP a r).1 ≤ 10 ∧ (ofP a r).2 < 0)
theorem fold_set (a : AL) (A : Nat → Bool) (n : Nat) (h : PlaceOk a n A) (more : Nat) : ∀ m, m ≤ n → (List.range m).foldl (fun b r => if A r = true ∧ r ≠ 0 ∧ 0 < (ofP a r).1 ∧ false = false then b ||| 1 <<< (ofP a r).1.toNat else b) more = more ||| setF a A m
 | 0, _ => by simp [setF]
 | m + 1, hm => by
  rw [List.range_succ, List.foldl_append, fold_set a A n h more m (by omega), setF_succ]
  simp only [List.foldl_cons, List.foldl_nil]
  by_cases hc : A m = true ∧ m ≠ 0
  ·rcases h.one m (by omega) hc.2 hc.1 with h1 | h1
   ·rw [if_neg (by omega), if_neg (by omega)]
   ·rw [if_pos ⟨hc.1, hc.2, h1.1, trivial⟩, if_pos ⟨hc.1, hc.2, h1.2.2⟩, Nat.or_assoc]
  ·rw [if_neg (fun q => hc ⟨q.1, q.2.1⟩), if_neg (fun q => hc ⟨q.1, q.2.1⟩)]
theorem fold_same (a : AL) (A : Nat → Bool) (more : Nat) : ∀ m, (List.range m).foldl (fun b r => if A r = true ∧ r ≠ 0 ∧ 0 < (ofP a r).1 ∧ true = false then b ||| 1 <<< (ofP a r).1.toNat else b) more = more
 | 0 => rfl
 | m + 1 => by
  rw [List.range_succ, List.foldl_append, fold_same a A more m]
  simp
theorem or_and_self (x y : Nat) : (x ||| y) &&& y = y := by
 apply Nat.eq_of_testBit_eq
 intro i
 simp only [Nat.testBit_and, Nat.testBit_or]
 cases x.testBit i <;> cases y.testBit i <;> rfl
theorem setF_lt {a : AL} {A : Nat → Bool} {n : Nat} (h : PlaceOk a n A) : ∀ m, m ≤ n → setF a A m < 2048
 | 0, _ => by show (0 : Nat) < 2048; omega
 | m + 1, hm => by
  rw [setF_succ]
  have ih := setF_lt h m (by omega)
  by_cases hc : A m = true ∧ m ≠ 0 ∧ (ofP a m).2 < 0
  ·rw [if_pos hc]
   rcases h.one m (by omega) hc.2.1 hc.1 with h1 | h1
   ·omega
   ·refine Nat.or_lt_two_pow (n := 11) ih ?_
    rw [Nat.one_shiftLeft]
    exact Nat.pow_lt_pow_right (by decide) (by omega)
  ·rw [if_neg hc]; exact ih
/-- what FrameMaps reads off at an instruction -/
structure MapAt (a : AL) (n k : Nat) (x : VI) (A : Nat → Bool) (m : MP) : Prop where
 after : m.after = (x.op == 101 || x.op == 102)
 slots : m.slots = (List.range k).filter (sloF a A n)
 call : m.after = true → m.regs = 0
 al : x.op = 14 → m.regs = setF a A n
 nw : x.op = 15 → m.regs &&& setF a A n = setF a A n
theorem mapAt {a : AL} {n k : Nat} {x : VI} {live A : Nat → Bool} {m : MP} (h : MapI a n k x live m) (hA : ∀ r, r < n → r ≠ 0 → live r = A r) (hp : PlaceOk a n A) : MapAt a n k x A m := by
 obtain ⟨item, more, rfl, hmore⟩ := h
 have hf : ∀ (c : Bool) (b : Nat), (List.range n).foldl (fun b r => if live r = true ∧ r ≠ 0 ∧ 0 < (ofP a r).1 ∧ c = false then b ||| 1 <<< (ofP a r).1.toNat else b) b = (List.range n).foldl (fun b r => if A r = true ∧ r ≠ 0 ∧ 0 < (ofP a r).1 ∧ c = false then b ||| 1 <<< (ofP a r).1.toNat else b) b := by
  intro c
  have : ∀ (l : List Nat), (∀ r ∈ l, r < n) → ∀ b, l.foldl (fun b r => if live r = true ∧ r ≠ 0 ∧ 0 < (ofP a r).1 ∧ c = false then b ||| 1 <<< (ofP a r).1.toNat else b) b = l.foldl (fun b r => if A r = true ∧ r ≠ 0 ∧ 0 < (ofP a r).1 ∧ c = false then b ||| 1 <<< (ofP a r).1.toNat else b) b := by
   intro l
   induction l with
   | nil => intro _ b; rfl
   | cons r l ih =>
    intro hl b
    rw [List.foldl_cons, List.foldl_cons, ih fun q hq => hl q (List.mem_cons_of_mem _ hq)]
    by_cases h0 : r = 0
    ·subst h0; simp
    ·rw [hA r (hl r (by simp)) h0]
  exact this _ fun r hr => List.mem_range.1 hr
 refine ⟨rfl, ?_, ?_, ?_, ?_⟩
 ·show List.filter _ _ = _
  refine List.filter_congr fun t ht => ?_
  unfold sloF
  rw [Bool.eq_iff_iff, List.any_eq_true, List.any_eq_true]
  constructor
  ·rintro ⟨r, h1, h2⟩
   have hr := List.mem_range.1 h1
   simp only [Bool.and_eq_true, bne_iff_ne, ne_eq, decide_eq_true_eq] at h2
   refine ⟨r, h1, ?_⟩
   rw [← hA r hr h2.1.2]
   simp [h2.1.1, h2.1.2, h2.2.2]
  ·rintro ⟨r, h1, h2⟩
   have hr := List.mem_range.1 h1
   simp only [Bool.and_eq_true, bne_iff_ne, ne_eq, decide_eq_true_eq] at h2
   refine ⟨r, h1, ?_⟩
   rw [hA r hr h2.1.2]
   rcases hp.one r hr h2.1.2 h2.1.1 with h3 | h3
   ·simp [h2.1.1, h2.1.2, h2.2, h3.1]
   ·omega
 ·intro hc
  show List.foldl _ _ _ = _
  have hc' : (x.op == 101 || x.op == 102) = true := hc
  rw [hf, hc', fold_same]
  apply hmore
  intro e
  rw [e] at hc'
  cases hc'
 ·intro e
  show List.foldl _ _ _ = _
  have hc' : (x.op == 101 || x.op == 102) = false := by rw [e]; rfl
  rw [hf, hc', fold_set a A n hp _ n (Nat.le_refl _), hmore (by omega), Nat.zero_or]
 ·intro e
  show List.foldl _ _ _ &&& _ = _
  have hc' : (x.op == 101 || x.op == 102) = false := by rw [e]; rfl
  rw [hf, hc', fold_set a A n hp _ n (Nat.le_refl _), or_and_self]
/-- what FrameMaps reads off -/
structure MapF (f : VF) (a : AL) (n nb k : Nat) (ms : List MP) : Prop where
 len : ms.length = mapN f.blocks nb
 at_ : ∀ (i j : Nat) (b : VB) (x : VI), f.blocks[i]? = some b → b.ins[j]? = some x → mapB x = true → ∃ m, ms[mapN f.blocks i + mapJ b j]? = some m ∧ ∀ A : Nat → Bool, (∀ r, r < n → r ≠ 0 → (A r = true ↔ (r : Int) ≠ defV x ∧ AliveP f i (j + 1) r)) → PlaceOk a n A → MapAt a n k x A m
theorem map_f {f : VF} {a : AL} {w : World} {n nb : Nat} (hok : FnOk f n nb) (ht : TosV f nb) {XL : Nat → Nat → Bool} (hX : ∀ i, i < nb → ∀ r, r < n → (XL i r = true ↔ LiveI f i r)) : MapF f a n nb a.k.toNat (emitS f a n XL nb).maps := by
 have hnb := hok.nbl
 have h := blksI_maps n a.k.toNat (a.k + 1) f.params (fun i j => afB (f.blk i) (aftF (f.blk i).e.to XL) j) f.blocks 0 ⟨[], [], [], [], []⟩ [] (a := a) ⟨rfl, fun j m p h => by simp at h⟩
 rw [List.nil_append] at h
 have he : emitS f a n XL nb = blksI a n a.k.toNat (a.k + 1) f.params (fun i j => afB (f.blk i) (aftF (f.blk i).e.to XL) j) 0 f.blocks ⟨[], [], [], [], []⟩ := by
  unfold emitS
  rw [hnb, List.take_length]
 rw [← he] at h
 refine ⟨?_, fun i j b x hb hx hm => ?_⟩
 ·rw [h.1, blksP_len]
  unfold mapN
  rw [hnb, List.take_length]
 ·have hat := maps_at (fun i j => afB (f.blk i) (aftF (f.blk i).e.to XL) j) hb hx hm
  have hlt := (List.getElem?_eq_some_iff.mp hat).1
  rw [← h.1] at hlt
  refine ⟨_, List.getElem?_eq_getElem hlt, fun A hA hp => ?_⟩
  have hm := h.2 _ _ _ (List.getElem?_eq_getElem hlt) hat
  refine mapAt hm (fun r hr h0 => ?_) hp
  obtain ⟨hi, hbe⟩ := List.getElem?_eq_some_iff.mp hb
  obtain ⟨hj, hxe⟩ := List.getElem?_eq_some_iff.mp hx
  have hblk : f.blk i = b := by rw [← hbe]; exact (VF.blk_get f hi).symm
  have h1 := after_alive hX ht (j := j) (show i < nb by omega) hr
  rw [hblk, VB.at_eq hj, hxe] at h1
  rw [Bool.eq_iff_iff, hA r hr h0, ← h1]
  simp only [hblk]
end Go.Proofs.YtdnpoomagjcpfaaGreat
