/- frame.Emit of what an allocator gives. FrameReturns: the plain law. No function of the program is walked. -/
import Derived.Test.YtdnpoomagjcpfaaGreatEmU
import Derived.Test.YtdnpoomagjcpfaaGreatAcceptW
import Derived.Test.YtdnpoomagjcpfaaGreatAccPl
import Derived.Test.YtdnpoomagjcpfaaGreatColPlace
import Derived.Test.YtdnpoomagjcpfaaGreatFrmAll
import Derived.Test.YtdnpoomagjcpfaaGreatEmFou
namespace Go.Proofs.YtdnpoomagjcpfaaGreat
open Go.RowKit
set_option linter.unusedVariables false
set_option linter.unusedSimpArgs false

section
theorem accept_ok (w : World) (f : VF) (hf : f.Ok w) (a : AL) (ha : a.Ok w) {n nb : Nat} {k : Int} (hok : FnOk f n nb) (hfe : fnE f = 0) (h : PlacedA f n nb k a) : Calls Tryz.prog 28 #[f.v, a.v] w (IntPost 0 w) :=
 (accept_any w f hf a ha).mono fun e w' ⟨z, he, hb, _, h2⟩ => by
  rcases h2 h.err with ⟨hz, _⟩ | ⟨_, hn⟩
  ·subst hz; exact ⟨he, hb⟩
  ·exact absurd (placed_good hok hfe (h.plx ha hok)) hn
theorem pairsE_inv {k : Int} : ∀ (rs ss : List Int), pairsE k rs ss = 0 → ∀ i, i < rs.length → i < ss.length → (rs.getD i 0 = -1 ∨ (1 ≤ rs.getD i 0 ∧ rs.getD i 0 ≤ 10)) ∧ (-1 ≤ ss.getD i (-1) ∧ ss.getD i (-1) < k) ∧ ¬ (0 < rs.getD i 0 ∧ 0 ≤ ss.getD i (-1))
 | [], _, _, i, h, _ => by simp at h
 | _ :: _, [], _, i, _, h => by simp at h
 | r :: rs, s :: ss, h, i, h1, h2 => by
  unfold pairsE at h
  split at h
  ·cases h
  rename_i h3
  split at h
  ·cases h
  rename_i h4
  match i with
  | 0 => simp only [List.getD_cons_zero]; omega
  | i + 1 =>
   simp only [List.getD_cons_succ]
   exact pairsE_inv rs ss h i (by simpa using h1) (by simpa using h2)
theorem allocE_pl {f : VF} {a : AL} {w : World} (ha : a.Ok w) {n : Nat} (h : allocE f a = 0) (hrn : a.rn = n) (hsn : a.sn = n) (hk : a.k ≤ 2048) : (0 ≤ a.k ∧ a.k ≤ 2048) ∧ (∀ r : Nat, r < n → (-1 ≤ (ofP a r).1 ∧ (ofP a r).1 ≤ 13) ∧ -1 ≤ (ofP a r).2 ∧ (ofP a r).2 ≤ 2047) ∧ ∀ r : Nat, r < n → (ofP a r).1 < 0 → (ofP a r).2 < a.k := by
 have hfe := allocE_fn h
 have h1 : a.reg.length = n := by rw [← hrn]; simpa using ha.rcame.count
 have h2 : a.slot.length = n := by rw [← hsn]; simpa using ha.scame.count
 unfold allocE at h
 rw [if_neg (by simp [hfe])] at h
 split at h
 ·cases h
 split at h
 ·cases h
 rename_i h3
 have key := pairsE_inv a.reg a.slot h
 refine ⟨by omega, fun r hr => ?_, fun r hr => ?_⟩
 ·have := key r (by omega) (by omega)
  unfold ofP
  rw [Int.toNat_natCast]
  split
  ·exact ⟨by omega, by omega⟩
  split
  ·exact ⟨by dsimp only; omega, by dsimp only; omega⟩
  split
  ·exact ⟨by dsimp only; omega, by dsimp only; omega⟩
  ·exact ⟨by dsimp only; omega, by dsimp only; omega⟩
 ·have := key r (by omega) (by omega)
  unfold ofP
  rw [Int.toNat_natCast]
  split
  ·intro h; simp at h
  split
  ·intro h; dsimp only at h; omega
  split
  ·intro h; dsimp only; omega
  ·intro h; simp at h
theorem emitA_any (w : World) (f : VF) (hf : f.Ok w) (a : AL) (ha : a.Ok w) {n nb : Nat} {k : Int} (hok : FnOk f n nb) (hfe : fnE f = 0) (h : PlacedA f n nb k a) (hrn : a.rn = n) (hsn : a.sn = n) (hk : a.k ≤ 2048) (hw : emW f.blocks ≤ 8000000) :
 Calls Tryz.prog 10 #[f.v, a.v] w (EmitPost f a n nb w) := by
 obtain ⟨h1, h2, h3⟩ := allocE_pl ha h.err hrn hsn hk
 exact emit_any w f hf a ha hok hfe (fun wx hb => accept_ok wx f (hf.below hb) a (ha.below hb) hok hfe h) hrn hsn h1 h2 h3 hw
theorem color_k {f : VF} {n nb k : Nat} {a : AL} (h : AllocLaw f n nb k a) : a.k ≤ n + 1 := by
 obtain ⟨XL, _, reg, slot, _, _, ⟨l, R, S, _, _, hs, _⟩⟩ := h
 exact hs.bd.1.2
theorem emW_le {l : List VB} {m c : Nat} (hm : l.length ≤ m) (hc : ∀ b ∈ l, b.ins.length ≤ c) : emW l ≤ m * (40 * c + 40) := by
 have : ∀ l : List VB, (∀ b ∈ l, b.ins.length ≤ c) → emW l ≤ l.length * (40 * c + 40) := fun l => by
  induction l with
  | nil => intro _; simp [emW]
  | cons b l ih =>
   intro h
   have h1 := ih fun x hx => h x (List.mem_cons_of_mem _ hx)
   have h2 := h b (by simp)
   unfold emW at h1 ⊢
   rw [List.map_cons, List.sum_cons, List.length_cons, Nat.add_mul l.length 1, Nat.one_mul]
   omega
 exact Nat.le_trans (this l hc) (Nat.mul_le_mul_right _ hm)
end

section
/-- the same but for the label -/
def SameI (x y : MI) : Prop := y = { x with lab := y.lab }
theorem patL_get (st : List Nat) : ∀ (l : List (Nat × Int)) (its : List MI) (i : Nat) (x : MI), its[i]? = some x → ∃ y, (l.foldl (patI st) its)[i]? = some y ∧ SameI x y
 | [], its, i, x, h => ⟨x, h, rfl⟩
 | j :: l, its, i, x, h => by
  rw [List.foldl_cons]
  obtain ⟨z, hz, hs⟩ : ∃ z, (patI st its j)[i]? = some z ∧ SameI x z := by
   unfold patI
   rw [List.getElem?_modify]
   by_cases e : j.1 = i
   ·simp only [e, if_true, h, Option.map_some]
    exact ⟨_, rfl, rfl⟩
   ·simp only [if_neg e, h]
    exact ⟨x, by simp, rfl⟩
  obtain ⟨y, hy, hs2⟩ := patL_get st l _ i z hz
  refine ⟨y, hy, ?_⟩
  unfold SameI at hs hs2 ⊢
  rw [hs2, hs]
theorem done_len (s : EmS) : s.done.length = s.items.length := patL_len _ _ _
theorem done_get {s : EmS} {i : Nat} {x : MI} (h : s.items[i]? = some x) : ∃ y, s.done[i]? = some y ∧ SameI x y := patL_get _ _ _ i x h
theorem done_of {s : EmS} {i : Nat} {y : MI} (h : s.done[i]? = some y) : ∃ x, s.items[i]? = some x ∧ SameI x y := by
 have hl := (List.getElem?_eq_some_iff.mp h).1
 rw [done_len] at hl
 obtain ⟨z, hz, hs⟩ := done_get (List.getElem?_eq_getElem hl)
 rw [hz] at h
 injection h with h
 rw [← h]
 exact ⟨_, List.getElem?_eq_getElem hl, hs⟩
theorem enter_two (s : EmS) (a : AL) (k : Int) (l : List Int) : s.items.length + 2 ≤ (s.enter a k l).items.length := by
 unfold EmS.enter EmS.moves
 have h0 : ((s.put 8 14 14 0 (-2 * k)).store (k - 1) 15).items.length = s.items.length + 2 := by simp [EmS.put, EmS.store]
 refine Nat.le_trans ?_ (mvI_js _ _ _).le
 refine Nat.le_trans ?_ (parsI_js a l 0 _).le
 omega
theorem fin_len (s : EmS) (a : AL) (k : Int) (i : Nat) (x : VE) : s.items.length ≤ (s.fin a k i x).items.length ∧ ((x.kind = 1 → x.to.getD 0 0 ≠ (i : Int) + 1) → (0 ≤ x.kind ∧ x.kind ≤ 3) → s.items.length + 1 ≤ (s.fin a k i x).items.length) := by
 have f0 := (fetch_js s a x.a 1).le
 have f1 := (fetch_js s a x.a 11).le
 have f2 := (fetch_js (s.fetch a x.a 11) a x.b 12).le
 have hp : ∀ (s : EmS) (op d a b n : Int), (s.put op d a b n).items.length = s.items.length + 1 := fun s op d a b n => by simp [EmS.put]
 have hj : ∀ (s : EmS) (op a b t : Int), (s.jump op a b t).items.length = s.items.length + 1 := fun s op a b t => by simp [EmS.jump, EmS.put]
 unfold EmS.fin
 split
 ·rw [hp, hp, show ∀ (s : EmS) (r t : Int), (s.load r t).items.length = s.items.length + 1 from fun s r t => hp ..]
  have h3 : s.items.length ≤ (if fetchR a x.a 1 = 1 then s.fetch a x.a 1 else (s.fetch a x.a 1).put 8 1 (fetchR a x.a 1) 0 0).items.length := by
   split
   ·exact f0
   ·rw [hp]; omega
  exact ⟨by omega, fun _ _ => by omega⟩
 ·rename_i k0
  split
  ·rw [hp]; exact ⟨by omega, fun _ _ => by omega⟩
  ·rename_i k3
   split
   ·dsimp only
    split
    ·rw [hj]; exact ⟨by omega, fun _ _ => by omega⟩
    ·rw [hj, hj]; exact ⟨by omega, fun _ _ => by omega⟩
   ·rename_i k2
    split
    ·rename_i he
     exact ⟨Nat.le_refl _, fun h1 h2 => absurd he (h1 (by omega))⟩
    ·rw [hj]; exact ⟨by omega, fun _ _ => by omega⟩
theorem block_len (s : EmS) (a : AL) (n k : Nat) (size : Int) (ps : List Int) (i : Nat) (b : VB) (live : Nat → Nat → Bool) (h : i ≠ 0 → 2 ≤ s.items.length) : 2 ≤ (s.block a n k size ps i b live).items.length ∧ ((b.e.kind = 1 → b.e.to.getD 0 0 ≠ (i : Int) + 1) → (0 ≤ b.e.kind ∧ b.e.kind ≤ 3) → 3 ≤ (s.block a n k size ps i b live).items.length) := by
 unfold EmS.block
 have h1 := (insL_js a n k live b.ins 0 (if i = 0 then s.begin.enter a size ps else s.begin)).le
 have h2 := fin_len (insL a n k live 0 b.ins (if i = 0 then s.begin.enter a size ps else s.begin)) a size i b.e
 have h3 : 2 ≤ (if i = 0 then s.begin.enter a size ps else s.begin).items.length := by
  split
  ·have := enter_two s.begin a size ps; omega
  ·rename_i h0; exact h h0
 exact ⟨by have := h2.1; omega, fun h4 h5 => by have := h2.2 h4 h5; omega⟩
theorem badI_op {x : VI} {n : Int} (h : badI x n = 0) : x.op ≠ 22 := by
 intro e
 unfold badI at h
 rw [e, if_pos (by decide)] at h
 cases h
theorem badE_kind {x : VE} {n nb : Int} (h : badE x n nb = 0) : (0 ≤ x.kind ∧ x.kind ≤ 3) ∧ x.op ≠ 22 ∧ (x.sn : Int) = endMany x.kind := by
 unfold badE at h
 split at h
 ·cases h
 rename_i hk
 split at h
 ·cases h
 rename_i hm
 have hk : 0 ≤ x.kind ∧ x.kind ≤ 3 := Classical.not_not.1 hk
 have hm1 : endOk x = true := by
  cases e : endOk x
  ·exact absurd (.inl e) hm
  ·rfl
 refine ⟨hk, fun e => ?_, Classical.not_not.mp fun e => hm (.inr e)⟩
 unfold endOk at hm1
 rw [e] at hm1
 have hk3 : x.kind = 0 ∨ x.kind = 1 ∨ x.kind = 2 ∨ x.kind = 3 := by omega
 rcases hk3 with h | h | h | h <;> simp [h] at hm1
/-- what FrameReturns reads off -/
structure RetF (f : VF) (size : Int) (its : List MI) (calls : List (Nat × Int)) : Prop where
 len : 3 ≤ its.length
 i0 : ∃ l, its[0]? = some ⟨8, 14, 14, 0, -2 * size, l⟩
 i1 : ∃ l, its[1]? = some ⟨13, 0, 14, 15, 2 * (size - 1), l⟩
 ret : ∀ (i : Nat) (x : MI), its[i]? = some x → x.op = 22 → 4 ≤ i ∧ (∃ l, its[i - 1]? = some ⟨8, 14, 14, 0, 2 * size, l⟩) ∧ ∃ l, its[i - 2]? = some ⟨12, 15, 14, 0, 2 * (size - 1), l⟩
 wr : ∀ (i : Nat) (x : MI), its[i]? = some x → wrI x = 14 → 0 < i → ∃ y, its[i + 1]? = some y ∧ y.op = 22
 clen : calls.length = (f.blocks.flatMap fun b => b.ins.filter refB).length
 call : ∀ (j : Nat) (c : Nat × Int) (x : VI), calls[j]? = some c → (f.blocks.flatMap fun b => b.ins.filter refB)[j]? = some x → c.2 = x.n ∧ ∃ y, its[c.1]? = some y ∧ (y.op = 20 ↔ x.op = 101)
theorem SameI.eq {x y : MI} (h : SameI x y) : y.op = x.op ∧ wrI y = wrI x := by
 unfold SameI at h
 rw [h]
 exact ⟨rfl, rfl⟩
theorem ret_f {f : VF} {a : AL} {w : World} (hf : f.Ok w) (ha : a.Ok w) {n nb : Nat} (hok : FnOk f n nb) (herr : allocE f a = 0) (hrn : a.rn = n) (hsn : a.sn = n) (XL : Nat → Nat → Bool) : RetF f (a.k + 1) (emitS f a n XL nb).done (emitS f a n XL nb).calls := by
 have hfe : fnE f = 0 := by
  unfold allocE at herr
  split at herr
  ·contradiction
  ·rename_i h1; exact Classical.not_not.1 h1
 have hl1 : a.reg.length = n := by rw [← hrn]; simpa using ha.rcame.count
 have hl2 : a.slot.length = n := by rw [← hsn]; simpa using ha.scame.count
 have hten := ten_of herr hfe (by omega)
 have hblk := (fnE_zero hfe).2.2.2
 have hnb := hok.nbl
 have hops : ∀ b ∈ f.blocks, (∀ x ∈ b.ins, x.args.length ≤ 6 ∧ x.op ≠ 22) ∧ b.e.op ≠ 22 := fun b hb => by
  obtain ⟨h1, h2, _⟩ := blkE_ok hblk b hb
  refine ⟨fun x hx => ⟨?_, badI_op (insE_ok h1 x hx)⟩, (badE_kind h2).2.1⟩
  have h3 := insE_ok h1 x hx
  rw [hok.regs] at h3
  have h4 := (rng_of h3).sn
  have h5 : x.args.length = x.sn := ((hf.blocks _ hb).ins x hx).len
  omega
 have he : emitS f a n XL nb = blksI a n a.k.toNat (a.k + 1) f.params (fun i j => afB (f.blk i) (aftF (f.blk i).e.to XL) j) 0 f.blocks ⟨[], [], [], [], []⟩ := by
  unfold emitS
  rw [hnb, List.take_length]
 have hne : f.blocks ≠ [] := fun e => by have := hok.nb2.1; rw [e] at hnb; simp at hnb; omega
 have hret : RetT (a.k + 1) (headI (a.k + 1)) (emitS f a n XL nb).items := by
  rw [he]
  exact blksI_ret hten n a.k.toNat (a.k + 1) f.params _ f.blocks 0 _ hops (by rw [if_pos rfl]; exact ⟨rfl, hne⟩)
 have hcal : CallI (emitS f a n XL nb) (f.blocks.flatMap fun b => b.ins.filter refB) := by
  rw [he]
  have := blksI_callI hten n a.k.toNat (a.k + 1) f.params (fun i j => afB (f.blk i) (aftF (f.blk i).e.to XL) j) f.blocks 0 ⟨[], [], [], [], []⟩ [] ⟨rfl, fun j c x h => by simp at h⟩ fun b hb => (hops b hb).1
  rwa [List.nil_append] at this
 have hlen : 3 ≤ (emitS f a n XL nb).items.length := by
  have key : ∀ k, k ≤ f.blocks.length → k ≠ 0 → 2 ≤ (emitS f a n XL k).items.length := by
   intro k
   induction k with
   | zero => intro _ h; exact absurd rfl h
   | succ k ih =>
    intro h1 _
    rw [emitS_succ (show k < f.blocks.length by omega)]
    exact (block_len _ _ _ _ _ _ _ _ _ fun h2 => ih (by omega) h2).1
  obtain ⟨k, hk⟩ : ∃ k, nb = k + 1 := ⟨nb - 1, by have := hok.nb2.1; omega⟩
  rw [hk, emitS_succ (show k < f.blocks.length by omega)]
  have hb := List.getElem_mem (show k < f.blocks.length by omega)
  obtain ⟨_, h2, _⟩ := blkE_ok hblk _ hb
  obtain ⟨h3, _, h5⟩ := badE_kind h2
  refine (block_len _ _ _ _ _ _ _ _ _ fun h2 => key k (by omega) h2).2 (fun h1 => ?_) h3
  have h6 := ((hf.blocks _ hb).e).len
  rw [h1] at h5
  have h7 : (f.blocks[k]'(by omega)).e.to.length = 1 := by simp [endMany] at h5; omega
  have h8 := (badE_ok h2).2.2 ((f.blocks[k]'(by omega)).e.to.getD 0 0) (by
   match hl : (f.blocks[k]'(by omega)).e.to, h7 with
   | [t], _ => simp)
  have := hok.sn
  omega
 obtain ⟨m, hm, hrl⟩ := hret
 have hat : ∀ i x, (emitS f a n XL nb).items[i]? = some x → 2 ≤ i → m[i - 2]? = some x := fun i x h h2 => by
  rw [hm, List.getElem?_append_right (by show 2 ≤ i; exact h2)] at h
  exact h
 have hto : ∀ j x, m[j]? = some x → (emitS f a n XL nb).items[j + 2]? = some x := fun j x h => by
  rw [hm, List.getElem?_append_right (by show 2 ≤ j + 2; omega)]
  exact h
 have h00 : (emitS f a n XL nb).items[0]? = some ⟨8, 14, 14, 0, -2 * (a.k + 1), -1⟩ := by rw [hm]; rfl
 have h11 : (emitS f a n XL nb).items[1]? = some ⟨13, 0, 14, 15, 2 * (a.k + 1 - 1), -1⟩ := by rw [hm]; rfl
 refine ⟨by rw [done_len]; exact hlen, ?_, ?_, fun i x hx ho => ?_, fun i x hx ho hi => ?_, hcal.len, fun j c x h1 h2 => ?_⟩
 ·obtain ⟨y, h1, h2⟩ := done_get h00
  exact ⟨_, h1.trans (congrArg some h2)⟩
 ·obtain ⟨y, h1, h2⟩ := done_get h11
  exact ⟨_, h1.trans (congrArg some h2)⟩
 ·obtain ⟨z, hz, hs⟩ := done_of hx
  have ho' : z.op = 22 := by rw [← hs.eq.1]; exact ho
  have hi2 : 2 ≤ i := by
   rcases Nat.lt_or_ge i 2 with h | h
   ·have : i = 0 ∨ i = 1 := by omega
    rcases this with rfl | rfl
    ·rw [h00] at hz; injection hz with hz; rw [← hz] at ho'; simp at ho'
    ·rw [h11] at hz; injection hz with hz; rw [← hz] at ho'; simp at ho'
   ·exact h
  obtain ⟨h1, h2, h3⟩ := hrl.ret_at (i - 2) z (hat i z hz hi2) ho'
  have h2 := hto _ _ h2
  have h3 := hto _ _ h3
  rw [show i - 2 - 1 + 2 = i - 1 by omega] at h2
  rw [show i - 2 - 2 + 2 = i - 2 by omega] at h3
  obtain ⟨y2, g1, g2⟩ := done_get h2
  obtain ⟨y3, g3, g4⟩ := done_get h3
  exact ⟨by omega, ⟨_, g1.trans (congrArg some g2)⟩, ⟨_, g3.trans (congrArg some g4)⟩⟩
 ·obtain ⟨z, hz, hs⟩ := done_of hx
  have ho' : wrI z = 14 := by rw [← hs.eq.2]; exact ho
  have hi2 : 2 ≤ i := by
   rcases Nat.lt_or_ge i 2 with h | h
   ·have : i = 1 := by omega
    subst this
    rw [h11] at hz; injection hz with hz; rw [← hz] at ho'; simp [wrI] at ho'
   ·exact h
  obtain ⟨y, h1, h2⟩ := hrl.wr (i - 2) z (hat i z hz hi2) ho'
  have h1 := hto _ _ h1
  rw [show i - 2 + 1 + 2 = i + 1 by omega] at h1
  obtain ⟨y2, g1, g2⟩ := done_get h1
  exact ⟨y2, g1, by rw [g2.eq.1]; exact h2⟩
 ·obtain ⟨e, y, e1, e2⟩ := hcal.at_ j c x h1 h2
  obtain ⟨y2, g1, g2⟩ := done_get e1
  exact ⟨e, y2, g1, by rw [g2.eq.1]; exact e2⟩
/-- the references of the blocks up to block i -/
def refN (l : List VB) (i : Nat) : Nat := ((l.take i).flatMap fun b => b.ins.filter refB).length
/-- those of a block up to its instruction j -/
def refJ (b : VB) (j : Nat) : Nat := ((b.ins.take j).filter refB).length
theorem refN_zero (l : List VB) : refN l 0 = 0 := rfl
theorem refJ_zero (b : VB) : refJ b 0 = 0 := rfl
theorem refN_end (l : List VB) : refN l l.length = (l.flatMap fun b => b.ins.filter refB).length := by unfold refN; rw [List.take_length]
theorem take_app {α} {l : List α} {i : Nat} {b : α} (hb : l[i]? = some b) : l.take (i + 1) = l.take i ++ [b] := by
 obtain ⟨h, e⟩ := List.getElem?_eq_some_iff.mp hb
 rw [List.take_succ_eq_append_getElem h, e]
theorem refN_succ {l : List VB} {i : Nat} {b : VB} (hb : l[i]? = some b) : refN l (i + 1) = refN l i + refJ b b.ins.length := by
 unfold refN refJ
 rw [take_app hb, List.flatMap_append, List.length_append, List.take_length]
 simp
theorem refJ_succ {b : VB} {j : Nat} {x : VI} (hx : b.ins[j]? = some x) : refJ b (j + 1) = refJ b j + (if refB x = true then 1 else 0) := by
 unfold refJ
 rw [take_app hx, List.filter_append, List.length_append]
 by_cases h : refB x = true <;> simp [h]
theorem split_at {α} {l : List α} {i : Nat} {b : α} (hb : l[i]? = some b) : l = l.take i ++ b :: l.drop (i + 1) := by
 obtain ⟨h, e⟩ := List.getElem?_eq_some_iff.mp hb
 have := List.take_append_drop i l
 rw [List.drop_eq_getElem_cons h, e] at this
 exact this.symm
theorem refs_at {l : List VB} {i j : Nat} {b : VB} {x : VI} (hb : l[i]? = some b) (hx : b.ins[j]? = some x) (hr : refB x = true) : (l.flatMap fun b => b.ins.filter refB)[refN l i + refJ b j]? = some x := by
 have h1 : (l.flatMap fun b => b.ins.filter refB) = ((l.take i).flatMap fun b => b.ins.filter refB) ++ ((b.ins.take j).filter refB ++ (x :: ((b.ins.drop (j + 1)).filter refB ++ (l.drop (i + 1)).flatMap fun b => b.ins.filter refB))) := by
  have h2 : b.ins.filter refB = (b.ins.take j).filter refB ++ x :: (b.ins.drop (j + 1)).filter refB := by
   rw [congrArg (List.filter refB) (split_at hx), List.filter_append, List.filter_cons, if_pos hr]
  rw [congrArg (List.flatMap fun b => b.ins.filter refB) (split_at hb), List.flatMap_append, List.flatMap_cons, h2]
  simp only [List.append_assoc, List.cons_append]
 rw [h1, List.getElem?_append_right (by unfold refN; omega), show refN l i + refJ b j - ((l.take i).flatMap fun b => b.ins.filter refB).length = refJ b j by unfold refN; omega, List.getElem?_append_right (by unfold refJ; omega), show refJ b j - ((b.ins.take j).filter refB).length = 0 by unfold refJ; omega]
 rfl
end
end Go.Proofs.YtdnpoomagjcpfaaGreat
