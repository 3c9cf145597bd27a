/- Where the emitter's jumps lead; what Check says of a block. No function of the program is walked. frame.Emit: what its walk rests on. No function of the program is walked. -/
import Derived.Test.YtdnpoomagjcpfaaGreatEmQ
import Derived.Test.YtdnpoomagjcpfaaGreatAccRef
import Derived.Test.YtdnpoomagjcpfaaGreatVLiveDE
namespace Go.Proofs.YtdnpoomagjcpfaaGreat
open Go.RowKit
set_option linter.unusedVariables false
set_option linter.unusedSimpArgs false

section
/-- jumps and starts stay, items grow -/
structure JS (s t : EmS) : Prop where
 j : t.jumps = s.jumps
 st : t.starts = s.starts
 le : s.items.length ≤ t.items.length
theorem JS.refl (s : EmS) : JS s s := ⟨rfl, rfl, Nat.le_refl _⟩
theorem JS.trans {s t u : EmS} (h : JS s t) (g : JS t u) : JS s u := ⟨g.j.trans h.j, g.st.trans h.st, Nat.le_trans h.le g.le⟩
theorem put_js (s : EmS) (op d a b n : Int) : JS s (s.put op d a b n) := ⟨rfl, rfl, by simp [EmS.put]⟩
theorem fetch_js (s : EmS) (a : AL) (r t : Int) : JS s (s.fetch a r t) := by
 unfold EmS.fetch; split
 ·exact .refl s
 ·exact put_js ..
theorem save_js (s : EmS) (a : AL) (r t : Int) : JS s (s.save a r t) := by
 unfold EmS.save; split
 ·exact put_js ..
 ·exact .refl s
theorem mvI_js : ∀ (f : Nat) (l : List (Int × Int)) (s : EmS), JS s (mvI f l s)
 | 0, _, s => by unfold mvI; exact .refl s
 | _ + 1, [], s => by unfold mvI; exact .refl s
 | f + 1, x :: l, s => by
  unfold mvI
  split
  ·exact (put_js ..).trans (mvI_js f _ _)
  ·exact (put_js ..).trans (mvI_js f _ _)
theorem slotArgs_js (a : AL) : ∀ (l : List Int) (i : Nat) (s : EmS), JS s (slotArgs a i l s)
 | [], i, s => .refl s
 | r :: rs, i, s => by
  unfold slotArgs
  split
  ·exact (put_js ..).trans (slotArgs_js a rs (i + 1) _)
  ·exact slotArgs_js a rs (i + 1) _
theorem args_js (s : EmS) (a : AL) (l : List Int) : JS s (s.args a l) := (mvI_js _ _ _).trans (slotArgs_js a l 0 _)
theorem parsI_js (a : AL) : ∀ (l : List Int) (i : Nat) (s : EmS), JS s (parsI a i l s).1
 | [], i, s => .refl s
 | r :: rs, i, s => by
  unfold parsI
  split
  ·exact (put_js ..).trans (parsI_js a rs (i + 1) _)
  ·split
   ·exact parsI_js a rs (i + 1) _
   ·exact parsI_js a rs (i + 1) _
theorem enter_js (s : EmS) (a : AL) (k : Int) (l : List Int) : JS s (s.enter a k l) := ((put_js ..).trans (put_js ..)).trans ((parsI_js a l 0 _).trans (mvI_js _ _ _))
theorem ite_js {p : Prop} [Decidable p] {s t u : EmS} (h : JS s t) (g : JS s u) : JS s (if p then t else u) := by split <;> assumption
theorem keep_js (s : EmS) (a : AL) (n k i : Nat) (b : Bool) (l : Nat → Bool) (m : Nat) : JS s (s.keep a n k i b l m) := ⟨rfl, rfl, Nat.le_refl _⟩
theorem refer_js (s : EmS) (k : Int) : JS s (s.refer k) := ⟨rfl, rfl, Nat.le_refl _⟩
theorem call_js (s : EmS) (a : AL) (n k : Nat) (x : VI) (l : Nat → Bool) : JS s (s.call a n k x l) := by
 unfold EmS.call
 dsimp only
 have h1 : JS s (if x.op = 102 then (if fetchR a x.a 12 = 12 then s.fetch a x.a 12 else (s.fetch a x.a 12).put 8 12 (fetchR a x.a 12) 0 0) else s) := ite_js (ite_js (fetch_js ..) ((fetch_js ..).trans (put_js ..))) (.refl s)
 refine h1.trans ?_
 generalize (if x.op = 102 then (if fetchR a x.a 12 = 12 then s.fetch a x.a 12 else (s.fetch a x.a 12).put 8 12 (fetchR a x.a 12) 0 0) else s) = s1
 refine (args_js s1 a x.args).trans ?_
 generalize s1.args a x.args = s2
 have h3 : JS s2 (if x.op = 102 then s2.put 21 0 12 0 0 else (s2.refer x.n).put 20 0 0 0 0) := ite_js (put_js ..) ((refer_js ..).trans (put_js ..))
 refine h3.trans ?_
 generalize (if x.op = 102 then s2.put 21 0 12 0 0 else (s2.refer x.n).put 20 0 0 0 0) = s3
 exact (keep_js ..).trans (ite_js (put_js ..) (put_js ..))
theorem ins_js (s : EmS) (a : AL) (n k : Nat) (x : VI) (l : Nat → Bool) : JS s (s.ins a n k x l) := by
 unfold EmS.ins
 have hf := (fetch_js s a x.a 11).trans (fetch_js (s.fetch a x.a 11) a x.b 12)
 refine ite_js ?_ (ite_js (call_js ..) (ite_js ((refer_js ..).trans ((put_js ..).trans (save_js ..))) (ite_js (hf.trans (put_js ..)) ?_)))
 ·unfold EmS.move
  exact ite_js (ite_js (.refl s) ((put_js ..).trans (put_js ..))) (ite_js (put_js ..) (ite_js (put_js ..) (ite_js (.refl s) (put_js ..))))
 ·dsimp only
  generalize (s.fetch a x.a 11).fetch a x.b 12 = s1 at hf ⊢
  refine hf.trans (JS.trans ?_ ((put_js ..).trans (save_js ..)))
  exact ite_js (keep_js ..) (ite_js (keep_js ..) (.refl _))
theorem insL_js (a : AL) (n k : Nat) (live : Nat → Nat → Bool) : ∀ (l : List VI) (j : Nat) (s : EmS), JS s (insL a n k live j l s)
 | [], j, s => .refl s
 | y :: l, j, s => (ins_js ..).trans (insL_js a n k live l (j + 1) _)
/-- each jump is an item, and leads to a block -/
def JOk (nb : Nat) (s : EmS) : Prop := ∀ j ∈ s.jumps, j.1 < s.items.length ∧ 0 ≤ j.2 ∧ j.2 < nb
theorem JOk.js {nb : Nat} {s t : EmS} (h : JOk nb s) (g : JS s t) : JOk nb t := fun j hj => by
 rw [g.j] at hj
 have := h j hj
 exact ⟨Nat.lt_of_lt_of_le this.1 g.le, this.2⟩
theorem JOk.jump {nb : Nat} {s : EmS} (h : JOk nb s) (op a b : Int) {k : Int} (hk : 0 ≤ k ∧ k < nb) : JOk nb (s.jump op a b k) := fun j hj => by
 have hl : (s.jump op a b k).items.length = s.items.length + 1 := by simp [EmS.jump, EmS.put]
 rw [hl]
 rcases List.mem_append.mp hj with hj | hj
 ·have := h j hj; exact ⟨by omega, this.2⟩
 ·rw [List.mem_singleton.mp hj]; exact ⟨Nat.lt_succ_self _, hk⟩
theorem JOk.fin {nb : Nat} {s : EmS} (h : JOk nb s) (a : AL) (k : Int) (i : Nat) {x : VE} {n : Nat} (hx : x.Rng n) (hto : ∀ t ∈ x.to, 0 ≤ t ∧ t < nb) : JOk nb (s.fin a k i x) ∧ (s.fin a k i x).starts = s.starts := by
 have hg : ∀ j, j < x.to.length → 0 ≤ x.to.getD j 0 ∧ x.to.getD j 0 < nb := fun j hj => by
  rw [List.getD_eq_getElem?_getD, List.getElem?_eq_getElem hj]
  exact hto _ (List.getElem_mem hj)
 unfold EmS.fin
 split
 ·have g : JS s ((((if fetchR a x.a 1 = 1 then s.fetch a x.a 1 else (s.fetch a x.a 1).put 8 1 (fetchR a x.a 1) 0 0).load 15 (k - 1)).put 8 14 14 0 (2 * k)).put 22 0 0 0 0) := (ite_js (fetch_js ..) ((fetch_js ..).trans (put_js ..))).trans ((put_js ..).trans ((put_js ..).trans (put_js ..)))
  exact ⟨h.js g, g.st⟩
 ·rename_i k0
  split
  ·exact ⟨h.js (put_js ..), rfl⟩
  ·rename_i k3
   have h1 := hx.t1 k0 k3
   split
   ·rename_i k2
    have h2 := hx.t2 k2
    have hf := (fetch_js s a x.a 11).trans (fetch_js (s.fetch a x.a 11) a x.b 12)
    have j1 := (h.js hf).jump x.op (fetchR a x.a 11) (fetchR a x.b 12) (hg 0 (by omega))
    dsimp only
    split
    ·exact ⟨j1, hf.st⟩
    ·exact ⟨j1.jump 19 0 0 (hg 1 (by omega)), hf.st⟩
   ·split
    ·exact ⟨h, rfl⟩
    ·exact ⟨h.jump 19 0 0 (hg 0 (by omega)), rfl⟩
theorem JOk.block {nb : Nat} {s : EmS} (h : JOk nb s) (a : AL) (n k : Nat) (size : Int) (ps : List Int) (i : Nat) {b : VB} (live : Nat → Nat → Bool) {q : Nat} (hx : b.e.Rng q) (hto : ∀ t ∈ b.e.to, 0 ≤ t ∧ t < nb) : JOk nb (s.block a n k size ps i b live) ∧ (s.block a n k size ps i b live).starts = s.starts ++ [s.items.length] := by
 have h1 : JS s.begin (insL a n k live 0 b.ins (if i = 0 then s.begin.enter a size ps else s.begin)) := (ite_js (enter_js ..) (.refl _)).trans (insL_js ..)
 have h0 : JOk nb s.begin := h
 obtain ⟨h2, h3⟩ := (h0.js h1).fin a size i hx hto
 exact ⟨h2, h3.trans h1.st⟩
/-- the items with their labels -/
def patI (st : List Nat) (its : List MI) (j : Nat × Int) : List MI := its.modify j.1 fun x => { x with lab := ((st.getD j.2.toNat 0 : Nat) : Int) }
def EmS.done (s : EmS) : List MI := s.jumps.foldl (patI s.starts) s.items
theorem rng_of {x : VI} {n : Nat} (h : badI x n = 0) : x.Rng n := by
 unfold badI at h
 split at h
 ·cases h
 split at h
 ·cases h
 split at h
 ·cases h
 rename_i hl
 split at h
 ·cases h
 rename_i hn
 have hn' : namesV n (x.d :: x.a :: x.b :: x.args) = true := by simpa using hn
 have key : ∀ r ∈ x.d :: x.a :: x.b :: x.args, 0 ≤ r ∧ r < (n : Int) := fun r hr => by
  have := inB_true.mp (List.all_eq_true.mp hn' r hr)
  omega
 refine ⟨key _ (by simp), key _ (by simp), key _ (by simp), fun r hr => key r (by simp [hr]), ?_⟩
 have hl' : limV x = false := by simpa using hl
 unfold limV at hl'
 simp only [Bool.or_eq_false_iff, decide_eq_false_iff_not] at hl'
 omega
theorem erng_of {x : VE} {n nb : Nat} (h : badE x n nb = 0) (hl : x.to.length = x.sn) : x.Rng n := by
 obtain ⟨h1, h2, _⟩ := badE_ok h
 unfold badE at h
 split at h
 ·cases h
 rename_i hk
 split at h
 ·cases h
 rename_i hm
 have hm' : (x.sn : Int) = endMany x.kind := by
  have := fun e => hm (.inr e)
  exact Classical.not_not.mp this
 have hk3 : x.kind = 0 ∨ x.kind = 1 ∨ x.kind = 2 ∨ x.kind = 3 := by
  have : ¬ ¬ (0 ≤ x.kind ∧ x.kind ≤ 3) := by simpa using hk
  omega
 refine ⟨h1, h2, fun h0 h3 => ?_, fun h2 => ?_⟩
 ·rcases hk3 with h | h | h | h <;> simp [endMany, h] at hm' h0 h3 ⊢ <;> omega
 ·rw [hl]
  simp [endMany, h2] at hm'
  omega
end

section
theorem blksI_snoc (a : AL) (n k : Nat) (size : Int) (ps : List Int) (live : Nat → Nat → Nat → Bool) (b : VB) : ∀ (l : List VB) (i : Nat) (s : EmS), blksI a n k size ps live i (l ++ [b]) s = (blksI a n k size ps live i l s).block a n k size ps (i + l.length) b (live (i + l.length))
 | [], i, s => rfl
 | c :: l, i, s => by
  rw [List.cons_append]
  unfold blksI
  rw [blksI_snoc a n k size ps live b l (i + 1), List.length_cons, show i + 1 + l.length = i + (l.length + 1) by omega]
theorem block_tot (s : EmS) (a : AL) (n k : Nat) (size : Int) (ps : List Int) (i : Nat) (b : VB) (live : Nat → Nat → Bool) (hp : ps.length ≤ 6) (hb : ∀ x ∈ b.ins, x.args.length ≤ 6) : (s.block a n k size ps i b live).tot ≤ s.tot + (40 * b.ins.length + 40) := by
 unfold EmS.block
 have hbt : s.begin.tot = s.tot + 1 := by simp [EmS.begin, EmS.tot]; omega
 have h1 := enter_tot s.begin a size ps
 have h2 := insL_tot a n k live b.ins 0 (if i = 0 then s.begin.enter a size ps else s.begin) hb
 have h3 := fin_tot (insL a n k live 0 b.ins (if i = 0 then s.begin.enter a size ps else s.begin)) a size i b.e
 have h4 : (if i = 0 then s.begin.enter a size ps else s.begin).tot ≤ s.tot + 22 := by split <;> omega
 omega
def emW (l : List VB) : Nat := (l.map fun b => 40 * b.ins.length + 40).sum
theorem blksI_tot (a : AL) (n k : Nat) (size : Int) (ps : List Int) (live : Nat → Nat → Nat → Bool) (hp : ps.length ≤ 6) : ∀ (l : List VB) (i : Nat) (s : EmS), (∀ b ∈ l, ∀ x ∈ b.ins, x.args.length ≤ 6) → (blksI a n k size ps live i l s).tot ≤ s.tot + emW l
 | [], i, s, _ => by unfold blksI; omega
 | b :: l, i, s, h => by
  unfold blksI
  have h1 := blksI_tot a n k size ps live hp l (i + 1) (s.block a n k size ps i b (live i)) fun c hc => h c (List.mem_cons_of_mem _ hc)
  have h2 := block_tot s a n k size ps i b (live i) hp (h b (by simp))
  unfold emW at h1 ⊢
  rw [List.map_cons, List.sum_cons]
  omega
theorem emW_take (l : List VB) {k : Nat} (hk : k < l.length) : emW (l.take k) + (40 * (l[k]).ins.length + 40) ≤ emW l := by
 unfold emW
 have h1 : (l.take k ++ [l[k]]) ++ l.drop (k + 1) = l := by rw [← List.take_succ_eq_append_getElem hk]; exact List.take_append_drop ..
 have h2 := congrArg (fun l : List VB => (l.map fun b => 40 * b.ins.length + 40).sum) h1
 simp only [List.map_append, List.sum_append, List.map_cons, List.map_nil, List.sum_cons, List.sum_nil] at h2
 omega
theorem vb_rng {f : VF} {w : World} (hf : f.Ok w) {n nb : Nat} (hok : FnOk f n nb) (hfe : fnE f = 0) {i : Nat} (hi : i < f.blocks.length) : (f.blocks[i]).Rng n ∧ ∀ t ∈ (f.blocks[i]).e.to, 0 ≤ t ∧ t < nb := by
 have hblk := (fnE_zero hfe).2.2.2
 obtain ⟨hfit, htos, hins⟩ := fits_of (m := f.blocks.length) rfl hf.len.symm hok.regs hok.n2.1 hblk
 have hin : f.blk i ∈ f.blocks := by rw [← VF.blk_get f hi]; exact List.getElem_mem _
 obtain ⟨h1, h2, h3⟩ := blkE_ok hblk _ hin
 rw [VF.blk_get f hi]
 have hsnl := ((hf.blocks _ hin).e).len
 rw [hok.regs] at h1 h2
 refine ⟨⟨hfit i hi, fun x hx => rng_of (insE_ok h1 x hx), erng_of h2 hsnl, h3⟩, fun t ht => ?_⟩
 have h4 := (badE_ok h2).2.2 t ht
 have := hok.sn
 omega
theorem miC_set : ∀ (l : List MI) (j : Nat) (t : Int), (l.flatMap miC).set (j * 6 + 5) (.int .i64 t) = (l.modify j fun x => { x with lab := t }).flatMap miC
 | [], j, t => by simp
 | x :: l, 0, t => by simp [miC]
 | x :: l, j + 1, t => by
  rw [List.modify_succ_cons, List.flatMap_cons, List.flatMap_cons, ← miC_set l j t, List.set_append_right _ _ (by rw [miC_len]; omega), miC_len, show (j + 1) * 6 + 5 - 6 = j * 6 + 5 by omega]
theorem EmM.pat {X : EmE} {w : World} {s : EmS} {v : EmV} (hX : X.Ok) (h : EmM X w s v) {g ci : Nat} (hv : v.i = .slice (some ⟨g, 0, none⟩) s.items.length ci) {j : Nat} (hj : j < s.items.length) (t : Int) :
  EmM X (w.setCell ⟨g, j * 6 + 5, none⟩ (.int .i64 t)) { s with items := s.items.modify j fun x => { x with lab := t } } v := by
 have ho := h.oi
 rw [hv] at ho
 have hb : v.i.ownBlock = some g := by rw [hv]; simp [Value.ownBlock]
 have h1 := ownE_set ho (j * 6 + 5) (.int .i64 t) (by omega)
 rw [miC_set] at h1
 have hr : RestS (fun q => q = g) w (w.setCell ⟨g, j * 6 + 5, none⟩ (.int .i64 t)) := (RestS.refl (fun q => q = g) w).set (p := ⟨g, j * 6 + 5, none⟩) rfl _
 have hbe : Below X.w0.heap.size X.w0 _ := h.be.trans (hr.toBelow (fun q hq => by rw [hq]; exact Nat.le_trans hX.hB (h.oi.lt g hb).1) h.be.size)
 have K : ∀ {e : TypeId} {n : Nat} {y : Value} {m : Nat} {l : List Value}, w.ownsRow X.B e n y m l → e ≠ 59 → ∀ {q : Nat}, y.ownBlock = some q → ¬ q = g := fun ho h2 q hq e => own_noOwn ho h.oi h2 hq (by rw [e]; exact hb)
 refine ⟨h.box.of_heap (hr.block X.p h.box.lt fun e => own_noBox h.oi h.box (by decide) (by rw [← e] at hb; exact hb)), h.hp, hbe, ?_, ownG_kept h.oc fun q hq => hr.block q (h.oc.lt q hq).2 (K h.oc (by decide) hq), ownG_kept h.om fun q hq => hr.block q (h.om.lt q hq).2 (K h.om (by decide) hq), h.mm,
  ownG_kept h.os fun q hq => hr.block q (h.os.lt q hq).2 (K h.os (by decide) hq), ownG_kept h.oj fun q hq => hr.block q (h.oj.lt q hq).2 (K h.oj (by decide) hq), fun x hx => ⟨ownG_kept (h.sl x hx).1 fun q hq => hr.block q ((h.sl x hx).1.lt q hq).2 (K (h.sl x hx).1 (by decide) hq), (h.sl x hx).2⟩⟩
 show World.ownsRow _ X.B 59 6 v.i (s.items.modify j _).length _
 rw [List.length_modify, hv]
 exact h1
/-- the items, the first k jumps written -/
def patK (s : EmS) (k : Nat) : EmS := { s with items := (s.jumps.take k).foldl (patI s.starts) s.items }
theorem patL_len (st : List Nat) : ∀ (l : List (Nat × Int)) (its : List MI), (l.foldl (patI st) its).length = its.length
 | [], its => rfl
 | x :: l, its => by rw [List.foldl_cons, patL_len st l]; simp [patI]
theorem patK_zero (s : EmS) : patK s 0 = s := rfl
theorem patK_succ {s : EmS} {k : Nat} (hk : k < s.jumps.length) : patK s (k + 1) = { patK s k with items := (patK s k).items.modify (s.jumps[k]).1 fun x => { x with lab := ((s.starts.getD (s.jumps[k]).2.toNat 0 : Nat) : Int) } } := by
 unfold patK
 rw [List.take_succ_eq_append_getElem hk, List.foldl_append]
 rfl
theorem patK_end {s : EmS} {k : Nat} (hk : s.jumps.length ≤ k) : patK s k = { s with items := s.done } := by
 unfold patK EmS.done
 rw [List.take_of_length_le hk]
/-- what Emit writes -/
def emitS (f : VF) (a : AL) (n : Nat) (XL : Nat → Nat → Bool) (k : Nat) : EmS := blksI a n a.k.toNat (a.k + 1) f.params (fun i j => afB (f.blk i) (aftF (f.blk i).e.to XL) j) 0 (f.blocks.take k) ⟨[], [], [], [], []⟩
theorem emitS_succ {f : VF} {a : AL} {n : Nat} {XL : Nat → Nat → Bool} {k : Nat} (hk : k < f.blocks.length) : emitS f a n XL (k + 1) = (emitS f a n XL k).block a n a.k.toNat (a.k + 1) f.params k f.blocks[k] (afB f.blocks[k] (aftF (f.blk k).e.to XL)) := by
 unfold emitS
 have h1 : (f.blocks.take k).length = k := by simp; omega
 rw [List.take_succ_eq_append_getElem hk, blksI_snoc, h1, Nat.zero_add, VF.blk_get f hk]
theorem emitS_jok {f : VF} {w : World} (hf : f.Ok w) {n nb : Nat} (hok : FnOk f n nb) (hfe : fnE f = 0) (a : AL) (XL : Nat → Nat → Bool) : ∀ k, k ≤ f.blocks.length → JOk nb (emitS f a n XL k) ∧ (emitS f a n XL k).starts.length = k
 | 0, _ => ⟨fun j (hj : j ∈ []) => absurd hj List.not_mem_nil, rfl⟩
 | k + 1, hk => by
  have hk' : k < f.blocks.length := by omega
  obtain ⟨h1, h2⟩ := emitS_jok hf hok hfe a XL k (by omega)
  obtain ⟨h3, h4⟩ := vb_rng hf hok hfe hk'
  rw [emitS_succ hk']
  obtain ⟨h5, h6⟩ := h1.block a n a.k.toNat (a.k + 1) f.params k (afB f.blocks[k] (aftF (f.blk k).e.to XL)) h3.e h4
  refine ⟨h5, ?_⟩
  rw [h6, List.length_append, h2]
  rfl
theorem emitS_tot {f : VF} {w : World} (hf : f.Ok w) {n nb : Nat} (hok : FnOk f n nb) (hfe : fnE f = 0) (a : AL) (XL : Nat → Nat → Bool) (k : Nat) : (emitS f a n XL k).tot ≤ emW (f.blocks.take k) := by
 have h9 : f.params.length = f.pn := by simpa using hf.pcame.count
 have hp := hok.pn
 have h := blksI_tot a n a.k.toNat (a.k + 1) f.params (fun i j => afB (f.blk i) (aftF (f.blk i).e.to XL) j) (by omega) (f.blocks.take k) 0 ⟨[], [], [], [], []⟩ fun b hb x hx => by
  have hb2 := List.mem_of_mem_take hb
  obtain ⟨i, hi, rfl⟩ := List.getElem_of_mem hb2
  obtain ⟨h3, _⟩ := vb_rng hf hok hfe hi
  have h4 := (h3.ins x hx).sn
  have h5 : x.args.length = x.sn := ((hf.blocks _ (List.getElem_mem hi)).ins x hx).len
  omega
 have h7 : (⟨[], [], [], [], []⟩ : EmS).tot = 0 := rfl
 unfold emitS
 omega
end
end Go.Proofs.YtdnpoomagjcpfaaGreat
