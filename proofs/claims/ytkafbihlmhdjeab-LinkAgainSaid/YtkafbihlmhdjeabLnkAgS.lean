/- The first functions of the classes, merged again. No program. slices.Clone of references, with what it holds. The first functions of the classes in memory. No function of the program. -/
import Derived.Test.YtkafbihlmhdjeabLnkLink
namespace Go.Proofs.Ytkafbihlmhdjeab
open Go.RowKit
set_option linter.unusedVariables false
set_option linter.unusedSimpArgs false

/-- how many functions stay below k -/
def cntR (c : Nat → Nat) (k : Nat) : Nat := (repsL c k).length
theorem cntR_succ (c : Nat → Nat) (k : Nat) : cntR c (k + 1) = cntR c k + (if c k = k then 1 else 0) := by
  unfold cntR
  rw [repsL_succ, List.length_append]
  split <;> rfl
theorem cntR_mono (c : Nat → Nat) (i : Nat) : ∀ d, cntR c i ≤ cntR c (i + d)
  | 0 => Nat.le_refl _
  | d + 1 => Nat.le_trans (cntR_mono c i d) (by show _ ≤ cntR c (i + d + 1); rw [cntR_succ]; omega)
theorem cntR_le (c : Nat → Nat) {i j : Nat} (h : i ≤ j) : cntR c i ≤ cntR c j := by
  have := cntR_mono c i (j - i)
  rwa [show i + (j - i) = j by omega] at this
theorem cntR_lt (c : Nat → Nat) {i n : Nat} (hi : i < n) (hc : c i = i) : cntR c i < cntR c n := by
  have h1 := cntR_le c (show i + 1 ≤ n from hi)
  rw [cntR_succ, if_pos hc] at h1
  omega
theorem repsL_mem {c : Nat → Nat} {n i : Nat} : i ∈ repsL c n ↔ i < n ∧ c i = i := by simp [repsL]
theorem repsL_get (c : Nat → Nat) : ∀ (n i : Nat), i < n → c i = i → (repsL c n)[cntR c i]? = some i
  | 0, i, h, _ => by omega
  | n + 1, i, h, hc => by
    rw [repsL_succ]
    by_cases e : i = n
    · subst e
      unfold cntR
      rw [List.getElem?_append_right (Nat.le_refl _), Nat.sub_self, if_pos hc]
      rfl
    · have := repsL_get c n i (by omega) hc
      rw [List.getElem?_append_left (List.getElem?_eq_some_iff.1 this).1]
      exact this
theorem repsL_cnt (c : Nat → Nat) {n j : Nat} (hj : j < (repsL c n).length) : (repsL c n)[j] < n ∧ c (repsL c n)[j] = (repsL c n)[j] ∧ cntR c (repsL c n)[j] = j := by
  have h := repsL_mem.1 (List.getElem_mem hj)
  refine ⟨h.1, h.2, ?_⟩
  have h1 := repsL_get c n _ h.1 h.2
  have hl : cntR c (repsL c n)[j] < (repsL c n).length := (List.getElem?_eq_some_iff.1 h1).1
  have hp : (repsL c n).Pairwise (· < ·) := by
    unfold repsL
    exact List.Pairwise.filter _ List.pairwise_lt_range
  rw [List.getElem?_eq_getElem hl, Option.some.injEq] at h1
  rcases Nat.lt_trichotomy (cntR c (repsL c n)[j]) j with h2 | h2 | h2
  · have := List.pairwise_iff_getElem.1 hp _ _ hl hj h2; omega
  · exact h2
  · have := List.pairwise_iff_getElem.1 hp _ _ hj hl h2; omega
/-- a reference to the first function of its class -/
def mapC (c : Nat → Nat) (x : LC) : LC := ⟨x.item, ((cntR c (c x.fn.toNat) : Nat) : Int)⟩
/-- G is F with its references replaced -/
structure MapF (c : Nat → Nat) (F G : LF) : Prop where
  name : G.name = F.name
  items : G.ia = F.ia ∧ G.il = F.il ∧ G.ic = F.ic ∧ G.its = F.its
  calls : G.cl = F.cl ∧ G.calls = F.calls.map (mapC c)
  maps : G.ma = F.ma ∧ G.ml = F.ml ∧ G.mc = F.mc ∧ G.maps = F.maps
  size : G.size = F.size

theorem callsEq_map {X : Nat → Nat → Bool} {c : Nat → Nat} : ∀ (ps bs : List LC), callsEq X (ps.map (mapC c)) (bs.map (mapC c)) = callsEq (fun i k => X (cntR c (c i)) (cntR c (c k))) ps bs
  | [], [] => rfl
  | [], _ :: _ => rfl
  | _ :: _, [] => rfl
  | a :: ps, b :: bs => by
    simp only [List.map_cons, callsEq, callsEq_map ps bs]
    simp [mapC]
section
variable {l G : List LF} {c : Nat → Nat}
structure Firsts (l G : List LF) (c : Nat → Nat) : Prop where
  len : G.length = (repsL c l.length).length
  map : ∀ j (hj : j < G.length), MapF c (fnAt l ((repsL c l.length).getD j 0)) G[j]
theorem Firsts.at (h : Firsts l G c) {i : Nat} (hi : i < l.length) (hc : c i = i) : ∃ hj : cntR c i < G.length, MapF c (l[i]) G[cntR c i] := by
  have h1 := repsL_get c l.length i hi hc
  have hj : cntR c i < G.length := by rw [h.len]; exact (List.getElem?_eq_some_iff.1 h1).1
  refine ⟨hj, ?_⟩
  have h2 := h.map _ hj
  rw [List.getD_eq_getElem?_getD, h1, Option.getD_some, fnAt_get hi] at h2
  exact h2
theorem firsts_gf (h : Firsts l G c) (hl : LfsIn l) (hm : Merged l c) {x y : Nat} (hx : x < l.length) (hy : y < l.length) (hg : Gf G (cntR c (c x)) (cntR c (c y))) : Gf l x y := by
  obtain ⟨S, hS, hxy⟩ := hg
  refine ⟨fun a b => decide (a < l.length ∧ b < l.length) && S (cntR c (c a)) (cntR c (c b)), fun a b hab => ?_, by simp [hx, hy, hxy]⟩
  simp only [Bool.and_eq_true, decide_eq_true_eq] at hab
  obtain ⟨⟨ha, hb⟩, hs⟩ := hab
  refine ⟨ha, hb, ?_⟩
  obtain ⟨_, _, h1⟩ := hS _ _ hs
  have hca : c a < l.length := by have := hm.le a ha; omega
  have hcb : c b < l.length := by have := hm.le b hb; omega
  obtain ⟨_, ma⟩ := h.at hca (hm.rep a ha)
  obtain ⟨_, mb⟩ := h.at hcb (hm.rep b hb)
  have ga : Gf l a (c a) := (hm.iff a (c a) ha hca).1 (hm.rep a ha).symm
  have gb : Gf l (c b) b := (hm.iff (c b) b hcb hb).1 (hm.rep b hb)
  obtain ⟨_, _, sa⟩ := ga.same hl (Y := fun p q => decide (p < l.length ∧ q < l.length ∧ c p = c q)) (fun p q hpq => by have := hpq.lt; simp only [decide_eq_true_eq]; exact ⟨this.1, this.2, (hm.iff p q this.1 this.2).2 hpq⟩)
  obtain ⟨_, _, sb⟩ := gb.same hl (Y := fun p q => decide (p < l.length ∧ q < l.length ∧ c p = c q)) (fun p q hpq => by have := hpq.lt; simp only [decide_eq_true_eq]; exact ⟨this.1, this.2, (hm.iff p q this.1 this.2).2 hpq⟩)
  have sm : sameL (fun p q => decide (p < l.length ∧ q < l.length) && S (cntR c (c p)) (cntR c (c q))) l[c a] l[c b] = true := by
    rw [sameL_iff] at h1 ⊢
    obtain ⟨e1, e2, e3, e4⟩ := h1
    refine ⟨by rw [← ma.size, ← mb.size]; exact e1, by rw [← ma.items.2.2.2, ← mb.items.2.2.2]; exact e2, by rw [← ma.maps.2.2.2, ← mb.maps.2.2.2]; exact e3, ?_⟩
    rw [ma.calls.2, mb.calls.2, callsEq_map] at e4
    refine callsEq_mono (n := l.length) (fun p q hp hq hpq => ?_) _ _ (hl _ (List.getElem_mem _)) (hl _ (List.getElem_mem _)) e4
    simp [hp, hq, hpq]
  have s1 := sameL_trans (n := l.length) (Z := fun p q => decide (p < l.length ∧ q < l.length) && S (cntR c (c p)) (cntR c (c q))) (fun p q r hp hq hr h1 h2 => by
    simp only [decide_eq_true_eq, Bool.and_eq_true] at h1 h2 ⊢
    rw [h1.2.2]
    exact ⟨⟨hp, hr⟩, h2.2⟩) (hl _ (List.getElem_mem _)) (hl _ (List.getElem_mem _)) (hl _ (List.getElem_mem _)) sa sm
  exact sameL_trans (n := l.length) (fun p q r hp hq hr h1 h2 => by
    simp only [decide_eq_true_eq, Bool.and_eq_true] at h1 h2 ⊢
    rw [← h2.2.2]
    exact ⟨⟨hp, hr⟩, h1.2⟩) (hl _ (List.getElem_mem _)) (hl _ (List.getElem_mem _)) (hl _ (List.getElem_mem _)) s1 sb
/-- merging them again merges nothing -/
theorem firsts_id (h : Firsts l G c) (hl : LfsIn l) (hm : Merged l c) {d : Nat → Nat} (hd : Merged G d) : ∀ j, j < G.length → d j = j := by
  intro j hj
  have hdj : d j < G.length := by have := hd.le j hj; omega
  have hg : Gf G (d j) j := (hd.iff (d j) j hdj hj).1 (hd.rep j hj)
  have hj' : j < (repsL c l.length).length := by rw [← h.len]; exact hj
  have hdj' : d j < (repsL c l.length).length := by rw [← h.len]; exact hdj
  obtain ⟨a1, a2, a3⟩ := repsL_cnt c hj'
  obtain ⟨b1, b2, b3⟩ := repsL_cnt c hdj'
  have h1 := firsts_gf h hl hm (x := (repsL c l.length)[d j]) (y := (repsL c l.length)[j]) b1 a1 (by rw [b2, b3, a2, a3]; exact hg)
  have h2 := (hm.iff _ _ b1 a1).2 h1
  rw [a2, b2] at h2
  rw [← b3, h2, a3]
end
theorem callsE_map {its : List Item} {many many' : Nat} {c : Nat → Nat} (hlt : ∀ x : Nat, x < many → cntR c (c x) < many') : ∀ (cs : List LC) (last : Int), callsE its many last cs = 0 → callsE its many' last (cs.map (mapC c)) = 0
  | [], last, h => rfl
  | x :: cs, last, h => by
    have h' : (if callE its many last x ≠ 0 then callE its many last x else callsE its many x.item cs) = 0 := h
    by_cases hc : callE its many last x = 0
    · rw [if_neg (by simp [hc])] at h'
      show (if callE its many' last (mapC c x) ≠ 0 then callE its many' last (mapC c x) else callsE its many' x.item (cs.map (mapC c))) = 0
      have h2 : callE its many' last (mapC c x) = 0 := by
        unfold callE at hc ⊢
        by_cases h9 : x.item ≤ last ∨ (its.length : Int) ≤ x.item ∨ x.fn < 0 ∨ (many : Int) ≤ x.fn
        · rw [if_pos h9] at hc; cases hc
        · rw [if_neg h9] at hc
          rw [if_neg]
          · exact hc
          · have := hlt x.fn.toNat (by omega)
            show ¬ (x.item ≤ last ∨ (its.length : Int) ≤ x.item ∨ ((cntR c (c x.fn.toNat) : Nat) : Int) < 0 ∨ (many' : Int) ≤ ((cntR c (c x.fn.toNat) : Nat) : Int))
            omega
      rw [if_neg (by simp [h2])]
      exact callsE_map hlt cs _ h'
    · rw [if_pos hc] at h'; exact absurd h' hc
theorem chkL_zero (many : Nat) : ∀ l : List LF, (∀ f ∈ l, fnL many f = 0) → chkL many l = 0
  | [], _ => rfl
  | f :: l, h => by
    show (if fnL many f ≠ 0 then fnL many f else chkL many l) = 0
    rw [if_neg (by simp [h f (by simp)])]
    exact chkL_zero many l fun x hx => h x (by simp [hx])
theorem firsts_chk {l G : List LF} {c : Nat → Nat} (h : Firsts l G c) (hm : Merged l c) (hc : chkE l = 0) : chkE G = 0 := by
  have hn := (chkE_in hc).2
  have hlen : G.length ≤ l.length := by rw [h.len]; exact repsL_len c l.length
  have hch : chkL l.length l = 0 := by
    unfold chkE at hc
    rw [if_neg (by omega)] at hc
    exact hc
  unfold chkE
  rw [if_neg (by omega)]
  refine chkL_zero _ _ fun g hg => ?_
  obtain ⟨j, hj, rfl⟩ := List.getElem_of_mem hg
  have hj' : j < (repsL c l.length).length := by rw [← h.len]; exact hj
  obtain ⟨a1, a2, a3⟩ := repsL_cnt c hj'
  obtain ⟨hj2, hmap⟩ := h.at a1 a2
  generalize (repsL c l.length)[j] = r at a1 a2 a3 hj2 hmap
  subst a3
  obtain ⟨b1, b2, b3, b4⟩ := fnL_calls (chkL_in _ _ hch _ (List.getElem_mem a1))
  obtain ⟨d1, d2, d3⟩ := refsE_calls b4
  have hcl : callsE l[r].its G.length (-1) G[cntR c r].calls = 0 := by
    rw [hmap.calls.2]
    refine callsE_map (many := l.length) (fun x hx => ?_) _ _ d2
    have h1 := hm.le x hx
    have := (h.at (i := c x) (by omega) (hm.rep x hx)).1
    exact this
  unfold fnL
  rw [hmap.items.2.2.2, hmap.items.2.1, hmap.size, if_neg (by simp [b1]), if_neg (by omega)]
  unfold refsE
  rw [hmap.items.2.2.2, hmap.maps.2.2.2, if_neg, if_neg (by simp [hcl])]
  · exact d3
  · intro he
    rw [List.any_eq_true] at he
    obtain ⟨x, hx, he⟩ := he
    exact d1 x hx (by simpa using he)

theorem Try.infoL56 : (Try.prog.info? 56).map (fun i => (i.zero, i.size, i.bytes)) = some (some (.agg #[.int .i64 0, .int .i64 0]), 2, 16) := by kernel_rfl
theorem lcC_len (x : LC) : (lcC x).length = 2 := rfl
def CloneC (vl : Nat) (zs : List LC) (w : World) (e : Ending) (w' : World) : Prop := ∃ a c, e = .returned (.slice a vl c) ∧ w'.ownsRow w.heap.size 56 2 (.slice a vl c) vl (zs.flatMap lcC) ∧ Below w.heap.size w w'
set_option maxRecDepth 100000 in
set_option maxHeartbeats 1000000 in
theorem clone_lcs (va : Option Addr) (vl vc : Nat) (zs : List LC) (w : World) (h : Came w va vl vc 2 (zs.map lcC)) (hn : vl * 16 ≤ 140737488351232) :
    Calls Try.prog 28 #[.slice va vl vc] w (CloneC vl zs w) := by
  have q22 : ∀ (w : World) (a : Option Addr) (n c n' c' : Nat), (binOp .eql 50 (.slice a n c) (.slice none n' c')).run Try.prog w = .ok (.bool a.isNone) w := fun w a n c n' c' => Lib.run_eql_slice_nil w _ _ a n c n' c' Try.underlying50
  have hzl : zs.length = vl := by simpa using h.count
  cases va with
  | none =>
    obtain ⟨rfl, rfl⟩ := h.nil rfl
    have : zs = [] := List.eq_nil_of_length_eq_zero hzl
    subst this
    clear h
    go_enter Try.func28, Try.ntmps28
    go_wp2_with fail
    go_ret
    exact ⟨none, 0, rfl, World.ownsRow_nil _ _ _ _, Below.refl _ _⟩
  | some ad =>
    have hl : (zs.flatMap lcC).length = vl * 2 := by rw [flatN_len lcC_len, hzl]
    have HN : Hid (∀ j u, (zs.flatMap lcC)[j]? = some u → w.cell? (ad.add j) = some u) := fun j u hj => by
      have hjl : j < (zs.flatMap lcC).length := (List.getElem?_eq_some_iff.1 hj).1
      obtain ⟨b, off, ha, hb, hc⟩ := h.cells (by omega) (by omega)
      cases ha
      have hd : j / 2 < zs.length := by omega
      have e : j / 2 * 2 + j % 2 = j := by omega
      have h1 := flatN_get lcC_len zs (j / 2) (j % 2) hd (by omega)
      rw [e] at h1
      have h2 := hc (j / 2) (lcC zs[j / 2]) (by rw [List.getElem?_map, List.getElem?_eq_getElem hd]; rfl) (j % 2) (by omega)
      rw [e] at h2
      rw [Addr.add_lit, h2, ← h1, hj]
    have H1 : Hid (∀ u ∈ zs.flatMap lcC, u.oneCell' = true) := by
      intro u hu
      obtain ⟨z, _, hu⟩ := List.mem_flatMap.1 hu
      simp [lcC] at hu
      rcases hu with rfl | rfl <;> rfl
    obtain ⟨i0, hi0, hz0, hz1, hz2⟩ := info_parts Try.infoL56
    clear h
    go_enter Try.func28, Try.ntmps28
    go_wp2_with (at_builtin; refine wpList_append_own _ rfl _ _ 50 rfl w.heap.size 56 i0 (.agg #[.int .i64 0, .int .i64 0]) 2 16 Try.underlying50 hi0 hz0 hz1 hz2 rfl (by decide) _ _ _ rfl (World.ownsRow_made w #[] 0 (Nat.le_refl _) (Nat.zero_le _) rfl) ad vl vc (zs.flatMap lcC) rfl ?qc1 ?qc2 ?qc3 ?qc4 ?qc5 ?qc6 ?_)
    case qc1 => exact hl
    case qc2 =>
      intro j u hj
      exact Lib.cell?_alloc_some _ (HN.out j u hj)
    case qc3 => exact H1.out
    case qc4 => unfold maxLen; omega
    case qc5 => omega
    case qc6 => simp
    intro v' w1 hown hgrow hnil
    have hown' : w1.ownsRow w.heap.size 56 2 v' vl (zs.flatMap lcC) := by simpa using hown
    obtain ⟨a', c', rfl⟩ := ownG_shape hown'
    have HB := Lib.hid (((Below.refl _ w).alloc (Nat.le_refl _) _).grown hgrow (by simp) (by intro k hk; simp [Value.ownBlock] at hk; omega))
    have HO := Lib.hid hown'
    clear hown hgrow hnil hown'
    go_wp2_with fail
    go_ret
    exact ⟨_, _, rfl, HO.out, HB.out⟩

def mixC (c : Nat → Nat) (k : Nat) (zs : List LC) : List LC := (zs.take k).map (mapC c) ++ zs.drop k
theorem mixC_len (c : Nat → Nat) (k : Nat) (zs : List LC) : (mixC c k zs).length = zs.length := by unfold mixC; simp; omega
theorem mixC_zero (c : Nat → Nat) (zs : List LC) : mixC c 0 zs = zs := by simp [mixC]
theorem mixC_all (c : Nat → Nat) (zs : List LC) : mixC c zs.length zs = zs.map (mapC c) := by simp [mixC]
theorem mixC_get (c : Nat → Nat) {k : Nat} {zs : List LC} (hk : k < zs.length) : (mixC c k zs)[k]'(by rw [mixC_len]; exact hk) = zs[k] := by
  unfold mixC
  rw [List.getElem_append_right (by simp; omega)]
  simp only [List.length_map, List.length_take, Nat.min_eq_left (Nat.le_of_lt hk), Nat.sub_self, List.getElem_drop, Nat.add_zero]
theorem mixC_set (c : Nat → Nat) {k : Nat} {zs : List LC} (hk : k < zs.length) : (mixC c k zs).set k (mapC c zs[k]) = mixC c (k + 1) zs := by
  unfold mixC
  rw [List.set_append_right _ _ (by simp; omega), List.take_succ_eq_append_getElem hk, List.map_append, List.append_assoc]
  simp only [List.length_map, List.length_take, Nat.min_eq_left (Nat.le_of_lt hk), Nat.sub_self]
  rw [List.drop_eq_getElem_cons hk, List.set_cons_zero]
  rfl
/-- the clone of a function's references, as far as they are replaced -/
def CalS (B : Nat) (w : World) (a : Option Addr) (m cc : Nat) (c : Nat → Nat) (k : Nat) (zs : List LC) : Prop := w.ownsRow B 56 2 (.slice a m cc) m ((mixC c k zs).flatMap lcC)
theorem CalS.at {B : Nat} {w : World} {g m cc : Nat} {c : Nat → Nat} {k : Nat} {zs : List LC} (h : CalS B w (some ⟨g, 0, none⟩) m cc c k zs) (hm : zs.length = m) (hk : k < m) :
    w.cell? ⟨g, k * 2 + 1, none⟩ = some (.int .i64 (zs[k]'(by omega)).fn) ∧ w.frozen? ⟨g, k * 2 + 1, none⟩ = false ∧ CalS B (w.setCell ⟨g, k * 2 + 1, none⟩ (.int .i64 ((cntR c (c (zs[k]'(by omega)).fn.toNat) : Nat) : Int))) (some ⟨g, 0, none⟩) m cc c (k + 1) zs := by
  have hk' : k < zs.length := by omega
  have h1 := ownG_cellAt h (j := k * 2 + 1) (by omega)
  have h2 := flatN_get lcC_len (mixC c k zs) k 1 (by rw [mixC_len]; exact hk') (by omega)
  rw [mixC_get c hk'] at h2
  refine ⟨h1.1.trans h2, h1.2, ?_⟩
  have h3 := ownG_set h (k * 2 + 1) (.int .i64 ((cntR c (c (zs[k]'(by omega)).fn.toNat) : Nat) : Int)) (by omega)
  have h4 := flatN_set lcC_len (mixC c k zs) k 1 (.int .i64 ((cntR c (c (zs[k]'(by omega)).fn.toNat) : Nat) : Int)) (mapC c zs[k]) (by rw [mixC_len]; exact hk') (by omega) (by rw [mixC_get c hk']; rfl)
  rw [h4, mixC_set c hk'] at h3
  exact h3
def origF (l : List LF) (c : Nat → Nat) (m : Nat) : LF := fnAt l ((repsL c l.length).getD m 0)
/-- the first functions; those below j have new references -/
structure AgS (B : Nat) (w : World) (vf : Value) (l : List LF) (c : Nat → Nat) (j : Nat) (F : List LF) : Prop where
  len : F.length = (repsL c l.length).length
  row : w.ownsRow B 53 5 vf F.length (F.flatMap lfC)
  done : ∀ m (hm : m < F.length), m < j → MapF c (origF l c m) F[m] ∧ w.ownsRow B 56 2 (.slice F[m].ca F[m].cl F[m].cc) F[m].cl (F[m].calls.flatMap lcC)
  todo : ∀ m (hm : m < F.length), j ≤ m → F[m] = origF l c m
section
variable {B : Nat} {w w' : World} {vf : Value} {l : List LF} {c : Nat → Nat} {j : Nat} {F : List LF}
theorem AgS.below (h : AgS B w vf l c j F) (hb : Below w.heap.size w w') : AgS B w' vf l c j F :=
  ⟨h.len, ownG_below h.row hb, fun m hm hj => ⟨(h.done m hm hj).1, ownG_below (h.done m hm hj).2 hb⟩, h.todo⟩
theorem AgS.start (h : w.ownsRow B 53 5 vf (cntR c l.length) (((repsL c l.length).map (fnAt l)).flatMap lfC)) : AgS B w vf l c 0 ((repsL c l.length).map (fnAt l)) := by
  refine ⟨by simp, by rw [List.length_map]; exact h, fun m hm hj => by omega, fun m hm _ => ?_⟩
  rw [List.getElem_map]
  unfold origF
  rw [List.getD_eq_getElem?_getD, List.getElem?_eq_getElem (by simpa using hm)]
  rfl
theorem AgS.cell2 {g cap : Nat} (h : AgS B w (.slice (some ⟨g, 0, none⟩) F.length cap) l c j F) (hj : j < F.length) : w.cell? ⟨g, j * 5 + 2, none⟩ = some (.slice F[j].ca F[j].cl F[j].cc) ∧ w.frozen? ⟨g, j * 5 + 2, none⟩ = false := by
  have h1 := ownG_cellAt h.row (j := j * 5 + 2) (by omega)
  have h2 := flatN_get lfC_len F j 2 hj (by omega)
  exact ⟨h1.1.trans h2, h1.2⟩
theorem AgS.put {g cap : Nat} (h : AgS B w (.slice (some ⟨g, 0, none⟩) F.length cap) l c j F) (hj : j < F.length) (hb : Below w.heap.size w w') (hB : B ≤ w.heap.size) {a : Option Addr} {cc : Nat} (hc : CalS w.heap.size w' a F[j].cl cc c F[j].calls.length F[j].calls) :
    ∃ F', F'.length = F.length ∧ AgS B (w'.setCell ⟨g, j * 5 + 2, none⟩ (.slice a F[j].cl cc)) (.slice (some ⟨g, 0, none⟩) F.length cap) l c (j + 1) F' := by
  unfold CalS at hc
  rw [mixC_all] at hc
  have h1 := h.below hb
  have hr := ownG_set h1.row (j * 5 + 2) (.slice a F[j].cl cc) (by omega)
  have hs := flatN_set lfC_len F j 2 (.slice a F[j].cl cc) { F[j] with ca := a, cc := cc, calls := F[j].calls.map (mapC c) } hj (by omega) rfl
  rw [hs] at hr
  have ho : ∀ {v : Value} {n : Nat} {xs : List Value}, w'.ownsRow B 56 2 v n xs → (w'.setCell ⟨g, j * 5 + 2, none⟩ (.slice a F[j].cl cc)).ownsRow B 56 2 v n xs := fun hx =>
    ownG_other (a := ⟨g, j * 5 + 2, none⟩) hx (fun e => own_ty2 hx h1.row (by decide) g e (by simp [Value.ownBlock])) _
  refine ⟨F.set j { F[j] with ca := a, cc := cc, calls := F[j].calls.map (mapC c) }, by rw [List.length_set], by rw [List.length_set]; exact h.len, by rw [List.length_set]; exact hr, fun m hm hmj => ?_, fun m hm hmj => ?_⟩
  · rw [List.length_set] at hm
    by_cases e : m = j
    · subst e
      have ht := h.todo m hj (Nat.le_refl _)
      rw [List.getElem_set_self]
      refine ⟨?_, ho (ownG_base hc hB)⟩
      rw [← ht]
      exact ⟨rfl, ⟨rfl, rfl, rfl, rfl⟩, ⟨rfl, rfl⟩, ⟨rfl, rfl, rfl, rfl⟩, rfl⟩
    · rw [List.getElem_set_ne (fun e2 => e e2.symm)]
      exact ⟨(h1.done m hm (by omega)).1, ho (h1.done m hm (by omega)).2⟩
  · rw [List.length_set] at hm
    rw [List.getElem_set_ne (by omega)]
    exact h.todo m hm (by omega)
theorem AgS.firsts (h : AgS B w vf l c F.length F) : Firsts l F c := ⟨h.len, fun m hm => (h.done m hm hm).1⟩
theorem AgS.lnk (h : AgS B w vf l c F.length F) (hl : ∀ f ∈ l, f.Ok w) (hm : Merged l c) (hin : LfsIn l) (hsmall : l.length ≤ 256) : ∃ a cap, vf = .slice a F.length cap ∧ Lnk w a F.length cap F := by
  obtain ⟨a, cap, rfl, hcm⟩ := came_of_ownsG (w := w) (E := lfC) (zs := F) (by omega) lfC_len rfl h.row
  refine ⟨a, cap, rfl, hcm, fun f hf => ?_⟩
  obtain ⟨m, hmF, rfl⟩ := List.getElem_of_mem hf
  obtain ⟨hmap, hown⟩ := h.done m hmF hmF
  have hm' : m < (repsL c l.length).length := by rw [← h.len]; exact hmF
  have ho : origF l c m = fnAt l (repsL c l.length)[m] := by
    unfold origF
    rw [List.getD_eq_getElem?_getD, List.getElem?_eq_getElem hm']
    rfl
  have hr := (repsL_cnt c hm').1
  rw [ho, fnAt_get hr] at hmap
  have hmem := List.getElem_mem hr
  have hok := hl _ hmem
  have hfi := hin _ hmem
  generalize l[(repsL c l.length)[m]] = o at hmap hok hfi
  generalize F[m] = f at hmap hown
  obtain ⟨m1, ⟨m2, m3, m4, m5⟩, ⟨m6, m7⟩, ⟨m8, m9, m10, m11⟩, m12⟩ := hmap
  have hcl : f.calls.length = f.cl := by rw [m7, List.length_map, hok.clen, m6]
  obtain ⟨a', cap', hv, hcc⟩ := came_of_ownsG (w := w) (E := lcC) (zs := f.calls) (by omega) lcC_len hcl hown
  injection hv with v1 v2 v3
  rw [← v1, ← v3] at hcc
  refine ⟨by rw [m2, m3, m4, m5]; exact hok.icame, by rw [m3]; exact hok.ireach, hcc, by rw [m6]; exact hok.creach, by rw [m8, m9, m10, m11]; exact hok.mcame, by rw [m9]; exact hok.mreach, by rw [m11]; exact hok.maps, by rw [m1]; exact hok.name, by rw [m12]; exact hok.size, by rw [m5]; exact hok.its, fun z hz => ?_⟩
  rw [m7] at hz
  obtain ⟨x, hx, rfl⟩ := List.mem_map.1 hz
  have hxi := hfi x hx
  refine ⟨(hok.calls x hx).1, ?_⟩
  show I64 ((cntR c (c x.fn.toNat) : Nat) : Int)
  have h1 := hm.le x.fn.toNat (by omega)
  have h2 := cntR_le c (show c x.fn.toNat ≤ l.length by omega)
  have h3 := repsL_len c l.length
  unfold cntR at h2 ⊢
  unfold I64
  omega
end
end Go.Proofs.Ytkafbihlmhdjeab
