/- The reference's level of a cache, and how it stands to the lists of lines. No function of the program. -/
import Derived.Test.YtkpeeemnholmnabLevel
namespace Go.Proofs.Ytkpeeemnholmnab
set_option linter.unusedVariables false
set_option linter.unusedSimpArgs false

/-- an entry of the reference's list -/
structure UL where
  (line tm : Nat)
  (dirty gone : Bool)
def liveU (sets i : Nat) (u : UL) : Bool := !u.gone && (u.line % sets == i)
def asC (u : UL) : CLine := ((u.line : Int), u.dirty)
theorem liveU_iff {sets i : Nat} {u : UL} : liveU sets i u = true ↔ u.gone = false ∧ u.line % sets = i := by
  unfold liveU
  rw [Bool.and_eq_true, Bool.not_eq_true', beq_iff_eq]

def OrdU (ys : List UL) : Prop := ys.Pairwise fun a b => b.tm < a.tm
def DifU (ys : List UL) : Prop := ys.Pairwise fun a b => a.line ≠ b.line

structure RelI (sets i : Nat) (all : List UL) (xs : List CLine) (ys : List UL) : Prop where
  perm : ys.Perm (all.filter (liveU sets i))
  ord : OrdU ys
  dif : DifU ys
  eq : xs = ys.map asC
structure RelL (sets now : Nat) (all : List UL) (x : Nat → List CLine) : Prop where
  tm : ∀ u ∈ all, u.tm ≤ now
  st : ∀ i, ∃ ys, RelI sets i all (x i) ys

theorem RelL.nil (sets now : Nat) : RelL sets now [] fun _ => [] := ⟨fun u h => by simp at h, fun i => ⟨[], List.Perm.refl _, List.Pairwise.nil, List.Pairwise.nil, rfl⟩⟩

def newU (line now : Nat) (wr : Bool) : UL := ⟨line, now + 1, wr, false⟩
theorem live_new (sets line now : Nat) (wr : Bool) : [newU line now wr].filter (liveU sets (line % sets)) = [newU line now wr] := by
  have : liveU sets (line % sets) (newU line now wr) = true := liveU_iff.2 ⟨rfl, rfl⟩
  rw [List.filter_cons_of_pos this, List.filter_nil]
theorem live_new0 {sets line now i : Nat} {wr : Bool} (e : i ≠ line % sets) : [newU line now wr].filter (liveU sets i) = [] := by
  rw [List.filter_cons_of_neg (by intro h1; exact e (liveU_iff.1 h1).2.symm), List.filter_nil]
inductive UseR (sets ways now line : Nat) (wr : Bool) (all : List UL) : List UL → Bool → Int → Prop
  | hit (pre : List UL) (u : UL) (post : List UL) (h : all = pre ++ u :: post) (hg : u.gone = false) (hl : u.line = line) : UseR sets ways now line wr all (pre ++ ⟨u.line, now + 1, u.dirty || wr, false⟩ :: post) true (-1)
  | room (hn : ∀ u ∈ all, u.gone = false → u.line ≠ line) (hc : (all.filter (liveU sets (line % sets))).length ≠ ways) : UseR sets ways now line wr all (all ++ [newU line now wr]) false (-1)
  | full (hn : ∀ u ∈ all, u.gone = false → u.line ≠ line) (hc : (all.filter (liveU sets (line % sets))).length = ways) (pre : List UL) (u : UL) (post : List UL) (h : all = pre ++ u :: post)
      (hl : liveU sets (line % sets) u = true) (hm : ∀ v ∈ all, liveU sets (line % sets) v = true → u.tm ≤ v.tm) : UseR sets ways now line wr all (pre ++ ⟨u.line, u.tm, u.dirty, true⟩ :: post ++ [newU line now wr]) false (if u.dirty = true then (u.line : Int) else -1)

theorem perm_mid {a b c d : List UL} {u : UL} (h : (a ++ u :: b).Perm (c ++ u :: d)) : (a ++ b).Perm (c ++ d) :=
  (List.perm_cons u).1 (List.perm_middle.symm.trans (h.trans List.perm_middle))
theorem lineAt_none {line : Int} {ys : List UL} (h : ∀ u ∈ ys, (u.line : Int) ≠ line) : ¬ lineAt line (ys.map asC) < (ys.map asC).length := by
  intro h1
  have := List.findIdx_getElem (w := h1)
  obtain ⟨u, hu, he⟩ := List.mem_map.1 (List.getElem_mem h1)
  unfold lineAt at he
  rw [← he] at this
  exact h u hu (by simpa [asC] using this)
theorem lineAt_mid {line : Nat} {ya yb : List UL} {u : UL} (h : ∀ v ∈ ya, v.line ≠ line) (hu : u.line = line) : lineAt (line : Int) ((ya ++ u :: yb).map asC) = ya.length := by
  have hl : ya.length < ((ya ++ u :: yb).map asC).length := by simp
  unfold lineAt
  refine (List.findIdx_eq hl).2 ⟨?_, fun j hj => ?_⟩
  · simp [asC, hu]
  · have h1 : (ya ++ u :: yb)[j]'(by simp; omega) = ya[j] := List.getElem_append_left hj
    simp only [List.getElem_map, asC, beq_eq_false_iff_ne, ne_eq, h1]
    have := h _ (List.getElem_mem hj)
    omega

theorem filter_mid {p : UL → Bool} {pre post : List UL} {u : UL} (h : p u = true) : (pre ++ u :: post).filter p = pre.filter p ++ u :: post.filter p := by
  rw [List.filter_append, List.filter_cons_of_pos h]
theorem filter_mid0 {p : UL → Bool} {pre post : List UL} {u : UL} (h : p u = false) : (pre ++ u :: post).filter p = pre.filter p ++ post.filter p := by
  rw [List.filter_append, List.filter_cons_of_neg (by simp [h])]

theorem mem_of_perm {sets i : Nat} {all ys : List UL} (h : ys.Perm (all.filter (liveU sets i))) {v : UL} (hv : v ∈ ys) : v ∈ all ∧ liveU sets i v = true := by
  have := (h.mem_iff).1 hv
  rwa [List.mem_filter] at this

theorem RelL.step {sets ways now line : Nat} {wr : Bool} {all all' : List UL} {x : Nat → List CLine} {hit : Bool} {out : Int} (h : RelL sets now all x) (hu : UseR sets ways now line wr all all' hit out) (hw : 1 ≤ ways) :
    RelL sets (now + 1) all' (upd x (line % sets) (acc ways (line : Int) wr (x (line % sets)))) ∧ hit = accHit (line : Int) (x (line % sets)) ∧
      (hit = false → out = if (accOld ways (line : Int) (x (line % sets))).2 = true then (accOld ways (line : Int) (x (line % sets))).1 else -1) := by
  obtain ⟨ys, hp, ho, hd, he⟩ := h.st (line % sets)
  cases hu with
  | hit pre u post ha hg hl =>
    have hlu : liveU sets (line % sets) u = true := liveU_iff.2 ⟨hg, by rw [hl]⟩
    have hfu : all.filter (liveU sets (line % sets)) = pre.filter (liveU sets (line % sets)) ++ u :: post.filter (liveU sets (line % sets)) := by rw [ha, filter_mid hlu]
    have hmem : u ∈ ys := hp.mem_iff.2 (by rw [hfu]; simp)
    obtain ⟨ya, yb, rfl⟩ := List.append_of_mem hmem
    have hya : ∀ v ∈ ya, v.line ≠ line := fun v hv => by
      rw [← hl]; exact (List.pairwise_append.1 hd).2.2 v hv u (List.mem_cons_self)
    have hat := lineAt_mid (yb := yb) hya hl
    have hlt : lineAt (line : Int) ((ya ++ u :: yb).map asC) < ((ya ++ u :: yb).map asC).length := by rw [hat]; simp
    have hacc : acc ways (line : Int) wr (x (line % sets)) = (⟨u.line, now + 1, u.dirty || wr, false⟩ :: (ya ++ yb) : List UL).map asC := by
      rw [he]
      unfold acc
      rw [dif_pos hlt]
      have e1 : ((ya ++ u :: yb).map asC)[lineAt (line : Int) ((ya ++ u :: yb).map asC)] = asC u := by
        simp only [hat]
        simp
      have e2 : ((ya ++ u :: yb).map asC).eraseIdx (lineAt (line : Int) ((ya ++ u :: yb).map asC)) = (ya ++ yb).map asC := by
        rw [hat, List.map_append, List.map_cons, List.eraseIdx_append_of_length_le (by simp)]
        simp
      rw [e1, e2, List.map_cons]
      simp [asC, hl]
    refine ⟨⟨fun v hv => ?_, fun i => ?_⟩, ?_, fun e => by simp at e⟩
    · rcases List.mem_append.1 hv with h1 | h1
      · have := h.tm v (by rw [ha]; exact List.mem_append_left _ h1); omega
      · rcases List.mem_cons.1 h1 with rfl | h1
        · exact Nat.le_refl _
        · have := h.tm v (by rw [ha]; exact List.mem_append_right _ (List.mem_cons_of_mem _ h1)); omega
    · by_cases e : i = line % sets
      · subst e
        rw [upd_same]
        refine ⟨_, ?_, ?_, ?_, hacc⟩
        · rw [filter_mid (liveU_iff.2 ⟨rfl, by rw [hl]⟩)]
          rw [hfu] at hp
          exact (List.Perm.cons _ (perm_mid hp)).trans List.perm_middle.symm
        · refine List.pairwise_cons.2 ⟨fun v hv => ?_, ?_⟩
          · have := h.tm v (mem_of_perm hp (by rcases List.mem_append.1 hv with h9 | h9; exact List.mem_append_left _ h9; exact List.mem_append_right _ (List.mem_cons_of_mem _ h9))).1
            show v.tm < now + 1
            omega
          · exact ho.sublist (List.append_sublist_append_left _ |>.2 (List.sublist_cons_self _ _))
        · refine List.pairwise_cons.2 ⟨fun v hv => ?_, ?_⟩
          · show u.line ≠ v.line
            rcases List.mem_append.1 hv with h1 | h1
            · rw [hl]; exact fun e => hya v h1 e.symm
            · exact (List.pairwise_cons.1 (List.pairwise_append.1 hd).2.1).1 v h1
          · exact hd.sublist (List.append_sublist_append_left _ |>.2 (List.sublist_cons_self _ _))
      · rw [upd_other _ _ e]
        obtain ⟨zs, zp, zo, zd, ze⟩ := h.st i
        refine ⟨zs, ?_, zo, zd, ze⟩
        have n1 : liveU sets i u = false := by rw [← Bool.not_eq_true]; intro h1; have := (liveU_iff.1 h1).2; rw [hl] at this; exact e this.symm
        have n2 : liveU sets i ⟨u.line, now + 1, u.dirty || wr, false⟩ = false := by rw [← Bool.not_eq_true]; intro h1; have := (liveU_iff.1 h1).2; simp only [hl] at this; exact e this.symm
        rw [filter_mid0 n2]
        rwa [ha, filter_mid0 n1] at zp
    · rw [he]; exact (decide_eq_true hlt).symm
  | room hn hc =>
    have hno : ∀ u ∈ ys, (u.line : Int) ≠ (line : Int) := fun u hu => by
      have h1 := mem_of_perm hp hu
      have := hn u h1.1 (liveU_iff.1 h1.2).1
      omega
    have hlt := lineAt_none hno
    have hlen : (ys.map asC).length ≠ ways := by rw [List.length_map, hp.length_eq]; exact hc
    have hacc : acc ways (line : Int) wr (x (line % sets)) = (newU line now wr :: ys).map asC := by
      rw [he]
      unfold acc
      rw [dif_neg hlt, if_neg hlen]
      rfl
    refine ⟨⟨fun v hv => ?_, fun i => ?_⟩, ?_, fun _ => ?_⟩
    · rcases List.mem_append.1 hv with h1 | h1
      · have := h.tm v h1; omega
      · simp at h1; subst h1; exact Nat.le_refl _
    · by_cases e : i = line % sets
      · subst e
        rw [upd_same]
        refine ⟨_, ?_, ?_, ?_, hacc⟩
        · rw [List.filter_append, live_new]
          exact (List.Perm.cons _ hp).trans (List.perm_append_singleton _ _).symm
        · refine List.pairwise_cons.2 ⟨fun v hv => ?_, ho⟩
          have := h.tm v (mem_of_perm hp hv).1
          show v.tm < now + 1
          omega
        · refine List.pairwise_cons.2 ⟨fun v hv => ?_, hd⟩
          have := hno v hv
          show line ≠ v.line
          omega
      · rw [upd_other _ _ e]
        obtain ⟨zs, zp, zo, zd, ze⟩ := h.st i
        refine ⟨zs, ?_, zo, zd, ze⟩
        rw [List.filter_append, live_new0 e, List.append_nil]
        exact zp
    · rw [he]; exact (decide_eq_false hlt).symm
    · rw [he]
      unfold accOld
      rw [if_neg hlt, if_neg hlen]
      rfl
  | full hn hc pre u post ha hl hm =>
    have hno : ∀ u ∈ ys, (u.line : Int) ≠ (line : Int) := fun u hu => by
      have h1 := mem_of_perm hp hu
      have := hn u h1.1 (liveU_iff.1 h1.2).1
      omega
    have hlt := lineAt_none hno
    have hlen : (ys.map asC).length = ways := by rw [List.length_map, hp.length_eq]; exact hc
    have hfu : all.filter (liveU sets (line % sets)) = pre.filter (liveU sets (line % sets)) ++ u :: post.filter (liveU sets (line % sets)) := by rw [ha, filter_mid hl]
    have hmem : u ∈ ys := hp.mem_iff.2 (by rw [hfu]; simp)
    obtain ⟨ya, yb, rfl⟩ := List.append_of_mem hmem
    obtain rfl : yb = [] := by
      cases yb with
      | nil => rfl
      | cons v yb =>
        have h1 := mem_of_perm (v := v) hp (by simp)
        have h2 := hm v h1.1 h1.2
        have h3 := (List.pairwise_cons.1 (List.pairwise_append.1 ho).2.1).1 v List.mem_cons_self
        omega
    have hacc : acc ways (line : Int) wr (x (line % sets)) = (newU line now wr :: ya).map asC := by
      rw [he]
      unfold acc
      rw [dif_neg hlt, if_pos hlen]
      simp [newU, asC]
    refine ⟨⟨fun v hv => ?_, fun i => ?_⟩, ?_, fun _ => ?_⟩
    · rcases List.mem_append.1 hv with h1 | h1
      · rcases List.mem_append.1 h1 with h1 | h1
        · have := h.tm v (by rw [ha]; exact List.mem_append_left _ h1); omega
        · rcases List.mem_cons.1 h1 with rfl | h1
          · have := h.tm u (by rw [ha]; simp); show u.tm ≤ now + 1; omega
          · have := h.tm v (by rw [ha]; exact List.mem_append_right _ (List.mem_cons_of_mem _ h1)); omega
      · simp at h1; subst h1; exact Nat.le_refl _
    · by_cases e : i = line % sets
      · subst e
        rw [upd_same]
        refine ⟨_, ?_, ?_, ?_, hacc⟩
        · rw [List.filter_append, live_new, filter_mid0 (by simp [liveU])]
          rw [hfu] at hp
          have := perm_mid hp
          rw [List.append_nil] at this
          exact (List.Perm.cons _ this).trans (List.perm_append_singleton _ _).symm
        · refine List.pairwise_cons.2 ⟨fun v hv => ?_, (List.pairwise_append.1 ho).1⟩
          have := h.tm v (mem_of_perm hp (List.mem_append_left _ hv)).1
          show v.tm < now + 1
          omega
        · refine List.pairwise_cons.2 ⟨fun v hv => ?_, (List.pairwise_append.1 hd).1⟩
          have := hno v (List.mem_append_left _ hv)
          show line ≠ v.line
          omega
      · rw [upd_other _ _ e]
        obtain ⟨zs, zp, zo, zd, ze⟩ := h.st i
        refine ⟨zs, ?_, zo, zd, ze⟩
        have n1 : liveU sets i u = false := by rw [← Bool.not_eq_true]; intro h1; have h2 := (liveU_iff.1 h1).2; rw [(liveU_iff.1 hl).2] at h2; exact e h2.symm
        rw [List.filter_append, live_new0 e, List.append_nil, filter_mid0 (by simp [liveU])]
        rwa [ha, filter_mid0 n1] at zp
    · rw [he]; exact (decide_eq_false hlt).symm
    · rw [he]
      unfold accOld
      rw [if_neg hlt, if_pos hlen]
      simp [asC]

/-- what Set picks next -/
theorem RelI.pick {sets i now : Nat} {all ys : List UL} {xs : List CLine} (h : RelI sets i all xs ys) (ht : ∀ u ∈ all, u.tm ≤ now) (k last : Nat) (hk : k ≤ ys.length)
    (hl : last = if h : 0 < k then (ys[k - 1]'(by omega)).tm else now + 1) : (∀ u, u ∈ ys.drop k ↔ u ∈ all ∧ liveU sets i u = true ∧ u.tm < last) := by
  intro u
  have hmem : u ∈ ys ↔ u ∈ all ∧ liveU sets i u = true := by rw [h.perm.mem_iff, List.mem_filter]
  by_cases h0 : 0 < k
  · rw [dif_pos h0] at hl
    constructor
    · intro hu
      obtain ⟨h1, h2⟩ := hmem.1 (List.mem_of_mem_drop hu)
      refine ⟨h1, h2, ?_⟩
      obtain ⟨j, hj, rfl⟩ := List.getElem_of_mem hu
      rw [List.getElem_drop, hl]
      rw [List.length_drop] at hj
      exact (List.pairwise_iff_getElem.1 h.ord) (k - 1) (k + j) (by omega) (by omega) (by omega)
    · rintro ⟨h1, h2, h3⟩
      obtain ⟨j, hj, rfl⟩ := List.getElem_of_mem (hmem.2 ⟨h1, h2⟩)
      have : k ≤ j := by
        rcases Nat.lt_or_ge j k with hjk | hjk
        · exfalso
          rcases Nat.lt_or_ge j (k - 1) with h4 | h4
          · have := (List.pairwise_iff_getElem.1 h.ord) j (k - 1) hj (by omega) h4
            omega
          · have : j = k - 1 := by omega
            subst this
            omega
        · exact hjk
      have e : ys[j] = (ys.drop k)[j - k]'(by rw [List.length_drop]; omega) := by
        rw [List.getElem_drop]; congr 1; omega
      rw [e]
      exact List.getElem_mem _
  · obtain rfl : k = 0 := by omega
    rw [dif_neg h0] at hl
    rw [List.drop_zero, hmem]
    constructor
    · rintro ⟨h1, h2⟩
      exact ⟨h1, h2, by have := ht u h1; omega⟩
    · rintro ⟨h1, h2, _⟩
      exact ⟨h1, h2⟩
/-- the greatest of what is left is the next one -/
theorem RelI.next {sets i now : Nat} {all ys : List UL} {xs : List CLine} (h : RelI sets i all xs ys) (ht : ∀ u ∈ all, u.tm ≤ now) (k last : Nat) (hk : k ≤ ys.length)
    (hl : last = if h : 0 < k then (ys[k - 1]'(by omega)).tm else now + 1) (b : UL) (hb : b ∈ all ∧ liveU sets i b = true ∧ b.tm < last) (hm : ∀ v ∈ all, liveU sets i v = true → v.tm < last → v.tm ≤ b.tm) :
    ∃ h : k < ys.length, ys[k] = b := by
  have hp := h.pick ht k last hk hl
  have h1 := (hp b).2 hb
  have hlt : k < ys.length := by
    rcases Nat.lt_or_ge k ys.length with h2 | h2
    · exact h2
    · rw [List.drop_of_length_le h2] at h1; simp at h1
  refine ⟨hlt, ?_⟩
  obtain ⟨j, hj, rfl⟩ := List.getElem_of_mem h1
  rw [List.length_drop] at hj
  rw [List.getElem_drop]
  cases j with
  | zero => simp
  | succ j =>
    exfalso
    have h3 := (hp (ys[k])).1 (by
      have : ys[k] = (ys.drop k)[0]'(by rw [List.length_drop]; omega) := by rw [List.getElem_drop]; simp
      rw [this]; exact List.getElem_mem _)
    have h4 := hm _ h3.1 h3.2.1 h3.2.2
    rw [List.getElem_drop] at h4
    have h5 := (List.pairwise_iff_getElem.1 h.ord) k (k + (j + 1)) hlt (by omega) (by omega)
    omega
theorem RelI.done {sets i now : Nat} {all ys : List UL} {xs : List CLine} (h : RelI sets i all xs ys) (ht : ∀ u ∈ all, u.tm ≤ now) (k last : Nat) (hk : k ≤ ys.length)
    (hl : last = if h : 0 < k then (ys[k - 1]'(by omega)).tm else now + 1) (hm : ∀ v ∈ all, liveU sets i v = true → ¬ v.tm < last) : k = ys.length := by
  have hp := h.pick ht k last hk hl
  rcases Nat.lt_or_ge k ys.length with h2 | h2
  · exfalso
    have h3 := (hp (ys[k])).1 (by
      have : ys[k] = (ys.drop k)[0]'(by rw [List.length_drop]; omega) := by rw [List.getElem_drop]; simp
      rw [this]; exact List.getElem_mem _)
    exact hm _ h3.1 h3.2.1 h3.2.2
  · omega
end Go.Proofs.Ytkpeeemnholmnab
