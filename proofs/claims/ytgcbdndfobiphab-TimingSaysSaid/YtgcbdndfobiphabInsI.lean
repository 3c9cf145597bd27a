/- slices.Insert of one element at any index of an own row of ints. -/
import Derived.Test.YtgcbdndfobiphabRow2
import Derived.Test.YtgcbdndfobiphabTimeC
import Derived.Test.YtgcbdndfobiphabEagerF
import Derived.Deep.AppendLies
namespace Go.Proofs.Ytgcbdndfobiphab
open Go.RowKit
set_option linter.unusedVariables false
set_option linter.unusedSimpArgs false

def intVs (zs : List Int) : List Value := zs.map (Value.int .i64)
def OwnI (w : World) (base : Nat) (v : Value) (zs : List Int) : Prop := w.ownsRow base 3 1 v zs.length (intVs zs)
def ins (zs : List Int) (i : Nat) (x : Int) : List Int := zs.take i ++ x :: zs.drop i
theorem ins_length (zs : List Int) (i : Nat) (x : Int) : (ins zs i x).length = zs.length + 1 := by simp [ins]; omega
theorem ins_get (zs : List Int) (i : Nat) (x : Int) (hi : i ≤ zs.length) (j : Nat) : (ins zs i x)[j]? = if j < i then zs[j]? else if j = i then some x else zs[j - 1]? := by
  unfold ins
  by_cases h1 : j < i
  · rw [if_pos h1, List.getElem?_append_left (by simp; omega), List.getElem?_take, if_pos h1]
  · rw [if_neg h1, List.getElem?_append_right (by simp; omega), List.length_take, Nat.min_eq_left hi]
    by_cases h2 : j = i
    · subst h2; simp
    · rw [if_neg h2]
      obtain ⟨m, hm⟩ : ∃ m, j - i = m + 1 := ⟨j - i - 1, by omega⟩
      rw [hm, List.getElem?_cons_succ, List.getElem?_drop, show i + m = j - 1 by omega]
theorem ins_take {zs : List Int} {i : Nat} {x : Int} (hi : i ≤ zs.length) (A : Array Value) (hA : zs.length + 1 ≤ A.size)
    (h : ∀ j, j < zs.length + 1 → A[j]? = if j < i then (zs[j]?).map (Value.int .i64) else if j = i then some (.int .i64 x) else (zs[j - 1]?).map (Value.int .i64)) : A.toList.take ((zs.length + 1) * 1) = intVs (ins zs i x) := by
  apply List.ext_getElem?
  intro j
  rw [List.getElem?_take]
  by_cases hj : j < (zs.length + 1) * 1
  · rw [if_pos hj, Array.getElem?_toList, h j (by omega), intVs, List.getElem?_map, ins_get zs i x hi]
    split
    · rfl
    · split <;> rfl
  · rw [if_neg hj, List.getElem?_eq_none (by simp [intVs, ins_length]; omega)]

theorem igrown_trans {w w' w'' : World} {r : Option Nat} (h : w.grownBy w' r) (k : w'.grownBy w'' r) : w.grownBy w'' r :=
  ⟨k.os.trans h.os, k.tape.trans h.tape, k.output.trans h.output, Nat.le_trans h.size k.size, fun b hb hr => (k.block b (Nat.lt_of_lt_of_le hb h.size) hr).trans (h.block b hb hr)⟩
theorem igrown_drew (w : World) (r : Option Nat) : w.grownBy w.drew r := ⟨rfl, rfl, rfl, Nat.le_refl _, fun _ _ _ => rfl⟩
def InsIPost (base : Nat) (zs : List Int) (w : World) (e : Ending) (w' : World) : Prop := ∃ v', e = .returned v' ∧ OwnI w' base v' zs ∧ Below base w w'
theorem grown_below {w w' : World} {base : Nat} {r : Option Nat} (h : w.grownBy w' r) (hr : ∀ g, r = some g → base ≤ g) (hb : base ≤ w.heap.size) : Below base w w' :=
  ⟨h.os, h.tape, h.output, h.size, fun k hk => h.block k (by omega) (fun e => by have := hr k e.symm; omega)⟩

theorem intVs_one (zs : List Int) : ∀ u ∈ intVs zs, u.oneCell' = true := by
  intro u hu
  obtain ⟨z, _, rfl⟩ := List.mem_map.1 hu
  rfl

set_option maxRecDepth 100000 in
set_option maxHeartbeats 2000000 in
theorem insi_end (w : World) (base : Nat) (v : Value) (zs : List Int) (x : Int) (vb : Nat) (h : OwnI w base v zs) (hn : zs.length ≤ 1000000) (hb : base ≤ w.heap.size) (hv : w.heap[vb]? = some (.cells #[.int .i64 x] 3 (0, 0))) :
    Calls Try.prog 29 #[v, .int .i64 (zs.length : Int), .slice (some ⟨vb, 0, none⟩) 1 1] w (InsIPost base (ins zs zs.length x) w) := by
  obtain ⟨i0, hi0, hz0, hz1, hz2⟩ := info_parts Try.infoT3
  have HOWN := Lib.hid h
  have HGE := Lib.hid (h.lt)
  obtain ⟨a, m, c, rfl⟩ := owns_shape h
  have hm : m = zs.length := by
    rcases h.2 with ⟨h1, h2⟩ | ⟨g', cap', cur, h1, _⟩
    · simp at h1; omega
    · simp at h1; omega
  have hc : m ≤ c ∧ c ≤ 9223372036854775807 := by
    rcases h.2 with ⟨h1, h2⟩ | ⟨g', cap', cur, h1, _, _, h2, h3, _⟩
    · simp at h1; omega
    · simp at h1; unfold maxLen at h3; omega
  subst hm
  have HV := Lib.hid hv
  have HIN : Hid (intVs zs ++ [Value.int .i64 x] = intVs (ins zs zs.length x)) := by unfold Hid; simp [intVs, ins]
  have HLI : Hid ((ins zs zs.length x).length = zs.length + 1) := ins_length _ _ _
  obtain ⟨q, hq⟩ : ∃ q, q = zs.length := ⟨_, rfl⟩
  rw [← hq] at hc hn ⊢ HLI HIN HGE
  unfold OwnI at HOWN
  rw [← hq] at HOWN
  have HA2 : Hid (∀ j u, ([Value.int .i64 x] : List Value)[j]? = some u → w.cell? ((⟨vb, 0, none⟩ : Addr).add j) = some u) := by
    intro j u hu
    rw [Addr.add_lit]
    have hl : j < 1 := (List.getElem?_eq_some_iff.1 hu).1
    have : j = 0 := by omega
    subst this
    simp only [World.cell?, HV.out]
    simpa using hu
  have HA3 : Hid (∀ u ∈ ([Value.int .i64 x] : List Value), u.oneCell' = true) := by intro u hu; simp at hu; subst hu; rfl
  clear h hv hq
  rcases Nat.eq_or_lt_of_le hc.1 with hcq | hcq
  · subst hcq
    go_enter Try.func29, Try.ntmps29
    go_wp2_with (at_builtin; refine wpList_append_lies _ rfl _ _ 23 rfl base 3 i0 (.int .i64 0) 1 8 Try.underlying23 hi0 hz0 hz1 hz2 rfl (by decide) _ q (intVs zs) rfl HOWN.out ⟨vb, 0, none⟩ 1 1 [.int .i64 x] rfl rfl HA2.out HA3.out (by decide) (by unfold maxLen; omega) (by omega) hb w.heap.size rfl ?_)
    intro g cap w' hown' hgrow hat _
    have HL := Lib.hid hown'
    have HG := Lib.hid hgrow
    clear hown' hgrow hat
    go_wp2
    go_ret
    refine ⟨_, rfl, ?_, grown_below HG.out (fun g hg => (HGE.out g hg).1) hb⟩
    unfold OwnI
    rw [HLI.out, ← HIN.out]
    exact HL.out
  · have hcq2 : ¬ c = q := by omega
    go_enter Try.func29, Try.ntmps29
    go_wp2_with (at_builtin; refine wpList_append_lies _ rfl _ _ 23 rfl base 3 i0 (.int .i64 0) 1 8 Try.underlying23 hi0 hz0 hz1 hz2 rfl (by decide) _ q (intVs zs) rfl HOWN.out ⟨vb, 0, none⟩ 1 1 [.int .i64 x] rfl rfl HA2.out HA3.out (by decide) (by unfold maxLen; omega) (by omega) hb w.heap.size rfl ?_)
    intro g cap w' hown' hgrow hat _
    have HL := Lib.hid hown'
    have HG := Lib.hid hgrow
    clear hown' hgrow hat
    go_wp2
    go_ret
    refine ⟨_, rfl, ?_, grown_below HG.out (fun g hg => (HGE.out g hg).1) hb⟩
    unfold OwnI
    rw [HLI.out, ← HIN.out]
    exact HL.out

set_option maxRecDepth 100000 in
set_option maxHeartbeats 2000000 in
theorem insi_room (w : World) (base g cap n i : Nat) (zs : List Int) (cur : Array Value) (x : Int) (vb : Nat) (hn : zs.length = n) (hi : i < n) (hcap : n + 1 ≤ cap) (hmx : cap ≤ 9223372036854775807) (hbg : base ≤ g)
    (hg : w.heap[g]? = some (.cells cur 3 (0, 0))) (hsz : cur.size = cap * 1) (hcl : ∀ j, j < n → cur[j]? = (zs[j]?).map (Value.int .i64))
    (hv : w.heap[vb]? = some (.cells #[.int .i64 x] 3 (0, 0))) (hne : vb ≠ g) :
    Calls Try.prog 29 #[.slice (some ⟨g, 0, none⟩) n cap, .int .i64 (i : Int), .slice (some ⟨vb, 0, none⟩) 1 1] w (InsIPost base (ins zs i x) w) := by
  obtain ⟨i0, hi0, hz0, hz1, hz2⟩ := info_parts Try.infoT3
  have hinf : (Try.prog.info? 3).map (·.size) = some 1 := by rw [hi0]; simp [hz1]
  have hov : ∀ lb cb, (callFunc 36 #[.slice (some ⟨vb, 0, none⟩) 1 1, .slice (some ⟨g, i + 1, none⟩) lb cb]).run Try.prog w = .ok (.value (.bool false)) w := fun lb cb => by
    rw [run_callFunc_extern Try.func36 (by kernel_rfl) (by kernel_rfl) (by kernel_rfl) (e := Extern.SlicesOverlaps.overlaps #[23, 23] #[4]) (by kernel_rfl),
      Lib.run_overlaps_apart w 23 4 3 Try.underlying23 1 Try.sizeOf3 ⟨vb, 0, none⟩ ⟨g, i + 1, none⟩ 1 1 lb cb hne 3 3 1 (cap * 1) (by simp [World.shape?, hv]) (by simp [World.shape?, hg, hsz]) (by omega) (by simp [World.frozen?, hv]) (by simp [World.frozen?, hv])]
    rfl
  have hfl : (intVs (zs.drop i)).length = (n - i) * 1 := by simp [intVs, hn]
  have hfg : ∀ j u, (intVs (zs.drop i))[j]? = some u → cur[i + j]? = some u := fun j u hu => by
    have hl : j < n - i := by have := (List.getElem?_eq_some_iff.1 hu).1; omega
    rw [hcl (i + j) (by omega), ← hu, intVs, List.getElem?_map, List.getElem?_drop]
  have hg' : w.drew.heap[g]? = some (.cells cur 3 (0, 0)) := hg
  obtain ⟨N, hN, hNs, hNc⟩ := setCells_heap g 3 (intVs (zs.drop i)) (i + 1) w.drew cur hg'
  have hcp1 : ∀ ty, (Builtin.copy_ #[23, 23] ty #[.slice (some ⟨g, i + 1, none⟩) (n - i) (cap - (i + 1)), .slice (some ⟨g, i, none⟩) (n + 1 - i) (cap - i)]).run Try.prog w.drew = .ok (goInt ((n - i : Nat) : Int)) (w.drew.setCells g (i + 1) (intVs (zs.drop i))) := fun ty => by
    have hmin : Nat.min (n + 1 - i) (n - i) = n - i := by simp only [Nat.min_def]; split <;> omega
    have := run_copy_k (P := Try.prog) w.drew 1 23 23 ty 3 g (i + 1) (n - i) (cap - (i + 1)) ⟨g, i, none⟩ (n + 1 - i) (cap - i) (intVs (zs.drop i)) Try.underlying23 hinf (by rw [hmin]; exact hfl)
      (fun j u hu => by
        rw [Addr.add_lit]
        simp only [World.cell?, hg']
        exact hfg j u hu)
      (fun j hj => by
        simp only [World.cell?, hg']
        rw [Array.getElem?_eq_getElem (by omega)]; rfl)
      (fun j hj => by simp [World.frozen?, hg']) (intVs_one _)
    rw [hmin] at this
    exact this
  have hgr1 := igrown_trans (igrown_drew w (some g)) (setCells_grown g (intVs (zs.drop i)) (i + 1) w.drew)
  have hs1 := setCells_size g (intVs (zs.drop i)) (i + 1) w.drew
  obtain ⟨w1, hw1⟩ : ∃ w1, w1 = w.drew.setCells g (i + 1) (intVs (zs.drop i)) := ⟨_, rfl⟩
  rw [← hw1] at hN hgr1 hs1
  rw [← hw1] at hcp1
  have hv1 : w1.heap[vb]? = some (.cells #[.int .i64 x] 3 (0, 0)) := (hgr1.block vb (lt_of_block hv) (by simpa using hne)).trans hv
  have hb1 : Below 0 w.drew w1 := ⟨hgr1.os, hgr1.tape, hgr1.output, hgr1.size, fun k hk => absurd hk (Nat.not_lt_zero _)⟩
  obtain ⟨M, hM, hMs, hMc⟩ := setCells_heap g 3 [.int .i64 x] i w1 N hN
  have hcp2 : ∀ ty, (Builtin.copy_ #[23, 23] ty #[.slice (some ⟨g, i, none⟩) (n + 1 - i) (cap - i), .slice (some ⟨vb, 0, none⟩) 1 1]).run Try.prog w1 = .ok (goInt 1) (w1.setCells g i [.int .i64 x]) := fun ty => by
    have hmin : Nat.min 1 (n + 1 - i) = 1 := by simp only [Nat.min_def]; split <;> omega
    have := run_copy_k (P := Try.prog) w1 1 23 23 ty 3 g i (n + 1 - i) (cap - i) ⟨vb, 0, none⟩ 1 1 [.int .i64 x] Try.underlying23 hinf (by rw [hmin]; rfl)
      (fun j u hu => by
        rw [Addr.add_lit]
        have hl : j < 1 := (List.getElem?_eq_some_iff.1 hu).1
        have : j = 0 := by omega
        subst this
        simp only [World.cell?, hv1]
        simpa using hu)
      (fun j hj => by
        have hl : j < 1 := hj
        simp only [World.cell?, hN]
        rw [Array.getElem?_eq_getElem (by omega)]; rfl)
      (fun j hj => by simp [World.frozen?, hN]) (by intro u hu; simp at hu; subst hu; rfl)
    rw [hmin] at this
    exact this
  have hgr2 := igrown_trans hgr1 (setCells_grown g [.int .i64 x] i w1)
  obtain ⟨w2, hw2⟩ : ∃ w2, w2 = w1.setCells g i [.int .i64 x] := ⟨_, rfl⟩
  rw [← hw2] at hM hgr2
  rw [← hw2] at hcp2
  have HEND : Hid (OwnI w2 base (.slice (some ⟨g, 0, none⟩) (n + 1) cap) (ins zs i x)) := by
    unfold Hid OwnI
    rw [ins_length, hn]
    refine ⟨by simp [intVs, ins_length, hn], .inr ⟨g, cap, M, rfl, hbg, hM, hcap, by unfold maxLen; omega, by omega, ?_⟩⟩
    have := ins_take (zs := zs) (i := i) (x := x) (by omega) M (by omega) (fun j hj => by
      rw [hMc j (by omega)]
      by_cases h1 : j < i
      · rw [if_neg (by simp; omega), if_pos h1, hNc j (by omega), if_neg (by omega), hcl j (by omega)]
      · by_cases h2 : j = i
        · rw [if_pos (by simp; omega), if_neg h1, if_pos h2, h2]; simp
        · rw [if_neg (by simp; omega), if_neg h1, if_neg h2, hNc j (by omega), if_pos (by omega), intVs, List.getElem?_map, List.getElem?_drop, show i + (j - (i + 1)) = j - 1 by omega])
    rw [hn] at this
    exact this
  have HG := Lib.hid hgr2
  have H1 := Lib.hid hcp1
  have H2 := Lib.hid hcp2
  have HOV := Lib.hid hov
  have HB1 := Lib.hid hb1
  have hbw : base ≤ w.heap.size := by have := lt_of_block hg; omega
  have z1 : ((i : Int) == (n : Int)) = false := beq_eq_false_iff_ne.2 (by omega)
  clear hcp1 hcp2 hov hb1 hgr1 hgr2 hs1 hN hNs hNc hM hMs hMc hv hv1 hg hg' hcl hsz hw1 hw2 hfl hn hfg
  go_enter Try.func29, Try.ntmps29
  go_wp2_with (simp only [HOV.out])
  refine wp_region_eager 0 [(0, true), (1, true), (2, true), (3, true), (4, true), (5, true), (6, true), (7, true), (8, false)] (by kernel_rfl) (by kernel_rfl) ?_
  repeat (refine eag_read rfl ?_; go_big_quiet_step (fail); refine wpQuiet_nil ?_)
  refine eag_does rfl rfl ?_
  intro K hK
  refine wp_copy_eq _ _ _ 23 23 rfl _ _ rfl rfl (H1.out _) ?_
  refine hK _ _ HB1.out ?_
  clear hK K
  go_simp
  refine eag_end ?_
  go_wp2_with (refine wpList_of_wp _ rfl (fun K Q' hk => wp_copy_eq _ _ _ 23 23 rfl _ _ rfl rfl (H2.out _) hk) ?_)
  go_ret
  exact ⟨_, rfl, HEND.out, grown_below HG.out (fun g' h => by simp at h; omega) hbw⟩

set_option maxRecDepth 100000 in
set_option maxHeartbeats 2000000 in
theorem insi_grow (w : World) (base g n i : Nat) (zs : List Int) (cur : Array Value) (x : Int) (vb : Nat) (hn : zs.length = n) (hi : i < n) (hmx : n ≤ 1000000) (hbg : base ≤ g)
    (hg : w.heap[g]? = some (.cells cur 3 (0, 0))) (hsz : cur.size = n * 1) (hcl : ∀ j, j < n → cur[j]? = (zs[j]?).map (Value.int .i64))
    (hv : w.heap[vb]? = some (.cells #[.int .i64 x] 3 (0, 0))) :
    Calls Try.prog 29 #[.slice (some ⟨g, 0, none⟩) n n, .int .i64 (i : Int), .slice (some ⟨vb, 0, none⟩) 1 1] w (InsIPost base (ins zs i x) w) := by
  obtain ⟨i0, hi0, hz0, hz1, hz2⟩ := info_parts Try.infoT3
  have hinf : (Try.prog.info? 3).map (·.size) = some 1 := by rw [hi0]; simp [hz1]
  have hfl : (intVs (zs.drop i)).length = (n - i) * 1 := by simp [intVs, hn]
  have hft : (intVs (zs.take i)).length = i * 1 := by simp [intVs, hn]; omega
  have hfg : ∀ j u, (intVs (zs.drop i))[j]? = some u → cur[i + j]? = some u := fun j u hu => by
    have hl : j < n - i := by have := (List.getElem?_eq_some_iff.1 hu).1; omega
    rw [hcl (i + j) (by omega), ← hu, intVs, List.getElem?_map, List.getElem?_drop]
  have hgl := lt_of_block hg
  have hvl := lt_of_block hv
  have hold : (Builtin.firstCells i0.size i (.slice (some ⟨g, 0, none⟩) i n)).run Try.prog w.drew = .ok (intVs (zs.take i)).toArray w.drew := by
    have := run_firstCells_some (P := Try.prog) w.drew i0.size i ⟨g, 0, none⟩ i n (intVs (zs.take i)) (by rw [hz1]; exact hft) (fun j u hu => by
      have hl : j < i := by have := (List.getElem?_eq_some_iff.1 hu).1; omega
      rw [Addr.add_lit]
      have hg' : w.drew.heap[g]? = some (.cells cur 3 (0, 0)) := hg
      have e1 : w.drew.cell? ⟨g, 0 + j, none⟩ = cur[j]? := by simp [World.cell?, hg']
      rw [e1, hcl j (by omega), ← hu, intVs, List.getElem?_map, List.getElem?_take, if_pos hl])
    exact this
  have hrz : ∀ ty, (Builtin.append_ #[23, 3] ty #[.slice (some ⟨g, 0, none⟩) i n, .int .i64 ((n : Int) + 1 - (i : Int))]).run Try.prog w = .ok (.slice (some ⟨w.heap.size, 0, none⟩) (n + 1) (grownCap w (n + 1) n 3)) (w.drew.alloc (.cells ((intVs (zs.take i)).toArray ++ Builtin.zeroCells (Value.int .i64 0).cells (n + 1 - i) ++ Builtin.zeroCells (Value.int .i64 0).cells (grownCap w (n + 1) n 3 - (n + 1))) 3)) := fun ty => by
    have h := Lib.run_append_grow_zeros (P := Try.prog) w 23 3 ty 3 i0 (.int .i64 0) .i64 .i64 Try.underlying23 Try.underlying3 hi0 hz0 (some ⟨g, 0, none⟩) i n (intVs (zs.take i)) hold (n + 1 - i) (by omega) (by omega) (by omega) (by omega) (by rw [hz2]; omega) (by rw [hz2]; exact growslice_fits (by omega) (by omega))
    rw [show i + (n + 1 - i) = n + 1 by omega, show ((n + 1 - i : Nat) : Int) = (n : Int) + 1 - (i : Int) by omega] at h
    exact h
  have hGe := grownCap_ge w (n + 1) n 3
  have hGm := grownCap_le_maxLen w (n + 1) n 3 (by unfold maxLen; omega)
  obtain ⟨G, hG⟩ : ∃ G, G = grownCap w (n + 1) n 3 := ⟨_, rfl⟩
  obtain ⟨R, hR⟩ : ∃ R : Array Value, R = (intVs (zs.take i)).toArray ++ Builtin.zeroCells (Value.int .i64 0).cells (n + 1 - i) ++ Builtin.zeroCells (Value.int .i64 0).cells (G - (n + 1)) := ⟨_, rfl⟩
  simp only [← hG] at hrz
  simp only [← hR] at hrz
  rw [← hG] at hGe hGm
  unfold maxLen at hGm
  have hRs : R.size = G := by rw [hR]; simp [Builtin.zeroCells, Value.cells, hft]; omega
  have hRc : ∀ j, j < i → R[j]? = (zs[j]?).map (Value.int .i64) := fun j hj => by
    rw [hR, Array.append_assoc, Array.getElem?_append_left (by simp; omega), List.getElem?_toArray, intVs, List.getElem?_map, List.getElem?_take, if_pos hj]
  have hN0 : (w.drew.alloc (.cells R 3)).heap[w.heap.size]? = some (.cells R 3 (0, 0)) := heap_alloc_new w.drew _
  have hgr0 : w.grownBy (w.drew.alloc (.cells R 3)) (some g) := igrown_trans (igrown_drew w (some g)) (World.grownBy_alloc w.drew _ _)
  have hk0 : ∀ b, b < w.heap.size → (w.drew.alloc (.cells R 3)).heap[b]? = w.heap[b]? := fun b hb => Below.heap_alloc w.drew _ b hb
  obtain ⟨w1, hw1⟩ : ∃ w1, w1 = w.drew.alloc (.cells R 3) := ⟨_, rfl⟩
  rw [← hw1] at hN0 hgr0
  simp only [← hw1] at hrz hk0
  have hv1 := (hk0 vb hvl).trans hv
  have hg1 := (hk0 g hgl).trans hg
  obtain ⟨M, hM, hMs, hMc⟩ := setCells_heap w.heap.size 3 [.int .i64 x] i w1 R hN0
  have hcp1 : ∀ ty, (Builtin.copy_ #[23, 23] ty #[.slice (some ⟨w.heap.size, i, none⟩) (n + 1 - i) (G - i), .slice (some ⟨vb, 0, none⟩) 1 1]).run Try.prog w1 = .ok (goInt 1) (w1.setCells w.heap.size i [.int .i64 x]) := fun ty => by
    have hmin : Nat.min 1 (n + 1 - i) = 1 := by simp only [Nat.min_def]; split <;> omega
    have := run_copy_k (P := Try.prog) w1 1 23 23 ty 3 w.heap.size i (n + 1 - i) (G - i) ⟨vb, 0, none⟩ 1 1 [.int .i64 x] Try.underlying23 hinf (by rw [hmin]; rfl)
      (fun j u hu => by
        rw [Addr.add_lit]
        have hl : j < 1 := (List.getElem?_eq_some_iff.1 hu).1
        have : j = 0 := by omega
        subst this
        simp only [World.cell?, hv1]
        simpa using hu)
      (fun j hj => by
        have hl : j < 1 := hj
        simp only [World.cell?, hN0]
        rw [Array.getElem?_eq_getElem (by omega)]; rfl)
      (fun j hj => by simp [World.frozen?, hN0]) (by intro u hu; simp at hu; subst hu; rfl)
    rw [hmin] at this
    exact this
  have hgr2 := setCells_grown w.heap.size [.int .i64 x] i w1
  have hs2 := setCells_size w.heap.size [.int .i64 x] i w1
  obtain ⟨w2, hw2⟩ : ∃ w2, w2 = w1.setCells w.heap.size i [.int .i64 x] := ⟨_, rfl⟩
  rw [← hw2] at hM hgr2 hs2
  rw [← hw2] at hcp1
  have hw1s : w.heap.size < w1.heap.size := lt_of_block hN0
  have hg2 : w2.heap[g]? = some (.cells cur 3 (0, 0)) := (hgr2.block g (by omega) (by simp; omega)).trans hg1
  have hg2' : w2.drew.heap[g]? = some (.cells cur 3 (0, 0)) := hg2
  have hM' : w2.drew.heap[w.heap.size]? = some (.cells M 3 (0, 0)) := hM
  obtain ⟨L, hL, hLs, hLc⟩ := setCells_heap w.heap.size 3 (intVs (zs.drop i)) (i + 1) w2.drew M hM'
  have hcp2 : ∀ ty, (Builtin.copy_ #[23, 23] ty #[.slice (some ⟨w.heap.size, i + 1, none⟩) (n - i) (G - (i + 1)), .slice (some ⟨g, i, none⟩) (n - i) (n - i)]).run Try.prog w2.drew = .ok (goInt ((n - i : Nat) : Int)) (w2.drew.setCells w.heap.size (i + 1) (intVs (zs.drop i))) := fun ty => by
    have hmin : Nat.min (n - i) (n - i) = n - i := by simp only [Nat.min_def]; split <;> omega
    have := run_copy_k (P := Try.prog) w2.drew 1 23 23 ty 3 w.heap.size (i + 1) (n - i) (G - (i + 1)) ⟨g, i, none⟩ (n - i) (n - i) (intVs (zs.drop i)) Try.underlying23 hinf (by rw [hmin]; exact hfl)
      (fun j u hu => by
        rw [Addr.add_lit]
        simp only [World.cell?, hg2']
        exact hfg j u hu)
      (fun j hj => by
        simp only [World.cell?, hM']
        rw [Array.getElem?_eq_getElem (by omega)]; rfl)
      (fun j hj => by simp [World.frozen?, hM']) (intVs_one _)
    rw [hmin] at this
    exact this
  have hgr3 := setCells_grown w.heap.size (intVs (zs.drop i)) (i + 1) w2.drew
  have hs3 := setCells_size w.heap.size (intVs (zs.drop i)) (i + 1) w2.drew
  obtain ⟨w3, hw3⟩ : ∃ w3, w3 = w2.drew.setCells w.heap.size (i + 1) (intVs (zs.drop i)) := ⟨_, rfl⟩
  rw [← hw3] at hL hgr3 hs3
  rw [← hw3] at hcp2
  have hb3 : Below 0 w2.drew w3 := ⟨hgr3.os, hgr3.tape, hgr3.output, hgr3.size, fun k hk => absurd hk (Nat.not_lt_zero _)⟩
  have HG : Hid (w.grownBy w3 (some g)) := ⟨hgr3.os.trans (hgr2.os.trans hgr0.os), hgr3.tape.trans (hgr2.tape.trans hgr0.tape), hgr3.output.trans (hgr2.output.trans hgr0.output), by rw [hs3]; show _ ≤ w2.heap.size; rw [hs2]; omega, fun k hk hne => by
    rw [hgr3.block k (by show k < w2.heap.size; omega) (by simp; omega)]
    show w2.heap[k]? = _
    rw [hgr2.block k (by omega) (by simp; omega), hk0 k hk]⟩
  have HEND : Hid (OwnI w3 base (.slice (some ⟨w.heap.size, 0, none⟩) (n + 1) G) (ins zs i x)) := by
    unfold Hid OwnI
    rw [ins_length, hn]
    refine ⟨by simp [intVs, ins_length, hn], .inr ⟨w.heap.size, G, L, rfl, by omega, hL, by omega, by unfold maxLen; omega, by omega, ?_⟩⟩
    have := ins_take (zs := zs) (i := i) (x := x) (by omega) L (by omega) (fun j hj => by
      rw [hLc j (by omega)]
      by_cases h1 : j < i
      · rw [if_neg (by omega), if_pos h1, hMc j (by omega), if_neg (by simp; omega), hRc j h1]
      · by_cases h2 : j = i
        · rw [if_neg (by omega), if_neg h1, if_pos h2, hMc j (by omega), if_pos (by simp; omega), h2]; simp
        · rw [if_pos (by omega), if_neg h1, if_neg h2, intVs, List.getElem?_map, List.getElem?_drop, show i + (j - (i + 1)) = j - 1 by omega])
    rw [hn] at this
    exact this
  have H0 := Lib.hid hrz
  have H1 := Lib.hid hcp1
  have H2 := Lib.hid hcp2
  have HB3 := Lib.hid hb3
  have hbw : base ≤ w.heap.size := by omega
  have z1 : ((i : Int) == (n : Int)) = false := beq_eq_false_iff_ne.2 (by omega)
  obtain ⟨ns, hns⟩ : ∃ ns, ns = w.heap.size := ⟨_, rfl⟩
  rw [← hns] at H0 H1 H2 HEND
  have hG1 : ¬ G = i := by omega
  have hG2 : ¬ G = i + 1 := by omega
  have hni : ¬ n = i := by omega
  clear hrz hcp1 hcp2 hb3 hgr0 hgr2 hgr3 hs2 hs3 hN0 hM hM' hL hMs hLs hMc hLc hv hv1 hg hg1 hg2 hg2' hcl hsz hw1 hw2 hw3 hw1s hfl hn hG hR hRs hRc hk0 hold hns hgl hvl hft hfg
  go_enter Try.func29, Try.ntmps29
  go_wp2_with (first
    | (refine wpList_of_wp _ rfl (fun K Q' hk => wp_append_eq _ _ _ 23 3 rfl _ _ rfl rfl (H0.out _) hk) ?_)
    | (refine wpList_of_wp _ rfl (fun K Q' hk => wp_copy_eq _ _ _ 23 23 rfl _ _ rfl rfl (H1.out _) hk) ?_))
  refine wp_region_eager 0 [(0, true), (1, true), (2, true), (3, true), (4, true), (5, true), (6, true), (7, true), (8, false)] (by kernel_rfl) (by kernel_rfl) ?_
  go_simp
  repeat (refine eag_read rfl ?_; go_big_quiet_step (fail); refine wpQuiet_nil ?_)
  refine eag_does rfl rfl ?_
  intro K hK
  refine wp_copy_eq _ _ _ 23 23 rfl _ _ rfl rfl (H2.out _) ?_
  refine hK _ _ HB3.out ?_
  clear hK K
  go_simp
  refine eag_end ?_
  go_wp2
  go_ret
  exact ⟨_, rfl, HEND.out, grown_below HG.out (fun g' h => by simp at h; omega) hbw⟩

theorem insi_any (w : World) (base i : Nat) (v : Value) (zs : List Int) (x : Int) (vb : Nat) (h : OwnI w base v zs) (hi : i ≤ zs.length) (hn : zs.length ≤ 1000000) (hb : base ≤ w.heap.size) (hv : w.heap[vb]? = some (.cells #[.int .i64 x] 3 (0, 0))) (hne : v.ownBlock ≠ some vb) :
    Calls Try.prog 29 #[v, .int .i64 (i : Int), .slice (some ⟨vb, 0, none⟩) 1 1] w (InsIPost base (ins zs i x) w) := by
  by_cases e : i = zs.length
  · subst e
    exact insi_end w base v zs x vb h hn hb hv
  · rcases h.2 with ⟨h1, h2⟩ | ⟨g, cap, cur, rfl, hbg, hg, hle, hmx, hcs, htk⟩
    · omega
    · have hcl : ∀ j, j < zs.length → cur[j]? = (zs[j]?).map (Value.int .i64) := fun j hj => by
        have h3 : (cur.toList.take (zs.length * 1))[j]? = (zs[j]?).map (Value.int .i64) := by rw [htk, intVs, List.getElem?_map]
        rw [List.getElem?_take, if_pos (by omega)] at h3
        simpa using h3
      unfold maxLen at hmx
      by_cases hc : zs.length + 1 ≤ cap
      · exact insi_room w base g cap zs.length i zs cur x vb rfl (by omega) hc (by omega) hbg hg hcs hcl hv (fun e => hne (by rw [e]; rfl))
      · obtain rfl : cap = zs.length := by omega
        exact insi_grow w base g zs.length i zs cur x vb rfl (by omega) hn hbg hg hcs hcl hv
end Go.Proofs.Ytgcbdndfobiphab
