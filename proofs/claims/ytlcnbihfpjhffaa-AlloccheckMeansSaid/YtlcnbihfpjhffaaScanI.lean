/- slices.Insert of one range at any index of an own row of ranges. -/
import Derived.Test.YtlcnbihfpjhffaaLinDel
import Derived.Test.YtlcnbihfpjhffaaLinRow
import Derived.Deep.AppendLies
namespace Go.Proofs.Ytlcnbihfpjhffaa
open Go.RowKit
set_option linter.unusedVariables false
set_option linter.unusedSimpArgs false

def insR (zs : List RG) (i : Nat) (x : RG) : List RG := zs.take i ++ x :: zs.drop i
theorem insR_length (zs : List RG) (i : Nat) (x : RG) : (insR zs i x).length = zs.length + 1 := by simp [insR]; omega
theorem insR_perm (zs : List RG) (i : Nat) (x : RG) : (insR zs i x).Perm (x :: zs) := by
 unfold insR
 refine List.perm_middle.trans ?_
 rw [List.take_append_drop]
def rgF (zs : List RG) : List Value := zs.flatMap rgC
theorem rgF_len (zs : List RG) : (rgF zs).length = zs.length * 4 := rgs_len zs
theorem rgF_ins (zs : List RG) (i : Nat) (x : RG) : rgF (insR zs i x) = rgF (zs.take i) ++ (rgC x ++ rgF (zs.drop i)) := by
 unfold rgF insR
 rw [List.flatMap_append, List.flatMap_cons]
theorem rgF_split (zs : List RG) (i : Nat) : rgF zs = rgF (zs.take i) ++ rgF (zs.drop i) := by
 unfold rgF
 rw [← List.flatMap_append, List.take_append_drop]
theorem rgF_take {zs : List RG} {i j : Nat} (hi : i ≤ zs.length) (hj : j < i * 4) : (rgF (zs.take i))[j]? = (rgF zs)[j]? := by
 rw [rgF_split zs i, List.getElem?_append_left (by rw [rgF_len, List.length_take]; omega)]
theorem rgF_drop {zs : List RG} {i j : Nat} (hi : i ≤ zs.length) : (rgF (zs.drop i))[j]? = (rgF zs)[i * 4 + j]? := by
 rw [rgF_split zs i, List.getElem?_append_right (by rw [rgF_len, List.length_take]; omega), rgF_len, List.length_take, show i * 4 + j - min i zs.length * 4 = j by omega]
theorem rgF_one (zs : List RG) : ∀ u ∈ rgF zs, u.oneCell' = true := by
 intro u hu
 obtain ⟨z, _, hz⟩ := List.mem_flatMap.1 hu
 simp [rgC] at hz
 rcases hz with rfl | rfl | rfl | rfl <;> rfl
theorem rgC_one (x : RG) : ∀ u ∈ rgC x, u.oneCell' = true := fun u hu => rgF_one [x] u (by simpa [rgF] using hu)
theorem insR_take {zs : List RG} {i : Nat} {x : RG} (hi : i ≤ zs.length) (A : Array Value) (hA : (zs.length + 1) * 4 ≤ A.size)
  (h : ∀ j, j < (zs.length + 1) * 4 → A[j]? = if j < i * 4 then (rgF zs)[j]? else if j < i * 4 + 4 then (rgC x)[j - i * 4]? else (rgF zs)[j - 4]?) : A.toList.take ((zs.length + 1) * 4) = (insR zs i x).flatMap rgC := by
 have e : (insR zs i x).flatMap rgC = rgF (zs.take i) ++ (rgC x ++ rgF (zs.drop i)) := rgF_ins zs i x
 have hl1 : (rgF (zs.take i)).length = i * 4 := by rw [rgF_len, List.length_take]; omega
 apply List.ext_getElem?
 intro j
 rw [List.getElem?_take, e]
 by_cases hj : j < (zs.length + 1) * 4
 ·rw [if_pos hj, Array.getElem?_toList, h j hj]
  by_cases h1 : j < i * 4
  ·rw [if_pos h1, List.getElem?_append_left (by omega), rgF_take hi h1]
  ·rw [if_neg h1, List.getElem?_append_right (by omega), hl1]
   by_cases h2 : j < i * 4 + 4
   ·rw [if_pos h2, List.getElem?_append_left (by rw [rgC_len]; omega)]
   ·rw [if_neg h2, List.getElem?_append_right (by rw [rgC_len]; omega), rgC_len, rgF_drop hi, show i * 4 + (j - i * 4 - 4) = j - 4 by omega]
 ·rw [if_neg hj, List.getElem?_eq_none]
  rw [List.length_append, List.length_append, hl1, rgC_len, rgF_len, List.length_drop]
  omega
theorem rgrown_trans {w w' w'' : World} {r : Option Nat} (h : w.grownBy w' r) (k : w'.grownBy w'' r) : w.grownBy w'' r :=
 ⟨k.os.trans h.os, k.tape.trans h.tape, k.output.trans h.output, Nat.le_trans h.size k.size, fun b hb hr => (k.block b (Nat.lt_of_lt_of_le hb h.size) hr).trans (h.block b hb hr)⟩
theorem rgrown_drew (w : World) (r : Option Nat) : w.grownBy w.drew r := ⟨rfl, rfl, rfl, Nat.le_refl _, fun _ _ _ => rfl⟩
def InsRPost (base : Nat) (v : Value) (zs : List RG) (w : World) (e : Ending) (w' : World) : Prop :=
 ∃ g c, e = .returned (.slice (some ⟨g, 0, none⟩) zs.length c) ∧ RgRow w' base (some ⟨g, 0, none⟩) c zs ∧ w.grownBy w' v.ownBlock ∧ (v.ownBlock = some g ∨ w.heap.size ≤ g)
theorem Try.infoRi : (Try.prog.info? 97).map (fun i => (i.zero, i.size, i.bytes)) = some (some zRG, 4, 32) := by kernel_rfl
set_option maxRecDepth 100000 in
set_option maxHeartbeats 2000000 in
theorem insr_end (w : World) (base : Nat) (a : Option Addr) (c n : Nat) (zs : List RG) (x : RG) (vb : Nat) (h : RgRow w base a c zs) (hnn : n = zs.length) (hn : n ≤ 1000000) (hb : base ≤ w.heap.size) (hv : w.heap[vb]? = some (.cells (rgC x).toArray 97 (0, 0))) :
  Calls Try.prog 77 #[.slice a n c, .int .i64 (n : Int), .slice (some ⟨vb, 0, none⟩) 1 1] w (InsRPost base (.slice a n c) (insR zs n x) w) := by
 subst hnn
 obtain ⟨i0, hi0, hz0, hz1, hz2⟩ := info_partsV Try.infoRi
 have hc : zs.length ≤ c ∧ c ≤ 9223372036854775807 ∨ (zs.length = 0 ∧ c = 0) := by
  rcases h.2 with ⟨h1, h2⟩ | ⟨g', cap', cur, h1, _, _, h2, h3, _⟩
  ·injection h1 with _ _ h3; exact .inr ⟨h2, h3⟩
  ·injection h1 with _ _ h4; unfold maxLen at h3; exact .inl ⟨by omega, by omega⟩
 have HOWN := Lib.hid h
 have HIN : Hid (zs.flatMap rgC ++ rgC x = (insR zs zs.length x).flatMap rgC) := by show _ = _; simp [insR]
 have HLI : Hid ((insR zs zs.length x).length = zs.length + 1) := insR_length _ _ _
 have HA2 : Hid (∀ j u, (rgC x)[j]? = some u → w.cell? ((⟨vb, 0, none⟩ : Addr).add j) = some u) := fun j u hu => by
  rw [Addr.add_lit, Nat.zero_add]
  simp only [World.cell?, hv]
  simpa using hu
 have HA3 : Hid (∀ u ∈ rgC x, u.oneCell' = true) := rgC_one x
 have hc1 : zs.length ≤ c ∧ c ≤ 9223372036854775807 := by omega
 unfold RgRow at HOWN
 obtain ⟨q, hq⟩ : ∃ q, q = zs.length := ⟨_, rfl⟩
 rw [← hq] at hc1 hn HOWN HLI HIN ⊢
 have HQ := Lib.hid hq
 clear h hv hc hq
 have hcq : c = q ∨ ¬ c = q := by omega
 rcases hcq with hcq | hcq
 ·subst hcq
  go_enter Try.func77, Try.ntmps77
  go_wp2_with (at_builtin; refine wpList_append_lies _ rfl _ _ 90 rfl base 97 i0 zRG 4 32 Try.underlying90 hi0 hz0 hz1 hz2 rfl (by decide) _ _ _ rfl HOWN.out ⟨vb, 0, none⟩ 1 1 (rgC x) rfl rfl HA2.out HA3.out (by decide) (by unfold maxLen; omega) (by omega) hb w.heap.size rfl ?_)
  intro g cap w' hown' hgrow hat _
  have HL := Lib.hid hown'
  have HG := Lib.hid hgrow
  have HAT := Lib.hid hat
  clear hown' hgrow hat
  go_wp2_with fail
  go_ret
  refine ⟨g, cap, by rw [HLI.out]; rfl, ?_, HG.out, HAT.out.imp id (fun e => by omega)⟩
  unfold RgRow
  rw [HLI.out, ← HIN.out]
  exact HL.out
 ·have hcq2 : q < c := by omega
  go_enter Try.func77, Try.ntmps77
  go_wp2_with (at_builtin; refine wpList_append_lies _ rfl _ _ 90 rfl base 97 i0 zRG 4 32 Try.underlying90 hi0 hz0 hz1 hz2 rfl (by decide) _ _ _ rfl HOWN.out ⟨vb, 0, none⟩ 1 1 (rgC x) rfl rfl HA2.out HA3.out (by decide) (by unfold maxLen; omega) (by omega) hb w.heap.size rfl ?_)
  intro g cap w' hown' hgrow hat _
  have HL := Lib.hid hown'
  have HG := Lib.hid hgrow
  have HAT := Lib.hid hat
  clear hown' hgrow hat
  go_wp2_with fail
  go_ret
  refine ⟨g, cap, by rw [HLI.out]; rfl, ?_, HG.out, HAT.out.imp id (fun e => by omega)⟩
  unfold RgRow
  rw [HLI.out, ← HIN.out]
  exact HL.out
set_option maxRecDepth 100000 in
set_option maxHeartbeats 2000000 in
theorem insr_room (w : World) (base g cap n i : Nat) (zs : List RG) (cur : Array Value) (x : RG) (vb : Nat) (hn : zs.length = n) (hi : i < n) (hcap : n + 1 ≤ cap) (hmx : cap ≤ 9223372036854775807) (hbg : base ≤ g)
  (hg : w.heap[g]? = some (.cells cur 97 (0, 0))) (hsz : cur.size = cap * 4) (hcl : ∀ j, j < n * 4 → cur[j]? = (rgF zs)[j]?)
  (hv : w.heap[vb]? = some (.cells (rgC x).toArray 97 (0, 0))) (hne : vb ≠ g) :
  Calls Try.prog 77 #[.slice (some ⟨g, 0, none⟩) n cap, .int .i64 (i : Int), .slice (some ⟨vb, 0, none⟩) 1 1] w (InsRPost base (.slice (some ⟨g, 0, none⟩) n cap) (insR zs i x) w) := by
 obtain ⟨i0, hi0, hz0, hz1, hz2⟩ := info_partsV Try.infoRi
 have hinf : (Try.prog.info? 97).map (·.size) = some 4 := by rw [hi0]; simp [hz1]
 have hov : ∀ lb cb, (callFunc 88 #[.slice (some ⟨vb, 0, none⟩) 1 1, .slice (some ⟨g, (i + 1) * 4, none⟩) lb cb]).run Try.prog w = .ok (.value (.bool false)) w := fun lb cb => by
  rw [run_callFunc_extern Try.func88 (by kernel_rfl) (by kernel_rfl) (by kernel_rfl) (e := Extern.SlicesOverlaps.overlaps #[90, 90] #[4]) (by kernel_rfl),
   Lib.run_overlaps_apart w 90 4 97 Try.underlying90 4 Try.sizeOf97 ⟨vb, 0, none⟩ ⟨g, (i + 1) * 4, none⟩ 1 1 lb cb hne 97 97 4 (cap * 4) (by simp [World.shape?, hv, rgC_len]) (by simp [World.shape?, hg, hsz]) (by omega) (by simp [World.frozen?, hv]) (by simp [World.frozen?, hv])]
  rfl
 have hfl : (rgF (zs.drop i)).length = (n - i) * 4 := by rw [rgF_len, List.length_drop, hn]
 have hfg : ∀ j u, (rgF (zs.drop i))[j]? = some u → cur[i * 4 + j]? = some u := fun j u hu => by
  have hl : j < (n - i) * 4 := by have := (List.getElem?_eq_some_iff.1 hu).1; omega
  rw [hcl (i * 4 + j) (by omega), ← hu, rgF_drop (by omega)]
 have hg' : w.drew.heap[g]? = some (.cells cur 97 (0, 0)) := hg
 obtain ⟨N, hN, hNs, hNc⟩ := setCells_heap g 97 (rgF (zs.drop i)) ((i + 1) * 4) w.drew cur hg'
 have hcp1 : ∀ ty, (Builtin.copy_ #[90, 90] ty #[.slice (some ⟨g, (i + 1) * 4, none⟩) (n - i) (cap - (i + 1)), .slice (some ⟨g, i * 4, none⟩) (n + 1 - i) (cap - i)]).run Try.prog w.drew = .ok (goInt ((n - i : Nat) : Int)) (w.drew.setCells g ((i + 1) * 4) (rgF (zs.drop i))) := fun ty => by
  have hmin : Nat.min (n + 1 - i) (n - i) = n - i := by simp only [Nat.min_def]; split <;> omega
  have := run_copy_k (P := Try.prog) w.drew 4 90 90 ty 97 g ((i + 1) * 4) (n - i) (cap - (i + 1)) ⟨g, i * 4, none⟩ (n + 1 - i) (cap - i) (rgF (zs.drop i)) Try.underlying90 hinf (by rw [hmin]; exact hfl)
   (fun j u hu => by
    rw [Addr.add_lit]
    simp only [World.cell?, hg']
    exact hfg j u hu)
   (fun j hj => by
    simp only [World.cell?, hg']
    rw [Array.getElem?_eq_getElem (by omega)]; rfl)
   (fun j hj => by simp [World.frozen?, hg']) (rgF_one _)
  rw [hmin] at this
  exact this
 have hgr1 := rgrown_trans (rgrown_drew w (some g)) (setCells_grown g (rgF (zs.drop i)) ((i + 1) * 4) w.drew)
 have hs1 := setCells_size g (rgF (zs.drop i)) ((i + 1) * 4) w.drew
 obtain ⟨w1, hw1⟩ : ∃ w1, w1 = w.drew.setCells g ((i + 1) * 4) (rgF (zs.drop i)) := ⟨_, rfl⟩
 rw [← hw1] at hN hgr1 hs1
 rw [← hw1] at hcp1
 have hv1 : w1.heap[vb]? = some (.cells (rgC x).toArray 97 (0, 0)) := (hgr1.block vb (lt_of_block hv) (by simpa using hne)).trans hv
 have hb1 : Below 0 w.drew w1 := ⟨hgr1.os, hgr1.tape, hgr1.output, hgr1.size, fun k hk => absurd hk (Nat.not_lt_zero _)⟩
 obtain ⟨M, hM, hMs, hMc⟩ := setCells_heap g 97 (rgC x) (i * 4) w1 N hN
 have hcp2 : ∀ ty, (Builtin.copy_ #[90, 90] ty #[.slice (some ⟨g, i * 4, none⟩) (n + 1 - i) (cap - i), .slice (some ⟨vb, 0, none⟩) 1 1]).run Try.prog w1 = .ok (goInt 1) (w1.setCells g (i * 4) (rgC x)) := fun ty => by
  have hmin : Nat.min 1 (n + 1 - i) = 1 := by simp only [Nat.min_def]; split <;> omega
  have := run_copy_k (P := Try.prog) w1 4 90 90 ty 97 g (i * 4) (n + 1 - i) (cap - i) ⟨vb, 0, none⟩ 1 1 (rgC x) Try.underlying90 hinf (by rw [hmin]; rfl)
   (fun j u hu => by
    rw [Addr.add_lit, Nat.zero_add]
    simp only [World.cell?, hv1]
    simpa using hu)
   (fun j hj => by
    have hl : j < 4 := hj
    simp only [World.cell?, hN]
    rw [Array.getElem?_eq_getElem (by omega)]; rfl)
   (fun j hj => by simp [World.frozen?, hN]) (rgC_one x)
  rw [hmin] at this
  exact this
 have hgr2 := rgrown_trans hgr1 (setCells_grown g (rgC x) (i * 4) w1)
 obtain ⟨w2, hw2⟩ : ∃ w2, w2 = w1.setCells g (i * 4) (rgC x) := ⟨_, rfl⟩
 rw [← hw2] at hM hgr2
 rw [← hw2] at hcp2
 have HEND : Hid (RgRow w2 base (some ⟨g, 0, none⟩) cap (insR zs i x)) := by
  unfold Hid RgRow
  rw [insR_length, hn]
  refine ⟨by rw [rgs_len, insR_length, hn], .inr ⟨g, cap, M, rfl, hbg, hM, hcap, by unfold maxLen; omega, by omega, ?_⟩⟩
  have := insR_take (zs := zs) (i := i) (x := x) (by omega) M (by omega) (fun j hj => by
   rw [hMc j (by omega), rgC_len]
   by_cases h1 : j < i * 4
   ·rw [if_neg (by omega), if_pos h1, hNc j (by omega), if_neg (by omega), hcl j (by omega)]
   ·by_cases h2 : j < i * 4 + 4
    ·rw [if_pos (by omega), if_neg h1, if_pos h2]
    ·rw [if_neg (by omega), if_neg h1, if_neg h2, hNc j (by omega), if_pos (by omega), rgF_drop (by omega), show i * 4 + (j - (i + 1) * 4) = j - 4 by omega])
  rw [hn] at this
  exact this
 have HLI : Hid ((insR zs i x).length = n + 1) := by show _ = _; rw [insR_length, hn]
 have HG := Lib.hid hgr2
 have H1 := Lib.hid hcp1
 have H2 := Lib.hid hcp2
 have HOV := Lib.hid hov
 have HB1 := Lib.hid hb1
 have z1 : ((i : Int) == (n : Int)) = false := beq_eq_false_iff_ne.2 (by omega)
 clear hcp1 hcp2 hov hb1 hgr1 hgr2 hs1 hN hNs hNc hM hMs hMc hv hv1 hg hg' hcl hsz hw1 hw2 hfl hn hfg
 go_enter Try.func77, Try.ntmps77
 go_wp2_with (simp only [HOV.out])
 refine wp_region_eager 0 [(0, true), (1, true), (2, true), (3, true), (4, true), (5, true), (6, true), (7, true), (8, false)] (by kernel_rfl) (by kernel_rfl) ?_
 repeat (refine eag_read rfl ?_; go_big_quiet_step (fail); refine wpQuiet_nil ?_)
 refine eag_does rfl rfl ?_
 intro K hK
 refine wp_copy_eq _ _ _ 90 90 rfl _ _ rfl rfl (H1.out _) ?_
 refine hK _ _ HB1.out ?_
 clear hK K
 go_simp
 refine eag_end ?_
 go_wp2_with (refine wpList_of_wp _ rfl (fun K Q' hk => wp_copy_eq _ _ _ 90 90 rfl _ _ rfl rfl (H2.out _) hk) ?_)
 go_ret
 exact ⟨g, cap, by rw [HLI.out]; rfl, HEND.out, HG.out, .inl rfl⟩

set_option maxRecDepth 100000 in
set_option maxHeartbeats 2000000 in
theorem insr_grow (w : World) (base g n i : Nat) (zs : List RG) (cur : Array Value) (x : RG) (vb : Nat) (hn : zs.length = n) (hi : i < n) (hmx : n ≤ 1000000) (hbg : base ≤ g)
  (hg : w.heap[g]? = some (.cells cur 97 (0, 0))) (hsz : cur.size = n * 4) (hcl : ∀ j, j < n * 4 → cur[j]? = (rgF zs)[j]?)
  (hv : w.heap[vb]? = some (.cells (rgC x).toArray 97 (0, 0))) :
  Calls Try.prog 77 #[.slice (some ⟨g, 0, none⟩) n n, .int .i64 (i : Int), .slice (some ⟨vb, 0, none⟩) 1 1] w (InsRPost base (.slice (some ⟨g, 0, none⟩) n n) (insR zs i x) w) := by
 obtain ⟨i0, hi0, hz0, hz1, hz2⟩ := info_partsV Try.infoRi
 have hinf : (Try.prog.info? 97).map (·.size) = some 4 := by rw [hi0]; simp [hz1]
 have hfl : (rgF (zs.drop i)).length = (n - i) * 4 := by rw [rgF_len, List.length_drop, hn]
 have hft : (rgF (zs.take i)).length = i * 4 := by rw [rgF_len, List.length_take]; omega
 have hfg : ∀ j u, (rgF (zs.drop i))[j]? = some u → cur[i * 4 + j]? = some u := fun j u hu => by
  have hl : j < (n - i) * 4 := by have := (List.getElem?_eq_some_iff.1 hu).1; omega
  rw [hcl (i * 4 + j) (by omega), ← hu, rgF_drop (by omega)]
 have hgl := lt_of_block hg
 have hvl := lt_of_block hv
 have hold : (Builtin.firstCells i0.size i (.slice (some ⟨g, 0, none⟩) i n)).run Try.prog w.drew = .ok (rgF (zs.take i)).toArray w.drew := by
  have := run_firstCells_some (P := Try.prog) w.drew i0.size i ⟨g, 0, none⟩ i n (rgF (zs.take i)) (by rw [hz1]; exact hft) (fun j u hu => by
   have hl : j < i * 4 := by have := (List.getElem?_eq_some_iff.1 hu).1; omega
   rw [Addr.add_lit]
   have hg' : w.drew.heap[g]? = some (.cells cur 97 (0, 0)) := hg
   have e1 : w.drew.cell? ⟨g, 0 + j, none⟩ = cur[j]? := by simp [World.cell?, hg']
   rw [e1, hcl j (by omega), ← hu, rgF_take (by omega) hl])
  exact this
 have hrz : ∀ ty, (Builtin.append_ #[90, 3] ty #[.slice (some ⟨g, 0, none⟩) i n, .int .i64 ((n : Int) + 1 - (i : Int))]).run Try.prog w = .ok (.slice (some ⟨w.heap.size, 0, none⟩) (n + 1) (grownCap w (n + 1) n 97)) (w.drew.alloc (.cells ((rgF (zs.take i)).toArray ++ Builtin.zeroCells zRG.cells (n + 1 - i) ++ Builtin.zeroCells zRG.cells (grownCap w (n + 1) n 97 - (n + 1))) 97)) := fun ty => by
  have h := Lib.run_append_grow_zeros (P := Try.prog) w 90 3 ty 97 i0 zRG .i64 .i64 Try.underlying90 Try.underlying3 hi0 hz0 (some ⟨g, 0, none⟩) i n (rgF (zs.take i)) hold (n + 1 - i) (by omega) (by omega) (by omega) (by omega) (by rw [hz2]; omega) (by rw [hz2]; exact growslice_fits (by omega) (by omega))
  rw [show i + (n + 1 - i) = n + 1 by omega, show ((n + 1 - i : Nat) : Int) = (n : Int) + 1 - (i : Int) by omega] at h
  exact h
 have hGe := grownCap_ge w (n + 1) n 97
 have hGm := grownCap_le_maxLen w (n + 1) n 97 (by unfold maxLen; omega)
 obtain ⟨G, hG⟩ : ∃ G, G = grownCap w (n + 1) n 97 := ⟨_, rfl⟩
 obtain ⟨R, hR⟩ : ∃ R : Array Value, R = (rgF (zs.take i)).toArray ++ Builtin.zeroCells zRG.cells (n + 1 - i) ++ Builtin.zeroCells zRG.cells (G - (n + 1)) := ⟨_, rfl⟩
 simp only [← hG] at hrz
 simp only [← hR] at hrz
 rw [← hG] at hGe hGm
 unfold maxLen at hGm
 have hRs : R.size = G * 4 := by rw [hR, zRG_cells]; simp [Builtin.zeroCells, hft]; omega
 have hRc : ∀ j, j < i * 4 → R[j]? = (rgF zs)[j]? := fun j hj => by
  rw [hR, Array.append_assoc, Array.getElem?_append_left (by simp; omega), List.getElem?_toArray, rgF_take (by omega) hj]
 have hN0 : (w.drew.alloc (.cells R 97)).heap[w.heap.size]? = some (.cells R 97 (0, 0)) := heap_alloc_new w.drew _
 have hgr0 : w.grownBy (w.drew.alloc (.cells R 97)) (some g) := rgrown_trans (rgrown_drew w (some g)) (World.grownBy_alloc w.drew _ _)
 have hk0 : ∀ b, b < w.heap.size → (w.drew.alloc (.cells R 97)).heap[b]? = w.heap[b]? := fun b hb => Below.heap_alloc w.drew _ b hb
 obtain ⟨w1, hw1⟩ : ∃ w1, w1 = w.drew.alloc (.cells R 97) := ⟨_, rfl⟩
 rw [← hw1] at hN0 hgr0
 simp only [← hw1] at hrz hk0
 have hv1 := (hk0 vb hvl).trans hv
 have hg1 := (hk0 g hgl).trans hg
 obtain ⟨M, hM, hMs, hMc⟩ := setCells_heap w.heap.size 97 (rgC x) (i * 4) w1 R hN0
 have hcp1 : ∀ ty, (Builtin.copy_ #[90, 90] ty #[.slice (some ⟨w.heap.size, i * 4, none⟩) (n + 1 - i) (G - i), .slice (some ⟨vb, 0, none⟩) 1 1]).run Try.prog w1 = .ok (goInt 1) (w1.setCells w.heap.size (i * 4) (rgC x)) := fun ty => by
  have hmin : Nat.min 1 (n + 1 - i) = 1 := by simp only [Nat.min_def]; split <;> omega
  have := run_copy_k (P := Try.prog) w1 4 90 90 ty 97 w.heap.size (i * 4) (n + 1 - i) (G - i) ⟨vb, 0, none⟩ 1 1 (rgC x) Try.underlying90 hinf (by rw [hmin]; rfl)
   (fun j u hu => by
    rw [Addr.add_lit, Nat.zero_add]
    simp only [World.cell?, hv1]
    simpa using hu)
   (fun j hj => by
    have hl : j < 4 := hj
    simp only [World.cell?, hN0]
    rw [Array.getElem?_eq_getElem (by omega)]; rfl)
   (fun j hj => by simp [World.frozen?, hN0]) (rgC_one x)
  rw [hmin] at this
  exact this
 have hgr2 := setCells_grown w.heap.size (rgC x) (i * 4) w1
 have hs2 := setCells_size w.heap.size (rgC x) (i * 4) w1
 obtain ⟨w2, hw2⟩ : ∃ w2, w2 = w1.setCells w.heap.size (i * 4) (rgC x) := ⟨_, rfl⟩
 rw [← hw2] at hM hgr2 hs2
 rw [← hw2] at hcp1
 have hw1s : w.heap.size < w1.heap.size := lt_of_block hN0
 have hg2 : w2.heap[g]? = some (.cells cur 97 (0, 0)) := (hgr2.block g (by omega) (by simp; omega)).trans hg1
 have hg2' : w2.drew.heap[g]? = some (.cells cur 97 (0, 0)) := hg2
 have hM' : w2.drew.heap[w.heap.size]? = some (.cells M 97 (0, 0)) := hM
 obtain ⟨L, hL, hLs, hLc⟩ := setCells_heap w.heap.size 97 (rgF (zs.drop i)) ((i + 1) * 4) w2.drew M hM'
 have hcp2 : ∀ ty, (Builtin.copy_ #[90, 90] ty #[.slice (some ⟨w.heap.size, (i + 1) * 4, none⟩) (n - i) (G - (i + 1)), .slice (some ⟨g, i * 4, none⟩) (n - i) (n - i)]).run Try.prog w2.drew = .ok (goInt ((n - i : Nat) : Int)) (w2.drew.setCells w.heap.size ((i + 1) * 4) (rgF (zs.drop i))) := fun ty => by
  have hmin : Nat.min (n - i) (n - i) = n - i := by simp only [Nat.min_def]; split <;> omega
  have := run_copy_k (P := Try.prog) w2.drew 4 90 90 ty 97 w.heap.size ((i + 1) * 4) (n - i) (G - (i + 1)) ⟨g, i * 4, none⟩ (n - i) (n - i) (rgF (zs.drop i)) Try.underlying90 hinf (by rw [hmin]; exact hfl)
   (fun j u hu => by
    rw [Addr.add_lit]
    simp only [World.cell?, hg2']
    exact hfg j u hu)
   (fun j hj => by
    simp only [World.cell?, hM']
    rw [Array.getElem?_eq_getElem (by omega)]; rfl)
   (fun j hj => by simp [World.frozen?, hM']) (rgF_one _)
  rw [hmin] at this
  exact this
 have hgr3 := setCells_grown w.heap.size (rgF (zs.drop i)) ((i + 1) * 4) w2.drew
 have hs3 := setCells_size w.heap.size (rgF (zs.drop i)) ((i + 1) * 4) w2.drew
 obtain ⟨w3, hw3⟩ : ∃ w3, w3 = w2.drew.setCells w.heap.size ((i + 1) * 4) (rgF (zs.drop i)) := ⟨_, rfl⟩
 rw [← hw3] at hL hgr3 hs3
 rw [← hw3] at hcp2
 have hb3 : Below 0 w2.drew w3 := ⟨hgr3.os, hgr3.tape, hgr3.output, hgr3.size, fun k hk => absurd hk (Nat.not_lt_zero _)⟩
 have HG : Hid (w.grownBy w3 (some g)) := ⟨hgr3.os.trans (hgr2.os.trans hgr0.os), hgr3.tape.trans (hgr2.tape.trans hgr0.tape), hgr3.output.trans (hgr2.output.trans hgr0.output), by rw [hs3]; show _ ≤ w2.heap.size; rw [hs2]; omega, fun k hk hne => by
  rw [hgr3.block k (by show k < w2.heap.size; omega) (by simp; omega)]
  show w2.heap[k]? = _
  rw [hgr2.block k (by omega) (by simp; omega), hk0 k hk]⟩
 have HEND : Hid (RgRow w3 base (some ⟨w.heap.size, 0, none⟩) G (insR zs i x)) := by
  unfold Hid RgRow
  rw [insR_length, hn]
  refine ⟨by rw [rgs_len, insR_length, hn], .inr ⟨w.heap.size, G, L, rfl, by omega, hL, by omega, by unfold maxLen; omega, by omega, ?_⟩⟩
  have := insR_take (zs := zs) (i := i) (x := x) (by omega) L (by omega) (fun j hj => by
   rw [hLc j (by omega)]
   by_cases h1 : j < i * 4
   ·rw [if_neg (by omega), if_pos h1, hMc j (by omega), rgC_len, if_neg (by omega), hRc j h1]
   ·by_cases h2 : j < i * 4 + 4
    ·rw [if_neg (by omega), if_neg h1, if_pos h2, hMc j (by omega), rgC_len, if_pos (by omega)]
    ·rw [if_pos (by omega), if_neg h1, if_neg h2, rgF_drop (by omega), show i * 4 + (j - (i + 1) * 4) = j - 4 by omega])
  rw [hn] at this
  exact this
 have HLI : Hid ((insR zs i x).length = n + 1) := by show _ = _; rw [insR_length, hn]
 have H0 := Lib.hid hrz
 have H1 := Lib.hid hcp1
 have H2 := Lib.hid hcp2
 have HB3 := Lib.hid hb3
 have z1 : ((i : Int) == (n : Int)) = false := beq_eq_false_iff_ne.2 (by omega)
 obtain ⟨ns, hns⟩ : ∃ ns, ns = w.heap.size := ⟨_, rfl⟩
 rw [← hns] at H0 H1 H2 HEND
 have HNS := Lib.hid hns
 have hG1 : ¬ G = i := by omega
 have hG2 : ¬ G = i + 1 := by omega
 have hni : ¬ n = i := by omega
 clear hrz hcp1 hcp2 hb3 hgr0 hgr2 hgr3 hs2 hs3 hN0 hM hM' hL hMs hLs hMc hLc hv hv1 hg hg1 hg2 hg2' hcl hsz hw1 hw2 hw3 hw1s hfl hn hG hR hRs hRc hk0 hold hns hgl hvl hft hfg
 go_enter Try.func77, Try.ntmps77
 go_wp2_with (first
  | (refine wpList_of_wp _ rfl (fun K Q' hk => wp_append_eq _ _ _ 90 3 rfl _ _ rfl rfl (H0.out _) hk) ?_)
  | (refine wpList_of_wp _ rfl (fun K Q' hk => wp_copy_eq _ _ _ 90 90 rfl _ _ rfl rfl (H1.out _) hk) ?_))
 refine wp_region_eager 0 [(0, true), (1, true), (2, true), (3, true), (4, true), (5, true), (6, true), (7, true), (8, false)] (by kernel_rfl) (by kernel_rfl) ?_
 go_simp
 repeat (refine eag_read rfl ?_; go_big_quiet_step (fail); refine wpQuiet_nil ?_)
 refine eag_does rfl rfl ?_
 intro K hK
 refine wp_copy_eq _ _ _ 90 90 rfl _ _ rfl rfl (H2.out _) ?_
 refine hK _ _ HB3.out ?_
 clear hK K
 go_simp
 refine eag_end ?_
 go_wp2_with fail
 go_ret
 exact ⟨ns, G, by rw [HLI.out]; rfl, HEND.out, HG.out, .inr (Nat.le_of_eq HNS.out.symm)⟩

theorem insr_any (w : World) (base i : Nat) (a : Option Addr) (c n : Nat) (zs : List RG) (x : RG) (vb : Nat) (h : RgRow w base a c zs) (hnn : n = zs.length) (hi : i ≤ n) (hn : n ≤ 1000000) (hb : base ≤ w.heap.size) (hv : Blk w vb 97 (rgC x)) (hne : (Value.slice a n c).ownBlock ≠ some vb) :
  Calls Try.prog 77 #[.slice a n c, .int .i64 (i : Int), .slice (some ⟨vb, 0, none⟩) 1 1] w (InsRPost base (.slice a n c) (insR zs i x) w) := by
 by_cases e : i = n
 ·subst e
  exact insr_end w base a c i zs x vb h hnn hn hb hv
 ·subst hnn
  rcases h.2 with ⟨h1, h2⟩ | ⟨g, cap, cur, hvv, hbg, hg, hle, hmx, hcs, htk⟩
  ·omega
  ·injection hvv with e1 _ e3
   subst e1 e3
   have hcl : ∀ j, j < zs.length * 4 → cur[j]? = (rgF zs)[j]? := fun j hj => by
    have h3 : (cur.toList.take (zs.length * 4))[j]? = (rgF zs)[j]? := by rw [htk]; rfl
    rw [List.getElem?_take, if_pos hj] at h3
    simpa using h3
   unfold maxLen at hmx
   by_cases hc : zs.length + 1 ≤ c
   ·exact insr_room w base g c zs.length i zs cur x vb rfl (by omega) hc (by omega) hbg hg hcs hcl hv (fun e => hne (by rw [e]; rfl))
   ·obtain rfl : c = zs.length := by omega
    exact insr_grow w base g zs.length i zs cur x vb rfl (by omega) hn hbg hg hcs hcl hv
end Go.Proofs.Ytlcnbihfpjhffaa
