/- The contract of the heap's Check: a well-formed heap is found well-formed. -/
import Derived.Test.YtkpeeemnholmnaaHeapD
import Derived.Test.YtkpeeemnholmnaaSearch
import Derived.Test.YtkpeeemnholmnaaEager
import Derived.Laws.AppendOwnNone
namespace Go.Proofs.Ytkpeeemnholmnaa
open Go.RowKit
set_option linter.unusedVariables false

/-- the used parts are objects; their fields are odd words, 0, or pointers to objects -/
structure WF (S : HS) (l1 l2 : List Nat) : Prop where
  y : Tiles S.m 1 S.young l1
  o : Tiles S.m S.from_ S.old l2
  f : ∀ i ∈ l1 ++ l2, ∀ k, i < k → k ≤ i + hsize (S.m i) → S.m k % 2 = 1 ∨ ∃ j : Nat, (j = 0 ∨ j ∈ l1 ++ l2) ∧ S.m k = 2 * (j : Int)

theorem WF.mem {S : HS} (ok : S.Ok) {l1 l2 : List Nat} (h : WF S l1 l2) : ∀ i ∈ l1 ++ l2, 1 ≤ i ∧ i + hsize (S.m i) + 1 ≤ S.stack ∧ isHdr (S.m i) := by
  obtain ⟨⟨o1, o2⟩, o3, o4, ⟨o5, o6⟩, o7, ⟨o8, o9⟩, o10, o11⟩ := ok
  intro i hi
  rcases List.mem_append.1 hi with hi | hi
  · obtain ⟨a, b, c⟩ := h.y.mem i hi
    exact ⟨a, by omega, c⟩
  · obtain ⟨a, b, c⟩ := h.o.mem i hi
    exact ⟨by omega, by omega, c⟩
theorem WF.sorted {S : HS} (ok : S.Ok) {l1 l2 : List Nat} (h : WF S l1 l2) : (l1 ++ l2).Pairwise (· < ·) := by
  obtain ⟨⟨o1, o2⟩, o3, o4, ⟨o5, o6⟩, o7, ⟨o8, o9⟩, o10, o11⟩ := ok
  refine List.pairwise_append.2 ⟨h.y.sorted, h.o.sorted, fun a ha b hb => ?_⟩
  have h1 := h.y.mem a ha
  have h2 := h.o.mem b hb
  omega
theorem WF.len {S : HS} (ok : S.Ok) {l1 l2 : List Nat} (h : WF S l1 l2) : (l1 ++ l2).length ≤ 65536 := by
  obtain ⟨⟨o1, o2⟩, o3, o4, ⟨o5, o6⟩, o7, ⟨o8, o9⟩, o10, o11⟩ := ok
  have h1 := h.y.len
  have h2 := h.o.len
  rw [List.length_append]
  omega

def intL (l : List Nat) : List Int := l.map fun (i : Nat) => (i : Int)
theorem own_slice {w : World} {B : Nat} {e : TypeId} {size n : Nat} {v : Value} {xs : List Value} (h : w.ownsRow B e size v n xs) : ∃ a c, v = .slice a n c := by
  rcases h.2 with ⟨rfl, rfl⟩ | ⟨g, cap, cur, rfl, _⟩
  · exact ⟨none, 0, rfl⟩
  · exact ⟨_, _, rfl⟩
theorem came_of_remL {w : World} {B : Nat} {e : TypeId} {a : Option Addr} {n c : Nat} {l : List Nat} (h : w.ownsRow B e 1 (.slice a n c) l.length (remL l)) : n = l.length ∧ Came w a n c 1 ((intL l).map intCells) := by
  have e1 : remL l = (intL l).map (fun z => (intCells z).headD undef) := by simp [remL, intL, intCells]
  rw [e1] at h
  have h2 := came_of_owns (E := intCells) (fun z => ⟨_, rfl⟩) h
  exact h2
theorem mem_intL {l : List Nat} {j : Nat} (h : j ∈ l) : (intL l).contains (j : Int) = true := by
  rw [List.contains_iff_mem]
  exact List.mem_map.2 ⟨j, h, rfl⟩
theorem sorted_intL {l : List Nat} (h : l.Pairwise (· < ·)) : (intL l).Pairwise (· ≤ ·) := by
  unfold intL
  rw [List.pairwise_map]
  exact h.imp fun h => by omega
theorem remL_one (l : List Nat) : ∀ u ∈ remL l, u.oneCell' = true := by
  intro u hu
  obtain ⟨i, _, rfl⟩ := List.mem_map.1 hu
  rfl

def FoundPost (w : World) (e : Ending) (w' : World) : Prop := ∃ (n : Nat) (c : Int), e = .returned (.tuple #[.int .i64 c, .bool true]) ∧ w' = w.drewN n
theorem found_ints (w : World) (a : Option Addr) (n c : Nat) (zs : List Int) (x : Int) (h : Came w a n c 1 (zs.map intCells)) (hbig : n < 4611686018427387904) (hs : zs.Pairwise (· ≤ ·)) (hm : zs.contains x = true) :
    Calls Try.prog 33 #[.slice a n c, .int .i64 x] w (FoundPost w) :=
  (search_ints w a n c zs x h hbig hs).mono fun e w' ⟨q, he, hw⟩ => ⟨q, _, by rw [hm] at he; exact he, hw⟩

set_option maxRecDepth 100000 in
set_option maxHeartbeats 4000000 in
theorem check_ok (w : World) (p mb : Nat) (rv : Value) (S : HS) (h : HeapSt w p mb rv S) (ok : S.Ok) (l1 l2 : List Nat) (hw : WF S l1 l2) :
    Calls Try.prog 17 #[.pointer (some ⟨p, 0, none⟩)] w fun e w' => e = .returned (.bool true) ∧ Below w.heap.size w w' := by
  have HO1 : ∀ wx, HeapSt wx p mb rv S → Calls Try.prog 31 #[.pointer (some ⟨p, 0, none⟩), .int .i64 1, .int .i64 (S.young : Int)] wx (ObjsPost l1 wx) := fun wx hx =>
    objects_ok wx p mb rv S hx ok 1 S.young (by have := ok.yo; have := ok.fr; have := ok.to; have := ok.st; omega) l1 hw.y
  have HO2 : ∀ wx, HeapSt wx p mb rv S → Calls Try.prog 31 #[.pointer (some ⟨p, 0, none⟩), .int .i64 (S.from_ : Int), .int .i64 (S.old : Int)] wx (ObjsPost l2 wx) := fun wx hx =>
    objects_ok wx p mb rv S hx ok S.from_ S.old (by have := ok.ol; have := ok.to; have := ok.st; omega) l2 hw.o
  have hlen := hw.len ok
  have HMEM := Lib.hid (hw.mem ok)
  have HSRT := Lib.hid (hw.sorted ok)
  have HF := Lib.hid hw.f
  have HT := Lib.hid h
  have hn : S.n ≤ 65536 := ok.n.2
  have hst : S.stack ≤ S.n := ok.st
  obtain ⟨i0, hi0, hz0, hz1, hz2⟩ := info_parts Try.infoH3
  obtain ⟨c0, c1, c2, c3, c4, c5, c6, c7⟩ := h.cells
  have C5 := Lib.hid c5
  have C6 := Lib.hid c6
  have hpl := h.st.lt
  have hl1 : l1.length + l2.length ≤ 65536 := by rw [List.length_append] at hlen; exact hlen
  obtain ⟨L, hL⟩ : ∃ L, L = l1 ++ l2 := ⟨_, rfl⟩
  rw [← hL] at HMEM HSRT HF hlen
  have HLL := Lib.hid hL
  clear hL
  clear c0 c1 c2 c4 c5 c6 c7 h hw ok
  go_enter Try.func17, Try.ntmps17
  go_wp2_with fail
  refine (HO1 _ HT.out).mono ?_
  rintro e w1 ⟨v1, rfl, hown1, hb1⟩
  have HB1 := Lib.hid hb1
  have HOWN1 := Lib.hid hown1
  have hs1 : w.heap.size ≤ w1.heap.size := hb1.size
  have r5 : ∀ x : After w1.heap.size w1.drew, x.world.cell? ⟨p, 5, none⟩ = some (.int .i64 (S.from_ : Int)) := fun x => (x.below.cell (p := ⟨p, 5, none⟩) (by show p < w1.heap.size; omega)).trans ((HB1.out.cell (p := ⟨p, 5, none⟩) hpl).trans C5.out)
  have r6 : ∀ x : After w1.heap.size w1.drew, x.world.cell? ⟨p, 6, none⟩ = some (.int .i64 (S.old : Int)) := fun x => (x.below.cell (p := ⟨p, 6, none⟩) (by show p < w1.heap.size; omega)).trans ((HB1.out.cell (p := ⟨p, 6, none⟩) hpl).trans C6.out)
  clear hb1 hown1 c3
  go_wp2_with fail
  refine wp_region_eager w1.heap.size [(0, true), (1, true), (2, true), (3, true), (4, true), (5, true), (6, true), (7, true), (8, true), (9, false), (10, true), (11, true), (12, true), (13, true), (14, true)] (by kernel_rfl) (by kernel_rfl) ?_
  repeat (refine eag_read rfl ?_; go_big_quiet_step (fail); refine wpQuiet_nil ?_)
  clear r5 r6
  refine eag_does rfl rfl ?_
  intro K hK
  go_simp
  refine (HO2 _ (HT.out.later HB1.out.drew)).mono ?_
  rintro e w2 ⟨v2, rfl, hown2, hb2⟩
  refine hK _ _ hb2 ?_
  have HB2 := Lib.hid (HB1.out.drew.trans (hb2.mono (B' := w.heap.size) hs1))
  have hs2 : w1.heap.size ≤ w2.heap.size := hb2.size
  have HOWN2 := Lib.hid hown2
  have hown1b : w2.ownsRow w.heap.size 3 1 v1 l1.length (remL l1) := HOWN1.out.kept (row := none) ⟨hb2.os, hb2.tape, hb2.output, hb2.size, fun k hk _ => hb2.block k hk⟩ (by cases hv : v1.ownBlock <;> simp)
  have HOWN1B := Lib.hid hown1b
  clear hK K hb2 hown2 hown1b HOWN1 HO1 HO2
  repeat (refine eag_read rfl ?_; go_big_quiet_step (fail); refine wpQuiet_nil ?_)
  refine eag_end ?_
  have HN1 : Hid (w2.ownsRow w.heap.size 3 1 v1 l1.length (remL l1)) := HOWN1B.out
  have hgo : ∀ w3 v3, w3.ownsRow w.heap.size 3 1 v3 L.length (remL L) → Below w.heap.size w w3 →
      (∃ a n c, v3 = .slice a n c ∧ n = L.length ∧ Came w3 a n c 1 ((intL L).map intCells)) ∧ HeapSt w3 p mb rv S ∧ Below w.heap.size w w3 := fun w3 v3 h1 h2 => by
    obtain ⟨a, c, rfl⟩ := own_slice h1
    obtain ⟨e1, e2⟩ := came_of_remL h1
    exact ⟨⟨a, _, c, rfl, e1, e2⟩, HT.out.later h2, h2⟩
  have HGO := Lib.hid hgo
  clear hgo HOWN1B HB1 C5 C6
  rcases HOWN2.out.2 with ⟨rfl, h0⟩ | ⟨g, cap, cur, rfl, hg1, hg2, _⟩
  case' inl =>
    obtain rfl := List.length_eq_zero_iff.1 h0
    obtain ⟨a1, c1, rfl⟩ := own_slice HN1.out
    have h3 := HGO.out w2 _ (by rw [HLL.out, List.append_nil]; exact HN1.out) HB2.out
    have HN4 : Hid (w2.ownsRow w.heap.size 3 1 (.slice a1 l1.length c1) l1.length (remL l1)) := HN1.out
    obtain ⟨n1, hq⟩ : ∃ n, n = l1.length := ⟨_, rfl⟩
    rw [← hq] at HN4 h3 ⊢
    have H3 := Lib.hid h3
    clear h3 hq HN1
    have HN1 := HN4
    clear HN4
    go_wp2_with (at_builtin; refine wpList_append_own_none rfl _ _ 22 rfl w.heap.size 3 i0 1 Try.underlying22 hi0 _ _ _ rfl HN1.out rfl ?_)
    have h3 := H3.out
    clear H3
    generalize w2 = w3 at h3 ⊢
  case' inr =>
    have hcs := HOWN2.out.cells (g := g) rfl
    have HCS := Lib.hid hcs
    have HGL := Lib.hid (lt_of_block hg2)
    clear hcs hg2
    go_wp2_with (at_builtin; refine wpList_append_own _ rfl _ _ 22 rfl w.heap.size 3 i0 (.int .i64 0) 1 8 Try.underlying22 hi0 hz0 hz1 hz2 rfl (by decide) _ _ _ rfl HN1.out ⟨g, 0, none⟩ l2.length cap (remL l2) rfl (by simp [remL]) HCS.out (remL_one l2) (by unfold maxLen; omega) (by omega) (by omega) ?_)
    intro v3 w3 hown3 hgrow _
    have h3 := HGO.out w3 v3 (by rw [HLL.out, List.length_append]; unfold remL at hown3 ⊢; rw [List.map_append]; exact hown3) (HB2.out.grown hgrow (by omega) (fun q hq => (HN1.out.lt q hq).1))
    clear hown3 hgrow
  all_goals
    clear HGO HN1 HOWN2 HB2
    obtain ⟨⟨a3, n3, c3, e3, hn3, hcm⟩, hst3, hb3⟩ := h3
    first
      | subst e3
      | (injection e3 with x1 x2 x3
         have y1 := x1.symm
         have y2 := x2.symm
         have y3 := x3.symm
         clear x1 x2 x3
         subst y1 y2 y3)
    have HCM := Lib.hid hcm
    have HST := Lib.hid hst3
    have HB3 := Lib.hid hb3
    have hcc := hcm.le
    have hcx := hcm.max
    have HN3 := Lib.hid hn3
    rw [← hn3] at hlen
    clear hcm hst3 hb3 hn3
    go_wp2_with fail
    go_loopw [50] (fun u wr => ∃ k q : Nat, k ≤ n3 ∧ u = .int .i64 (k : Int) ∧ wr = w3.drewN q) (fun u _ => n3 - (intOf u).toNat)
    case atStart => exact ⟨0, 0, Nat.zero_le _, rfl, rfl⟩
    case round =>
      obtain ⟨k, q, hk, rfl, rfl⟩ := hrel
      by_cases hlt : k < n3
      · obtain ⟨b, off, ea, _, hcell⟩ := HCM.out.ints (by omega)
        subst ea
        have hkl : k < (intL L).length := by have := HN3.out; simp [intL] at this ⊢; omega
        have hkl2 : k < L.length := by have := HN3.out; omega
        have cl := hcell k hkl
        have ei : (intL L)[k] = ((L[k] : Nat) : Int) := by simp [intL]
        rw [ei] at cl
        have hmem : L[k] ∈ L := List.getElem_mem hkl2
        obtain ⟨m1, m2, m3⟩ := HMEM.out _ hmem
        have HFI := Lib.hid (HF.out _ hmem)
        clear ei hcell hmem
        generalize L[k] = i at cl m1 m2 m3 HFI
        have hsp := isHdr_split m3
        have hc := hsize_cast (S.m i)
        have HSP := fun w => split_any (S.m i) w
        rw [hsp, ← hc] at HSP
        have d0 := HST.out.cells.c0
        have cm := HST.out.word (i := i) (by omega)
        have HC := Lib.hid hc
        obtain ⟨s, hs⟩ : ∃ s, s = hsize (S.m i) := ⟨_, rfl⟩
        rw [← hs] at HSP m2 HFI
        clear m3 hsp hc hs HC
        obtain ⟨x, hx⟩ : ∃ x, x = S.m i := ⟨_, rfl⟩
        rw [← hx] at HSP cm
        clear hx
        have HCL := Lib.hid cl
        go_wp2_with (go_at_call 32; refine (HSP _).mono ?_; rintro e w' ⟨rfl, rfl⟩)
        clear cl cm HSP
        go_loopw [13] (fun u wr => ∃ j q : Nat, j ≤ s ∧ u = .int .i64 ((i : Int) + 1 + (j : Int)) ∧ wr = w3.drewN q) (fun u _ => i + 1 + s - (intOf u).toNat)
        case atStart => exact ⟨0, q, Nat.zero_le _, by go_num, rfl⟩
        case round =>
          obtain ⟨j, q, hj, rfl, rfl⟩ := hrel
          by_cases hlt2 : j < s
          · have cw := HST.out.word (i := i + 1 + j) (by omega)
            have hin : (i : Int) + 1 + (j : Int) < (S.n : Int) := by omega
            have htn : ((i : Int) + 1 + (j : Int)).toNat = i + 1 + j := by omega
            have hle : (i : Int) + 1 + (j : Int) ≤ (i : Int) + s := by omega
            rcases HFI.out (i + 1 + j) (by omega) (by omega) with hv | ⟨t, ht, hv⟩
            · obtain ⟨v, hvv⟩ : ∃ v, v = S.m (i + 1 + j) := ⟨_, rfl⟩
              rw [← hvv] at hv cw
              clear hvv
              have e1 := and_1 v
              rw [hv] at e1
              clear hv
              go_wp2_with fail
              go_roundw
              case rel => exact ⟨j + 1, q, by omega, by go_num, rfl⟩
              case measure => simp [intOf]; omega
            · rw [hv] at cw
              have e1 := and_1 (2 * (t : Int))
              have e2 : 2 * (t : Int) % 2 = 0 := by omega
              rw [e2] at e1
              clear hv e2
              by_cases ht0 : t = 0
              · subst ht0
                go_wp2_with fail
                go_roundw
                case rel => exact ⟨j + 1, q, by omega, by go_num, rfl⟩
                case measure => simp [intOf]; omega
              · have htm : t ∈ L := by rcases ht with h | h; exact absurd h ht0; exact h
                have htb := HMEM.out t htm
                have z1 : (2 * (t : Int) == 0) = false := beq_eq_false_iff_ne.2 (by omega)
                have z2 : 2 * (t : Int) / 2 = (t : Int) := by omega
                have HBS := fun wx (h : Came wx (some ⟨b, off, none⟩) n3 c3 1 ((intL L).map intCells)) => found_ints wx (some ⟨b, off, none⟩) n3 c3 (intL L) (t : Int) h (by omega) (sorted_intL HSRT.out) (mem_intL htm)
                obtain ⟨t1, t2, t3⟩ := htb
                have t4 : t ≤ 65536 := by omega
                have HCN := fun m => Lib.hid (HCM.out.below (below_drewN_self _ _ m))
                clear ht htm t1 t2 t3
                go_wp2_with (go_at_call 33; refine (HBS _ (HCN _).out).mono ?_; rintro e w' ⟨n, cp, rfl, rfl⟩)
                go_roundw
                case rel => exact ⟨j + 1, q + n, by omega, by go_num, rfl⟩
                case measure => simp [intOf]; omega
          · have ej : j = s := by omega
            subst ej
            go_wp2_with fail
            go_roundw
            case rel => exact ⟨k + 1, q, by omega, by go_num, rfl⟩
            case measure => simp [intOf]; omega
      · have ek : k = n3 := by omega
        subst ek
        go_wp2_with fail
        go_ret
        exact ⟨rfl, HB3.out.trans (below_drewN_self _ _ _)⟩
end Go.Proofs.Ytkpeeemnholmnaa
