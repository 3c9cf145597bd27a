/- The emitter's args and enter. The emitter's args and enter: the walks. The emitter's enter: the walk. What keep records, step by step. No function of the program is walked. slices.Sort of a row of one's own. The emitter's keep: the walk. The emitter's call: the walk. -/
import Derived.Test.YtdnpoomagjcpfaaGreatEmOne
import Derived.Test.YtdnpoomagjcpfaaGreatSortL
import Derived.Shelf.Slices.In.SortNone
import Derived.Lib.OwnBridge
import Derived.BigRegion
import Derived.Deep.Cut
import Derived.Deep.CutRange
import Derived.Deep.DeepCutAuto
import Derived.Deep.CutBlock
namespace Go.Proofs.YtdnpoomagjcpfaaGreat
open Go.RowKit
set_option linter.unusedVariables false
set_option linter.unusedSimpArgs false

section
def stepP (a : AL) (j : Int) (r : Int) (x : EmS × List (Int × Int)) : EmS × List (Int × Int) :=
 if (ofP a r).1 < 0 then (x.1.store (ofP a r).2 j, x.2) else if (ofP a r).1 = 13 then x else (x.1, x.2 ++ [((ofP a r).1, j)])
theorem parsI_snoc (a : AL) (r : Int) : ∀ (l : List Int) (i : Nat) (s : EmS), parsI a i (l ++ [r]) s = stepP a ((i + l.length : Nat) + 1) r (parsI a i l s)
 | [], i, s => by
  show parsI a i [r] s = _
  unfold parsI parsI stepP
  split
  ·rfl
  ·split <;> rfl
 | x :: l, i, s => by
  rw [List.cons_append]
  unfold parsI
  rw [parsI_snoc a r l (i + 1), parsI_snoc a r l (i + 1), List.length_cons, show i + 1 + l.length = i + (l.length + 1) by omega]
  split
  ·rfl
  ·split
   ·rfl
   ·unfold stepP
    split
    ·rfl
    ·split <;> rfl
theorem regArgs_snoc (a : AL) (r : Int) : ∀ (l : List Int) (i : Nat), regArgs a i (l ++ [r]) = regArgs a i l ++ (if 0 ≤ (ofP a r).1 then [(((i + l.length : Nat) : Int) + 1, (ofP a r).1)] else [])
 | [], i => by
  show regArgs a i [r] = _
  unfold regArgs regArgs
  split <;> rfl
 | x :: l, i => by
  rw [List.cons_append]
  unfold regArgs
  rw [regArgs_snoc a r l (i + 1), List.length_cons, show i + 1 + l.length = i + (l.length + 1) by omega]
  by_cases h : 0 ≤ (ofP a x).1
  ·rw [if_pos h, if_pos h]; rfl
  ·rw [if_neg h, if_neg h]
theorem slotArgs_snoc (a : AL) (r : Int) : ∀ (l : List Int) (i : Nat) (s : EmS), slotArgs a i (l ++ [r]) s = if (ofP a r).1 < 0 then (slotArgs a i l s).load (((i + l.length : Nat) : Int) + 1) (ofP a r).2 else slotArgs a i l s
 | [], i, s => by
  show slotArgs a i [r] s = _
  unfold slotArgs slotArgs
  split <;> rfl
 | x :: l, i, s => by
  rw [List.cons_append]
  unfold slotArgs
  rw [slotArgs_snoc a r l (i + 1), List.length_cons, show i + 1 + l.length = i + (l.length + 1) by omega]
theorem fill2I (c0 c1 : Int) (n : Nat) (hn : n = 2) : Instr.fill (fun i => some (i * n, n)) ((Array.range (1 * n)).map ((Value.agg #[.int .i64 0, .int .i64 0]).cells[· % (Value.agg #[.int .i64 0, .int .i64 0]).cells.size]!)) [(0, .agg #[.int .i64 c0, .int .i64 c1])] = some #[.int .i64 c0, .int .i64 c1] := by
 subst hn
 kernel_rfl
section
variable {X : EmE} {ws w w9 : World} {vs v : EmV} {s : EmS} {a : Option Addr} {c : Nat} {l : List (Int × Int)}
/-- the row has grown -/
theorem EmR.push (h : EmR X ws vs w s v a c l) {g c' : Nat} {x : Int × Int} {n : Nat} (h3 : MvR w9 ws.heap.size (some ⟨g, 0, none⟩) c' (l ++ [x])) (hg : w.grownBy w9 (Value.slice a n c).ownBlock) (hat : (Value.slice a n c).ownBlock = some g ∨ g = w.heap.size) : EmR X ws vs w9 s v (some ⟨g, 0, none⟩) c' (l ++ [x]) := by
 have hr := RestS.ofGrown hg
 have e1 := own_len a n l.length c c
 have e2 := own_len a n 0 c c
 rw [e1] at hr hat
 refine ⟨h.m.rest hr (fun q hq => Nat.le_trans h.hws (h.row.lt q hq).1) (fun q hq e => h.ap q (by rw [← e2, e1]; exact e) hq) (fun x hx g hg e => own_noOwn (h.m.sl x hx).1 h.row (by decide) hg e), ⟨hr.os.trans h.rest.os, hr.tape.trans h.rest.tape, hr.output.trans h.rest.output, Nat.le_trans h.rest.size hr.size, fun k hk hs => (hr.block k (Nat.lt_of_lt_of_le hk h.rest.size) fun ht => by have := (h.row.lt k ht).1; omega).trans (h.rest.block k hk hs)⟩, h.sub, h3, fun q hq hS => ?_, h.hws⟩
 have : g = q := by simpa [Value.ownBlock] using hq
 subst this
 rcases hat with e | e
 ·exact h.ap g (by rw [← e2, e1]; exact e) hS
 ·have := (h.m.lt hS).2; omega
theorem EmM.start (h : EmM X w s v) (hX : X.Ok) : EmR X w v w s v none 0 [] :=
 ⟨h, RestS.refl _ _, fun q hq => .inl hq, ⟨rfl, .inl ⟨rfl, rfl⟩⟩, (fun q hq => by simp [Value.ownBlock] at hq), Nat.le_trans hX.hB (Nat.le_trans h.hp (Nat.le_of_lt h.box.lt))⟩
/-- the emitter alone goes on, from the caller's start -/
structure EmG (X : EmE) (ws : World) (vs : EmV) (w : World) (s : EmS) (v : EmV) : Prop where
 m : EmM X w s v
 rest : RestS (vs.S X.p) ws w
 sub : ∀ q, v.S X.p q → vs.S X.p q ∨ ws.heap.size ≤ q
theorem EmSt.split (h : EmSt X vs ws s w) : ∃ v, EmG X ws vs w s v := by
 obtain ⟨v, h1, h2, h3⟩ := h
 exact ⟨v, h1, h2, h3⟩
theorem EmG.next {s' : EmS} {w' : World} (h : EmG X ws vs w s v) (hs : EmSt X v w s' w') : EmSt X vs ws s' w' := EmSt.step h.rest h.sub hs
theorem EmG.done (h : EmG X ws vs w s v) : EmSt X vs ws s w := ⟨v, h.m, h.rest, h.sub⟩
theorem EmG.below {w' : World} (h : EmG X ws vs w s v) (hb : Below w.heap.size w w') : EmG X ws vs w' s v :=
 ⟨h.m.below hb, ⟨hb.os.trans h.rest.os, hb.tape.trans h.rest.tape, hb.output.trans h.rest.output, Nat.le_trans h.rest.size hb.size, fun k hk hs => (hb.block k (Nat.lt_of_lt_of_le hk h.rest.size)).trans (h.rest.block k hk hs)⟩, h.sub⟩
end
theorem regArgs_ne (a : AL) : ∀ (i : Nat) (l : List Int), i + l.length ≤ 12 → ∀ x ∈ regArgs a i l, x.1 ≠ 13
 | i, [], _, x, h => nomatch h
 | i, r :: rs, hl, x, h => by
  simp only [List.length_cons] at hl
  unfold regArgs at h
  split at h
  ·rcases List.mem_cons.mp h with rfl | h
   ·show (i : Int) + 1 ≠ 13; omega
   ·exact regArgs_ne a (i + 1) rs (by omega) x h
  ·exact regArgs_ne a (i + 1) rs (by omega) x h
theorem parsI_ne (a : AL) : ∀ (i : Nat) (l : List Int) (s : EmS), ∀ x ∈ (parsI a i l s).2, x.1 ≠ 13
 | i, [], s, x, h => nomatch h
 | i, r :: rs, s, x, h => by
  unfold parsI at h
  split at h
  ·exact parsI_ne a _ rs _ x h
  ·split at h
   ·exact parsI_ne a _ rs _ x h
   ·rename_i h13
    rcases List.mem_cons.mp h with rfl | h
    ·exact h13
    ·exact parsI_ne a _ rs _ x h
end

section
set_option maxRecDepth 100000 in
set_option maxHeartbeats 8000000 in
theorem args_any (X : EmE) (hX : X.Ok) (w : World) (s : EmS) (v : EmV) (h : EmM X w s v) (sa : Option Addr) (sn sc : Nat) (rs : List Int) (hr : Came X.w0 sa sn sc 1 (rs.map intCells)) (hb : ∀ r ∈ rs, 0 ≤ r ∧ r < X.n) (hn : sn ≤ 6) (ht : s.tot + 60 ≤ 10000000) :
 Calls Tryz.prog 106 #[.pointer (some ⟨X.p, 0, none⟩), .slice sa sn sc] w (EmP X v w (s.args X.a rs)) := by
 have hrl : rs.length = sn := by simpa using hr.count
 have HC : Hid (∀ wx k, Below X.w0.heap.size X.w0 wx → ∀ h : k < rs.length, ∃ g off, sa = some ⟨g, off, none⟩ ∧ g < wx.heap.size ∧ wx.cell? ⟨g, off + k, none⟩ = some (.int .i64 rs[k])) := fun wx k hbx hk => by
  obtain ⟨g, off, ha, hg, hc⟩ := (hr.below hbx).ints (by omega)
  exact ⟨g, off, ha, hg, hc k hk⟩
 have hle := hr.le
 have hmx := hr.max
 have HS := Lib.hid (h.start hX)
 have HX2 := Lib.hid hX
 have HBD := Lib.hid hb
 have HRL := Lib.hid hrl
 have HT := Lib.hid ht
 obtain ⟨sf, hsf⟩ : ∃ sf, sf = s.args X.a rs := ⟨_, rfl⟩
 rw [← hsf]
 have HSF := Lib.hid hsf
 obtain ⟨p, hp⟩ : ∃ p, p = X.p := ⟨_, rfl⟩
 rw [← hp]
 have HP := Lib.hid hp
 clear h hX hr hb hrl ht hsf hp
 obtain ⟨iv, hiv, hzv, hzs, hzy⟩ := info_parts Tryz.info2I
 go_enter Tryz.func106, Tryz.ntmps106
 go_wp2_with fail
 go_loopw [4, 13] (fun u4 u wr => ∃ (k : Nat) (a : Option Addr) (c : Nat) (l : List (Int × Int)), k ≤ sn ∧ u = .int .i64 (k : Int) ∧ u4 = .slice a l.length c ∧ l = regArgs X.a 0 (rs.take k) ∧ EmR X w v wr s v a c l) (fun _ u _ => sn - (intOf u).toNat)
 case atStart => exact ⟨0, none, 0, [], Nat.zero_le _, rfl, rfl, rfl, HS.out⟩
 case round =>
  clear HS
  obtain ⟨k, a, c, l, hk, rfl, rfl, hl, hr⟩ := hrel
  have HR := Lib.hid hr
  have HL := Lib.hid hl
  have hll : l.length ≤ k := by rw [hl]; refine Nat.le_trans (regArgs_len _ _ _) ?_; simp; omega
  by_cases hlt : k < sn
  ·have hki : (k : Int) < (sn : Int) := by omega
   have hkr : k < rs.length := by rw [HRL.out]; exact hlt
   obtain ⟨g, off, rfl, hg, hc⟩ := HC.out wr k hr.m.be hkr
   have HTK : Hid (regArgs X.a 0 (rs.take (k + 1)) = l ++ (if 0 ≤ (ofP X.a rs[k]).1 then [((k : Int) + 1, (ofP X.a rs[k]).1)] else [])) := by
    show _ = _
    rw [List.take_succ_eq_append_getElem hkr, regArgs_snoc, ← hl, List.length_take, Nat.min_eq_left (by omega), Nat.zero_add]
   have hbr := HBD.out rs[k] (List.getElem_mem hkr)
   generalize rs[k] = r at hc HTK hbr
   have HO := Lib.hid (of_any X HX2.out wr s v hr.m r hbr)
   have hq := ofB HX2.out hbr
   rcases hqe : ofP X.a r with ⟨q1, q2⟩
   rw [hqe] at HTK HO hq
   obtain ⟨⟨h1, h2⟩, h3, h4⟩ := hq
   rw [← HP.out] at HO
   dsimp only at HTK HO
   obtain ⟨n0, hn0⟩ : ∃ n0, n0 = l.length := ⟨_, rfl⟩
   rw [← hn0] at hll ⊢
   have HN0 := Lib.hid hn0
   clear hr hl hbr hqe hn0
   go_wp2_with fail
   refine HO.out.mono ?_
   rintro e w1 ⟨rfl, hb⟩
   have hba := hb.alloc hb.size (.cells #[.int .i64 q1, .int .i64 q2] 138)
   have HR1 := Lib.hid (HR.out.below hba)
   have HPB := Lib.hid (Blk.new w1 [.int .i64 q1, .int .i64 q2] 138)
   clear hba hb HO HR hc
   by_cases h0 : 0 ≤ q1
   ·rw [if_pos h0] at HTK
    go_upto_region 5 with fail
    obtain ⟨pb, hpb⟩ : ∃ pb, pb = w1.heap.size := ⟨_, rfl⟩
    rw [← hpb] at HPB ⊢
    clear hpb
    change Code.wp _ _ _ _ (w1.alloc (.cells #[.int .i64 q1, .int .i64 q2] 138))
    generalize w1.alloc (.cells #[.int .i64 q1, .int .i64 q2] 138) = w2 at HR1 HPB ⊢
    have b0 : w2.cell? ⟨pb, 0, none⟩ = some (.int .i64 q1) := HPB.out.cell 0
    have hpl := HPB.out.lt
    have hrow := HR1.out.row
    unfold MvR at hrow
    rw [← HN0.out] at hrow
    have HROW := Lib.hid hrow
    have hnew := (Blk.new w2 [.int .i64 ((k : Int) + 1), .int .i64 q1] 85).cell
    have HNEW := Lib.hid hnew
    have HBW : Hid (w.heap.size ≤ w2.heap.size) := HR1.out.rest.size
    have hk6 : k ≤ 6 := by omega
    clear hnew hrow
    go_wp2_with (first | (refine wpList_buildSlice rfl 74 85 1 _ rfl #[.int .i64 ((k : Int) + 1), .int .i64 q1] iv _ Tryz.underlying74 hiv hzv (by rw [hzs]; decide) (by rw [hzs]; decide) (by rw [Array.toList_map]; exact fill2I ((k : Int) + 1) q1 _ hzs) ?_) | (at_builtin; refine wpList_append_lies _ rfl _ _ 74 rfl w.heap.size 85 iv (.agg #[.int .i64 0, .int .i64 0]) 2 16 Tryz.underlying74 hiv hzv hzs hzy rfl (by decide) _ n0 _ rfl (HROW.out.alloc _) ⟨w2.heap.size, 0, none⟩ 1 1 [.int .i64 ((k : Int) + 1), .int .i64 q1] rfl rfl ?i2 ?i3 (by decide) ?i4 ?i5 ?i6 _ rfl ?_))
    case i2 => intro jj u hju; rw [Addr.add_lit, Nat.zero_add]; exact (HNEW.out jj).trans hju
    case i3 => intro u hu; simp at hu; rcases hu with rfl | rfl <;> rfl
    case i4 => unfold maxLen; omega
    case i5 => omega
    case i6 => rw [World.size_alloc]; have := HBW.out; omega
    intro g9 cap9 w9 ho hg9 hat hlt9
    have hba := (Below.refl w2.heap.size w2).alloc (Nat.le_refl _) (.cells #[.int .i64 ((k : Int) + 1), .int .i64 q1] 85)
    have hown : MvR w9 w.heap.size (some ⟨g9, 0, none⟩) cap9 (l ++ [((k : Int) + 1, q1)]) := by
     unfold MvR
     rw [List.length_append, ← HN0.out, List.flatMap_append]
     simpa [mvC] using ho
    have HR9 := Lib.hid ((HR1.out.below hba).push (n := n0) hown hg9 (by rw [World.size_alloc]; exact hat))
    clear ho hg9 hat hown hba HROW HR1 HPB b0 HNEW HBW hpl
    go_wp2_with fail
    go_roundw
    case rel => exact ⟨k + 1, _, _, _, by omega, by go_num, by rw [List.length_append, ← HN0.out]; rfl, HTK.out.symm, HR9.out⟩
    case measure => simp [intOf]; omega
   ·rw [if_neg h0, List.append_nil] at HTK
    go_wp2_with fail
    go_roundw
    case rel => exact ⟨k + 1, a, c, l, by omega, by go_num, by rw [← HN0.out], HTK.out.symm, HR1.out⟩
    case measure => simp [intOf]; omega
  ·have hle2 : ¬ (k : Int) < (sn : Int) := by omega
   have hkk : rs.take k = rs := List.take_of_length_le (by have := HRL.out; omega)
   rw [hkk] at hl
   have HM := Lib.hid (moves_any X HX2.out w v wr s v a c l.length l hr rfl (by omega) (by rw [hl]; exact regArgs_ne X.a 0 rs (by have := HRL.out; omega)) (by have := HT.out; omega))
   have HMT := moves_tot s l
   have HMT2 : Hid ((s.moves l).tot ≤ s.tot + 20) := by show _ ≤ _; omega
   rw [← HP.out] at HM
   have HLL := Lib.hid hl
   clear hl hr HR HL hkk hll HMT
   go_wp2_with fail
   refine HM.out.mono ?_
   rintro e w2 ⟨rfl, hs⟩
   have HS2 := Lib.hid hs
   clear hs HM
   go_wp2_with fail
   go_loopw [38] (fun u wr => ∃ k : Nat, k ≤ sn ∧ u = .int .i64 (k : Int) ∧ EmSt X v w (slotArgs X.a 0 (rs.take k) (s.moves l)) wr) (fun u _ => sn - (intOf u).toNat)
   case atStart => exact ⟨0, Nat.zero_le _, rfl, HS2.out⟩
   case round =>
    clear HS2
    obtain ⟨k, hk, rfl, hs⟩ := hrel
    obtain ⟨v2, hg2⟩ := hs.split
    obtain ⟨s2, hs2⟩ : ∃ s2, s2 = slotArgs X.a 0 (rs.take k) (s.moves l) := ⟨_, rfl⟩
    rw [← hs2] at hg2
    have hst2 : s2.tot ≤ s.tot + 26 := by
     have h9 := slotArgs_tot X.a 0 (rs.take k) (s.moves l)
     rw [← hs2, List.length_take] at h9
     have := HMT2.out; omega
    have HG2 := Lib.hid hg2
    by_cases hlt : k < sn
    ·have hki : (k : Int) < (sn : Int) := by omega
     have hkr : k < rs.length := by rw [HRL.out]; exact hlt
     obtain ⟨g, off, rfl, hg, hc⟩ := HC.out wr k hg2.m.be hkr
     have HTK : Hid (slotArgs X.a 0 (rs.take (k + 1)) (s.moves l) = if (ofP X.a rs[k]).1 < 0 then s2.load ((k : Int) + 1) (ofP X.a rs[k]).2 else s2) := by
      show _ = _
      rw [List.take_succ_eq_append_getElem hkr, slotArgs_snoc, ← hs2, List.length_take, Nat.min_eq_left (by omega), Nat.zero_add]
     have hbr := HBD.out rs[k] (List.getElem_mem hkr)
     generalize rs[k] = r at hc HTK hbr
     have HO := Lib.hid (of_any X HX2.out wr s2 v2 hg2.m r hbr)
     have hq := ofB HX2.out hbr
     rcases hqe : ofP X.a r with ⟨q1, q2⟩
     rw [hqe] at HTK HO hq
     obtain ⟨⟨h1, h2⟩, h3, h4⟩ := hq
     have HLD := Lib.hid fun wx (hb : Below wr.heap.size wr wx) => load_any X HX2.out wx s2 v2 (hg2.m.below hb) (by have := HT.out; omega) ((k : Int) + 1) q2 (by omega)
     rw [← HP.out] at HO HLD
     dsimp only at HTK HO
     clear hs hg2 hs2 hbr hqe
     go_wp2_with fail
     refine HO.out.mono ?_
     rintro e w3 ⟨rfl, hb⟩
     have HB3 := Lib.hid (hb.alloc hb.size (.cells #[.int .i64 q1, .int .i64 q2] 138))
     clear hb HO hc
     by_cases h0 : q1 < 0
     ·rw [if_pos h0] at HTK
      have hk6 : k ≤ 6 := by omega
      go_wp2_with fail
      refine (HLD.out _ HB3.out).mono ?_
      rintro e w4 ⟨rfl, hs4⟩
      have HS4 := Lib.hid (HG2.out.next (EmSt.ofBelow HB3.out hs4))
      clear hs4 HLD HG2 HB3
      go_wp2_with fail
      go_roundw
      case rel => exact ⟨k + 1, by omega, by go_num, by rw [HTK.out]; exact HS4.out⟩
      case measure => simp [intOf]; omega
     ·rw [if_neg h0] at HTK
      go_wp2_with fail
      go_roundw
      case rel => exact ⟨k + 1, by omega, by go_num, by rw [HTK.out]; exact (HG2.out.below HB3.out).done⟩
      case measure => simp [intOf]; omega
    ·have hle2 : ¬ (k : Int) < (sn : Int) := by omega
     have HKK : Hid (s2 = sf) := by
      show s2 = sf
      rw [hs2, List.take_of_length_le (by have := HRL.out; omega), HLL.out, HSF.out]
      rfl
     clear hs hg2 hs2
     go_wp2_with fail
     refine bodyPost_end (results_none rfl _ _ _) rfl ?_
     rw [← HKK.out]
     exact ⟨rfl, HG2.out.done⟩
end

section
theorem stepP_of {a : AL} {j r q1 q2 : Int} {x : EmS × List (Int × Int)} (h : ofP a r = (q1, q2)) : stepP a j r x = if q1 < 0 then (x.1.store q2 j, x.2) else if q1 = 13 then x else (x.1, x.2 ++ [(q1, j)]) := by unfold stepP; rw [h]
set_option maxRecDepth 100000 in
set_option maxHeartbeats 8000000 in
theorem emEnter_any (X : EmE) (hX : X.Ok) (w : World) (s : EmS) (v : EmV) (h : EmM X w s v) (hb : ∀ r ∈ X.f.params, 0 ≤ r ∧ r < X.n) (hn : X.f.pn ≤ 6) (ht : s.tot + 60 ≤ 10000000) :
 Calls Tryz.prog 60 #[.pointer (some ⟨X.p, 0, none⟩)] w (EmP X v w (s.enter X.a (X.a.k + 1) X.f.params)) := by
 obtain ⟨rs, hrs⟩ : ∃ rs, rs = X.f.params := ⟨_, rfl⟩
 obtain ⟨sn, hsn⟩ : ∃ sn, sn = X.f.pn := ⟨_, rfl⟩
 obtain ⟨sc, hsc⟩ : ∃ sc, sc = X.f.pc := ⟨_, rfl⟩
 obtain ⟨sa, hsa⟩ : ∃ sa, sa = X.f.pa := ⟨_, rfl⟩
 obtain ⟨K, hK⟩ : ∃ K, K = X.a.k := ⟨_, rfl⟩
 have hr := hX.fok.pcame
 have hkb := hX.k
 rw [← hrs, ← hsn, ← hsc, ← hsa] at hr
 rw [← hrs] at hb ⊢
 rw [← hsn] at hn
 rw [← hK] at hkb ⊢
 have hrl : rs.length = sn := by simpa using hr.count
 have HC : Hid (∀ wx k, Below X.w0.heap.size X.w0 wx → ∀ h : k < rs.length, ∃ g off, sa = some ⟨g, off, none⟩ ∧ g < wx.heap.size ∧ wx.cell? ⟨g, off + k, none⟩ = some (.int .i64 rs[k])) := fun wx k hbx hk => by
  obtain ⟨g, off, ha, hg, hc⟩ := (hr.below hbx).ints (by omega)
  exact ⟨g, off, ha, hg, hc k hk⟩
 have hle := hr.le
 have hmx := hr.max
 have HX2 := Lib.hid hX
 have HBD := Lib.hid hb
 have HRL := Lib.hid hrl
 have HT := Lib.hid ht
 have c11 : w.cell? ⟨X.p, 11, none⟩ = some (.int .i64 (K + 1)) := by rw [hK]; exact h.box.cell 11
 have hpl := h.box.lt
 have HCE : Hid (∀ wx s' v', EmM X wx s' v' → wx.cell? ⟨X.p, 1, none⟩ = some (.slice sa sn sc) ∧ wx.cell? ⟨X.p, 11, none⟩ = some (.int .i64 (K + 1)) ∧ X.p < wx.heap.size) := fun wx s' v' h => ⟨by rw [hsa, hsn, hsc]; exact h.box.cell 1, by rw [hK]; exact h.box.cell 11, h.box.lt⟩
 have HO := Lib.hid (op_any X hX w s v h (by omega) 8 14 14 0 (-2 * (K + 1)))
 have HST := Lib.hid fun wx v' (h' : EmM X wx (s.put 8 14 14 0 (-2 * (K + 1))) v') => store_any X hX wx _ v' h' (by rw [put_tot]; omega) K 15 (by omega)
 obtain ⟨sf, hsf⟩ : ∃ sf, sf = s.enter X.a (K + 1) rs := ⟨_, rfl⟩
 rw [← hsf]
 have HSF := Lib.hid hsf
 obtain ⟨s1, hs1⟩ : ∃ s1, s1 = (s.put 8 14 14 0 (-2 * (K + 1))).store K 15 := ⟨_, rfl⟩
 have HS1 := Lib.hid hs1
 have HT1 : Hid (s1.tot = s.tot + 2) := by show _ = _; rw [hs1, store_tot, put_tot]
 obtain ⟨p, hp⟩ : ∃ p, p = X.p := ⟨_, rfl⟩
 rw [← hp] at c11 hpl HO HST HCE ⊢
 have HP := Lib.hid hp
 have HM := Lib.hid h
 have hk1 := hkb.1
 have hk2 := hkb.2
 clear h hX hr hb hrl ht hsf hp hK hrs hsn hsc hsa hkb hs1
 obtain ⟨iv, hiv, hzv, hzs, hzy⟩ := info_parts Tryz.info2I
 go_enter Tryz.func60, Tryz.ntmps60
 go_wp2_with fail
 refine HO.out.mono ?_
 rintro e w1 ⟨rfl, hs⟩
 obtain ⟨v1, hg1⟩ := hs.split
 obtain ⟨c1, c12, hpl1⟩ := HCE.out w1 _ _ hg1.m
 have HG1 := Lib.hid hg1
 have HST1 := Lib.hid (HST.out w1 v1 hg1.m)
 clear hs hg1 HO HST c11
 go_wp2_with fail
 refine HST1.out.mono ?_
 rintro e w2 ⟨rfl, hs⟩
 have hs2 := HG1.out.next hs
 rw [← HS1.out] at hs2
 obtain ⟨v2, hg2⟩ := hs2.split
 obtain ⟨c1, c13, hpl2⟩ := HCE.out w2 _ _ hg2.m
 have HR0 : Hid (EmR X w v w2 s1 v2 none 0 []) := ⟨hg2.m, hg2.rest, hg2.sub, ⟨rfl, .inl ⟨rfl, rfl⟩⟩, (fun q hq => by simp [Value.ownBlock] at hq), HM.out.be.size⟩
 clear hs hs2 hg2 HST1 HG1 c12 c13
 go_wp2_with fail
 go_loopw [2, 28] (fun u4 u wr => ∃ (k : Nat) (a : Option Addr) (c : Nat) (s' : EmS) (v' : EmV) (l : List (Int × Int)), k ≤ sn ∧ u = .int .i64 (k : Int) ∧ u4 = .slice a l.length c ∧ (s', l) = parsI X.a 0 (rs.take k) s1 ∧ EmR X w v wr s' v' a c l) (fun _ u _ => sn - (intOf u).toNat)
 case atStart => exact ⟨0, none, 0, s1, v2, [], Nat.zero_le _, rfl, rfl, rfl, HR0.out⟩
 case round =>
  clear HR0 c1
  obtain ⟨k, a, c, s', v', l, hk, rfl, rfl, hl, hr⟩ := hrel
  have HR := Lib.hid hr
  have HL := Lib.hid hl
  have hpt := parsI_tot X.a 0 (rs.take k) s1
  rw [← hl, HT1.out, List.length_take] at hpt
  obtain ⟨hpt1, hpt2⟩ := hpt
  dsimp only at hpt1 hpt2
  have hll : l.length ≤ k := by omega
  have HTS : Hid (s'.tot ≤ s.tot + 10) := by show _ ≤ _; omega
  by_cases hlt : k < sn
  ·have hki : (k : Int) < (sn : Int) := by omega
   have hkr : k < rs.length := by rw [HRL.out]; exact hlt
   obtain ⟨g, off, rfl, hg, hc⟩ := HC.out wr k hr.m.be hkr
   have HTK : Hid (parsI X.a 0 (rs.take (k + 1)) s1 = stepP X.a ((k : Int) + 1) rs[k] (s', l)) := by
    show _ = _
    rw [List.take_succ_eq_append_getElem hkr, parsI_snoc, ← hl, List.length_take, Nat.min_eq_left (by omega), Nat.zero_add]
   have hbr := HBD.out rs[k] (List.getElem_mem hkr)
   generalize rs[k] = r at hc HTK hbr
   have HO := Lib.hid (of_any X HX2.out wr s' v' hr.m r hbr)
   have hq := ofB HX2.out hbr
   rcases hqe : ofP X.a r with ⟨q1, q2⟩
   rw [stepP_of hqe] at HTK
   rw [hqe] at HO hq
   obtain ⟨⟨h1, h2⟩, h3, h4⟩ := hq
   have HLD := Lib.hid fun wx (hb : Below wr.heap.size wr wx) => store_any X HX2.out wx s' v' (hr.m.below hb) (by have := HT.out; have := HTS.out; omega) q2 ((k : Int) + 1) (by omega)
   rw [← HP.out] at HO HLD
   dsimp only at HTK HO
   obtain ⟨n0, hn0⟩ : ∃ n0, n0 = l.length := ⟨_, rfl⟩
   rw [← hn0] at hll hpt2 ⊢
   have HN0 := Lib.hid hn0
   have hk6 : k ≤ 6 := by omega
   clear hr hl hbr hqe hn0 hpt1 hpt2
   go_wp2_with fail
   refine HO.out.mono ?_
   rintro e w3 ⟨rfl, hb⟩
   have HB3 := Lib.hid (hb.alloc hb.size (.cells #[.int .i64 q1, .int .i64 q2] 138))
   have HPB := Lib.hid (Blk.new w3 [.int .i64 q1, .int .i64 q2] 138)
   clear hb HO hc
   by_cases h0 : q1 < 0
   ·rw [if_pos h0] at HTK
    go_wp2_with fail
    refine (HLD.out _ HB3.out).mono ?_
    rintro e w4 ⟨rfl, hs4⟩
    obtain ⟨v4, hr4, _⟩ := EmR.step (HR.out.below HB3.out) hs4
    have HR4 := Lib.hid hr4
    clear hs4 hr4 HLD HR HB3 HPB
    go_wp2_with fail
    go_roundw
    case rel => exact ⟨k + 1, a, c, _, v4, l, by omega, by go_num, by rw [← HN0.out], HTK.out.symm, HR4.out⟩
    case measure => simp [intOf]; omega
   ·rw [if_neg h0] at HTK
    by_cases h13 : q1 = 13
    ·rw [if_pos h13] at HTK
     have h13b : (q1 == 13) = true := beq_iff_eq.2 h13
     clear h13
     go_wp2_with fail
     go_roundw
     case rel => exact ⟨k + 1, a, c, s', v', l, by omega, by go_num, by rw [← HN0.out], HTK.out.symm, HR.out.below HB3.out⟩
     case measure => simp [intOf]; omega
    ·rw [if_neg h13] at HTK
     have h13b : (q1 == 13) = false := beq_eq_false_iff_ne.2 h13
     have HR1 := Lib.hid (HR.out.below HB3.out)
     clear HLD HR HB3 h13
     go_upto_region 7 with fail
     obtain ⟨pb, hpb⟩ : ∃ pb, pb = w3.heap.size := ⟨_, rfl⟩
     rw [← hpb] at HPB ⊢
     clear hpb
     change Code.wp _ _ _ _ (w3.alloc (.cells #[.int .i64 q1, .int .i64 q2] 138))
     generalize w3.alloc (.cells #[.int .i64 q1, .int .i64 q2] 138) = w2 at HR1 HPB ⊢
     have b0 : w2.cell? ⟨pb, 0, none⟩ = some (.int .i64 q1) := HPB.out.cell 0
     have hpl := HPB.out.lt
     have hrow := HR1.out.row
     unfold MvR at hrow
     rw [← HN0.out] at hrow
     have HROW := Lib.hid hrow
     have hnew := (Blk.new w2 [.int .i64 q1, .int .i64 ((k : Int) + 1)] 85).cell
     have HNEW := Lib.hid hnew
     have HBW : Hid (w.heap.size ≤ w2.heap.size) := HR1.out.rest.size
     clear hnew hrow
     go_wp2_with (first | (refine wpList_buildSlice rfl 74 85 1 _ rfl #[.int .i64 q1, .int .i64 ((k : Int) + 1)] iv _ Tryz.underlying74 hiv hzv (by rw [hzs]; decide) (by rw [hzs]; decide) (by rw [Array.toList_map]; exact fill2I q1 ((k : Int) + 1) _ hzs) ?_) | (at_builtin; refine wpList_append_lies _ rfl _ _ 74 rfl w.heap.size 85 iv (.agg #[.int .i64 0, .int .i64 0]) 2 16 Tryz.underlying74 hiv hzv hzs hzy rfl (by decide) _ n0 _ rfl (HROW.out.alloc _) ⟨w2.heap.size, 0, none⟩ 1 1 [.int .i64 q1, .int .i64 ((k : Int) + 1)] rfl rfl ?i2 ?i3 (by decide) ?i4 ?i5 ?i6 _ rfl ?_))
     case i2 => intro jj u hju; rw [Addr.add_lit, Nat.zero_add]; exact (HNEW.out jj).trans hju
     case i3 => intro u hu; simp at hu; rcases hu with rfl | rfl <;> rfl
     case i4 => unfold maxLen; omega
     case i5 => omega
     case i6 => rw [World.size_alloc]; have := HBW.out; omega
     intro g9 cap9 w9 ho hg9 hat hlt9
     have hba := (Below.refl w2.heap.size w2).alloc (Nat.le_refl _) (.cells #[.int .i64 q1, .int .i64 ((k : Int) + 1)] 85)
     have hown : MvR w9 w.heap.size (some ⟨g9, 0, none⟩) cap9 (l ++ [(q1, (k : Int) + 1)]) := by
      unfold MvR
      rw [List.length_append, ← HN0.out, List.flatMap_append]
      simpa [mvC] using ho
     have HR9 := Lib.hid ((HR1.out.below hba).push (n := n0) hown hg9 (by rw [World.size_alloc]; exact hat))
     clear ho hg9 hat hown hba HROW HR1 HPB b0 HNEW HBW hpl
     go_wp2_with fail
     go_roundw
     case rel => exact ⟨k + 1, _, _, _, _, _, by omega, by go_num, by rw [List.length_append, ← HN0.out]; rfl, HTK.out.symm, HR9.out⟩
     case measure => simp [intOf]; omega
  ·have hle2 : ¬ (k : Int) < (sn : Int) := by omega
   have hkk : rs.take k = rs := List.take_of_length_le (by have := HRL.out; omega)
   rw [hkk] at hl
   have HM := Lib.hid (moves_any X HX2.out w v wr s' v' a c l.length l hr rfl (by omega) (by have := parsI_ne X.a 0 rs s1; rw [← hl] at this; exact this) (by have := HT.out; have := HTS.out; omega))
   have HE : Hid (s'.moves l = sf) := by
    show _ = _
    rw [HSF.out]
    unfold EmS.enter
    rw [show (K + 1 - 1 : Int) = K by omega, ← HS1.out, ← hl]
   rw [← HP.out, HE.out] at HM
   clear hl hr HR HL hkk
   go_wp2_with fail
   refine HM.out.mono ?_
   rintro e w2 ⟨rfl, hs⟩
   go_wp2_with fail
   refine bodyPost_end (results_none rfl _ _ _) rfl ?_
   exact ⟨rfl, hs⟩
end

section
def stepKM (a : AL) (L : Nat → Bool) (after : Bool) (x : Nat × List Nat) (r : Nat) : Nat × List Nat :=
 if L r = true ∧ r ≠ 0 then
  if 0 < (ofP a r).1 ∧ after = false then (x.1 ||| 1 <<< (ofP a r).1.toNat, x.2)
  else if (ofP a r).1 < 0 ∧ (ofP a r).2.toNat ∉ x.2 then (x.1, x.2 ++ [(ofP a r).2.toNat]) else x
 else x
def foldK (a : AL) (L : Nat → Bool) (after : Bool) (more n : Nat) : Nat × List Nat := (List.range n).foldl (stepKM a L after) (more, [])
theorem foldK_succ (a : AL) (L : Nat → Bool) (after : Bool) (more n : Nat) : foldK a L after more (n + 1) = stepKM a L after (foldK a L after more n) n := by
 unfold foldK
 rw [List.range_succ, List.foldl_append]
 rfl
theorem foldK_regs (a : AL) (L : Nat → Bool) (after : Bool) (more : Nat) : ∀ n, (foldK a L after more n).1 = (List.range n).foldl (fun b r => if L r = true ∧ r ≠ 0 ∧ 0 < (ofP a r).1 ∧ after = false then b ||| 1 <<< (ofP a r).1.toNat else b) more
 | 0 => rfl
 | n + 1 => by
  rw [foldK_succ, List.range_succ, List.foldl_append, ← foldK_regs a L after more n]
  show (stepKM a L after (foldK a L after more n) n).1 = if _ then _ else _
  unfold stepKM
  by_cases h : L n = true ∧ n ≠ 0
  ·rw [if_pos h]
   by_cases h2 : 0 < (ofP a n).1 ∧ after = false
   ·rw [if_pos h2, if_pos ⟨h.1, h.2, h2.1, h2.2⟩]
   ·have h3 : ¬ (L n = true ∧ n ≠ 0 ∧ 0 < (ofP a n).1 ∧ after = false) := fun h' => h2 ⟨h'.2.2.1, h'.2.2.2⟩
    rw [if_neg h2, if_neg h3]
    split <;> rfl
  ·have h3 : ¬ (L n = true ∧ n ≠ 0 ∧ 0 < (ofP a n).1 ∧ after = false) := fun h' => h ⟨h'.1, h'.2.1⟩
   rw [if_neg h, if_neg h3]
def useK (a : AL) (L : Nat → Bool) (r t : Nat) : Prop := L r = true ∧ r ≠ 0 ∧ (ofP a r).1 < 0 ∧ (ofP a r).2.toNat = t
theorem foldK_slots (a : AL) (L : Nat → Bool) (after : Bool) (more : Nat) : ∀ n, (foldK a L after more n).2.Nodup ∧ ∀ t, t ∈ (foldK a L after more n).2 ↔ ∃ r, r < n ∧ useK a L r t
 | 0 => ⟨List.nodup_nil, fun t => ⟨(fun h => nomatch h), fun ⟨r, h, _⟩ => absurd h (Nat.not_lt_zero _)⟩⟩
 | n + 1 => by
  obtain ⟨h1, h2⟩ := foldK_slots a L after more n
  rw [foldK_succ]
  generalize foldK a L after more n = x at h1 h2
  have old : ∀ t, ¬ useK a L n t → ((∃ r, r < n ∧ useK a L r t) ↔ ∃ r, r < n + 1 ∧ useK a L r t) := fun t hn => ⟨fun ⟨r, hr, hu⟩ => ⟨r, by omega, hu⟩, fun ⟨r, hr, hu⟩ => ⟨r, by
   rcases Nat.lt_or_ge r n with h | h
   ·exact h
   ·have : r = n := by omega
    subst this; exact absurd hu hn, hu⟩⟩
  unfold stepKM
  split
  ·rename_i hL
   split
   ·rename_i hp
    exact ⟨h1, fun t => (h2 t).trans (old t fun hu => by have := hu.2.2.1; omega)⟩
   ·split
    ·rename_i hq
     refine ⟨List.nodup_append.mpr ⟨h1, by simp, fun y hy z hz => ?_⟩, fun t => ?_⟩
     ·rw [List.mem_singleton.mp hz]
      intro e
      rw [e] at hy; exact hq.2 hy
     ·rw [List.mem_append, h2 t, List.mem_singleton]
      refine ⟨fun h => ?_, fun ⟨r, hr, hu⟩ => ?_⟩
      ·rcases h with ⟨r, hr, hu⟩ | rfl
       ·exact ⟨r, by omega, hu⟩
       ·exact ⟨n, by omega, hL.1, hL.2, hq.1, rfl⟩
      ·rcases Nat.lt_or_ge r n with h | h
       ·exact .inl ⟨r, h, hu⟩
       ·have : r = n := by omega
        subst this; exact .inr hu.2.2.2.symm
    ·rename_i hq
     refine ⟨h1, fun t => ?_⟩
     by_cases hu : useK a L n t
     ·have hm : t ∈ x.2 := by
       refine Classical.byContradiction fun hn => hq ⟨hu.2.2.1, ?_⟩
       rw [hu.2.2.2]; exact hn
      exact ⟨fun _ => ⟨n, by omega, hu⟩, fun _ => hm⟩
     ·exact (h2 t).trans (old t hu)
  ·rename_i hL
   exact ⟨h1, fun t => (h2 t).trans (old t fun hu => hL ⟨hu.1, hu.2.1⟩)⟩
/-- two rising lists of the same numbers are one -/
theorem rise_eq : ∀ (l m : List Nat), l.Pairwise (· < ·) → m.Pairwise (· < ·) → (∀ t, t ∈ l ↔ t ∈ m) → l = m
 | [], [], _, _, _ => rfl
 | [], y :: m, _, _, h => absurd ((h y).mpr (by simp)) (by simp)
 | x :: l, [], _, _, h => absurd ((h x).mp (by simp)) (by simp)
 | x :: l, y :: m, hl, hm, h => by
  obtain ⟨h1, h2⟩ := List.pairwise_cons.mp hl
  obtain ⟨g1, g2⟩ := List.pairwise_cons.mp hm
  have e : x = y := by
   rcases List.mem_cons.mp ((h x).mp (by simp)) with e | e
   ·exact e
   ·rcases List.mem_cons.mp ((h y).mpr (by simp)) with e2 | e2
    ·exact e2.symm
    ·have := g1 x e; have := h1 y e2; omega
  subst e
  rw [rise_eq l m h2 g2 fun t => ⟨fun ht => ?_, fun ht => ?_⟩]
  ·rcases List.mem_cons.mp ((h t).mp (List.mem_cons_of_mem _ ht)) with e | e
   ·have := h1 t ht; omega
   ·exact e
  ·rcases List.mem_cons.mp ((h t).mpr (List.mem_cons_of_mem _ ht)) with e | e
   ·have := g1 t ht; omega
   ·exact e
/-- what is recorded, once the slots are sorted -/
theorem mapP_fold {a : AL} {n k item : Nat} {after : Bool} {L : Nat → Bool} {more : Nat} {sl : List Nat} (hk : ∀ r, r < n → (ofP a r).1 < 0 → 0 ≤ (ofP a r).2 ∧ (ofP a r).2 < k) (hs : sl.Pairwise (· < ·)) (hm : ∀ t, t ∈ sl ↔ t ∈ (foldK a L after more n).2) :
  mapP a n k item after L more = ⟨item, after, sl, (foldK a L after more n).1⟩ := by
 unfold mapP
 rw [foldK_regs]
 congr 1
 refine rise_eq _ _ ?_ hs fun t => ?_
 ·exact List.Pairwise.filter _ List.pairwise_lt_range
 ·rw [hm t, (foldK_slots a L after more n).2 t, List.mem_filter, List.mem_range, List.any_eq_true]
  refine ⟨fun ⟨h1, r, hr, h2⟩ => ?_, fun ⟨r, hr, hu⟩ => ?_⟩
  ·have h3 : L r = true ∧ r ≠ 0 ∧ (ofP a r).1 < 0 ∧ (ofP a r).2 = (t : Int) := by simpa [and_assoc] using h2
   exact ⟨r, List.mem_range.mp hr, h3.1, h3.2.1, h3.2.2.1, by rw [h3.2.2.2]; rfl⟩
  ·obtain ⟨h1, h2, h3, h4⟩ := hu
   have := hk r hr h3
   refine ⟨by omega, r, List.mem_range.mpr hr, ?_⟩
   have h5 : (ofP a r).2 = (t : Int) := by omega
   simp [h1, h2, h3, h5]
end

section
def SortPostI (base : Nat) (a : Option Addr) (n c : Nat) (zs : List Int) (w : World) (e : Ending) (w' : World) : Prop :=
 e = .returned (.tuple #[]) ∧ w'.ownsRow base 3 1 (.slice a n c) n ((zs.mergeSort fun x y => decide (x ≤ y)).map (Value.int .i64)) ∧ RestS (fun k => (Value.slice a n c).ownBlock = some k) w w'
theorem sort_ints (w : World) (base : Nat) (a : Option Addr) (n c : Nat) (zs : List Int) (h : w.ownsRow base 3 1 (.slice a n c) n (zs.map (Value.int .i64))) (hn : n ≤ 10000) : Calls Tryz.prog 107 #[.slice a n c] w (SortPostI base a n c zs w) := by
 have hl : zs.length = n := by simpa using h.1
 rcases h.2 with ⟨e0, hn0⟩ | ⟨g, cap, cur, hv, hb, hg, hnc, hm, hs, ht⟩
 ·injection e0 with e1 _ e3
  subst e1 e3 hn0
  have hz : zs = [] := List.eq_nil_of_length_eq_zero hl
  subst hz
  refine (Any.slices_Sort_int_none Tryz.lays189 none 0 w).mono ?_
  rintro e w' ⟨rfl, rfl⟩
  exact ⟨rfl, by simpa using h, RestS.refl _ _⟩
 ·obtain ⟨g', cap', hv', hb', hlt, _, _, _, hH⟩ := Lib.holds_of_ownsRow h (by rw [hv]; intro e; cases e)
  injection hv' with e1 _ e3
  subst e1 e3
  have hc := Tryz.slices_Sort_int g' 0 c zs w hH hlt (by omega)
  rw [hl] at hc
  refine hc.mono ?_
  rintro e w' ⟨rfl, q, os, rfl⟩
  have h1 := Lib.ownsRow_putRow (q := q) (k := n) (ys := zs.mergeSort fun x y => decide (x ≤ y)) h (by rw [List.length_mergeSort]; exact hl) (Nat.le_refl _)
  rw [List.take_of_length_le (by rw [List.length_mergeSort]; omega)] at h1
  have hgr : ∀ (W : World), Below W.heap.size W (Go.Sort.grow W os) := fun W => ⟨rfl, rfl, rfl, by simp [Go.Sort.grow], fun k hk => by simp [Go.Sort.grow, Array.getElem?_append, hk]⟩
  refine ⟨rfl, ownG_below h1 (hgr _), ⟨rfl, rfl, rfl, by simp [Go.Sort.grow, Go.Sort.putRow, Go.Sort.mapBlock, Go.Sort.ahead], fun k hk hne => ?_⟩⟩
  rw [(hgr _).block k (by simpa [Go.Sort.putRow, Go.Sort.mapBlock, Go.Sort.ahead] using hk)]
  have : g' ≠ k := fun e => hne (by rw [e]; rfl)
  simp [Go.Sort.putRow, Go.Sort.mapBlock, Go.Sort.ahead, Array.getElem?_modify, this]
/-- the slots, sorted: rising, and the same numbers -/
theorem sorted_slots (sl : List Nat) (h : sl.Nodup) : ∃ ss : List Nat, (sl.map fun (t : Nat) => (t : Int)).mergeSort (fun x y => decide (x ≤ y)) = ss.map (fun (t : Nat) => (t : Int)) ∧ ss.Pairwise (· < ·) ∧ (∀ t, t ∈ ss ↔ t ∈ sl) ∧ ss.length = sl.length := by
 have hp := List.mergeSort_perm (sl.map fun (t : Nat) => (t : Int)) (fun x y => decide (x ≤ y))
 have hs := List.pairwise_mergeSort (le := fun (x y : Int) => decide (x ≤ y)) (fun a b c h1 h2 => by simp only [decide_eq_true_eq] at *; omega) (fun a b => by simp only [Bool.or_eq_true, decide_eq_true_eq]; omega) (sl.map fun (t : Nat) => (t : Int))
 generalize (sl.map fun (t : Nat) => (t : Int)).mergeSort (fun x y => decide (x ≤ y)) = zs at hp hs
 have hz : ∀ z ∈ zs, 0 ≤ z := fun z hz => by
  obtain ⟨t, _, rfl⟩ := List.mem_map.mp (hp.mem_iff.mp hz)
  omega
 have hmap : zs = (zs.map Int.toNat).map fun (t : Nat) => (t : Int) := by
  rw [List.map_map]
  refine (List.map_id zs).symm.trans (List.map_congr_left fun z h => ?_)
  have := hz z h
  show z = ((z.toNat : Nat) : Int)
  omega
 have hnd : (zs.map Int.toNat).Nodup := by
  have h1 : (zs.map Int.toNat).Perm sl := by
   have := hp.map Int.toNat
   rw [List.map_map] at this
   rw [show sl = sl.map (Int.toNat ∘ fun (t : Nat) => (t : Int)) from (List.map_id sl).symm.trans (List.map_congr_left fun t _ => rfl)]
   exact this
  exact h1.nodup_iff.mpr h
 refine ⟨zs.map Int.toNat, hmap, ?_, fun t => ?_, ?_⟩
 ·rw [List.pairwise_map]
  have hnd2 : zs.Pairwise fun x y => x.toNat ≠ y.toNat := List.pairwise_map.mp hnd
  refine (hs.and hnd2).imp_of_mem fun ha hb hab => ?_
  have h1 := hz _ ha
  have h2 := hz _ hb
  have h3 := hab.1
  have h4 := hab.2
  simp only [decide_eq_true_eq] at h3
  omega
 ·rw [List.mem_map]
  refine ⟨fun ⟨z, hz1, e⟩ => ?_, fun ht => ⟨(t : Int), hp.mem_iff.mpr (List.mem_map.mpr ⟨t, ht, rfl⟩), rfl⟩⟩
  obtain ⟨u, hu, rfl⟩ := List.mem_map.mp (hp.mem_iff.mp hz1)
  have : u = t := e
  rwa [← this]
 ·rw [List.length_map, hp.length_eq, List.length_map]
end

section
/-- a bit is joined to a register set -/
theorem or_bit (b k : Nat) (hb : b < 65536) (hk : k < 16) : bits .or .i64 (b : Int) ((1 <<< k : Nat) : Int) = ((b ||| 1 <<< k : Nat) : Int) := by
 have h1 : (1 <<< k : Nat) < 65536 := by rw [Nat.one_shiftLeft]; exact Nat.pow_lt_pow_right (by omega) (by omega : k < 16)
 have h2 : b ||| 1 <<< k < 65536 := Nat.or_lt_two_pow (n := 16) hb h1
 generalize 1 <<< k = m at h1 h2 ⊢
 have e1 : (BitVec.ofInt 64 (b : Int)).toNat = b := by rw [ofInt_i64]; omega
 have e2 : (BitVec.ofInt 64 (m : Int)).toNat = m := by rw [ofInt_i64]; omega
 show IntKind.i64.wrap ((BitVec.ofInt 64 (b : Int) ||| BitVec.ofInt 64 (m : Int)).toNat : Nat) = _
 rw [BitVec.toNat_or, e1, e2, IntKind.wrap_i64]
 omega
theorem or_bit2 {b k : Nat} (hb : b < 65536) (hk : k ≤ 13) : bits .or .i64 (b : Int) (wrap64 (2 ^ k)) = ((b ||| 1 <<< k : Nat) : Int) ∧ b ||| 1 <<< k < 65536 := by
 have h1 : (1 <<< k : Nat) < 65536 := by rw [Nat.one_shiftLeft]; exact Nat.pow_lt_pow_right (by omega) (by omega : k < 16)
 have h2 : wrap64 (2 ^ k) = ((1 <<< k : Nat) : Int) := by
  have h3 : (2 : Int) ^ k = ((1 <<< k : Nat) : Int) := by rw [Nat.one_shiftLeft]; simp
  rw [h3]; generalize 1 <<< k = m at h1 ⊢; unfold wrap64; omega
 exact ⟨by rw [h2]; exact or_bit b k hb (by omega), Nat.or_lt_two_pow (n := 16) hb h1⟩
theorem ofP_neg {a : AL} {r : Int} (h : (ofP a r).1 < 0) : 0 ≤ (ofP a r).2 := by
 unfold ofP at h ⊢
 split at h
 ·exact absurd h (by decide)
 ·rename_i h1
  rw [if_neg h1]
  split at h
  ·rename_i h2; exact absurd h (by show ¬ (a.reg.getD r.toNat 0 < 0); omega)
  ·rename_i h2
   rw [if_neg h2]
   split at h
   ·rename_i h3; rw [if_pos h3]; exact h3
   ·exact absurd h (by decide)
theorem cont_slots (sl : List Nat) (q : Int) (h : 0 ≤ q) : (sl.map fun (t : Nat) => (t : Int)).contains q = decide (q.toNat ∈ sl) := by
 rw [Bool.eq_iff_iff, List.contains_iff_mem, decide_eq_true_eq, List.mem_map]
 refine ⟨fun ⟨t, ht, e⟩ => ?_, fun ht => ⟨q.toNat, ht, by omega⟩⟩
 rw [← e]; exact ht
theorem foldK_len (a : AL) (L : Nat → Bool) (after : Bool) (more : Nat) : ∀ n, (foldK a L after more n).2.length ≤ n
 | 0 => Nat.le_refl _
 | n + 1 => by
  have := foldK_len a L after more n
  rw [foldK_succ]
  unfold stepKM
  split
  ·split
   ·show (foldK a L after more n).2.length ≤ n + 1; omega
   ·split
    ·show ((foldK a L after more n).2 ++ _).length ≤ n + 1; rw [List.length_append, List.length_singleton]; omega
    ·omega
  ·omega
def kxC (item : Int) (after : Bool) (sa : Option Addr) (sn sc : Nat) (regs : Nat) : List Value := [.int .i64 item, .bool after, .slice sa sn sc, .int .i64 (regs : Int)]
/-- keep's map while it is made -/
structure KpM (X : EmE) (L : Nat → Bool) (w wr : World) (xb : Nat) (item : Int) (after : Bool) (more r : Nat) (sa : Option Addr) (sc : Nat) (regs : Nat) (sl : List Nat) : Prop where
 be : Below w.heap.size w wr
 box : Blk wr xb 50 (kxC item after sa sl.length sc regs)
 own : wr.ownsRow w.heap.size 3 1 (.slice sa sl.length sc) sl.length ((sl.map fun (t : Nat) => (t : Int)).map (Value.int .i64))
 eq : (regs, sl) = foldK X.a L after more r
 rb : regs < 65536
 lb : w.heap.size ≤ xb
theorem Tryz.infoLM : (Tryz.prog.info? 50).map (fun i => (i.zero, i.size, i.bytes)) = some (some (.agg #[.int .i64 0, .bool false, .slice none 0 0, .int .i64 0]), 4, 48) := by kernel_rfl
set_option maxRecDepth 100000 in
set_option maxHeartbeats 8000000 in
theorem keep_any (X : EmE) (hX : X.Ok) (w : World) (s : EmS) (v : EmV) (h : EmM X w s v) (item : Nat) (after : Bool) (lg lc n : Nat) (L : Nat → Bool) (hL : ∀ r, r < n → w.cell? ⟨lg, r, none⟩ = some (.bool (L r))) (hlg : lg < w.heap.size) (hn : n = X.n) (hlc : n ≤ lc ∧ lc ≤ 9223372036854775807) (more : Nat) (hm : more < 65536) (ht : s.tot + 2 ≤ 10000000) :
 Calls Tryz.prog 88 #[.pointer (some ⟨X.p, 0, none⟩), .int .i64 (item : Int), .bool after, .slice (some ⟨lg, 0, none⟩) n lc, .int .i64 (more : Int)] w (EmP X v w (s.keep X.a X.n X.a.k.toNat item after L more)) := by
 obtain ⟨p, hp⟩ : ∃ p, p = X.p := ⟨_, rfl⟩
 rw [← hp]
 obtain ⟨xb, hxb⟩ : ∃ xb, xb = w.heap.size := ⟨_, rfl⟩
 have hba : Below w.heap.size w (w.alloc (.cells #[.int .i64 (item : Int), .bool after, .slice none 0 0, .int .i64 (more : Int)] 50)) := (Below.refl _ _).alloc (Nat.le_refl _) _
 have HBX := Blk.new w [.int .i64 (item : Int), .bool after, .slice none 0 0, .int .i64 (more : Int)] 50
 rw [← hxb] at HBX
 have HK0 : Hid (KpM X L w (w.alloc (.cells #[.int .i64 (item : Int), .bool after, .slice none 0 0, .int .i64 (more : Int)] 50)) xb item after more 0 none 0 more []) := ⟨hba, HBX, ⟨rfl, .inl ⟨rfl, rfl⟩⟩, rfl, hm, by omega⟩
 obtain ⟨sf, hsf⟩ : ∃ sf, sf = s.keep X.a X.n X.a.k.toNat item after L more := ⟨_, rfl⟩
 rw [← hsf]
 have HSF := Lib.hid hsf
 have HP := Lib.hid hp
 have HN := Lib.hid hn
 have HM := Lib.hid h
 have HX2 := Lib.hid hX
 have HL := Lib.hid hL
 have hlc1 := hlc.1
 have hlc2 := hlc.2
 have hn8 : n ≤ 8192 := by rw [hn]; exact hX.n
 have HT := Lib.hid ht
 obtain ⟨i1, hi1, hy0, hy1, hy2⟩ : ∃ i, Tryz.prog.info? 3 = some i ∧ i.zero = some (.int .i64 0) ∧ i.size = 1 ∧ i.bytes = 8 := info_partsV (by kernel_rfl)
 clear hsf hp hn h hX hL hlc ht hba HBX hm
 go_enter Tryz.func88, Tryz.ntmps88
 go_upto_region 1 with fail
 rw [← hxb]
 clear hxb
 change Code.wp _ _ _ _ (w.alloc (.cells #[.int .i64 (item : Int), .bool after, .slice none 0 0, .int .i64 (more : Int)] 50))
 generalize w.alloc (.cells #[.int .i64 (item : Int), .bool after, .slice none 0 0, .int .i64 (more : Int)] 50) = w1 at HK0 ⊢
 go_wp2_with fail
 go_loopw [20] (fun u wr => ∃ (r : Nat) (sa : Option Addr) (sc regs : Nat) (sl : List Nat), r ≤ n ∧ u = .int .i64 (r : Int) ∧ KpM X L w wr xb item after more r sa sc regs sl) (fun u _ => n - (intOf u).toNat)
 case atStart => exact ⟨0, none, 0, more, [], Nat.zero_le _, rfl, HK0.out⟩
 case round =>
  clear HK0
  obtain ⟨r, sa, sc, regs, sl, hr, rfl, hk⟩ := hrel
  have HK := Lib.hid hk
  have hlgr : lg < wr.heap.size := Nat.lt_of_lt_of_le hlg hk.be.size
  by_cases hlt : r < n
  ·have hri : (r : Int) < (n : Int) := by omega
   have l0 := (hk.be.cell (p := ⟨lg, r, none⟩) hlg).trans (HL.out r hlt)
   obtain ⟨lv, hlv⟩ : ∃ lv, lv = L r := ⟨_, rfl⟩
   rw [← hlv] at l0
   have HFS : Hid (foldK X.a L after more (r + 1) = stepKM X.a L after (regs, sl) r) := by show _ = _; rw [foldK_succ, ← hk.eq]
   have HLV := Lib.hid hlv
   have hx0 := hk.box.lt
   clear hlv hk
   cases lv with
   | false =>
    go_wp2_with fail
    go_roundw
    case rel => exact ⟨r + 1, sa, sc, regs, sl, by omega, by go_num, ⟨HK.out.be, HK.out.box, HK.out.own, by rw [HFS.out]; unfold stepKM; rw [if_neg (by rw [← HLV.out]; simp)], HK.out.rb, HK.out.lb⟩⟩
    case measure => simp [intOf]; omega
   | true =>
    by_cases hr0 : r = 0
    ·subst hr0
     go_wp2_with fail
     go_roundw
     case rel => exact ⟨0 + 1, sa, sc, regs, sl, by omega, by go_num, ⟨HK.out.be, HK.out.box, HK.out.own, by rw [HFS.out]; unfold stepKM; rw [if_neg (by simp)], HK.out.rb, HK.out.lb⟩⟩
     case measure => simp [intOf]; omega
    ·have hr0b : (((r : Nat) : Int) == 0) = false := beq_eq_false_iff_ne.2 (by omega)
     have hrX : 0 ≤ (r : Int) ∧ (r : Int) < X.n := by have := HN.out; omega
     have HO := Lib.hid (of_any X HX2.out wr s v (HM.out.below HK.out.be) r hrX)
     have hq := ofB HX2.out hrX
     have HST : Hid (stepKM X.a L after (regs, sl) r = if 0 < (ofP X.a r).1 ∧ after = false then (regs ||| 1 <<< (ofP X.a r).1.toNat, sl) else if (ofP X.a r).1 < 0 ∧ (ofP X.a r).2.toNat ∉ sl then (regs, sl ++ [(ofP X.a r).2.toNat]) else (regs, sl)) := by
      show _ = _; unfold stepKM; rw [if_pos ⟨HLV.out.symm, hr0⟩]
     have hneg := ofP_neg (a := X.a) (r := (r : Int))
     rcases hqe : ofP X.a r with ⟨q1, q2⟩
     rw [hqe] at HST HO hq hneg
     rw [← HP.out] at HO
     dsimp only at HST HO hq hneg
     have HNG := Lib.hid hneg
     clear hneg
     obtain ⟨⟨h1, h2⟩, h3, h4⟩ := hq
     clear hqe hrX
     go_wp2_with fail
     refine HO.out.mono ?_
     rintro e w2 ⟨rfl, hb⟩
     have hba := hb.alloc hb.size (.cells #[.int .i64 q1, .int .i64 q2] 138)
     have hk3 : KpM X L w (w2.alloc (.cells #[.int .i64 q1, .int .i64 q2] 138)) xb item after more r sa sc regs sl := ⟨HK.out.be.trans (hba.mono HK.out.be.size), HK.out.box.below hba HK.out.box.lt, ownG_below HK.out.own hba, HK.out.eq, HK.out.rb, HK.out.lb⟩
     have HK3 := Lib.hid hk3
     have HPB := Lib.hid (Blk.new w2 [.int .i64 q1, .int .i64 q2] 138)
     clear hb hba hk3 HK HO l0 hlgr hx0
     go_upto_region 6 with fail
     obtain ⟨pb, hpb⟩ : ∃ pb, pb = w2.heap.size := ⟨_, rfl⟩
     rw [← hpb] at HPB ⊢
     clear hpb
     change Code.wp _ _ _ _ (w2.alloc (.cells #[.int .i64 q1, .int .i64 q2] 138))
     generalize w2.alloc (.cells #[.int .i64 q1, .int .i64 q2] 138) = w3 at HK3 HPB ⊢
     have b0 : w3.cell? ⟨pb, 0, none⟩ = some (.int .i64 q1) := HPB.out.cell 0
     have b1 : w3.cell? ⟨pb, 1, none⟩ = some (.int .i64 q2) := HPB.out.cell 1
     have hpl := HPB.out.lt
     have x2 : w3.cell? ⟨xb, 2, none⟩ = some (.slice sa sl.length sc) := HK3.out.box.cell 2
     have x3 : w3.cell? ⟨xb, 3, none⟩ = some (.int .i64 (regs : Int)) := HK3.out.box.cell 3
     have hxl := HK3.out.box.lt
     have y3 := HK3.out.box.free 3
     have y2 := HK3.out.box.free 2
     by_cases hcase : 0 < q1 ∧ after = false
     ·obtain ⟨hq1, rfl⟩ := hcase
      rw [if_pos ⟨hq1, rfl⟩] at HST
      have hq3 : ¬ q1 < 0 := by omega
      obtain ⟨qn, hqn⟩ : ∃ qn : Nat, q1 = (qn : Int) := ⟨q1.toNat, by omega⟩
      subst hqn
      have r0 := fun x : AfterR (KeepE xb pb) w3.drew => (World.cell?_of_block (a := ⟨xb, 3, none⟩) x.rel.1).trans x3
      have r1 := fun x : AfterR (KeepE xb pb) w3.drew => (World.cell?_of_block (a := ⟨pb, 0, none⟩) x.rel.2).trans b0
      go_wp2_with fail
      refine wp_region_eagerRT (KeepE xb pb) [(0, true), (1, true), (2, true), (3, true), (4, true), (5, true), (6, true), (7, false)] (by kernel_rfl) (by kernel_rfl) ?_
      repeat (refine eagR_readT rfl ?_; go_big_quiet_step (fail); refine wpQuiet_nil ?_)
      clear r0 r1
      refine eagR_freeT rfl rfl (by kernel_rfl) ?_
      intro K hK
      go_simp
      obtain ⟨ho1, ho2⟩ := or_bit2 (k := qn) HK3.out.rb (by omega)
      rw [ho1]
      refine hK _ _ ?_
      clear hK K
      go_simp
      refine eagR_endT ?_
      have HK4 : Hid (KpM X L w (w3.setCell ⟨xb, 3, none⟩ (.int .i64 ((regs ||| 1 <<< qn : Nat) : Int))).drew xb item false more (r + 1) sa sc (regs ||| 1 <<< qn) sl) := ⟨HK3.out.be.setCell HK3.out.lb _ |>.drew, (HK3.out.box.set 3 _).drew, ownG_other (a := ⟨xb, 3, none⟩) HK3.out.own (own_noBox HK3.out.own HK3.out.box (by decide)) _, by rw [HFS.out, HST.out]; rfl, ho2, HK3.out.lb⟩
      clear ho1 ho2 HK3 HPB b0 b1 x2 x3 y3 y2 hpl hxl
      go_wp2_with fail
      go_roundw
      case rel => exact ⟨r + 1, sa, sc, _, sl, by omega, by go_num, HK4.out⟩
      case measure => simp [intOf]; omega
     ·rw [if_neg hcase] at HST
      have HSAME : Hid (stepKM X.a L after (regs, sl) r = (regs, sl) → KpM X L w w3 xb item after more (r + 1) sa sc regs sl) := fun e => ⟨HK3.out.be, HK3.out.box, HK3.out.own, by rw [HFS.out, e], HK3.out.rb, HK3.out.lb⟩
      by_cases hq1 : 0 < q1
      ·have ha : after = true := by
        cases after
        ·exact absurd ⟨hq1, rfl⟩ hcase
        ·rfl
       subst ha
       rw [if_neg (fun h => by omega)] at HST
       have hq3 : ¬ q1 < 0 := by omega
       clear hcase
       go_wp2_with fail
       go_roundw
       case rel => exact ⟨r + 1, sa, sc, regs, sl, by omega, by go_num, HSAME.out HST.out⟩
       case measure => simp [intOf]; omega
      ·clear hcase
       by_cases hq3 : q1 < 0
       ·have hq4 := HNG.out hq3
        have hco := cont_slots sl q2 hq4
        have HCT := Lib.hid (hcontains_ints w3 sa sl.length sc (sl.map fun (t : Nat) => (t : Int)) q2 (came_owns_ints HK3.out.own))
        rw [hco] at HCT
        clear hco
        by_cases hin : q2.toNat ∈ sl
        ·rw [if_neg (fun h => h.2 hin)] at HST
         rw [decide_eq_true hin] at HCT
         clear hin
         go_wp2_with fail
         refine HCT.out.mono ?_
         rintro e w4 ⟨rfl, hw4⟩
         rw [← hw4]
         clear hw4 w4 HCT
         go_wp2_with fail
         go_roundw
         case rel => exact ⟨r + 1, sa, sc, regs, sl, by omega, by go_num, HSAME.out HST.out⟩
         case measure => simp [intOf]; omega
        ·rw [if_pos ⟨hq3, hin⟩] at HST
         rw [decide_eq_false hin] at HCT
         have hll : sl.length ≤ 10000 := by
          have := foldK_len X.a L after more r
          rw [← HK3.out.eq] at this
          have : sl.length ≤ r := this
          omega
         obtain ⟨n0, hn0⟩ : ∃ n0, n0 = sl.length := ⟨_, rfl⟩
         have hown := HK3.out.own
         rw [← hn0] at hown x2 HCT hll
         have HOWN := Lib.hid hown
         have HN0 := Lib.hid hn0
         have hnew := (Blk.new w3 [.int .i64 q2] 3).cell
         have HNEW := Lib.hid hnew
         have HBW : Hid (w.heap.size ≤ w3.heap.size) := HK3.out.be.size
         clear hin hown hn0 hnew HSAME
         go_wp2_with fail
         refine HCT.out.mono ?_
         rintro e w4 ⟨rfl, hw4⟩
         rw [← hw4]
         clear hw4 w4 HCT
         go_wp2_with (at_builtin; refine wpList_append_lies _ rfl _ _ 22 rfl w.heap.size 3 i1 (.int .i64 0) 1 8 Tryz.underlying22 hi1 hy0 hy1 hy2 rfl (by decide) _ n0 _ rfl (HOWN.out.alloc _) ⟨w3.heap.size, 0, none⟩ 1 1 [.int .i64 q2] rfl rfl ?a2 ?a3 (by decide) ?a4 ?a5 ?a6 _ rfl ?_)
         case a2 => intro jj u hju; rw [Addr.add_lit, Nat.zero_add]; exact (HNEW.out jj).trans hju
         case a3 => intro u hu; simp at hu; rcases hu with rfl; rfl
         case a4 => unfold maxLen; omega
         case a5 => omega
         case a6 => rw [World.size_alloc]; have := HBW.out; omega
         intro g9 cap9 w9 ho hg9 hat hlt9
         have hba := (Below.refl w3.heap.size w3).alloc (Nat.le_refl _) (.cells #[.int .i64 q2] 3)
         have hown : w9.ownsRow w.heap.size 3 1 (.slice (some ⟨g9, 0, none⟩) (sl ++ [q2.toNat]).length cap9) (sl ++ [q2.toNat]).length (((sl ++ [q2.toNat]).map fun (t : Nat) => (t : Int)).map (Value.int .i64)) := by
          rw [List.length_append, ← HN0.out, List.map_append, List.map_append, List.map_cons, List.map_cons, show ((q2.toNat : Nat) : Int) = q2 by omega]
          have ho2 := ho
          rw [← List.map_map] at ho2
          exact ho2
         have hbx3 := HK3.out.box.below hba HK3.out.box.lt
         have hbx := hbx3.of_heap (hg9.block xb hbx3.lt fun e => own_noBox (HOWN.out.alloc _) hbx3 (by decide) e.symm)
         have hpb3 := HPB.out.below hba HPB.out.lt
         have hpb := hpb3.of_heap (hg9.block pb hpb3.lt fun e => own_noBox (HOWN.out.alloc _) hpb3 (by decide) e.symm)
         have z2 := hbx.free 2
         have z2c : w9.cell? ⟨xb, 2, none⟩ = some (.slice sa n0 sc) := by rw [HN0.out]; exact hbx.cell 2
         have hxl9 := hbx.lt
         have hbe9 : Below w.heap.size w w9 := (HK3.out.be.trans (hba.mono HK3.out.be.size)).grown hg9 (by rw [World.size_alloc]; have := HBW.out; omega) fun q hq => (HOWN.out.lt q hq).1
         have HK4 : Hid (KpM X L w (w9.setCell ⟨xb, 2, none⟩ (.slice (some ⟨g9, 0, none⟩) (n0 + 1) cap9)) xb item after more (r + 1) (some ⟨g9, 0, none⟩) cap9 regs (sl ++ [q2.toNat])) := ⟨hbe9.setCell HK3.out.lb _, by have := hbx.set 2 (.slice (some ⟨g9, 0, none⟩) (n0 + 1) cap9); rw [HN0.out] at this ⊢; simpa [kxC] using this, ownG_other (a := ⟨xb, 2, none⟩) hown (own_noBox hown hbx (by decide)) _, by rw [HFS.out, HST.out], HK3.out.rb, HK3.out.lb⟩
         clear ho hg9 hat hba hown hbx3 hbx hpb3 hpb hbe9 HK3 HPB HOWN HNEW b0 b1 x2 x3 y3 y2 hpl hxl HBW
         go_wp2_with fail
         go_roundw
         case rel => exact ⟨r + 1, _, _, regs, _, by omega, by go_num, HK4.out⟩
         case measure => simp [intOf]; omega
       ·rw [if_neg (fun h => hq3 h.1)] at HST
        go_wp2_with fail
        go_roundw
        case rel => exact ⟨r + 1, sa, sc, regs, sl, by omega, by go_num, HSAME.out HST.out⟩
        case measure => simp [intOf]; omega
  ·have hle : ¬ (r : Int) < (n : Int) := by omega
   have hrn : r = X.n := by have := HN.out; omega
   have heq := hk.eq
   rw [hrn] at heq
   have hnd := (foldK_slots X.a L after more X.n).1
   have hmem := fun t => (foldK_slots X.a L after more X.n).2 t
   have hfl := foldK_len X.a L after more X.n
   rw [← heq] at hnd hfl
   dsimp only at hnd hfl
   obtain ⟨ss, hss, hrise, hsm, hsl⟩ := sorted_slots sl hnd
   have HSO := Lib.hid (sort_ints wr w.heap.size sa sl.length sc _ hk.own (by have := HX2.out.n; omega))
   rw [show SortPostI w.heap.size sa sl.length sc (sl.map fun (t : Nat) => (t : Int)) wr = fun e w' => e = .returned (.tuple #[]) ∧ w'.ownsRow w.heap.size 3 1 (.slice sa sl.length sc) sl.length ((ss.map fun (t : Nat) => (t : Int)).map (Value.int .i64)) ∧ RestS (fun k => (Value.slice sa sl.length sc).ownBlock = some k) wr w' from by funext e w'; unfold SortPostI; rw [hss]] at HSO
   have hmp : mapP X.a X.n X.a.k.toNat item after L more = ⟨item, after, ss, regs⟩ := by
    rw [mapP_fold (sl := ss) (fun r hr hq => ?_) hrise (fun t => by rw [hsm t, ← heq]), ← heq]
    have h1 := HX2.out.sk r hr hq
    have h2 := ofP_neg hq
    omega
   have HSE : Hid (sf = { s with maps := s.maps ++ [(⟨item, after, ss, regs⟩ : MP)] }) := by rw [Hid, HSF.out, ← hmp]; rfl
   have HK := Lib.hid hk
   have HSL := Lib.hid hsl
   have x2 : wr.cell? ⟨xb, 2, none⟩ = some (.slice sa sl.length sc) := hk.box.cell 2
   have hxl := hk.box.lt
   clear hk heq hnd hmem hfl hss hrise hsm hsl hmp hrn
   obtain ⟨n0, hn0⟩ : ∃ n0, n0 = sl.length := ⟨_, rfl⟩
   rw [← hn0] at x2 HSO HSL
   have HN0 := Lib.hid hn0
   clear hn0
   go_wp2_with fail
   refine HSO.out.mono ?_
   rintro e w5 ⟨rfl, hown5, hr5⟩
   have hb5 : Below w.heap.size w w5 := HK.out.be.trans (hr5.toBelow (fun q hq => (HK.out.own.lt q (by rw [← HN0.out]; exact hq)).1) HK.out.be.size)
   have hbx5 := HK.out.box.of_heap (hr5.block xb HK.out.box.lt fun e => own_noBox HK.out.own HK.out.box (by decide) (by rw [← HN0.out]; exact e))
   have hm5 := HM.out.below hb5
   have hwl : w.heap.size ≤ w5.heap.size := hb5.size
   obtain ⟨ai, ci, ac, cc, am, cm, az, cz, aj, cj, e1, e2, e3, e4, e5⟩ := hm5.shapes
   have hpl := hm5.box.lt
   have HBW : Hid (X.B ≤ w5.heap.size) := Nat.le_trans hm5.hp (Nat.le_of_lt hm5.box.lt)
   have c0 : w5.cell? ⟨X.p, 10, none⟩ = some v.m := hm5.box.cell 10
   rw [e3] at c0
   obtain ⟨m0, hm0⟩ : ∃ n0, n0 = s.maps.length := ⟨_, rfl⟩
   have hm1 : m0 ≤ 10000000 := by have := HT.out; unfold EmS.tot at this; omega
   have HM0 := Lib.hid hm0
   rw [← hm0] at c0
   have hrow := hm5.om
   rw [e3, ← hm0] at hrow
   rw [← HP.out] at c0 hpl
   rw [kxC, ← HN0.out] at hbx5
   have r0 := fun x : AfterR (KeepE p xb) w5.drew => (World.cell?_of_block (a := ⟨p, 10, none⟩) x.rel.1).trans c0
   have r1 := fun x : AfterR (KeepE p xb) w5.drew => (World.cell?_of_block (a := ⟨xb, 0, none⟩) x.rel.2).trans (show w5.cell? ⟨xb, 0, none⟩ = some (.int .i64 (item : Int)) from hbx5.cell 0)
   have r2 := fun x : AfterR (KeepE p xb) w5.drew => (World.cell?_of_block (a := ⟨xb, 1, none⟩) x.rel.2).trans (show w5.cell? ⟨xb, 1, none⟩ = some (.bool after) from hbx5.cell 1)
   have r3 := fun x : AfterR (KeepE p xb) w5.drew => (World.cell?_of_block (a := ⟨xb, 2, none⟩) x.rel.2).trans (show w5.cell? ⟨xb, 2, none⟩ = some (.slice sa n0 sc) from hbx5.cell 2)
   have r4 := fun x : AfterR (KeepE p xb) w5.drew => (World.cell?_of_block (a := ⟨xb, 3, none⟩) x.rel.2).trans (show w5.cell? ⟨xb, 3, none⟩ = some (.int .i64 (regs : Int)) from hbx5.cell 3)
   have hxl5 := hbx5.lt
   obtain ⟨iv, hiv, hzv, hzs, hzy⟩ := info_parts Tryz.infoLM
   have HROW := Lib.hid hrow
   have HM5 := Lib.hid hm5
   have HE3 := Lib.hid e3
   have HOWN5 := Lib.hid hown5
   have HB5 := Lib.hid hb5
   clear hown5 hr5 hb5 hbx5 hm5 e1 e2 e3 e4 e5 hm0 hrow c0 x2 HSO
   go_wp2_with fail
   refine wp_region_eagerRT (KeepE p xb) [(0, true), (1, true), (2, true), (3, true), (4, true), (5, true), (6, true), (7, false), (8, false), (9, true), (10, true), (11, true), (12, false)] (by kernel_rfl) (by kernel_rfl) ?_
   repeat (refine eagR_readT rfl ?_; go_big_quiet_step (fail); refine wpQuiet_nil ?_)
   clear r0 r1 r2 r3 r4
   refine eagR_doesT rfl rfl ?_
   intro K hK
   go_simp
   refine hK _ _ (fun _ => ⟨Below.heap_alloc _ _ _ hpl, Below.heap_alloc _ _ _ hxl5⟩) ?_
   clear hK K
   have hba : Below w5.heap.size w5 (w5.alloc (.cells #[.int .i64 (item : Int), .bool after, .slice sa n0 sc, .int .i64 (regs : Int)] 50)).drew := ((Below.refl _ _).alloc (Nat.le_refl _) _).drew
   have HNW : Hid (∀ i, (w5.alloc (.cells #[.int .i64 (item : Int), .bool after, .slice sa n0 sc, .int .i64 (regs : Int)] 50)).drew.cell? ⟨w5.heap.size, i, none⟩ = [Value.int .i64 (item : Int), .bool after, .slice sa n0 sc, .int .i64 (regs : Int)][i]?) := (Blk.new w5 [.int .i64 (item : Int), .bool after, .slice sa n0 sc, .int .i64 (regs : Int)] 50).cell
   have HM6 := Lib.hid (HM5.out.below hba)
   have HBA := Lib.hid hba
   have hrow := ownG_below HROW.out hba
   have HOWN6 := Lib.hid (ownG_below HOWN5.out hba)
   have hpl6 : p < (w5.alloc (.cells #[.int .i64 (item : Int), .bool after, .slice sa n0 sc, .int .i64 (regs : Int)] 50)).drew.heap.size := Nat.lt_of_lt_of_le hpl hba.size
   have hxl6 : xb < (w5.alloc (.cells #[.int .i64 (item : Int), .bool after, .slice sa n0 sc, .int .i64 (regs : Int)] 50)).drew.heap.size := Nat.lt_of_lt_of_le hxl5 hba.size
   have HXB : Hid (v.m.ownBlock ≠ some xb) := fun e => by have h1 := (HM.out.om.lt _ e).2; have h2 := HK.out.lb; omega
   have HY2 : Hid (∀ g, (Value.slice sa n0 sc).ownBlock = some g → v.s.ownBlock ≠ some g) := fun g hg e => by have h1 := (HM.out.os.lt _ e).2; have h2 := (HOWN5.out.lt g (by rw [own_len sa n0 n0 sc sc]; exact hg)).1; omega
   clear hba HROW HM5 HOWN5
   generalize (w5.alloc (.cells #[.int .i64 (item : Int), .bool after, .slice sa n0 sc, .int .i64 (regs : Int)] 50)).drew = w6 at HNW HM6 HBA hrow HOWN6 hpl6 hxl6 ⊢
   refine eagR_doesT rfl rfl ?_
   intro K hK
   refine wp_append_lies _ _ _ 37 rfl X.B 50 iv (.agg #[.int .i64 0, .bool false, .slice none 0 0, .int .i64 0]) 4 48 Tryz.underlying37 hiv hzv hzs hzy rfl (by decide) (Value.slice am m0 cm) m0 _ rfl hrow ⟨w5.heap.size, 0, none⟩ 1 1 [.int .i64 (item : Int), .bool after, .slice sa n0 sc, .int .i64 (regs : Int)] rfl rfl ?_ ?_ (by decide) ?_ ?_ (Nat.le_trans HBW.out HBA.out.size) w6.heap.size rfl ?_
   ·intro jj u hju; rw [Addr.add_lit, Nat.zero_add]; exact (HNW.out jj).trans hju
   ·intro u hu; simp at hu; rcases hu with rfl | rfl | rfl | rfl <;> rfl
   ·unfold maxLen; omega
   ·omega
   intro g9 cap9 w9 ho hg hat hlt9
   rw [HM0.out, ← HE3.out] at hg hat
   have hown : w9.ownsRow X.B 50 4 (.slice (some ⟨g9, 0, none⟩) (m0 + 1) cap9) (s.maps ++ [(⟨item, after, ss, regs⟩ : MP)]).length ((v.mc ++ [(⟨⟨item, after, ss, regs⟩, .slice sa n0 sc⟩ : MC)]).flatMap mcC) := by
    rw [List.length_append, ← HM0.out, List.flatMap_append]
    simpa [mcC] using ho
   have hpk : w9.heap[X.p]? = w6.heap[X.p]? := hg.block X.p HM6.out.box.lt fun e => own_noBox HM6.out.om HM6.out.box (by decide) e.symm
   have hxk : w9.heap[xb]? = w6.heap[xb]? := hg.block xb hxl6 fun e => HXB.out e.symm
   have hbx := HM6.out.box.of_heap hpk
   rw [← HP.out] at hpk
   have f0 := hbx.free 10
   have f0c : w9.cell? ⟨X.p, 10, none⟩ = some v.m := hbx.cell 10
   have hpl9 := hbx.lt
   rw [← HP.out] at f0 f0c hpl9
   have hown7 : w6.ownsRow X.B 3 1 (.slice sa n0 sc) ss.length (slC ⟨item, after, ss, regs⟩) := by
    have h1 := ownG_base HOWN6.out (base' := X.B) (Nat.le_trans HM.out.hp (Nat.le_of_lt HM.out.box.lt))
    rw [HSL.out]
    unfold slC
    rw [List.map_map] at h1
    exact h1
   have HD := Lib.hid (HM6.out.growM HX2.out (y := ⟨⟨item, after, ss, regs⟩, .slice sa n0 sc⟩) hown hg hown7 HY2.out)
   have HR := Lib.hid ((below_refl_of (HB5.out.trans (HBA.out.mono hwl)) (v.S X.p)).trans (((RestS.ofGrown hg).mono fun q hq => .inr (.inr (.inr (.inl hq)))).set (p := ⟨X.p, 10, none⟩) (.inl rfl) (.slice (some ⟨g9, 0, none⟩) (m0 + 1) cap9)))
   have HS : Hid (∀ q, ({ v with m := .slice (some ⟨g9, 0, none⟩) (m0 + 1) cap9, mc := v.mc ++ [⟨⟨item, after, ss, regs⟩, .slice sa n0 sc⟩] } : EmV).S X.p q → v.S X.p q ∨ w.heap.size ≤ q) := EmV.S_new (fun _ => .inl) (fun _ => .inl) (fun q hq => by
    have : g9 = q := by simpa [Value.ownBlock] using hq
    rw [← this]
    rcases hat with e | e
    ·exact .inl e
    ·right; rw [e]; exact Nat.le_trans hwl HBA.out.size) (fun _ => .inl) (fun _ => .inl)
   go_simp
   refine hK _ _ (fun _ => ⟨hpk, hxk⟩) ?_
   clear hK K ho hg hat hown hbx hrow hpk hxk hown7
   repeat (refine eagR_readT rfl ?_; go_big_quiet_step (fail); refine wpQuiet_nil ?_)
   refine eagR_freeT rfl rfl (by kernel_rfl) ?_
   intro K hK
   go_simp
   refine hK _ _ ?_
   clear hK K f0 f0c
   go_simp
   refine eagR_endT ?_
   rw [← HP.out] at HR
   go_wp2_with fail
   refine bodyPost_end (results_none rfl _ _ _) rfl ?_
   refine ⟨rfl, ?_⟩
   rw [HSE.out]
   exact ⟨_, by rw [HP.out]; exact HD.out, by rw [← HP.out]; exact HR.out, HS.out⟩
end

section
/-- what is live, as a row that lies apart from the emitter -/
structure LvM (X : EmE) (w : World) (v : EmV) (lg lc : Nat) (L : Nat → Bool) : Prop where
 cell : ∀ r, r < X.n → w.cell? ⟨lg, r, none⟩ = some (.bool (L r))
 lt : lg < w.heap.size
 ap : ¬ v.S X.p lg
 le : X.n ≤ lc ∧ lc ≤ 9223372036854775807
section
variable {X : EmE} {w w1 wr : World} {v v1 : EmV} {s : EmS} {lg lc : Nat} {L : Nat → Bool}
theorem EmG.blk (h : EmG X w v wr s v1) {b : Nat} {t : TypeId} {cs : List Value} (hb : Blk w b t cs) (hn : ¬ v.S X.p b) : Blk wr b t cs := hb.of_heap (h.rest.block b hb.lt hn)
theorem LvM.below (h : LvM X w v lg lc L) (hb : Below w.heap.size w w1) : LvM X w1 v lg lc L :=
 ⟨fun r hr => (hb.cell (p := ⟨lg, r, none⟩) h.lt).trans (h.cell r hr), Nat.lt_of_lt_of_le h.lt hb.size, h.ap, h.le⟩
theorem LvM.next (h : LvM X w v lg lc L) (hg : EmG X w v wr s v1) : LvM X wr v1 lg lc L :=
 ⟨fun r hr => (World.cell?_of_block (a := ⟨lg, r, none⟩) (hg.rest.block lg h.lt h.ap)).trans (h.cell r hr), Nat.lt_of_lt_of_le h.lt hg.rest.size, fun hs => (hg.sub lg hs).elim h.ap (fun e => by have := h.lt; omega), h.le⟩
end
/-- an instruction whose registers there are -/
structure VI.Rng (x : VI) (n : Nat) : Prop where
 d : 0 ≤ x.d ∧ x.d < n
 a : 0 ≤ x.a ∧ x.a < n
 b : 0 ≤ x.b ∧ x.b < n
 args : ∀ r ∈ x.args, 0 ≤ r ∧ r < n
 sn : x.sn ≤ 6
theorem Tryz.infoLC : (Tryz.prog.info? 62).map (fun i => (i.zero, i.size, i.bytes)) = some (some (.agg #[.int .i64 0, .int .i64 0]), 2, 16) := by kernel_rfl
set_option maxRecDepth 100000 in
set_option maxHeartbeats 8000000 in
theorem call_any (X : EmE) (hX : X.Ok) (w : World) (s : EmS) (v : EmV) (h : EmM X w s v) (x : VI) (hx : x.Ok X.w0) (hr : x.Rng X.n) (lg lc : Nat) (L : Nat → Bool) (hl : LvM X w v lg lc L) (n : Nat) (hn : n = X.n) (ht : s.tot + 200 ≤ 10000000) :
 Calls Tryz.prog 84 #[.pointer (some ⟨X.p, 0, none⟩), viV x, .slice (some ⟨lg, 0, none⟩) n lc] w (EmP X v w (s.call X.a X.n X.a.k.toNat x L)) := by
 obtain ⟨p, hp⟩ : ∃ p, p = X.p := ⟨_, rfl⟩
 rw [← hp]
 obtain ⟨xb, hxb⟩ : ∃ xb, xb = w.heap.size := ⟨_, rfl⟩
 have hba : Below w.heap.size w (w.alloc (.cells (viC x).toArray 48)) := (Below.refl _ _).alloc (Nat.le_refl _) _
 have hbx := Blk.new w (viC x) 48
 rw [← hxb] at hbx
 have hnx : ¬ v.S X.p xb := fun e => by have := (h.lt e).2; omega
 obtain ⟨sf, hsf⟩ : ∃ sf, sf = s.call X.a X.n X.a.k.toNat x L := ⟨_, rfl⟩
 rw [← hsf]
 have HSF := Lib.hid hsf
 obtain ⟨s1, hs1⟩ : ∃ s1, s1 = if x.op = 102 then (if fetchR X.a x.a 12 = 12 then s.fetch X.a x.a 12 else (s.fetch X.a x.a 12).put 8 12 (fetchR X.a x.a 12) 0 0) else s := ⟨_, rfl⟩
 have ht1 : s1.tot ≤ s.tot + 2 := by
  have := fetch_tot s X.a x.a 12
  rw [hs1]
  split
  ·split
   ·omega
   ·rw [put_tot]; omega
  ·omega
 obtain ⟨s2, hs2⟩ : ∃ s2, s2 = s1.args X.a x.args := ⟨_, rfl⟩
 have ht2 : s2.tot ≤ s.tot + 22 := by
  have := args_tot s1 X.a x.args
  have h6 : x.args.length ≤ 6 := by have := hr.sn; have h9 : x.args.length = x.sn := by simpa using hx.came.count
                                    omega
  rw [hs2]; omega
 obtain ⟨s3, hs3⟩ : ∃ s3, s3 = if x.op = 102 then s2.put 21 0 12 0 0 else (s2.refer x.n).put 20 0 0 0 0 := ⟨_, rfl⟩
 have ht3 : s3.tot ≤ s.tot + 24 := by
  rw [hs3]
  split
  ·rw [put_tot]; omega
  ·rw [put_tot, refer_tot]; omega
 have HSE : Hid (sf = if (ofP X.a x.d).1 < 0 then (s3.keep X.a X.n X.a.k.toNat s2.items.length true L 0).store (ofP X.a x.d).2 1 else (s3.keep X.a X.n X.a.k.toNat s2.items.length true L 0).put 8 (ofP X.a x.d).1 1 0 0) := by
  show _ = _
  rw [hsf, hs3, hs2, hs1]
  rfl
 have HM := Lib.hid (h.below hba)
 have HL := Lib.hid (hl.below hba)
 have HBX := Lib.hid hbx
 have HNX := Lib.hid hnx
 have HBA := Lib.hid hba
 have HX2 := Lib.hid hX
 have HP := Lib.hid hp
 have HN := Lib.hid hn
 have HT := Lib.hid ht
 have HR := Lib.hid hr
 have HXO := Lib.hid hx
 have HS1 := Lib.hid hs1
 have HS2 := Lib.hid hs2
 have HS3 := Lib.hid hs3
 have HT1 := Lib.hid ht1
 have HT2 := Lib.hid ht2
 have HT3 := Lib.hid ht3
 unfold viV
 unfold viC at HM HL HBX HBA
 clear h hl hbx hnx hba hX hp hn ht hr hx hs1 hs2 hs3 hsf ht1 ht2 ht3 HSF
 go_enter Tryz.func84, Tryz.ntmps84
 go_upto_region 1 with fail
 rw [← hxb]
 clear hxb
 change Code.wp _ _ _ _ (w.alloc (.cells #[.int .i64 x.op, .int .i64 x.d, .int .i64 x.a, .int .i64 x.b, .int .i64 x.n, .slice x.sa x.sn x.sc] 48))
 change Hid (EmM X (w.alloc (.cells #[.int .i64 x.op, .int .i64 x.d, .int .i64 x.a, .int .i64 x.b, .int .i64 x.n, .slice x.sa x.sn x.sc] 48)) s v) at HM
 change Hid (LvM X (w.alloc (.cells #[.int .i64 x.op, .int .i64 x.d, .int .i64 x.a, .int .i64 x.b, .int .i64 x.n, .slice x.sa x.sn x.sc] 48)) v lg lc L) at HL
 change Hid (Blk (w.alloc (.cells #[.int .i64 x.op, .int .i64 x.d, .int .i64 x.a, .int .i64 x.b, .int .i64 x.n, .slice x.sa x.sn x.sc] 48)) xb _ _) at HBX
 change Hid (Below w.heap.size w (w.alloc (.cells #[.int .i64 x.op, .int .i64 x.d, .int .i64 x.a, .int .i64 x.b, .int .i64 x.n, .slice x.sa x.sn x.sc] 48))) at HBA
 generalize w.alloc (.cells #[.int .i64 x.op, .int .i64 x.d, .int .i64 x.a, .int .i64 x.b, .int .i64 x.n, .slice x.sa x.sn x.sc] 48) = w1 at HM HL HBX HBA ⊢
 have x0 : w1.cell? ⟨xb, 0, none⟩ = some (.int .i64 x.op) := HBX.out.cell 0
 have x2 : w1.cell? ⟨xb, 2, none⟩ = some (.int .i64 x.a) := HBX.out.cell 2
 have hxl := HBX.out.lt
 go_upto_if 11 with fail
 go_cut [6] from 9 (fun _ wx => EmSt X v w1 s1 wx)
 case first => as_aux_lemma =>
  by_cases h102 : x.op = 102
  ·have q1 : (x.op == 102) = true := beq_iff_eq.2 h102
   have HE : Hid (s1 = if fetchR X.a x.a 12 = 12 then s.fetch X.a x.a 12 else (s.fetch X.a x.a 12).put 8 12 (fetchR X.a x.a 12) 0 0) := by rw [Hid, HS1.out, if_pos h102]
   have HF := Lib.hid (fetch_any X HX2.out w1 s v HM.out (by have := HT.out; omega) x.a 12 HR.out.a)
   obtain ⟨rf, hrf⟩ : ∃ rf, rf = fetchR X.a x.a 12 := ⟨_, rfl⟩
   rw [← hrf] at HF HE
   rw [← HP.out] at HF
   clear h102 hrf
   go_wp2_with fail
   refine HF.out.mono ?_
   rintro e w2 ⟨rfl, hs⟩
   obtain ⟨v2, hg2⟩ := hs.split
   have HG2 := Lib.hid hg2
   clear hs hg2 HF
   by_cases h12 : rf = 12
   ·have q2 : (rf != 12) = false := by simp [h12]
    rw [if_pos h12] at HE
    clear h12
    go_wp2_with fail
    go_meet
    rw [HE.out]
    exact HG2.out.done
   ·have q2 : (rf != 12) = true := by simp [h12]
    rw [if_neg h12] at HE
    have HO := Lib.hid (op_any X HX2.out w2 _ v2 HG2.out.m (by have := HT.out; have := fetch_tot s X.a x.a 12; omega) 8 12 rf 0 0)
    rw [← HP.out] at HO
    clear h12
    go_wp2_with fail
    refine HO.out.mono ?_
    rintro e w3 ⟨rfl, hs⟩
    have hs3 := HG2.out.next hs
    clear hs HO
    go_wp2_with fail
    go_meet
    rw [HE.out]
    exact hs3
  ·have q1 : (x.op == 102) = false := beq_eq_false_iff_ne.2 h102
   have HE : Hid (s1 = s) := by rw [Hid, HS1.out, if_neg h102]
   clear h102
   go_wp2_with fail
   go_meet
   rw [HE.out]
   exact EmSt.refl HM.out
 case rest => as_aux_lemma =>
  clear x0 x2 hxl HM
  obtain ⟨v1, hg⟩ := hcut.split
  have hxc := hg.blk HBX.out HNX.out
  have HG := Lib.hid hg
  have HXC := Lib.hid hxc
  have x5 : wc.cell? ⟨xb, 5, none⟩ = some (.slice x.sa x.sn x.sc) := hxc.cell 5
  have hxl := hxc.lt
  have HA := Lib.hid (args_any X HX2.out wc s1 v1 hg.m x.sa x.sn x.sc x.args HXO.out.came HR.out.args HR.out.sn (by have := HT.out; have := HT1.out; omega))
  rw [← HS2.out, ← HP.out] at HA
  clear hcut hg hxc
  go_wp2_with fail
  refine HA.out.mono ?_
  rintro e w2 ⟨rfl, hs⟩
  have hs2 := HG.out.next hs
  obtain ⟨v2, hg2⟩ := hs2.split
  have HG2 := Lib.hid hg2
  have hx2 := hg2.blk HBX.out HNX.out
  have HX3 := Lib.hid hx2
  obtain ⟨ai, ci, ac, cc, am, cm, az, cz, aj, cj, e1, e2, e3, e4, e5⟩ := hg2.m.shapes
  have c0 : w2.cell? ⟨X.p, 8, none⟩ = some v2.i := hg2.m.box.cell 8
  have c1 : w2.cell? ⟨X.p, 9, none⟩ = some v2.c := hg2.m.box.cell 9
  have hpl := hg2.m.box.lt
  rw [e1] at c0
  rw [e2] at c1
  obtain ⟨n0, hn0⟩ : ∃ n0, n0 = s2.items.length := ⟨_, rfl⟩
  obtain ⟨m0, hm0⟩ : ∃ n0, n0 = s2.calls.length := ⟨_, rfl⟩
  have hn1 : n0 ≤ 10000000 := by have h1 := HT2.out; have h2 := HT.out; unfold EmS.tot at h1 h2; omega
  have hm1 : m0 ≤ 10000000 := by have h1 := HT2.out; have h2 := HT.out; unfold EmS.tot at h1 h2; omega
  have HN0 := Lib.hid hn0
  have HM0 := Lib.hid hm0
  rw [← hn0] at c0
  rw [← hm0] at c1
  rw [← HP.out] at c0 c1 hpl
  have HE2 := Lib.hid e2
  have x0 : w2.cell? ⟨xb, 0, none⟩ = some (.int .i64 x.op) := hx2.cell 0
  have x4 : w2.cell? ⟨xb, 4, none⟩ = some (.int .i64 x.n) := hx2.cell 4
  have hxl2 := hx2.lt
  clear hs hs2 hg2 hx2 e1 e2 e3 e4 e5 hn0 hm0 HA x5 hxl HXC HG
  go_upto_if 33 with fail
  go_cut [] from 31 (fun wx => EmSt X v w1 s3 wx)
  case first => as_aux_lemma =>
   by_cases h102 : x.op = 102
   ·have q1 : (x.op == 102) = true := beq_iff_eq.2 h102
    have HE : Hid (s3 = s2.put 21 0 12 0 0) := by rw [Hid, HS3.out, if_pos h102]
    have HO := Lib.hid (op_any X HX2.out w2 s2 v2 HG2.out.m (by have := HT.out; have := HT2.out; omega) 21 0 12 0 0)
    rw [← HP.out] at HO
    clear h102
    go_wp2_with fail
    refine HO.out.mono ?_
    rintro e w3 ⟨rfl, hs⟩
    have hs3 := HG2.out.next hs
    clear hs HO
    go_wp2_with fail
    go_meet
    rw [HE.out]
    exact hs3
   ·have q1 : (x.op == 102) = false := beq_eq_false_iff_ne.2 h102
    have HE : Hid (s3 = (s2.refer x.n).put 20 0 0 0 0) := by rw [Hid, HS3.out, if_neg h102]
    have hrow := HG2.out.m.oc
    rw [HE2.out, ← HM0.out] at hrow
    have HROW := Lib.hid hrow
    have hnew := (Blk.new w2 [.int .i64 (n0 : Int), .int .i64 x.n] 62).cell
    have HNEW := Lib.hid hnew
    have HBW : Hid (X.B ≤ w2.heap.size) := Nat.le_trans HG2.out.m.hp (Nat.le_of_lt HG2.out.m.box.lt)
    have r0 := fun z : AfterR (KeepE p xb) w2.drew => (World.cell?_of_block (a := ⟨p, 9, none⟩) z.rel.1).trans c1
    have r1 := fun z : AfterR (KeepE p xb) w2.drew => (World.cell?_of_block (a := ⟨xb, 4, none⟩) z.rel.2).trans x4
    obtain ⟨iv, hiv, hzv, hzs, hzy⟩ := info_parts Tryz.infoLC
    clear h102 hrow hnew
    go_wp2_with fail
    refine wp_region_eagerRT (KeepE p xb) [(0, true), (1, true), (2, true), (3, true), (4, true), (5, true), (6, true), (7, true), (8, true), (9, true), (10, false), (11, false), (12, true), (13, true), (14, true), (15, false)] (by kernel_rfl) (by kernel_rfl) ?_
    repeat (refine eagR_readT rfl ?_; go_big_quiet_step (fail); refine wpQuiet_nil ?_)
    clear r0 r1
    refine eagR_doesT rfl rfl ?_
    intro K hK
    go_simp
    refine hK _ _ (fun _ => ⟨Below.heap_alloc _ _ _ hpl, Below.heap_alloc _ _ _ hxl2⟩) ?_
    clear hK K
    have hba : Below w2.heap.size w2 (w2.alloc (.cells #[.int .i64 (n0 : Int), .int .i64 x.n] 62)).drew := ((Below.refl _ _).alloc (Nat.le_refl _) _).drew
    have HNW : Hid (∀ i, (w2.alloc (.cells #[.int .i64 (n0 : Int), .int .i64 x.n] 62)).drew.cell? ⟨w2.heap.size, i, none⟩ = [Value.int .i64 (n0 : Int), .int .i64 x.n][i]?) := HNEW.out
    have HG3 := Lib.hid (HG2.out.below hba)
    have HBA3 := Lib.hid hba
    have hrow := ownG_below HROW.out hba
    have hxl3 : xb < (w2.alloc (.cells #[.int .i64 (n0 : Int), .int .i64 x.n] 62)).drew.heap.size := Nat.lt_of_lt_of_le hxl2 hba.size
    have HXBT : Hid (v2.c.ownBlock ≠ some xb) := fun e => own_noBox HG2.out.m.oc HX3.out (by decide) e
    clear hba HNEW HROW
    generalize (w2.alloc (.cells #[.int .i64 (n0 : Int), .int .i64 x.n] 62)).drew = w3 at HNW HG3 HBA3 hrow hxl3 ⊢
    refine eagR_doesT rfl rfl ?_
    intro K hK
    refine wp_append_lies _ _ _ 36 rfl X.B 62 iv (.agg #[.int .i64 0, .int .i64 0]) 2 16 Tryz.underlying36 hiv hzv hzs hzy rfl (by decide) (Value.slice ac m0 cc) m0 _ rfl hrow ⟨w2.heap.size, 0, none⟩ 1 1 [.int .i64 (n0 : Int), .int .i64 x.n] rfl rfl ?_ ?_ (by decide) ?_ ?_ (Nat.le_trans HBW.out HBA3.out.size) w3.heap.size rfl ?_
    ·intro jj u hju; rw [Addr.add_lit, Nat.zero_add]; exact (HNW.out jj).trans hju
    ·intro u hu; simp at hu; rcases hu with rfl | rfl <;> rfl
    ·unfold maxLen; omega
    ·omega
    intro g9 cap9 w9 ho hg hat hlt9
    rw [HM0.out, ← HE2.out] at hg hat
    have hown : w9.ownsRow X.B 62 2 (.slice (some ⟨g9, 0, none⟩) (m0 + 1) cap9) (s2.calls ++ [((n0 : Nat), x.n)]).length ((s2.calls ++ [((n0 : Nat), x.n)]).flatMap fcC) := by
     rw [List.length_append, ← HM0.out, List.flatMap_append]
     simpa [fcC] using ho
    have hm3 := HG3.out.m
    have hpk : w9.heap[X.p]? = w3.heap[X.p]? := hg.block X.p hm3.box.lt fun e => own_noBox hm3.oc hm3.box (by decide) e.symm
    have hxk : w9.heap[xb]? = w3.heap[xb]? := hg.block xb hxl3 fun e => HXBT.out e.symm
    have hbx := hm3.box.of_heap hpk
    rw [← HP.out] at hpk
    have f0 := hbx.free 9
    have f0c : w9.cell? ⟨X.p, 9, none⟩ = some v2.c := hbx.cell 9
    have hpl9 := hbx.lt
    rw [← HP.out] at f0 f0c hpl9
    have hd := hm3.growC HX2.out hown hg
    have hsr : EmSt X v2 w3 (s2.refer x.n) (w9.setCell ⟨X.p, 9, none⟩ (.slice (some ⟨g9, 0, none⟩) (m0 + 1) cap9)) := by
     refine ⟨{ v2 with c := .slice (some ⟨g9, 0, none⟩) (m0 + 1) cap9 }, ?_, ((RestS.ofGrown hg).mono fun q hq => .inr (.inr (.inl hq))).set (p := ⟨X.p, 9, none⟩) (.inl rfl) _, EmV.S_new (fun _ => .inl) (fun q hq => ?_) (fun _ => .inl) (fun _ => .inl) (fun _ => .inl)⟩
     ·have h9 := hd
      rw [HN0.out] at h9
      exact h9
     ·have : g9 = q := by simpa [Value.ownBlock] using hq
      rw [← this]
      rcases hat with e | e
      ·exact .inl e
      ·right; rw [e]; exact Nat.le_refl _
    have hs4 := HG3.out.next hsr
    obtain ⟨v4, hg4⟩ := hs4.split
    have HG4 := Lib.hid hg4
    have HO := Lib.hid (op_any X HX2.out _ _ v4 hg4.m (by rw [refer_tot]; have := HT.out; have := HT2.out; omega) 20 0 0 0 0)
    rw [← HP.out] at HO HG4
    clear ho hg hat hown hm3 hbx hd hsr hs4 hg4 hrow
    go_simp
    refine hK _ _ (fun _ => ⟨hpk, hxk⟩) ?_
    clear hK K hpk hxk
    repeat (refine eagR_readT rfl ?_; go_big_quiet_step (fail); refine wpQuiet_nil ?_)
    refine eagR_freeT rfl rfl (by kernel_rfl) ?_
    intro K hK
    go_simp
    refine hK _ _ ?_
    clear hK K f0 f0c
    go_simp
    refine eagR_endT ?_
    go_wp2_with fail
    refine HO.out.mono ?_
    rintro e w5 ⟨rfl, hs⟩
    have hs5 := HG4.out.next hs
    clear hs HO
    go_wp2_with fail
    go_meet
    rw [HE.out]
    exact hs5
  case rest => as_aux_lemma =>
   clear x0 x4 c0 c1 hxl2 hpl HG2 HX3 HE2
   obtain ⟨v3, hg⟩ := hcut.split
   have hlv := HL.out.next hg
   have HG3 := Lib.hid hg
   have HK := Lib.hid (keep_any X HX2.out wc s3 v3 hg.m n0 true lg lc n L (fun r hr => hlv.cell r (by have := HN.out; omega)) hlv.lt HN.out (by rw [HN.out]; exact hlv.le) 0 (by omega) (by have := HT.out; have := HT3.out; omega))
   rw [HN0.out] at HK ⊢
   obtain ⟨s4, hs4⟩ : ∃ s4, s4 = s3.keep X.a X.n X.a.k.toNat s2.items.length true L 0 := ⟨_, rfl⟩
   have ht4 : s4.tot ≤ s.tot + 25 := by rw [hs4, keep_tot]; have := HT3.out; omega
   rw [← hs4, ← HP.out, ← HN0.out, show ((0 : Nat) : Int) = 0 from rfl] at HK
   rw [← hs4] at HSE
   rw [← HN0.out]
   have HT4 := Lib.hid ht4
   clear hcut hg hlv hs4 ht4
   go_wp2_with fail
   refine HK.out.mono ?_
   rintro e w4 ⟨rfl, hs⟩
   have hs4 := HG3.out.next hs
   obtain ⟨v4, hg4⟩ := hs4.split
   have HG4 := Lib.hid hg4
   have hx4 := hg4.blk HBX.out HNX.out
   have x1 : w4.cell? ⟨xb, 1, none⟩ = some (.int .i64 x.d) := hx4.cell 1
   have hxl := hx4.lt
   have hdr := HR.out.d
   have HO := Lib.hid (of_any X HX2.out w4 s4 v4 hg4.m x.d hdr)
   have hq := ofB HX2.out hdr
   rcases hqe : ofP X.a x.d with ⟨q1, q2⟩
   rw [hqe] at HSE HO hq
   dsimp only at HSE HO hq
   obtain ⟨⟨h1, h2⟩, h3, h4⟩ := hq
   rw [← HP.out] at HO
   clear hs hs4 hg4 hx4 HK hdr hqe HG3
   go_wp2_with fail
   refine HO.out.mono ?_
   rintro e w5 ⟨rfl, hb⟩
   have HG5 := Lib.hid (HG4.out.below (hb.alloc hb.size (.cells #[.int .i64 q1, .int .i64 q2] 138)))
   clear hb HO
   by_cases h0 : q1 < 0
   ·rw [if_pos h0] at HSE
    have HST := Lib.hid (store_any X HX2.out _ s4 v4 HG5.out.m (by have := HT4.out; have := HT.out; omega) q2 1 (by omega))
    rw [← HP.out] at HST
    go_wp2_with fail
    refine HST.out.mono ?_
    rintro e w6 ⟨rfl, hs⟩
    have hs6 := HG5.out.next hs
    clear hs HST
    go_wp2_with fail
    refine bodyPost_end (results_none rfl _ _ _) rfl ?_
    rw [HSE.out]
    exact ⟨rfl, EmSt.ofBelow HBA.out hs6⟩
   ·rw [if_neg h0] at HSE
    have HST := Lib.hid (op_any X HX2.out _ s4 v4 HG5.out.m (by have := HT4.out; have := HT.out; omega) 8 q1 1 0 0)
    rw [← HP.out] at HST
    go_wp2_with fail
    refine HST.out.mono ?_
    rintro e w6 ⟨rfl, hs⟩
    have hs6 := HG5.out.next hs
    clear hs HST
    go_wp2_with fail
    refine bodyPost_end (results_none rfl _ _ _) rfl ?_
    rw [HSE.out]
    exact ⟨rfl, EmSt.ofBelow HBA.out hs6⟩
end
end Go.Proofs.YtdnpoomagjcpfaaGreat
