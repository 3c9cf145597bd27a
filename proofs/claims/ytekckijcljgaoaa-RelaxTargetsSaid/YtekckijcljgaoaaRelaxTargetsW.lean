/- The walk of RelaxTargets. -/
import Derived.Test.YtekckijcljgaoaaRelaxKeep
import Derived.Test.YtekckijcljgaoaaComeItems
namespace Go.Proofs.Ytekckijcljgaoaa
open Go.RowKit
set_option linter.unusedVariables false

theorem codeTo_split (its : List Item) (M : Nat → Bool) (n i : Nat) (h : i < n) : ∃ rest, (codeTo its M n).drop (codeTo its M i).length = wordsAt its M i ++ rest := by
  induction n with
  | zero => omega
  | succ n ih =>
    show ∃ rest, (codeTo its M n ++ wordsAt its M n).drop _ = _
    by_cases e : i = n
    · subst e; exact ⟨[], by simp⟩
    · obtain ⟨rest, hr⟩ := ih (by omega)
      have hle : (codeTo its M i).length ≤ (codeTo its M n).length := by
        have h1 := codeTo_len its M i
        have h2 := codeTo_len its M n
        have h3 := pos_lt M i (n - i)
        rw [show i + (n - i) = n by omega] at h3
        omega
      exact ⟨rest ++ wordsAt its M n, by rw [List.drop_append_of_le_length hle, hr, List.append_assoc]⟩

theorem targets_tgt (its : List Item) (n i : Nat) (hi : i < n) (hl : lab (outI its n n) i = true) : tgt (outI its n n) i < n := by
  unfold lab tgt at *
  rw [outI_at its n n i hi] at hl ⊢
  have h1 := of_decide_eq_true hl
  have h2 := Int.emod_lt_of_pos (itAt its i).tg (show (0 : Int) < n by omega)
  unfold normI at h1 ⊢
  split at h1 <;> split at h1 <;> simp only at h1 <;> first
    | omega
    | (rw [if_pos (by assumption), if_pos (by assumption)]; simp only; omega)

/-- what is decoded at the address of item i -/
theorem targets_dec {its : List Item} {n : Nat} {all : Bool} {L : Nat → Bool} (hn : n ≤ 300) (hlen : its.length = n) (hok : itemsE its = 0) (hS : SizesOf its n L) {i : Nat} (hi : i < n) :
    decode ((codeTo its (allL its all L) n).drop (codeTo its (allL its all L) i).length) =
      ⟨(itAt its i).op, (itAt its i).d, (itAt its i).a, (itAt its i).b, nOf its (allL its all L) i, if allL its all L i = true then 2 else 1, 0⟩ := by
  obtain ⟨rest, hr⟩ := codeTo_split its (allL its all L) n i hi
  obtain ⟨h1, h2⟩ := item_words (all := all) (by omega) hS (tgt_le hlen hok) hi (by have := (items_ok hok).2 i (by omega); rw [hlen] at this; exact this)
  rw [hr]
  exact decode_words h1 h2 rest

theorem came_of_owns_intsT {w : World} {base : Nat} {e : TypeId} {v : Value} {n : Nat} {l : List Int} (h : w.ownsRow base e 1 v n (l.map (Value.int .i64))) : ∃ a cap, v = .slice a n cap ∧ Came w a n cap 1 (l.map intCells) := by
  obtain ⟨a, m, cap, rfl⟩ := owns_shape h
  obtain ⟨rfl, h2⟩ := came_of_owns (E := intCells) (zs := l) (fun z => ⟨_, rfl⟩) (by simpa [intCells] using h)
  exact ⟨a, cap, rfl, h2⟩
theorem came_drop {w : World} {g off : Nat} {len cap : Nat} {zs : List Int} (h : Came w (some ⟨g, off, none⟩) len cap 1 (zs.map intCells)) (k : Nat) (hk : k ≤ len) : Came w (some ⟨g, off + k, none⟩) (len - k) (cap - k) 1 ((zs.drop k).map intCells) := by
  have hc := h.count
  have hle := h.le
  have hmx := h.max
  refine ⟨by simp at hc ⊢; omega, by omega, by omega, fun h => by simp at h, ?_, fun h0 _ => ?_⟩
  · intro v hv
    obtain ⟨z, _, rfl⟩ := List.mem_map.1 hv
    rfl
  · obtain ⟨b, o, ha, hb, hcell⟩ := h.cells (by omega) (by omega)
    simp only [Option.some.injEq, Addr.mk.injEq, and_true] at ha
    obtain ⟨rfl, rfl⟩ := ha
    refine ⟨g, off + k, rfl, hb, fun i v hv j hj => ?_⟩
    have := hcell (k + i) v (by rw [List.getElem?_map] at hv ⊢; rw [List.getElem?_drop] at hv; exact hv) j hj
    rw [← this]
    congr 2
    omega

set_option maxRecDepth 100000 in
set_option maxHeartbeats 4000000 in
theorem targets_go (av : Option Addr) (len cap : Nat) (its : List Item) (all : Bool) (w : World) (hcm : Came w av len cap 6 (its.map itemCells)) :
    Calls Try.prog 5 #[.slice av len cap, .bool all] w fun e w' => e = .returned (.bool true) ∧ Below w.heap.size w w' := by
  have HFACT := fun w => Lib.hid (relaxFactK_ok w)
  have HCAME := Lib.hid hcm
  clear hcm
  go_enter Try.func5, Try.ntmps5
  go_wp2_with fail
  refine (HFACT _).out.mono ?_
  rintro e w1 ⟨rfl, hb⟩
  have HB1 := Lib.hid hb
  clear hb
  go_wp2_with fail
  obtain ⟨n, hn300, hnl, hit⟩ := items_any av len cap its w1 (HCAME.out.below HB1.out)
  refine hit.mono ?_
  rintro e w2 ⟨v, rfl, hown, hb⟩
  obtain ⟨a2, cap2, rfl, hcm2⟩ := came_of_ownsG (E := itemCells) (zs := outI its n n) (by omega) itemCells_len (outI_len its n n) (by have := hown; rw [outI_len] at this; exact this)
  have hok := outI_ok its n hn300
  have hlen := outI_len its n n
  have hst := targets_tgt its n
  obtain ⟨out, hout⟩ : ∃ out, out = outI its n n := ⟨_, rfl⟩
  rw [← hout] at hcm2 hok hlen hst
  have hle2 := hcm2.le
  have hmx2 := hcm2.max
  have HB2 := Lib.hid (HB1.out.trans (hb.mono HB1.out.size))
  have HCM := Lib.hid hcm2
  have HOK := Lib.hid hok
  have HLEN := Lib.hid hlen
  have HSTR := Lib.hid hst
  clear hit hown hb hout hcm2 hok hlen HB1 HCAME HFACT hst
  go_wp2_with fail
  refine (renc_small a2 n cap2 out all w2 HCM.out HOK.out hn300).mono ?_
  rintro e w3 ⟨v1, gs, L, rfl, hS1, hp1, hown1, hblk1, hg1, hb⟩
  obtain ⟨s1, c1, rfl, hcd⟩ := came_of_owns_intsT hown1
  have hlc : ((codeTo out (allL out all L) n).length : Int) = posL (allL out all L) n := codeTo_len _ _ _
  have HDEC := Lib.hid (fun i (hi : i < n) => targets_dec (all := all) hn300 HLEN.out HOK.out hS1 hi)
  have HCL := Lib.hid (fun i => codeTo_len out (allL out all L) i)
  obtain ⟨M, hM⟩ : ∃ M, M = allL out all L := ⟨_, rfl⟩
  rw [← hM] at hblk1 hlc hcd HDEC HCL ⊢
  obtain ⟨cd, hcde⟩ : ∃ cd, cd = codeTo out M n := ⟨_, rfl⟩
  rw [← hcde] at hcd hlc HDEC ⊢
  obtain ⟨m1, hm1⟩ : ∃ m1, m1 = cd.length := ⟨_, rfl⟩
  rw [← hm1] at hcd hlc ⊢
  have hpb := posL_bd M n
  have hm1b : m1 ≤ 600 := by omega
  have hlec := hcd.le
  have hmxc := hcd.max
  have HB3 := Lib.hid (HB2.out.trans (hb.mono HB2.out.size))
  have HCM3 := Lib.hid (HCM.out.below hb)
  have HGS := Lib.hid hblk1
  have HCD := Lib.hid hcd
  have HLC := Lib.hid hlc
  have HCML := Lib.hid hm1
  clear hb hS1 hblk1 hown1 hp1 hg1 HB2 HCM hM hcde hm1 hcd hlc
  go_wp2_with fail
  go_loopw [35] (fun u wr => ∃ k : Nat, k ≤ n ∧ u = .int .i64 k ∧ Below w3.heap.size w3 wr) (fun u _ => n - (intOf u).toNat)
  case atStart => exact ⟨0, Nat.zero_le _, rfl, Below.refl _ _⟩
  case round =>
    obtain ⟨k, hk, rfl, hb⟩ := hrel
    by_cases hlt : k < n
    · have hcm6 := HCM3.out.below hb
      have hgs6 := HGS.out.below hb HGS.out.lt
      have hcd6 := HCD.out.below hb
      obtain ⟨b0, off, ea, hbl, hcell⟩ := came_items hcm6 (by omega)
      subst ea
      have hkl : k < out.length := by have := HLEN.out; omega
      have hcs := hcell k hkl
      rw [← itAt_get hkl] at hcs
      have e1 := hgs6.row (i := k) (by omega)
      have hgs := hgs6.lt
      have hw3 : w3.heap.size ≤ wr.heap.size := hb.size
      obtain ⟨pn, hpn⟩ : ∃ pn, pn = (codeTo out M k).length := ⟨_, rfl⟩
      have hpp : posL M k = (pn : Int) := by rw [hpn]; exact (HCL.out k).symm
      have hps : posL M (k + 1) = posL M k + (if M k = true then 2 else 1) := rfl
      obtain ⟨sz, hsz⟩ : ∃ sz : Int, sz = if M k = true then 2 else 1 := ⟨_, rfl⟩
      have hszb : 1 ≤ sz ∧ sz ≤ 2 := by rw [hsz]; split <;> omega
      have hdec := HDEC.out k hlt
      rw [← hpn, ← hsz] at hdec
      rw [← hsz, hpp] at hps
      rw [hpp] at e1
      have hpk : (pn : Int) + sz ≤ (m1 : Int) := by
        have h1 := HLC.out
        have h2 := pos_lt M (k + 1) (n - (k + 1))
        rw [show k + 1 + (n - (k + 1)) = n by omega] at h2
        omega
      have hno : nOf out M k = if lab out k = true then posL M (tgt out k) - posL M (k + 1) else (itAt out k).n := rfl
      rw [hps] at hno
      have hlast : k + 1 = n → (pn : Int) + sz = (m1 : Int) := by
        intro h; rw [← hps, HLC.out, h]
      have hok := item_ok ((items_ok HOK.out).2 k hkl)
      have hstr := HSTR.out k hlt
      have e3 : k + 1 < n → wr.cell? ⟨gs, k + 1, none⟩ = some (.int .i64 ((pn : Int) + sz)) := by
        intro h; rw [hgs6.row (i := k + 1) (by omega), hps]
      have e4 : lab out k = true → wr.cell? ⟨gs, tgt out k, none⟩ = some (.int .i64 (posL M (tgt out k))) := fun h => hgs6.row (i := tgt out k) (by have := hstr h; omega)
      have hpt := posL_bd M (tgt out k)
      have htn : lab out k = true → tgt out k < n := hstr
      have HTG : Hid (tgt out k = (itAt out k).tg.toNat) := rfl
      obtain ⟨g1, o1, ea, hg1l, _⟩ := hcd6.ints (by omega)
      subst ea
      have hcdrop := came_drop hcd6 pn (by omega)
      have hlb : lab out k = decide (0 ≤ (itAt out k).tg) := rfl
      obtain ⟨it, hit⟩ : ∃ it, it = itAt out k := ⟨_, rfl⟩
      rw [← hit] at hcs HTG hdec hno hok hlb
      have HCS := Lib.hid hcs
      have HB := Lib.hid hb
      have HGS6 := Lib.hid hgs6
      obtain ⟨op, d, a, b, m, tg⟩ := it
      obtain ⟨c0, c1', c2, c3, c4, c5⟩ := HCS.out
      simp only at c0 c1' c2 c3 c4 c5 HTG hdec hno hok hlb
      obtain ⟨N, hN⟩ : ∃ N, N = nOf out M k := ⟨_, rfl⟩
      rw [← hN] at hdec hno
      have HD := fun {wx : World} (h : Below wr.heap.size wr wx) => Lib.hid (decode_any wx (some ⟨g1, o1 + pn, none⟩) (m1 - pn) (c1 - pn) (cd.drop pn) (hcdrop.below h))
      rw [hdec] at HD
      have i1 : (pn : Int) < (m1 : Int) := by omega
      have i2 : (0 : Int) ≤ (pn : Int) := by omega
      have i3 : (k : Int) < (n : Int) := by omega
      have i4 : (0 : Int) ≤ (k : Int) := by omega
      have hpc : pn < c1 := by omega
      have HDEC2 := Lib.hid hdec
      have HPS2 := Lib.hid hps
      have HHIT := Lib.hid hit
      have HLAST := Lib.hid hlast
      have HE3 := Lib.hid e3
      have HE4 := Lib.hid e4
      have HTN := Lib.hid htn
      have HLB2 := Lib.hid hlb
      have HPN := Lib.hid hpn
      have HNN := Lib.hid hN
      have HHNO := Lib.hid hno
      have HHOK := Lib.hid hok
      clear hcs hcell hb hcm6 hgs6 hcd6 hit hdec hps hlast e3 e4 htn hlb hpp hpn hN hno hok hcdrop hsz hstr
      go_wp2_with fail
      refine (HD ((Below.refl _ _).alloc (Nat.le_refl _) _)).out.mono ?_
      rintro e w5 ⟨rfl, hb5⟩
      simp only [Dec.val]
      have hx := (Blk.new wr (itemCells ⟨op, d, a, b, m, tg⟩) 41).below hb5 (by simp)
      have x0 := hx.cell 0
      have x1 := hx.cell 1
      have x2 := hx.cell 2
      have x3 := hx.cell 3
      have x4 := hx.cell 4
      have x5 := hx.cell 5
      simp only [itemCells, List.getElem?_cons_zero, List.getElem?_cons_succ] at x0 x1 x2 x3 x4 x5
      have e1' := (hb5.cell (p := ⟨gs, k, none⟩) (by simp; omega)).trans ((World.cell?_alloc_lt _ _ _ hgs).trans e1)
      have hl5 : wr.heap.size < w5.heap.size := by have := hb5.size; simp at this; omega
      have hg5 : gs < w5.heap.size := by omega
      have hw35 : w3.heap.size ≤ w5.heap.size := by omega
      have HB5 := Lib.hid ((HB.out.alloc hw3 (.cells #[.int .i64 op, .int .i64 d, .int .i64 a, .int .i64 b, .int .i64 m, .int .i64 tg] 41)).trans (hb5.mono (B' := w3.heap.size) (by simp; omega)))
      clear hx c0 c1' c2 c3 c4 c5 e1 HD
      by_cases htg : tg < 0
      · have hNm : N = m := by rw [HHNO.out, if_neg (by rw [HLB2.out, decide_eq_false (by omega)]; simp)]
        subst hNm
        by_cases hkn : k + 1 < n
        · have q1 : decide ((k : Int) + 1 < (n : Int)) = true := decide_eq_true (by omega)
          have q2 : ((k : Int) + 1 == (n : Int)) = false := beq_eq_false_iff_ne.2 (by omega)
          have e3' := (hb5.cell (p := ⟨gs, k + 1, none⟩) (by simp; omega)).trans ((World.cell?_alloc_lt _ _ _ hgs).trans (HE3.out hkn))
          have q3 : (k : Int) + 1 < (n : Int) := by omega
          clear hb5
          go_wp2_with fail
          go_quiet (fail)
          go_wp2_with fail
          go_roundw
          case rel =>
            refine ⟨k + 1, by omega, by go_num, ?_⟩
            repeat (first | exact HB5.out | (refine Below.trans ?_ (below_drewN_self _ _ _)) | (refine Below.setCell ?_ (by first | omega | (simp; done) | (simp; omega)) _) | (refine Below.alloc ?_ (by first | omega | (simp; done) | (simp; omega)) _))
          case measure => simp [intOf]; omega
        · have q1 : decide ((k : Int) + 1 < (n : Int)) = false := decide_eq_false (by omega)
          have q2 : ((k : Int) + 1 == (n : Int)) = true := by rw [beq_iff_eq]; omega
          have q4 : ((pn : Int) + sz != (m1 : Int)) = false := by rw [bne_eq_false_iff_eq]; exact HLAST.out (by omega)
          clear hb5
          go_wp2_with fail
          go_quiet (fail)
          go_wp2_with fail
          go_roundw
          case rel =>
            refine ⟨k + 1, by omega, by go_num, ?_⟩
            repeat (first | exact HB5.out | (refine Below.trans ?_ (below_drewN_self _ _ _)) | (refine Below.setCell ?_ (by first | omega | (simp; done) | (simp; omega)) _) | (refine Below.alloc ?_ (by first | omega | (simp; done) | (simp; omega)) _))
          case measure => simp [intOf]; omega
      · have hlt' : lab out k = true := by rw [HLB2.out, decide_eq_true (by omega)]
        obtain ⟨t, rfl⟩ := Int.eq_ofNat_of_zero_le (show 0 ≤ tg by omega)
        have htt : tgt out k = t := by rw [HTG.out]; omega
        have hx4 := HE4.out hlt'
        rw [htt] at hx4
        have e4' := (hb5.cell (p := ⟨gs, t, none⟩) (by simp; omega)).trans ((World.cell?_alloc_lt _ _ _ hgs).trans hx4)
        clear hx4
        have htn := HTN.out hlt'
        have hNm : N = posL M t - ((pn : Int) + sz) := by rw [HHNO.out, if_pos hlt', htt]
        rw [htt] at htn hpt
        obtain ⟨pt, hptv⟩ : ∃ pt, pt = posL M t := ⟨_, rfl⟩
        rw [← hptv] at e4' hNm hpt
        have hm0 : m = 0 := by
          rcases HHOK.out with ⟨_, _, _, _, h⟩ | ⟨h, _⟩
          · exact h
          · omega
        subst hm0
        have hNb : -1000 ≤ N ∧ N ≤ 1000 := by omega
        have q5 : ((pn : Int) + sz + N != pt) = false := by rw [bne_eq_false_iff_eq]; omega
        have i5 : (t : Int) < (n : Int) := by omega
        have i6 : (0 : Int) ≤ (t : Int) := by omega
        have HNM := Lib.hid hNm
        clear hlt' htt hptv hNm
        by_cases hkn : k + 1 < n
        · have q1 : decide ((k : Int) + 1 < (n : Int)) = true := decide_eq_true (by omega)
          have q2 : ((k : Int) + 1 == (n : Int)) = false := beq_eq_false_iff_ne.2 (by omega)
          have e3' := (hb5.cell (p := ⟨gs, k + 1, none⟩) (by simp; omega)).trans ((World.cell?_alloc_lt _ _ _ hgs).trans (HE3.out hkn))
          have q3 : (k : Int) + 1 < (n : Int) := by omega
          clear hb5
          go_wp2_with fail
          go_quiet (fail)
          go_wp2_with fail
          go_quiet (fail)
          go_wp2_with fail
          go_roundw
          case rel =>
            refine ⟨k + 1, by omega, by go_num, ?_⟩
            repeat (first | exact HB5.out | (refine Below.trans ?_ (below_drewN_self _ _ _)) | (refine Below.setCell ?_ (by first | omega | (simp; done) | (simp; omega)) _) | (refine Below.alloc ?_ (by first | omega | (simp; done) | (simp; omega)) _))
          case measure => simp [intOf]; omega
        · have q1 : decide ((k : Int) + 1 < (n : Int)) = false := decide_eq_false (by omega)
          have q2 : ((k : Int) + 1 == (n : Int)) = true := by rw [beq_iff_eq]; omega
          have q4 : ((pn : Int) + sz != (m1 : Int)) = false := by rw [bne_eq_false_iff_eq]; exact HLAST.out (by omega)
          clear hb5
          go_wp2_with fail
          go_quiet (fail)
          go_wp2_with fail
          go_quiet (fail)
          go_wp2_with fail
          go_roundw
          case rel =>
            refine ⟨k + 1, by omega, by go_num, ?_⟩
            repeat (first | exact HB5.out | (refine Below.trans ?_ (below_drewN_self _ _ _)) | (refine Below.setCell ?_ (by first | omega | (simp; done) | (simp; omega)) _) | (refine Below.alloc ?_ (by first | omega | (simp; done) | (simp; omega)) _))
          case measure => simp [intOf]; omega
    · have HB := Lib.hid hb
      clear hb
      go_wp2_with fail
      go_ret
      exact ⟨rfl, HB3.out.trans (HB.out.mono HB3.out.size)⟩

theorem relaxTargets_walk (a : Option Addr) (len cap : Nat) (its : List Item) (all : Bool) (w : World) (h : Came w a len cap 6 (its.map itemCells) ∧ ∀ z ∈ its, True) :
    Calls Try.prog 5 #[.slice a len cap, .bool all] w fun e w' => e = .returned (.bool true) ∧ Below w.heap.size w w' :=
  targets_go a len cap its all w h.1
end Go.Proofs.Ytekckijcljgaoaa
