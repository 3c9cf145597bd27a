/- The walk of PredictPlays. -/
import Derived.Test.YtioaoncnandjpabPredictPlaysA
import Derived.Deep.RegionHeld3
namespace Go.Proofs.Ytioaoncnandjpab
open Go.RowKit
set_option linter.unusedVariables false

def okPc (x : Int) : Bool := decide (0 ≤ x) && decide (x < 16384)
theorem okPc_true {x : Int} : okPc x = true ↔ 0 ≤ x ∧ x < 16384 := by simp [okPc]
theorem okPc_false {x : Int} : okPc x = false ↔ x < 0 ∨ 16384 ≤ x := by rw [← Bool.not_eq_true, okPc_true]; omega
/-- the decisions at the branches before number k that share entry e -/
def hist (L : Nat) (pcs : List Int) (bs : List Bool) (e k : Nat) : List Bool := (((pcs.zip bs).take k).filter fun q => okPc q.1 && q.1.toNat % L == e).map (·.2)
theorem hist_zero (L : Nat) (pcs : List Int) (bs : List Bool) (e : Nat) : hist L pcs bs e 0 = [] := rfl
theorem hist_succ (L : Nat) (pcs : List Int) (bs : List Bool) (e k : Nat) (h1 : k < pcs.length) (h2 : k < bs.length) :
    hist L pcs bs e (k + 1) = if okPc pcs[k] = true ∧ pcs[k].toNat % L = e then hist L pcs bs e k ++ [bs[k]] else hist L pcs bs e k := by
  unfold hist
  rw [take_succ_snoc _ _ (by rw [List.length_zip]; omega), List.filter_append, List.map_append, List.getElem_zip]
  split
  · rename_i h; simp [h.1, h.2]
  · rename_i h; simp only [List.filter_cons, List.filter_nil]
    rw [if_neg (by simpa using h)]; simp

/-- before round i -/
def PlaysSt (wr : World) (p cb L : Nat) (pcs : List Int) (bs : List Bool) (i : Nat) (wrong : Int) : Prop :=
  ∃ cs, PredSt wr p cb cs wrong ∧ cs.length = L ∧ (∀ c ∈ cs, 0 ≤ c ∧ c ≤ 3) ∧ (0 ≤ wrong ∧ wrong ≤ i) ∧ ∀ e, e < L → cs.getD e 0 = ctr (hist L pcs bs e i)

theorem plays_start {wr : World} {p cb L : Nat} {pcs : List Int} {bs : List Bool} (hs : PredSt wr p cb (List.replicate L 1) 0) : PlaysSt wr p cb L pcs bs 0 0 := by
  refine ⟨_, hs, by simp, ?_, by omega, fun e he => ?_⟩
  · intro c hc
    rw [List.eq_of_mem_replicate hc]; omega
  · simp only [List.getD, List.getElem?_replicate, if_pos he, Option.getD_some, hist_zero]; rfl

theorem plays_drew {wr : World} {p cb L : Nat} {pcs : List Int} {bs : List Bool} {i : Nat} {wrong : Int} (h : PlaysSt wr p cb L pcs bs i wrong) (n : Nat) : PlaysSt (wr.drewN n) p cb L pcs bs i wrong := by
  obtain ⟨cs, hs, r⟩ := h
  exact ⟨cs, ⟨hs.st, hs.cn, hs.ne⟩, r⟩

theorem plays_below {wr wx : World} {p cb L : Nat} {pcs : List Int} {bs : List Bool} {i : Nat} {wrong : Int} (h : PlaysSt wr p cb L pcs bs i wrong) (hb : Below wr.heap.size wr wx) : PlaysSt wx p cb L pcs bs i wrong := by
  obtain ⟨cs, hs, r⟩ := h
  exact ⟨cs, ⟨hs.st.below hb hs.st.lt, hs.cn.below hb hs.cn.lt, hs.ne⟩, r⟩

theorem plays_taken {wr : World} {p cb L : Nat} {pcs : List Int} {bs : List Bool} {i : Nat} {wrong : Int} (h : PlaysSt wr p cb L pcs bs i wrong) (pc : Nat) (hL1 : 1 ≤ L) (hL2 : L ≤ 1024) (hpc : pc < 16384) :
    Calls Try.prog 16 #[.pointer (some ⟨p, 0, none⟩), .int .i64 (pc : Int)] wr (TakPost wr (tak (ctr (hist L pcs bs (pc % L) i)))) := by
  obtain ⟨cs, hs, rfl, hb, hw, hc⟩ := h
  rw [← hc _ (Nat.mod_lt _ (by omega))]
  exact taken_ok wr p cb cs wrong pc hs hL1 hL2 hpc

def PlaysPost (w : World) (p cb L : Nat) (pcs : List Int) (bs : List Bool) (i : Nat) (wrong : Int) (was tk : Bool) (e : Ending) (w' : World) : Prop :=
  e = .returned (.tuple #[.bool (was != tk), .int .i64 0]) ∧ PlaysSt w' p cb L pcs bs (i + 1) (if was != tk then wrong + 1 else wrong) ∧ ∀ B, B ≤ p → B ≤ cb → Below B w w'

theorem plays_update {wr : World} {p cb L : Nat} {pcs : List Int} {bs : List Bool} {i : Nat} {wrong : Int} (h : PlaysSt wr p cb L pcs bs i wrong) (pc : Nat) (tk : Bool) (hL1 : 1 ≤ L) (hL2 : L ≤ 1024) (hpc : pc < 16384) (hi : i ≤ 60)
    (h1 : i < pcs.length) (h2 : i < bs.length) (e1 : (pc : Int) = pcs[i]) (e2 : tk = bs[i]) :
    Calls Try.prog 17 #[.pointer (some ⟨p, 0, none⟩), .int .i64 (pc : Int), .bool tk] wr (PlaysPost wr p cb L pcs bs i wrong (tak (ctr (hist L pcs bs (pc % L) i))) tk) := by
  obtain ⟨cs, hs, rfl, hb, hw, hc⟩ := h
  have hlt : pc % cs.length < cs.length := Nat.mod_lt _ (by omega)
  have hcb : 0 ≤ cs.getD (pc % cs.length) 0 ∧ cs.getD (pc % cs.length) 0 ≤ 3 := by
    have := hb _ (List.getElem_mem hlt); simpa [List.getD, hlt] using this
  refine (update_ok wr p cb cs wrong pc tk hs hL1 hL2 hpc (by omega) hb).mono ?_
  rintro e w' ⟨he, hs', hB⟩
  rw [hc _ hlt] at he hs'
  have hcb2 := hcb
  rw [hc _ hlt] at hcb2
  refine ⟨he, ⟨_, hs', by simp, ?_, ?_, ?_⟩, hB⟩
  · intro c hcm
    rcases List.mem_or_eq_of_mem_set hcm with h3 | h3
    · exact hb c h3
    · rw [h3]; exact upd_bd _ _ hcb2
  · split <;> omega
  · intro e' he'
    rw [hist_succ _ _ _ _ _ h1 h2, ← e1, ← e2]
    have hok : okPc (pc : Int) = true := okPc_true.2 (by omega)
    by_cases hee : pc % cs.length = e'
    · subst hee
      rw [if_pos ⟨hok, by simp⟩, ctr_snoc]
      simp [List.getD, hlt]
    · rw [if_neg (fun hx => hee (by simpa using hx.2)), ← hc _ he']
      simp [List.getD, hee]

theorem plays_skip {wr : World} {p cb L : Nat} {pcs : List Int} {bs : List Bool} {i : Nat} {wrong : Int} (h : PlaysSt wr p cb L pcs bs i wrong) (h1 : i < pcs.length) (h2 : i < bs.length) (hok : okPc pcs[i] = false) :
    PlaysSt wr p cb L pcs bs (i + 1) wrong := by
  obtain ⟨cs, hs, hl, hb, hw, hc⟩ := h
  refine ⟨cs, hs, hl, hb, by omega, fun e he => ?_⟩
  rw [hc e he, hist_succ _ _ _ _ _ h1 h2, if_neg (by simp [hok])]

theorem Try.info4 : (Try.prog.info? 4).map (fun i => (i.zero, i.size, i.bytes)) = some (some (.bool false), 1, 1) := by kernel_rfl

theorem came_of_owns_bools {w : World} {base : Nat} {e : TypeId} {v : Value} {n : Nat} {l : List Bool} (h : w.ownsRow base e 1 v n (l.map Value.bool)) : ∃ a cap, v = .slice a n cap ∧ Came w a n cap 1 (l.map boolCells) := by
  have hv : ∃ a m cap, v = .slice a m cap := by
    rcases h.2 with ⟨rfl, _⟩ | ⟨g, c, cur, rfl, _⟩
    · exact ⟨_, _, _, rfl⟩
    · exact ⟨_, _, _, rfl⟩
  obtain ⟨a, m, cap, rfl⟩ := hv
  have h1 := came_of_owns (E := boolCells) (zs := l) (fun z => ⟨_, rfl⟩) (by simpa [boolCells] using h)
  obtain ⟨rfl, h2⟩ := h1
  exact ⟨a, cap, rfl, h2⟩

theorem Came.drewN {w : World} {a : Option Addr} {len cap sz : Nat} {vs : List (List Value)} (h : Came w a len cap sz vs) {n : Nat} : Came (w.drewN n) a len cap sz vs := h.below (below_drewN_self _ _ _)

set_option maxRecDepth 100000 in
set_option maxHeartbeats 4000000 in
theorem predictPlays_walk (a0 : Int) (a1 : Option Addr) (len1 cap1 : Nat) (z1 : List Int) (a2 : Option Addr) (len2 cap2 : Nat) (z2 : List Bool) (w : World) (w0 : -9223372036854775808 ≤ a0 ∧ a0 ≤ 9223372036854775807)
    (w1 : Came w a1 len1 cap1 1 (z1.map intCells) ∧ ∀ z ∈ z1, I64 z) (w2 : Came w a2 len2 cap2 1 (z2.map boolCells) ∧ ∀ z ∈ z2, True) :
    Calls Try.prog 3 #[.int .i64 a0, .slice a1 len1 cap1, .slice a2 len2 cap2] w fun e w' => e = .returned (.bool true) ∧ Below w.heap.size w w' := by
  obtain ⟨w1, hz1⟩ := w1
  obtain ⟨w2, _⟩ := w2
  by_cases hr : a0 < 1 ∨ 1024 < a0
  · have HE := Lib.hid (new_err a0 w hr)
    have HO := Lib.hid (new_ok 1 w (by omega) (by omega))
    have hc : (decide (a0 < 1) || decide (1024 < a0)) = true := by simpa using hr
    go_enter Try.func3, Try.ntmps3
    go_wp2_with fail
    refine HE.out.mono ?_
    rintro e w' ⟨rfl, rfl⟩
    go_wp2_with fail
    refine HO.out.mono ?_
    rintro e w' ⟨p, cb, rfl, hs, hp, hcb, hb⟩
    clear hs
    rcases hr with hr | hr
    · go_wp2
      go_ret
      exact ⟨rfl, hb⟩
    · have : ¬ a0 < 1 := by omega
      go_wp2
      go_ret
      exact ⟨rfl, hb⟩
  · obtain ⟨L, hL⟩ : ∃ L : Nat, a0 = (L : Int) := ⟨a0.toNat, by omega⟩
    subst hL
    have hL1 : 1 ≤ L := by omega
    have hL2 : L ≤ 1024 := by omega
    clear hr
    have HN := Lib.hid (new_ok L w hL1 hL2)
    have HO := fun w => Lib.hid (new_ok 1 w (by omega) (by omega))
    go_enter Try.func3, Try.ntmps3
    go_wp2_with fail
    refine HN.out.mono ?_
    rintro e wa ⟨p, cb, rfl, hs, hp, hcb, hb⟩
    have HS := Lib.hid hs; clear hs HN
    go_wp2_with fail
    refine (HO _).out.mono ?_
    rintro e wb ⟨p', cb', rfl, hs', hp', hcb', hb'⟩
    have hs0 : PredSt wb p cb (List.replicate L 1) 0 := ⟨HS.out.st.below hb' HS.out.st.lt, HS.out.cn.below hb' HS.out.cn.lt, HS.out.ne⟩
    have hbb := hb.trans (hb'.mono hb.size)
    have HS0 := Lib.hid hs0
    clear HS hs' hp' hcb' hb' hb HO hs0
    go_wp2
    have hpB : w.heap.size ≤ p ∧ w.heap.size ≤ cb := ⟨hp, hcb⟩
    clear hp hcb
    have hc1 := w1.count
    have hc2 := w2.count
    simp only [List.length_map] at hc1 hc2
    have hm1 := w1.max
    have hm2 := w2.max
    have hl1 := w1.le
    have hl2 := w2.le
    have W1 := Lib.hid w1
    have W2 := Lib.hid w2
    have C1 := Lib.hid hc1
    have C2 := Lib.hid hc2
    have HZ := Lib.hid hz1
    clear w1 w2 hc1 hc2 hz1
    go_loopw [11, 12] (fun u v wr => ∃ (i : Nat) (wrong : Int), i ≤ 60 ∧ u = .int .i64 wrong ∧ v = .int .i64 i ∧ PlaysSt wr p cb L z1 z2 i wrong ∧ Below w.heap.size w wr) (fun _ v _ => 60 - (intOf v).toNat)
    case atStart => exact ⟨0, 0, by omega, rfl, rfl, plays_start HS0.out, hbb⟩
    case round =>
      clear HS0 hbb
      obtain ⟨i, wrong, hi, rfl, rfl, hst, hb⟩ := hrel
      have HST := Lib.hid hst; clear hst
      by_cases h1 : i < len1
      · by_cases h2 : i < len2
        · by_cases h3 : i < 60
          · have n1 : i < z1.length := by have := C1.out; omega
            have n2 : i < z2.length := by have := C2.out; omega
            obtain ⟨b1, o1, ha1, hb1, hcell1⟩ := W1.out.ints (by omega)
            obtain ⟨b2, o2, ha2, hb2, hcell2⟩ := W2.out.bools (by omega)
            subst ha1
            subst ha2
            have hc1 : ∀ wx, Below w.heap.size w wx → ∀ k (hk : k < z1.length), wx.cell? ⟨b1, o1 + k, none⟩ = some (.int .i64 z1[k]) := fun wx hbx k hk => (hbx.cell (p := ⟨b1, o1 + k, none⟩) hb1).trans (hcell1 k hk)
            have hc2 : ∀ wx, Below w.heap.size w wx → ∀ k (hk : k < z2.length), wx.cell? ⟨b2, o2 + k, none⟩ = some (.bool z2[k]) := fun wx hbx k hk => (hbx.cell (p := ⟨b2, o2 + k, none⟩) hb2).trans (hcell2 k hk)
            have HC1 := Lib.hid hc1
            have HC2 := Lib.hid hc2
            clear hc1 hc2 hcell1 hcell2 W1 W2
            by_cases hv : 0 ≤ z1[i] ∧ z1[i] < 16384
            · obtain ⟨pc, hpc⟩ : ∃ pc : Nat, (pc : Int) = z1[i] := ⟨z1[i].toNat, by omega⟩
              obtain ⟨tk, htk⟩ : ∃ tk, tk = z2[i] := ⟨_, rfl⟩
              have q1 := HC1.out wr hb i n1
              have q2 := HC2.out wr hb i n2
              rw [← hpc] at hv q1
              rw [← htk] at q2
              have HPC := Lib.hid hpc
              have HTK := Lib.hid htk
              have hpc2 : pc < 16384 := by omega
              have HT := fun m => Lib.hid (plays_taken (plays_drew HST.out m) pc hL1 hL2 hpc2)
              have HU := fun m => Lib.hid (plays_update (plays_drew HST.out m) pc tk hL1 hL2 hpc2 hi n1 n2 hpc htk)
              clear hpc htk
              go_wp2_with fail
              refine (HT 0).out.mono ?_
              rintro e w' ⟨m0, rfl, rfl⟩
              go_wp2_with fail
              go_region_held3 (fun w' => w'.cell? ⟨b1, o1 + i, none⟩ = some (.int .i64 pc) ∧ w'.cell? ⟨b2, o2 + i, none⟩ = some (.bool tk)) (first | exact ⟨q1, q2⟩ | exact ⟨q3, q4⟩ | go_keep) (first | (go_at_call 17; refine (HU (m0 + 1)).out.mono ?_; rintro e wc ⟨rfl, hs5, hb5⟩; have hb6 := hb.trans (((below_drewN_self _ _ (m0 + 1)).trans (hb5 w.heap.size hpB.1 hpB.2))); have q3 := HC1.out wc hb6 i n1; have q4 := HC2.out wc hb6 i n2; rw [← HPC.out] at q3; rw [← HTK.out] at q4; have HS5 := Lib.hid hs5; clear hs5 hb5))
              clear HT HU
              have HH : Hid (∀ k, hist L z1 z2 (pc % L) k = hist L z1 z2 (pc % L) k) := fun _ => rfl
              obtain ⟨hs, hhs⟩ : ∃ hs, hs = hist L z1 z2 (pc % L) := ⟨_, rfl⟩
              rw [← hhs] at HS5 HH ⊢
              have HHS := Lib.hid hhs
              clear hhs HH
              have HST2 := HST
              obtain ⟨was, hwas⟩ : ∃ was, was = tak (ctr (hs i)) := ⟨_, rfl⟩
              rw [← hwas] at HS5 ⊢
              have HWAS := Lib.hid hwas
              clear hwas
              have hcc0 := hb6.size
              go_wp2
              go_loopw [17, 116] (fun v u wr2 => ∃ k : Nat, k ≤ i ∧ u = .int .i64 k ∧ wr2.ownsRow wc.heap.size 4 1 v (hs k).length ((hs k).map Value.bool) ∧ Below wc.heap.size wc wr2) (fun _ u _ => i - (intOf u).toNat)
              case atStart => exact ⟨0, Nat.zero_le _, rfl, by rw [HHS.out]; exact World.ownsRow_nil _ _ _ _, Below.refl _ _⟩
              case round =>
                obtain ⟨k, hk, rfl, hown, hbl⟩ := hrel
                have hb7 := hb6.trans (hbl.mono hcc0)
                by_cases hki : k < i
                · have m1 : k < z1.length := by omega
                  have m2 : k < z2.length := by omega
                  have p1 := HC1.out _ hb7 k m1
                  have p2 := HC2.out _ hb7 k m2
                  have p3 := HC1.out _ hb7 i n1
                  rw [← HPC.out] at p3
                  have HSK := Lib.hid (hist_succ L z1 z2 (pc % L) k m1 m2)
                  rw [← HHS.out] at HSK
                  have HOWN := Lib.hid hown
                  have HBL := Lib.hid hbl
                  obtain ⟨x, hx⟩ : ∃ x, x = z1[k] := ⟨_, rfl⟩
                  obtain ⟨bk, hbk⟩ : ∃ bk, bk = z2[k] := ⟨_, rfl⟩
                  rw [← hx] at p1 HSK
                  rw [← hbk] at p2 HSK
                  clear hx hbk hown hbl q1 q2 q3 q4
                  have e3 : (pc : Int).tmod (L : Int) = ((pc % L : Nat) : Int) := (Int.tmod_eq_emod_of_nonneg (Int.natCast_nonneg _)).trans rfl
                  have z0 : ((L : Int) == 0) = false := beq_eq_false_iff_ne.2 (by omega)
                  by_cases hx0 : 0 ≤ x
                  · by_cases hx1 : x < 16384
                    · obtain ⟨xn, hxn⟩ : ∃ xn : Nat, x = (xn : Int) := ⟨x.toNat, by omega⟩
                      subst hxn
                      have e4 : (xn : Int).tmod (L : Int) = ((xn % L : Nat) : Int) := (Int.tmod_eq_emod_of_nonneg (Int.natCast_nonneg _)).trans rfl
                      by_cases hxx : xn % L = pc % L
                      · have t1 : (((xn % L : Nat) : Int) == ((pc % L : Nat) : Int)) = true := by rw [hxx]; simp
                        have HX2 : Hid (hs (k + 1) = hs k ++ [bk]) := by
                          have h5 := HSK.out
                          rw [if_pos ⟨okPc_true.2 (by omega), by simpa using hxx⟩] at h5
                          exact h5
                        clear hxx HSK
                        have hlen : (hs k).length ≤ 60 := by
                          rw [HHS.out]; unfold hist
                          have h5 := List.length_filter_le (fun q : Int × Bool => okPc q.1 && q.1.toNat % L == pc % L) ((z1.zip z2).take k)
                          have h6 := List.length_take_le k (z1.zip z2)
                          rw [List.length_map]; omega
                        go_wp2
                        go_quiet (fail)
                        have HOW2 := Lib.hid (HOWN.out)
                        have p4 := p2
                        obtain ⟨i0, hi0, hz0, hz1', hz2⟩ := info_parts Try.info4
                        go_wp2_with (at_builtin; refine wpList_append_own _ rfl _ _ 23 rfl wc.heap.size 4 i0 (.bool false) 1 1 Try.underlying23 hi0 hz0 hz1' hz2 rfl (by decide) _ _ _ rfl ((HOWN.out).alloc _) ⟨wr.heap.size, 0, none⟩ 1 1 [.bool bk] rfl rfl ?qc1 ?qc2 ?qc3 ?qc4 ?qc5 ?_)
                        case qc1 => exact cell_one_new _ _ _
                        case qc2 => intro u hu; simp at hu; subst hu; rfl
                        case qc3 => unfold maxLen; omega
                        case qc4 => omega
                        case qc5 => have := HBL.out.size; simp; omega
                        · intro v' w3 hown' hgrow _
                          have HO3 := Lib.hid hown'
                          have HB3 := Lib.hid (((HBL.out.trans (below_drewN_self _ _ nq)).alloc (by have := HBL.out.size; simpa using this) (Obj.cells #[Value.bool bk] 4)).grown hgrow (by have := HBL.out.size; simp; omega) (fun q hq => (HOWN.out.lt q hq).1))
                          clear hown' hgrow
                          go_wp2
                          go_roundw
                          case rel => exact ⟨k + 1, by omega, by go_num, by rw [HX2.out, List.length_append, List.map_append]; exact HO3.out, HB3.out⟩
                          case measure => simp [intOf]; omega
                      · have t1 : (((xn % L : Nat) : Int) == ((pc % L : Nat) : Int)) = false := beq_eq_false_iff_ne.2 (by omega)
                        have HX2 : Hid (hs (k + 1) = hs k) := by
                          have h5 := HSK.out
                          rw [if_neg (fun h => hxx (by simpa using h.2))] at h5
                          exact h5
                        clear hxx HSK
                        go_wp2
                        go_quiet (fail)
                        go_wp2
                        go_roundw
                        case rel => exact ⟨k + 1, by omega, by go_num, by rw [HX2.out]; exact HOWN.out, HBL.out.trans (below_drewN_self _ _ _)⟩
                        case measure => simp [intOf]; omega
                    · have t1 : decide (x < 16384) = false := decide_eq_false hx1
                      have HX2 : Hid (hs (k + 1) = hs k) := by
                        have h5 := HSK.out
                        rw [if_neg (fun h => hx1 (okPc_true.1 h.1).2)] at h5
                        exact h5
                      clear HSK
                      go_wp2
                      go_quiet (fail)
                      go_wp2
                      go_roundw
                      case rel => exact ⟨k + 1, by omega, by go_num, by rw [HX2.out]; exact HOWN.out, HBL.out.trans (below_drewN_self _ _ _)⟩
                      case measure => simp [intOf]; omega
                  · have t1 : decide (0 ≤ x) = false := decide_eq_false hx0
                    have HX2 : Hid (hs (k + 1) = hs k) := by
                      have h5 := HSK.out
                      rw [if_neg (fun h => hx0 (okPc_true.1 h.1).1)] at h5
                      exact h5
                    clear HSK
                    go_wp2
                    go_quiet (fail)
                    go_wp2
                    go_roundw
                    case rel => exact ⟨k + 1, by omega, by go_num, by rw [HX2.out]; exact HOWN.out, HBL.out.trans (below_drewN_self _ _ _)⟩
                    case measure => simp [intOf]; omega
                · obtain rfl : k = i := by omega
                  obtain ⟨av, cv, rfl, hcv⟩ := came_of_owns_bools hown
                  have HC := fun m => Lib.hid (counter_ok (wr.drewN m) av _ cv (hs k) hcv.drewN)
                  have HPS := Lib.hid (plays_below HS5.out hbl)
                  have t2 : decide (2 ≤ ctr (hs k)) = was := HWAS.out.symm
                  have p2 := HC2.out _ hb7 k n2
                  rw [← HTK.out] at p2
                  have hw60 : 0 ≤ wrong ∧ wrong ≤ 60 := by obtain ⟨_, _, _, _, h5, _⟩ := HST2.out; omega
                  clear hown hbl hcv HHS HC1 HC2 q1 q2 q3 q4
                  have HT2 := Lib.hid t2
                  obtain ⟨cn, hcn⟩ : ∃ cn, cn = ctr (hs k) := ⟨_, rfl⟩
                  rw [← hcn] at t2 HC
                  clear hcn HT2
                  cases was <;> cases tk
                  all_goals
                    obtain ⟨cs, hps, hps2⟩ := HPS.out
                    have HW := fun m => Lib.hid (wrong_ok (wr.drewN m) p cb cs _ ⟨hps.st, hps.cn, hps.ne⟩)
                    have HPS2 := Lib.hid hps2
                    clear hps hps2
                    go_wp2_with (first
                      | (go_at_call 18; refine (HC 0).out.mono ?_; rintro e w' ⟨rfl, rfl⟩)
                      | (go_at_call 19; refine (HW 0).out.mono ?_; rintro e w' ⟨rfl, rfl⟩))
                    go_roundw
                    case rel => exact ⟨k + 1, _, by omega, rfl, by go_num, by have := plays_drew HPS.out 0; simpa using this, hb7.trans (below_drewN_self _ _ 0)⟩
                    case measure => simp [intOf]; omega
            · have hv' : z1[i] < 0 ∨ 16384 ≤ z1[i] := by omega
              have hok : okPc z1[i] = false := okPc_false.2 hv'
              have q1 := HC1.out wr hb i n1
              have q2 := HC2.out wr hb i n2
              obtain ⟨pc, hpc⟩ : ∃ pc, pc = z1[i] := ⟨_, rfl⟩
              obtain ⟨tk, htk⟩ : ∃ tk, tk = z2[i] := ⟨_, rfl⟩
              rw [← hpc] at hv hv' q1
              rw [← htk] at q2
              have HT := fun w => Lib.hid (taken_err w p pc hv')
              have HU := fun w => Lib.hid (update_err w p pc tk hv')
              have HNx := Lib.hid (plays_skip HST.out n1 n2 hok)
              clear hok hpc htk HC1 HC2
              go_wp2_with fail
              refine (HT _).out.mono ?_
              rintro e w' ⟨rfl, rfl⟩
              go_wp2_with fail
              go_region_held3 (fun w' => w'.cell? ⟨b1, o1 + i, none⟩ = some (.int .i64 pc) ∧ w'.cell? ⟨b2, o2 + i, none⟩ = some (.bool tk)) (first | exact ⟨q1, q2⟩ | go_keep) (first | (go_at_call 17; refine (HU _).out.mono ?_; rintro e w' ⟨rfl, rfl⟩))
              clear HT HU
              have HV := Lib.hid hv'
              clear hv hv'
              rcases HV.out with hv' | hv'
              · go_wp2
                go_roundw
                case rel => exact ⟨i + 1, wrong, by omega, rfl, by go_num, plays_drew HNx.out 1, hb.drew⟩
                case measure => simp [intOf]; omega
              · have hv0 : ¬ pc < 0 := by omega
                go_wp2
                go_roundw
                case rel => exact ⟨i + 1, wrong, by omega, rfl, by go_num, plays_drew HNx.out 1, hb.drew⟩
                case measure => simp [intOf]; omega
          · go_wp2
            go_ret
            exact ⟨rfl, hb⟩
        · go_wp2
          go_ret
          exact ⟨rfl, hb⟩
      · go_wp2
        go_ret
        exact ⟨rfl, hb⟩
end Go.Proofs.Ytioaoncnandjpab
