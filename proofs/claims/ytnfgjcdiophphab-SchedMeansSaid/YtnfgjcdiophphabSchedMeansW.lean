/- The law SchedMeans: the walk. -/
import Derived.Test.YtnfgjcdiophphabPlain
import Derived.Test.YtnfgjcdiophphabSlicesEq
import Derived.Test.YtnfgjcdiophphabForks
import Derived.Deep.MidRow
namespace Go.Proofs.Ytnfgjcdiophphab
open Go.RowKit
set_option linter.unusedVariables false
set_option linter.unusedSimpArgs false

set_option maxRecDepth 100000 in
theorem eq16 (f : Nat → Int) (w : World) : (Op.equalIn 10000 93 (.agg (rowL 16 fun i => .int .i64 (f i)).toArray) (.agg (rowL 16 fun i => .int .i64 (f i)).toArray)).run Try.prog w = .ok true w := by
  have hr : (rowL 16 fun i => Value.int .i64 (f i)).toArray = #[.int .i64 (f 0), .int .i64 (f 1), .int .i64 (f 2), .int .i64 (f 3), .int .i64 (f 4), .int .i64 (f 5), .int .i64 (f 6), .int .i64 (f 7), .int .i64 (f 8), .int .i64 (f 9), .int .i64 (f 10), .int .i64 (f 11), .int .i64 (f 12), .int .i64 (f 13), .int .i64 (f 14), .int .i64 (f 15)] := rfl
  rw [hr]
  have u3 := Try.underlying3
  have a3 := Try.isAgg3
  have z3 := Try.sizeOf3
  rw [show (10000 : Nat) = 9999 + 1 from rfl, Op.equalIn]
  simp only [Sem.run_bind, run_underlying Try.underlying93, Result.andThen_ok]
  simp only [Std.Legacy.Range.forIn_eq_forIn_range', Std.Legacy.Range.size, Nat.sub_zero, Nat.add_sub_cancel, Nat.div_one, List.range'_succ, List.range'_zero, List.forIn_cons, List.forIn_nil]
  go_simp

structure Made2 (w w' : World) (q1 g1 q2 g2 : Nat) : Prop where
  m1 : MemAt w' q1 g1 (List.replicate 64 0)
  m2 : MemAt w' q2 g2 (List.replicate 64 0)
  a1 : w.heap.size ≤ q1
  a2 : w.heap.size ≤ g1
  a3 : w.heap.size ≤ q2
  a4 : w.heap.size ≤ g2
  n1 : q1 ≠ g1
  n2 : q2 ≠ g2
  n3 : g1 ≠ g2
  n4 : g1 ≠ q2
  n5 : g2 ≠ q1
  b : Below w.heap.size w w'
theorem mem64 {w : World} {q g : Nat} (hq : Blk w q 99 [.slice (some ⟨g, 0, none⟩) 64 64, .int .i64 0]) (hg : Blk w g 3 (rowL 64 fun _ => .int .i64 0)) : MemAt w q g (List.replicate 64 0) :=
  ⟨by rw [List.length_replicate]; exact hq, by rw [List.map_replicate, rowL_rep]; exact hg⟩
theorem made2_leaf {w w9 : World} {o1 o2 o3 o4 : Obj} {q1 g1 q2 g2 : Nat} (h1 : MemAt ((((w9.alloc o1).alloc o2).alloc o3).alloc o4) q1 g1 (List.replicate 64 0)) (h2 : MemAt ((((w9.alloc o1).alloc o2).alloc o3).alloc o4) q2 g2 (List.replicate 64 0))
    (hs : w9.heap.size = w.heap.size) (hb : Below w.heap.size w w9) (a1 : w9.heap.size ≤ q1) (a2 : w9.heap.size ≤ g1) (a3 : w9.heap.size ≤ q2) (a4 : w9.heap.size ≤ g2) (n1 : q1 ≠ g1) (n2 : q2 ≠ g2) (n3 : g1 ≠ g2) (n4 : g1 ≠ q2) (n5 : g2 ≠ q1) :
    Made2 w ((((w9.alloc o1).alloc o2).alloc o3).alloc o4) q1 g1 q2 g2 :=
  ⟨h1, h2, by omega, by omega, by omega, by omega, n1, n2, n3, n4, n5, hb.trans (Below.mono (((((Below.refl _ _).alloc (Nat.le_refl _) _).alloc (by simp) _).alloc (by simp; omega) _).alloc (by simp; omega) _) (by omega))⟩
def KeepL (l : List Nat) (w w' : World) : Prop := ∀ b ∈ l, w'.heap[b]? = w.heap[b]?
instance (l : List Nat) : PreR (KeepL l) := ⟨fun w b _ => rfl, fun h k b hb => (k b hb).trans (h b hb)⟩
theorem loadMid {P : Program} {ops : Array Oper} {C : World → Prop} {Q : Act → Prop} {op : Oper} {a : Act} (hw : Region.wanted op (yielded ops a.tmps) = true) (ty : TypeId) (x : Operand) (ho : op.op = .load ty x)
    (b o : Nat) (hx : a.eval x = .pointer (some ⟨b, o, none⟩)) (cs : List Value) (d : TypeDesc) (hc : ∀ w, C w → w.rangeAt b o cs)
    (hu : P.underlying ty = some d) (hd : d.isRow = true) (hi : (P.info? ty).map (·.size) = some cs.length) (h : Q (a.put op.dst (.agg cs.toArray))) : wpQuiet P ops C Q [op] a := by
  unfold wpQuiet
  rw [if_pos hw]
  refine ⟨.agg cs.toArray, fun w hw' => ?_, h⟩
  unfold Oper.quietAt execOp
  simp only [ho, hx, Instr.loadAt, Instr.sureAddr, Sem.run_bind, Sem.run_pure, Result.andThen_ok, run_loadVar_mid w b o ty cs d (hc w hw') hu hd hi]
  exact ⟨rfl, rfl⟩
theorem rangeBlk {w : World} {b : Nat} {t : TypeId} {cs : List Value} (h : Blk w b t cs) : w.rangeAt b 0 cs := by
  intro j v hv
  rw [Nat.zero_add, h.cell j]
  exact hv
theorem pickO_mem {os : List Op5} {D : Nat → Nat → Bool} {n : Nat} {out : List Nat} (hl : os.length = n) (ho : Ord D n out) : ∀ o ∈ pickO os out, o ∈ os := fun o h => by
  obtain ⟨i, hi, rfl⟩ := List.mem_map.1 h
  have := ho.lt i hi
  rw [opAt0_get (show i < os.length by omega)]
  exact List.getElem_mem _
theorem rep_bd : ∀ x ∈ List.replicate 64 (0 : Int), S32 x := fun x hx => by
  rw [List.eq_of_mem_replicate hx]; unfold S32; omega
theorem new16 (w : World) : Blk (w.alloc (.cells #[.int .i64 0, .int .i64 0, .int .i64 0, .int .i64 0, .int .i64 0, .int .i64 0, .int .i64 0, .int .i64 0, .int .i64 0, .int .i64 0, .int .i64 0, .int .i64 0, .int .i64 0, .int .i64 0, .int .i64 0, .int .i64 0] 93)) w.heap.size 93 (rowL 16 fun _ => .int .i64 0) := Blk.new w (rowL 16 fun _ => .int .i64 0) 93
def boxW (w : World) (r : Nat → Int) : World := (w.alloc (.cells #[.int .i64 0, .int .i64 0, .int .i64 0, .int .i64 0, .int .i64 0, .int .i64 0, .int .i64 0, .int .i64 0, .int .i64 0, .int .i64 0, .int .i64 0, .int .i64 0, .int .i64 0, .int .i64 0, .int .i64 0, .int .i64 0] 93)).setRow w.heap.size (rowL 16 fun i => .int .i64 (r i)).toArray
theorem boxW_blk (w : World) (r : Nat → Int) : Blk (boxW w r) w.heap.size 93 (rowL 16 fun i => .int .i64 (r i)) := setRow_blk16 (new16 w) _
theorem boxW_below (w : World) (r : Nat → Int) : Below w.heap.size w (boxW w r) := by
  refine ((Below.refl w.heap.size w).alloc (Nat.le_refl _) (.cells #[.int .i64 0, .int .i64 0, .int .i64 0, .int .i64 0, .int .i64 0, .int .i64 0, .int .i64 0, .int .i64 0, .int .i64 0, .int .i64 0, .int .i64 0, .int .i64 0, .int .i64 0, .int .i64 0, .int .i64 0, .int .i64 0] 93)).trans ⟨rfl, rfl, rfl, by simp [boxW, World.setRow], fun b hb => ?_⟩
  simp only [boxW, World.setRow, Array.getElem?_modify]
  rw [if_neg (by omega)]
def fB (o : Op5) : Bool := o.op != 14 && o.op != 15
def rX (z : List Int) (j i : Nat) : Int := if 1 ≤ i ∧ i ≤ j then wrap32 (z.getD (i - 1) 0) else 0
theorem rX_bd (z : List Int) (j i : Nat) : S32 (rX z j i) := by
  unfold rX
  by_cases h : 1 ≤ i ∧ i ≤ j
  · rw [if_pos h]; exact wrap32_bd _
  · rw [if_neg h]; unfold S32; omega
theorem checkE_n {op d a b n : Int} (h : checkE op d a b n = 0) : -2147483648 ≤ n ∧ n ≤ 2147483647 := by
  unfold checkE at h
  cases h0 : inB op 0 24
  · rw [if_pos h0] at h; omega
  rw [if_neg (by simp [h0])] at h
  cases h1 : rangeBad d a b n
  · simp only [rangeBad, Bool.or_eq_false_iff, Bool.not_eq_false', inB_true] at h1
    exact h1.2
  · rw [if_pos h1] at h; omega
theorem filt_ok (l : List Op5) (h : ∀ o ∈ l, GoodOp o) : ∀ o ∈ l.filter fB, OkP o ∧ S32 o.n := fun o ho => by
  obtain ⟨h1, h2⟩ := List.mem_filter.1 ho
  obtain ⟨g1, g2⟩ := h o h1
  obtain ⟨k1, k2, k3⟩ := good_regs g1
  have k4 := checkE_n g1
  simp only [fB, Bool.and_eq_true, bne_iff_ne] at h2
  simp only [strB, Bool.or_eq_true, decide_eq_true_eq, beq_iff_eq] at g2
  exact ⟨⟨by omega, k1, k2, k3⟩, k4⟩

set_option maxRecDepth 100000 in
set_option maxHeartbeats 8000000 in
theorem schedMeans_walk (a0 : Option Addr) (len0 cap0 : Nat) (z0 : List Op5) (a1 : Option Addr) (len1 cap1 : Nat) (z1 : List Int) (w : World) (h0 : Came w a0 len0 cap0 5 (z0.map opC) ∧ ∀ z ∈ z0, True) (h1 : Came w a1 len1 cap1 1 (z1.map intCells) ∧ ∀ z ∈ z1, I64 z) :
    Calls Try.prog 8 #[.slice a0 len0 cap0, .slice a1 len1 cap1] w fun e w' => e = .returned (.bool true) ∧ Below w.heap.size w w' := by
  have HSF := Lib.hid (schedFact_ok w)
  have HST := fun w h => Lib.hid (straight_ok z0 a0 len0 cap0 w h)
  have HC := Lib.hid h0.1
  have HC1 := Lib.hid h1.1
  have hl1 : z1.length = len1 := by simpa using h1.1.count
  have HL1 := Lib.hid hl1
  have hle1 := h1.1.le
  have hmx1 := h1.1.max
  have hsl := strS_len z0
  have HGO := Lib.hid (strS_good z0)
  have HSM := fun x w => Lib.hid (small_any x w)
  obtain ⟨os, hos⟩ : ∃ os, os = strS z0 := ⟨_, rfl⟩
  rw [← hos] at HST hsl HGO
  clear hos h0 h1 hl1
  obtain ⟨m, hm⟩ : ∃ m, m = os.length := ⟨_, rfl⟩
  have HM := Lib.hid hm
  rw [← hm] at hsl HST
  clear hm
  obtain ⟨i0, hi0, hz0, hz1, hz2⟩ := info_parts Try.infoO92
  go_enter Try.func8, Try.ntmps8
  go_wp2_with fail
  refine HSF.out.mono ?_
  rintro e w1 ⟨rfl, hb1⟩
  have HB1 := Lib.hid hb1
  clear hb1 HSF
  go_wp2_with fail
  refine (HST w1 (HC.out.below HB1.out)).out.mono ?_
  rintro e w3 ⟨v, rfl, hown, hb3⟩
  have hown' : w3.ownsRow w1.heap.size 92 5 v os.length (flat5 os) := by rw [← HM.out]; exact hown
  obtain ⟨sa, sc, hv, hcm⟩ := came_flat5 hown'
  rw [← HM.out] at hv hcm
  subst hv
  have HB3 := Lib.hid (HB1.out.trans (hb3.mono HB1.out.size))
  have HCM := Lib.hid hcm
  have hcle := hcm.le
  have hcmx := hcm.max
  have hsz3 := HB3.out.size
  clear hown hown' hb3 hcm HST HC HB1
  go_wp2_with fail
  go_loopw [5, 24] (fun v u wx => ∃ k : Nat, k ≤ m ∧ u = .int .i64 (k : Int) ∧ wx.ownsRow w3.heap.size 92 5 v ((os.take k).filter fB).length (flat5 ((os.take k).filter fB)) ∧ Below w3.heap.size w3 wx) (fun _ u _ => m - (intOf u).toNat)
  case atStart => exact ⟨0, Nat.zero_le _, rfl, World.ownsRow_nil _ _ _ _, Below.refl _ _⟩
  case round =>
    obtain ⟨k, hk, rfl, hown, hb⟩ := hrel
    have HB := Lib.hid hb
    have HOWN := Lib.hid hown
    obtain ⟨va, vl, vc, rfl⟩ := owns_shape hown
    have hsz := hb.size
    clear hb hown
    have hfl : ((os.take k).filter fB).length ≤ 60 := by
      have := List.length_filter_le fB (os.take k)
      simp only [List.length_take] at this
      omega
    by_cases hlt : k < m
    · obtain ⟨b', off, ea, hbl, hcell⟩ := came_ops (HCM.out.below HB.out) (by omega)
      subst ea
      have hkl : k < os.length := by have := HM.out; omega
      have ho := hcell k hkl
      have HNF : Hid ((os.take (k + 1)).filter fB = (os.take k).filter fB ++ if fB os[k] then [os[k]] else []) := by
        unfold Hid
        rw [List.take_add_one, List.getElem?_eq_getElem hkl, List.filter_append]
        congr 1
        cases h : fB os[k] <;> simp [h]
      generalize os[k] = o at ho HNF
      obtain ⟨op, d, aa, bb, nn⟩ := o
      obtain ⟨c0, c1, c2, c3, c4⟩ := ho
      simp only [] at c0 c1 c2 c3 c4
      have hq := Blk.new wr [.int .i64 op, .int .i64 d, .int .i64 aa, .int .i64 bb, .int .i64 nn] 92
      have HAO := Lib.hid (ownsRow_below HOWN.out ((Below.refl _ _).alloc (Nat.le_refl _) (.cells #[.int .i64 op, .int .i64 d, .int .i64 aa, .int .i64 bb, .int .i64 nn] 92)))
      have HBO := Lib.hid (HB.out.alloc hsz (.cells #[.int .i64 op, .int .i64 d, .int .i64 aa, .int .i64 bb, .int .i64 nn] 92))
      have hs : (op = 14 ∨ op = 15) ∨ (op ≠ 14 ∧ op ≠ 15) := by omega
      rcases hs with hs | hs
      · have HN2 : Hid ((os.take (k + 1)).filter fB = (os.take k).filter fB) := by
          unfold Hid; rw [HNF.out]
          have : fB ⟨op, d, aa, bb, nn⟩ = false := by unfold fB; rcases hs with rfl | rfl <;> rfl
          rw [this]; simp
        clear hcell hkl HNF hq
        rcases hs with rfl | rfl
        all_goals
          go_wp2_with fail
          go_roundw
          case rel => exact ⟨k + 1, by omega, by go_num, by rw [HN2.out]; exact HAO.out, HBO.out⟩
          case measure => simp [intOf]; omega
      · have HN2 : Hid ((os.take (k + 1)).filter fB = (os.take k).filter fB ++ [⟨op, d, aa, bb, nn⟩]) := by
          unfold Hid; rw [HNF.out]
          have : fB ⟨op, d, aa, bb, nn⟩ = true := by unfold fB; simp [hs.1, hs.2]
          rw [this]; simp
        have t14 : (op != 14) = true := by rw [bne_iff_ne]; exact hs.1
        have t15 : (op != 15) = true := by rw [bne_iff_ne]; exact hs.2
        obtain ⟨p0, p1, p2, p3, p4⟩ := op_cells5 hq
        clear hcell hkl HNF hq hs
        have HAL := Lib.hid (World.ownsRow.alloc HAO.out (.cells #[.int .i64 op, .int .i64 d, .int .i64 aa, .int .i64 bb, .int .i64 nn] 92))
        have HA2 := Lib.hid (cell_five_new (wr.alloc (.cells #[.int .i64 op, .int .i64 d, .int .i64 aa, .int .i64 bb, .int .i64 nn] 92)) [.int .i64 op, .int .i64 d, .int .i64 aa, .int .i64 bb, .int .i64 nn] 92)
        have HA3 : Hid (∀ u ∈ ([.int .i64 op, .int .i64 d, .int .i64 aa, .int .i64 bb, .int .i64 nn] : List Value), u.oneCell' = true) := by
          intro u hu; simp at hu; rcases hu with rfl | rfl | rfl | rfl | rfl <;> rfl
        go_wp2_with (at_builtin; refine wpList_append_own _ rfl _ _ 89 rfl w3.heap.size 92 i0 (.agg #[.int .i64 0, .int .i64 0, .int .i64 0, .int .i64 0, .int .i64 0]) 5 40 Try.underlying89 hi0 hz0 hz1 hz2 rfl (by decide) _ _ _ rfl HAL.out ⟨wr.heap.size + 1, 0, none⟩ 1 1 [.int .i64 op, .int .i64 d, .int .i64 aa, .int .i64 bb, .int .i64 nn] rfl rfl (by have := HA2.out; simpa using this) HA3.out (by unfold maxLen; omega) (by omega) (by simp; omega) ?_)
        intro v' w5 hown' hgrow _
        have HOW := Lib.hid hown'
        have hvb : ∀ q, (Value.slice va vl vc).ownBlock = some q → w3.heap.size ≤ q := fun q hq => (World.ownsRow.lt HOWN.out q hq).1
        have HB5 := Lib.hid ((HBO.out.alloc (by simp; omega) (.cells #[.int .i64 op, .int .i64 d, .int .i64 aa, .int .i64 bb, .int .i64 nn] 92)).grown hgrow (by simp; omega) hvb)
        clear hown' hgrow hvb HAL HA2 HA3 p0 p1 p2 p3 p4
        go_wp2
        go_roundw
        case rel => exact ⟨k + 1, by omega, by go_num, by rw [HN2.out, List.length_append, flat5_append]; exact HOW.out, HB5.out⟩
        case measure => simp [intOf]; omega
    · have ek : k = m := by omega
      subst ek
      have hto : os.take k = os := List.take_of_length_le (by have := HM.out; omega)
      rw [hto] at HOWN hfl
      have HFO := Lib.hid (filt_ok os HGO.out)
      have HFG : Hid (∀ o ∈ os.filter fB, GoodOp o) := fun o ho => HGO.out o (List.mem_filter.1 ho).1
      obtain ⟨ps, hps⟩ : ∃ ps, ps = os.filter fB := ⟨_, rfl⟩
      rw [← hps] at HOWN hfl HFO HFG
      obtain ⟨pa, pc, hv, hcp⟩ := came_flat5 HOWN.out
      obtain ⟨n, hn⟩ : ∃ n, n = ps.length := ⟨_, rfl⟩
      have HN := Lib.hid hn
      rw [← hn] at hv hcp hfl
      injection hv with hv1 hv2 hv3
      subst hv1 hv2 hv3
      have HP := Lib.hid hcp
      have hple := hcp.le
      have hpmx := hcp.max
      have HBW := Lib.hid (HB3.out.trans (HB.out.mono hsz3))
      have HC5 := Lib.hid (HC1.out.below HBW.out)
      have hszW : w.heap.size ≤ wr.heap.size := by omega
      clear hto hps hn hcp HOWN HM HGO HCM HB HB3 HC1
      go_upto_region 11 with fail
      iterate 7 (first | go_step | go_simp)
      have HG0 : Hid (Blk (wr.alloc (.cells #[.int .i64 0, .int .i64 0, .int .i64 0, .int .i64 0, .int .i64 0, .int .i64 0, .int .i64 0, .int .i64 0, .int .i64 0, .int .i64 0, .int .i64 0, .int .i64 0, .int .i64 0, .int .i64 0, .int .i64 0, .int .i64 0] 93)) wr.heap.size 93 (rowL 16 fun _ => Value.int .i64 0)) := Blk.new wr (rowL 16 fun _ => Value.int .i64 0) 93
      have HBG := Lib.hid ((Below.refl wr.heap.size wr).alloc (Nat.le_refl _) (.cells #[.int .i64 0, .int .i64 0, .int .i64 0, .int .i64 0, .int .i64 0, .int .i64 0, .int .i64 0, .int .i64 0, .int .i64 0, .int .i64 0, .int .i64 0, .int .i64 0, .int .i64 0, .int .i64 0, .int .i64 0, .int .i64 0] 93))
      obtain ⟨G, hG⟩ : ∃ G, G = wr.heap.size := ⟨_, rfl⟩
      rw [← hG] at HG0 HBG hszW ⊢
      have HGE := Lib.hid hG
      generalize wr.alloc (.cells #[.int .i64 0, .int .i64 0, .int .i64 0, .int .i64 0, .int .i64 0, .int .i64 0, .int .i64 0, .int .i64 0, .int .i64 0, .int .i64 0, .int .i64 0, .int .i64 0, .int .i64 0, .int .i64 0, .int .i64 0, .int .i64 0] 93) = wg at HG0 HBG ⊢
      rw [hG] at HBG
      rw [← hG] at HBG
      have HZ6 := Lib.hid HC5.out
      clear hG
      obtain ⟨wh, hwh⟩ : ∃ x, x = wr := ⟨_, rfl⟩
      subst hwh
      go_cut [9] from 41 (fun u wx => ∃ j : Nat, j ≤ 15 ∧ u = .int .i64 (j : Int) ∧ Blk wx G 93 (rowL 16 fun i => .int .i64 (rX z1 j i)) ∧ Below G wh wx)
      case first =>
        go_wp2_with fail
        go_loopw [9] (fun u wx => ∃ j : Nat, j ≤ 15 ∧ j ≤ len1 ∧ u = .int .i64 (j : Int) ∧ Blk wx G 93 (rowL 16 fun i => .int .i64 (rX z1 j i)) ∧ Below G wh wx) (fun u _ => 15 - (intOf u).toNat)
        case atStart => exact ⟨0, by omega, Nat.zero_le _, rfl, HG0.out.rowCongr fun i _ => by unfold rX; rw [if_neg (by omega)], HBG.out⟩
        case round =>
          obtain ⟨j, hj, hjl, rfl, hblk, hbel⟩ := hrel
          have HBK := Lib.hid hblk
          have HBB := Lib.hid hbel
          clear hblk hbel
          by_cases h15 : j < 15
          · by_cases hlj : j < len1
            · have hjz : j < z1.length := by have := HL1.out; omega
              obtain ⟨b1, o1, ea1, _, hc1⟩ := (HZ6.out.below (by rw [← HGE.out]; exact HBB.out)).ints (by omega)
              subst ea1
              have cl := hc1 j hjz
              have hrx : ∀ i, rX z1 (j + 1) i = if i = j + 1 then wrap32 z1[j] else rX z1 j i := fun i => by
                unfold rX
                by_cases e : i = j + 1
                · subst e
                  rw [if_pos (by omega), if_pos rfl, Nat.add_sub_cancel, List.getD_eq_getElem?_getD, List.getElem?_eq_getElem hjz]; rfl
                · rw [if_neg e]
                  by_cases e2 : 1 ≤ i ∧ i ≤ j
                  · rw [if_pos e2, if_pos (by omega)]
                  · rw [if_neg e2, if_neg (by omega)]
              obtain ⟨z, hz⟩ : ∃ z, z = z1[j] := ⟨_, rfl⟩
              rw [← hz] at cl hrx
              have HRX := Lib.hid hrx
              have hji : (j : Int) < (len1 : Int) := by omega
              have hj15 : (j : Int) < 15 := by omega
              have d1 : decide ((j : Int) < (len1 : Int)) = true := decide_eq_true hji
              have d2 : decide ((j : Int) < 15) = true := decide_eq_true hj15
              have hj16 : (j : Int) + 1 < 16 := by omega
              have hjn : j + 1 < 16 := by omega
              have g0 := HBK.out.row (i := j + 1) (by omega)
              have f0 := HBK.out.free (j + 1)
              have hzr := wrap32_bd z
              clear hc1 hrx hz hjz
              go_wp2_with fail
              refine (HSM _ _).out.mono ?_
              rintro e w' ⟨rfl, rfl⟩
              go_wp2_with fail
              go_roundw
              case rel =>
                refine ⟨j + 1, by omega, by omega, by go_num, (HBK.out.rowSet (j + 1) (.int .i64 (wrap32 z))).rowCongr fun i _ => ?_, HBB.out.setCell (p := ⟨G, j + 1, none⟩) (Nat.le_refl _) _⟩
                rw [HRX.out i]
                by_cases e : i = j + 1
                · rw [if_pos e, if_pos e]
                · rw [if_neg e, if_neg e]
              case measure => simp [intOf]; omega
            · have ej : j = len1 := by omega
              subst ej
              go_wp2_with fail
              go_meet
              exact ⟨j, hj, rfl, HBK.out, HBB.out⟩
          · have ej : j = 15 := by omega
            subst ej
            have hs : (15 : Int) < (len1 : Int) ∨ ¬ (15 : Int) < (len1 : Int) := by omega
            rcases hs with hs | hs
            · have d1 : decide ((15 : Int) < (len1 : Int)) = true := decide_eq_true hs
              go_wp2_with fail
              go_meet
              exact ⟨15, hj, rfl, HBK.out, HBB.out⟩
            · have d1 : decide ((15 : Int) < (len1 : Int)) = false := decide_eq_false hs
              go_wp2_with fail
              go_meet
              exact ⟨15, hj, rfl, HBK.out, HBB.out⟩
      case rest =>
        obtain ⟨j, hj, rfl, hblk, hbel⟩ := hcut
        have hbel' : Below wh.heap.size wh wc := by rw [← HGE.out]; exact hbel
        have HBW6 := Lib.hid (HBW.out.trans (hbel'.mono (by rw [← HGE.out]; exact hszW)))
        have HP7 := Lib.hid (HP.out.below hbel')
        have HBD := Lib.hid (fun i => rX_bd z1 j i)
        have HBR := Lib.hid hblk
        have hGl := hblk.lt
        obtain ⟨R, hR⟩ : ∃ R, R = rX z1 j := ⟨_, rfl⟩
        simp only [← hR] at HBD HBR
        have HSC := Lib.hid (schedule_ok ps va vl vc wc HP7.out (by omega) HFG.out)
        unfold ScheduleLaw at HSC
        obtain ⟨D, hD⟩ : ∃ D, D = depB ps := ⟨_, rfl⟩
        have HDE := Lib.hid hD
        rw [← hD] at HSC
        clear hR hD hblk hbel hbel' HG0 HBG HZ6 HC5 HP
        go_wp2_with fail
        refine HSC.out.mono ?_
        rintro e w8 ⟨v, out, rfl, ⟨hord, hlen⟩, _, hown, hb8⟩
        obtain ⟨ma, mc, hv, hcm8⟩ := came_flat5 hown
        have hmn : (pickO ps out).length = vl := by simp [pickO]; exact hlen
        rw [hmn] at hv hcm8
        subst hv
        have HOR := Lib.hid hord
        have HLN := Lib.hid hlen
        have HOW := Lib.hid hown
        have HCM8 := Lib.hid hcm8
        have HMN := Lib.hid hmn
        have HB8 := Lib.hid (HBW6.out.trans (hb8.mono HBW6.out.size))
        have HP8 := Lib.hid (HP7.out.below hb8)
        have HR8 := Lib.hid (HBR.out.below hb8 hGl)
        have hG8 := HR8.out.lt
        clear hown hb8 HSC hord hlen hcm8 hmn HBW6 HP7 HBR hGl
        go_upto_region 16 with fail
        go_cut [12, 13] from 64 (fun p1 p2 wx => ∃ q1 g1 q2 g2, p1 = .pointer (some ⟨q1, 0, none⟩) ∧ p2 = .pointer (some ⟨q2, 0, none⟩) ∧ Made2 w8 wx q1 g1 q2 g2)
        case first =>
          have hmk : ∀ w : World, (Instr.makeSlice 24 (.int .i64 64) (.int .i64 64)).run Try.prog w = .ok (.slice (some ⟨w.heap.size, 0, none⟩) 64 64) (w.alloc (.cells (rowL 64 fun _ => .int .i64 0).toArray 3)) := fun w => run_make_rep (P := Try.prog) 24 3 (.int .i64 0) 8 Try.underlying24 Try.infoT3 rfl 64 (by omega) (by omega) w
          refine wp_region_forks AnyW 8 rfl (by kernel_rfl) ?_
          have hde : Below w8.heap.size w8 w8.drew := (Below.refl _ _).drew
          have HDS : Hid (w8.drew.heap.size = w8.heap.size) := rfl
          have HDE2 := Lib.hid hde
          clear hde
          generalize w8.drew = w9 at HDE2 HDS ⊢
          --TREE
          refine forks_two 0 3 (by kernel_rfl) ?_ ?_
          · refine does_intro rfl rfl ?_
            intro K hK
            go_simp
            refine hK _ _ trivial ?_
            clear hK K
            go_simp
            refine forks_read 1 rfl (by kernel_rfl) ?_
            go_big_quiet_step (fail)
            refine wpQuiet_nil ?_
            refine forks_two 2 3 (by kernel_rfl) ?_ ?_
            · refine does_intro rfl rfl ?_
              intro K hK
              go_simp
              refine hK _ _ trivial ?_
              clear hK K
              go_simp
              refine forks_read 6 rfl (by kernel_rfl) ?_
              go_big_quiet_step (fail)
              refine wpQuiet_nil ?_
              refine forks_one 3 (by kernel_rfl) ?_
              refine does_intro rfl rfl ?_
              intro K hK
              go_simp
              refine hK _ _ trivial ?_
              clear hK K
              go_simp
              refine forks_read 4 rfl (by kernel_rfl) ?_
              go_big_quiet_step (fail)
              refine wpQuiet_nil ?_
              refine forks_one 5 (by kernel_rfl) ?_
              refine does_intro rfl rfl ?_
              intro K hK
              go_simp
              refine hK _ _ trivial ?_
              clear hK K
              go_simp
              refine forks_read 7 rfl (by kernel_rfl) ?_
              go_big_quiet_step (fail)
              refine wpQuiet_nil ?_
              refine forks_end (by kernel_rfl) ?_
              go_wp2_with fail
              go_meet
              refine ⟨w9.heap.size + 1, w9.heap.size, w9.heap.size + 1 + 1 + 1, w9.heap.size + 1 + 1, rfl, rfl, ?_⟩
              exact made2_leaf (mem64 (blk1 _ _ _ _ _ _ _ _ _) (blk0 _ _ _ _ _ _ _ _ _)) (mem64 (blk3 _ _ _ _ _ _ _ _ _) (blk2 _ _ _ _ _ _ _ _ _)) HDS.out HDE2.out (by omega) (by omega) (by omega) (by omega) (by omega) (by omega) (by omega) (by omega) (by omega)
            · refine does_intro rfl rfl ?_
              intro K hK
              go_simp
              refine hK _ _ trivial ?_
              clear hK K
              go_simp
              refine forks_read 4 rfl (by kernel_rfl) ?_
              go_big_quiet_step (fail)
              refine wpQuiet_nil ?_
              refine forks_two 2 5 (by kernel_rfl) ?_ ?_
              · refine does_intro rfl rfl ?_
                intro K hK
                go_simp
                refine hK _ _ trivial ?_
                clear hK K
                go_simp
                refine forks_read 6 rfl (by kernel_rfl) ?_
                go_big_quiet_step (fail)
                refine wpQuiet_nil ?_
                refine forks_one 5 (by kernel_rfl) ?_
                refine does_intro rfl rfl ?_
                intro K hK
                go_simp
                refine hK _ _ trivial ?_
                clear hK K
                go_simp
                refine forks_read 7 rfl (by kernel_rfl) ?_
                go_big_quiet_step (fail)
                refine wpQuiet_nil ?_
                refine forks_end (by kernel_rfl) ?_
                go_wp2_with fail
                go_meet
                refine ⟨w9.heap.size + 1 + 1, w9.heap.size, w9.heap.size + 1 + 1 + 1, w9.heap.size + 1, rfl, rfl, ?_⟩
                exact made2_leaf (mem64 (blk2 _ _ _ _ _ _ _ _ _) (blk0 _ _ _ _ _ _ _ _ _)) (mem64 (blk3 _ _ _ _ _ _ _ _ _) (blk1 _ _ _ _ _ _ _ _ _)) HDS.out HDE2.out (by omega) (by omega) (by omega) (by omega) (by omega) (by omega) (by omega) (by omega) (by omega)
              · refine does_intro rfl rfl ?_
                intro K hK
                go_simp
                refine hK _ _ trivial ?_
                clear hK K
                go_simp
                refine forks_one 2 (by kernel_rfl) ?_
                refine does_intro rfl rfl ?_
                intro K hK
                go_simp
                refine hK _ _ trivial ?_
                clear hK K
                go_simp
                refine forks_read 6 rfl (by kernel_rfl) ?_
                go_big_quiet_step (fail)
                refine wpQuiet_nil ?_
                refine forks_read 7 rfl (by kernel_rfl) ?_
                go_big_quiet_step (fail)
                refine wpQuiet_nil ?_
                refine forks_end (by kernel_rfl) ?_
                go_wp2_with fail
                go_meet
                refine ⟨w9.heap.size + 1 + 1 + 1, w9.heap.size, w9.heap.size + 1 + 1, w9.heap.size + 1, rfl, rfl, ?_⟩
                exact made2_leaf (mem64 (blk3 _ _ _ _ _ _ _ _ _) (blk0 _ _ _ _ _ _ _ _ _)) (mem64 (blk2 _ _ _ _ _ _ _ _ _) (blk1 _ _ _ _ _ _ _ _ _)) HDS.out HDE2.out (by omega) (by omega) (by omega) (by omega) (by omega) (by omega) (by omega) (by omega) (by omega)
          · refine does_intro rfl rfl ?_
            intro K hK
            go_simp
            refine hK _ _ trivial ?_
            clear hK K
            go_simp
            refine forks_read 4 rfl (by kernel_rfl) ?_
            go_big_quiet_step (fail)
            refine wpQuiet_nil ?_
            refine forks_two 0 5 (by kernel_rfl) ?_ ?_
            · refine does_intro rfl rfl ?_
              intro K hK
              go_simp
              refine hK _ _ trivial ?_
              clear hK K
              go_simp
              refine forks_read 1 rfl (by kernel_rfl) ?_
              go_big_quiet_step (fail)
              refine wpQuiet_nil ?_
              refine forks_two 2 5 (by kernel_rfl) ?_ ?_
              · refine does_intro rfl rfl ?_
                intro K hK
                go_simp
                refine hK _ _ trivial ?_
                clear hK K
                go_simp
                refine forks_read 6 rfl (by kernel_rfl) ?_
                go_big_quiet_step (fail)
                refine wpQuiet_nil ?_
                refine forks_one 5 (by kernel_rfl) ?_
                refine does_intro rfl rfl ?_
                intro K hK
                go_simp
                refine hK _ _ trivial ?_
                clear hK K
                go_simp
                refine forks_read 7 rfl (by kernel_rfl) ?_
                go_big_quiet_step (fail)
                refine wpQuiet_nil ?_
                refine forks_end (by kernel_rfl) ?_
                go_wp2_with fail
                go_meet
                refine ⟨w9.heap.size + 1 + 1, w9.heap.size + 1, w9.heap.size + 1 + 1 + 1, w9.heap.size, rfl, rfl, ?_⟩
                exact made2_leaf (mem64 (blk2 _ _ _ _ _ _ _ _ _) (blk1 _ _ _ _ _ _ _ _ _)) (mem64 (blk3 _ _ _ _ _ _ _ _ _) (blk0 _ _ _ _ _ _ _ _ _)) HDS.out HDE2.out (by omega) (by omega) (by omega) (by omega) (by omega) (by omega) (by omega) (by omega) (by omega)
              · refine does_intro rfl rfl ?_
                intro K hK
                go_simp
                refine hK _ _ trivial ?_
                clear hK K
                go_simp
                refine forks_one 2 (by kernel_rfl) ?_
                refine does_intro rfl rfl ?_
                intro K hK
                go_simp
                refine hK _ _ trivial ?_
                clear hK K
                go_simp
                refine forks_read 6 rfl (by kernel_rfl) ?_
                go_big_quiet_step (fail)
                refine wpQuiet_nil ?_
                refine forks_read 7 rfl (by kernel_rfl) ?_
                go_big_quiet_step (fail)
                refine wpQuiet_nil ?_
                refine forks_end (by kernel_rfl) ?_
                go_wp2_with fail
                go_meet
                refine ⟨w9.heap.size + 1 + 1 + 1, w9.heap.size + 1, w9.heap.size + 1 + 1, w9.heap.size, rfl, rfl, ?_⟩
                exact made2_leaf (mem64 (blk3 _ _ _ _ _ _ _ _ _) (blk1 _ _ _ _ _ _ _ _ _)) (mem64 (blk2 _ _ _ _ _ _ _ _ _) (blk0 _ _ _ _ _ _ _ _ _)) HDS.out HDE2.out (by omega) (by omega) (by omega) (by omega) (by omega) (by omega) (by omega) (by omega) (by omega)
            · refine does_intro rfl rfl ?_
              intro K hK
              go_simp
              refine hK _ _ trivial ?_
              clear hK K
              go_simp
              refine forks_one 0 (by kernel_rfl) ?_
              refine does_intro rfl rfl ?_
              intro K hK
              go_simp
              refine hK _ _ trivial ?_
              clear hK K
              go_simp
              refine forks_read 1 rfl (by kernel_rfl) ?_
              go_big_quiet_step (fail)
              refine wpQuiet_nil ?_
              refine forks_one 2 (by kernel_rfl) ?_
              refine does_intro rfl rfl ?_
              intro K hK
              go_simp
              refine hK _ _ trivial ?_
              clear hK K
              go_simp
              refine forks_read 6 rfl (by kernel_rfl) ?_
              go_big_quiet_step (fail)
              refine wpQuiet_nil ?_
              refine forks_read 7 rfl (by kernel_rfl) ?_
              go_big_quiet_step (fail)
              refine wpQuiet_nil ?_
              refine forks_end (by kernel_rfl) ?_
              go_wp2_with fail
              go_meet
              refine ⟨w9.heap.size + 1 + 1 + 1, w9.heap.size + 1 + 1, w9.heap.size + 1, w9.heap.size, rfl, rfl, ?_⟩
              exact made2_leaf (mem64 (blk3 _ _ _ _ _ _ _ _ _) (blk2 _ _ _ _ _ _ _ _ _)) (mem64 (blk1 _ _ _ _ _ _ _ _ _) (blk0 _ _ _ _ _ _ _ _ _)) HDS.out HDE2.out (by omega) (by omega) (by omega) (by omega) (by omega) (by omega) (by omega) (by omega) (by omega)
          --ENDTREE
        case rest =>
          obtain ⟨q1, g1, q2, g2, rfl, rfl, hmade⟩ := hcut
          have hvb : ∀ b o, 0 < vl → va = some ⟨b, o, none⟩ → b ≠ g1 := fun b o hp e => by
            obtain ⟨b', o', e', hb', _⟩ := came_ops HP8.out (by omega)
            rw [e] at e'
            injection e' with e'
            injection e' with e1 e2
            have := hmade.a2
            omega
          have hvb2 : ∀ b o, 0 < vl → ma = some ⟨b, o, none⟩ → b ≠ g2 := fun b o hp e => by
            obtain ⟨b', o', e', hb', _⟩ := came_ops HCM8.out (by omega)
            rw [e] at e'
            injection e' with e'
            injection e' with e1 e2
            have := hmade.a4
            omega
          have HVB2 := Lib.hid hvb2
          have hg2c : g2 < wc.heap.size := hmade.m2.g.lt
          clear hvb2 HCM8
          have hrow : w8.heap.size ≤ wc.heap.size := hmade.b.size
          have HR9 := Lib.hid (HR8.out.below hmade.b hG8)
          have HPL := Lib.hid (plain_ok ps va vl vc R q1 g1 (List.replicate 64 0) wc (HP8.out.below hmade.b) (by omega) HFO.out HBD.out rep_bd (by simp) hmade.m1 hmade.n1 hvb)
          have HSZ : Hid ((Try.prog.info? 93).map (·.size) = some (rowL 16 fun i => Value.int .i64 (R i)).toArray.size) := by unfold Hid; kernel_rfl
          have HMD := Lib.hid hmade
          have HOW9 := Lib.hid (ownsRow_below HOW.out hmade.b)
          have HOB : Hid (∀ g, (Value.slice ma vl mc).ownBlock = some g → g ≠ g1) := fun g hg => by
            have := (World.ownsRow.lt HOW.out g hg).2
            have := hmade.a2
            omega
          have HB9 := Lib.hid (HB8.out.trans (hmade.b.mono HB8.out.size))
          have hGg1 : G ≠ g1 := by have := hmade.a2; omega
          have hb0 : w.heap.size ≤ g1 := by have := hmade.a2; have := HB8.out.size; omega
          have hb0' : w.heap.size ≤ g2 := by have := hmade.a4; have := HB8.out.size; omega
          clear hmade HR8 HP8 HOW HB8 hvb
          go_wp2_with (refine wpList_load_row rfl 93 _ rfl G rfl _ (rowL 16 fun i => .int .i64 (R i)).toArray _ _ HR9.out Try.underlying93 rfl HSZ.out ?_)
          refine HPL.out.mono ?_
          rintro e w10 ⟨E, st, v, rfl, ho, hres⟩
          obtain ⟨pa, pl, pc, rfl⟩ := owns_shape ho.own
          have hgr := ho.gr
          have HO := Lib.hid ho
          have HRES := Lib.hid hres
          have HR10 := Lib.hid (HR9.out.of_heap (hgr.block G HR9.out.lt (fun e => hGg1 (by injection e))))
          have HM10 : Hid (MemAt w10 q2 g2 (List.replicate 64 0)) := ⟨HMD.out.m2.q.of_heap (hgr.block q2 HMD.out.m2.q.lt (fun e => HMD.out.n4 (by injection e with e; exact e.symm))), HMD.out.m2.g.of_heap (hgr.block g2 HMD.out.m2.g.lt (fun e => HMD.out.n3 (by injection e with e; exact e.symm)))⟩
          have HOW10 := Lib.hid (World.ownsRow.kept HOW9.out hgr (by
            cases hv : (Value.slice ma vl mc).ownBlock with
            | none => exact .inl rfl
            | some q => exact .inr (fun e => HOB.out q hv (by injection e))))
          have HB10 := Lib.hid (HB9.out.trans (grown_below hgr (fun g hg => by simp at hg; omega) HB9.out.size))
          have HX11 := Lib.hid (boxW_blk w10 st.r)
          have hxb := boxW_below w10 st.r
          have HR11 := Lib.hid (HR10.out.below hxb HR10.out.lt)
          have HM11 := Lib.hid (HM10.out.below hxb)
          have HO11 : Hid (OwnI (boxW w10 st.r) wc.heap.size (.slice pa pl pc) st.p) := ownsRow_below ho.own hxb
          have HMM11 := Lib.hid (ho.mem.below hxb)
          have HOW11 := Lib.hid (ownsRow_below HOW10.out hxb)
          have HB11 := Lib.hid (HB10.out.trans (hxb.mono HB10.out.size))
          have HSZ1 : Hid ((Try.prog.info? 93).map (·.size) = some (rowL 16 fun i => Value.int .i64 (st.r i)).toArray.size) := HSZ.out
          clear hgr ho hres hxb HPL HR9 HOW9 HOB HB9 HR10 HM10 HOW10 HB10
          go_upto_region 18 with (refine wpList_store_rowTo rfl 93 _ _ rfl rfl w10.heap.size (rowL 16 fun i => .int .i64 (st.r i)).toArray rfl rfl _ _ (new16 w10) HSZ1.out rfl (row16_one _) ?_)
          change Code.wp _ _ _ _ (boxW w10 st.r)
          obtain ⟨X1, hX1⟩ : ∃ X1, X1 = w10.heap.size := ⟨_, rfl⟩
          have hxg : X1 ≠ g2 := by have := HO.out.sz; omega
          rw [← hX1] at HX11 ⊢
          clear hX1
          generalize boxW w10 st.r = w11 at HX11 HR11 HM11 HO11 HMM11 HOW11 HB11 ⊢
          rcases HRES.out with ⟨rfl, hex⟩ | ⟨hE, _⟩
          · have hsame : execP (pickO ps out) ⟨R, List.replicate 64 0, []⟩ = some st := sched_same (fun o ho => (HFO.out o ho).1) HN.out.symm (by rw [← HDE.out]; exact HOR.out) HLN.out hex
            obtain ⟨ma', mc', hv, hcm⟩ := came_flat5 HOW11.out
            rw [HMN.out] at hv hcm
            injection hv with hv1 _ hv3
            subst hv1 hv3
            have HPL2 := Lib.hid (plain_ok (pickO ps out) ma vl mc R q2 g2 (List.replicate 64 0) w11 hcm (by omega) (fun o ho => HFO.out o (pickO_mem HN.out.symm HOR.out o ho)) HBD.out rep_bd (by simp) HM11.out HMD.out.n2 HVB2.out)
            have HSM2 := Lib.hid hsame
            clear hsame hcm hex HRES HM11 HOW11
            go_wp2_with (refine wpList_load_row rfl 93 _ rfl G rfl _ (rowL 16 fun i => .int .i64 (R i)).toArray _ _ HR11.out Try.underlying93 rfl HSZ.out ?_)
            refine HPL2.out.mono ?_
            rintro e w12 ⟨E2, st2, v2, rfl, ho2, hres2⟩
            have hE2 : E2 = 0 ∧ st2 = st := by
              rcases hres2 with ⟨h1, h2⟩ | ⟨_, h2⟩
              · rw [HSM2.out] at h2
                exact ⟨h1, (Option.some.inj h2).symm⟩
              · rw [HSM2.out] at h2
                cases h2
            obtain ⟨rfl, rfl⟩ := hE2
            obtain ⟨qa, ql, qc, rfl⟩ := owns_shape ho2.own
            have hgr := ho2.gr
            have hX12 := HX11.out.of_heap (hgr.block X1 HX11.out.lt (fun e => hxg (by injection e)))
            have hMM12 : MemAt w12 q1 g1 st2.m := ⟨HMM11.out.q.of_heap (hgr.block q1 HMM11.out.q.lt (fun e => HMD.out.n5 (by injection e with e; exact e.symm))), HMM11.out.g.of_heap (hgr.block g1 HMM11.out.g.lt (fun e => HMD.out.n3 (by injection e)))⟩
            have hO12 : OwnI w12 wc.heap.size (.slice pa pl pc) st2.p := World.ownsRow.kept HO11.out hgr (by
              cases hv : (Value.slice pa pl pc).ownBlock with
              | none => exact .inl rfl
              | some q => exact .inr (fun e => by
                  have := (World.ownsRow.lt HO11.out q hv).1
                  injection e with e
                  omega))
            have hB12 := HB11.out.trans (grown_below hgr (fun g hg => by simp at hg; omega) HB11.out.size)
            have hxb := boxW_below w12 st2.r
            have HY13 := Lib.hid (boxW_blk w12 st2.r)
            have HX13 := Lib.hid (hX12.below hxb hX12.lt)
            have HA13 := Lib.hid (hMM12.below hxb)
            have HA213 := Lib.hid (ho2.mem.below hxb)
            have HP13 : Hid (OwnI (boxW w12 st2.r) wc.heap.size (.slice pa pl pc) st2.p) := ownsRow_below hO12 hxb
            have HQ13 : Hid (OwnI (boxW w12 st2.r) w11.heap.size (.slice qa ql qc) st2.p) := ownsRow_below ho2.own hxb
            have HB13 := Lib.hid (hB12.trans (hxb.mono hB12.size))
            have hml2 := ho2.ml
            clear hgr hX12 hMM12 hO12 hB12 hxb ho2 hres2 HPL2 HSM2 HX11 HMM11 HO11 HB11 HR11 HO
            go_upto_region 21 with (refine wpList_store_rowTo rfl 93 _ _ rfl rfl w12.heap.size (rowL 16 fun i => .int .i64 (st2.r i)).toArray rfl rfl _ _ (new16 w12) HSZ1.out rfl (row16_one _) ?_)
            change Code.wp _ _ _ _ (boxW w12 st2.r)
            obtain ⟨Y1, hY1⟩ : ∃ Y1, Y1 = w12.heap.size := ⟨_, rfl⟩
            rw [← hY1] at HY13 ⊢
            clear hY1
            generalize boxW w12 st2.r = w13 at HX13 HY13 HA13 HA213 HP13 HQ13 HB13 ⊢
            have HEQ := eq16 st2.r
            have hgt : Try.prog.eqGuardType Try.prog.depth 93 = false := by kernel_rfl
            have HE1 := fun (w : World) h1 h2 => Lib.hid (equal_ints w pa pl pc st2.p qa ql qc st2.p h1 h2)
            have HE2 := fun (w : World) h1 h2 => Lib.hid (equal_ints w (some ⟨g1, 0, none⟩) st2.m.length st2.m.length st2.m (some ⟨g2, 0, none⟩) st2.m.length st2.m.length st2.m h1 h2)
            simp only [decide_true] at HE1 HE2
            have hmlb : st2.m.length ≤ 9223372036854775807 := by rw [hml2]; simp
            clear hml2
            refine wp_region_eagerRF (KeepL [X1, Y1, q1, q2]) [(0, true), (1, true), (2, true), (3, true), (4, true), (5, true), (6, true), (7, true), (8, true), (9, true), (10, false), (11, true), (12, true), (13, true), (14, true), (15, true), (16, true), (17, true), (18, true), (19, true), (20, true), (21, false), (22, true), (23, true)] (by kernel_rfl) (by kernel_rfl) ?_
            have hde : Below w13.heap.size w13 w13.drew := (Below.refl _ _).drew
            have HX14 := Lib.hid (HX13.out.below hde HX13.out.lt)
            have HY14 := Lib.hid (HY13.out.below hde HY13.out.lt)
            have HA14 := Lib.hid (HA13.out.below hde)
            have HA214 := Lib.hid (HA213.out.below hde)
            have HP14 := Lib.hid (ownI_came (ownsRow_below HP13.out hde : OwnI w13.drew _ _ _)).2
            have HQ14 := Lib.hid (ownI_came (ownsRow_below HQ13.out hde : OwnI w13.drew _ _ _)).2
            have HB14 := Lib.hid (HB13.out.trans (hde.mono HB13.out.size))
            clear hde HX13 HY13 HA13 HA213 HP13 HQ13 HB13
            generalize w13.drew = w14 at HX14 HY14 HA14 HA214 HP14 HQ14 HB14 ⊢
            have hXr : ∀ w', (∃ x : AfterR (KeepL [X1, Y1, q1, q2]) w14, w' = x.world) → w'.rangeAt X1 0 (rowL 16 fun i => .int .i64 (st2.r i)) := by
              rintro _ ⟨x, rfl⟩
              exact rangeBlk (HX14.out.of_heap (x.rel X1 (by simp)))
            have hYr : ∀ w', (∃ x : AfterR (KeepL [X1, Y1, q1, q2]) w14, w' = x.world) → w'.rangeAt Y1 0 (rowL 16 fun i => .int .i64 (st2.r i)) := by
              rintro _ ⟨x, rfl⟩
              exact rangeBlk (HY14.out.of_heap (x.rel Y1 (by simp)))
            have HXR := Lib.hid hXr
            have HYR := Lib.hid hYr
            clear hXr hYr
            iterate 3 (refine eagR_readF rfl ?_; go_big_quiet_step (fail); refine wpQuiet_nil ?_)
            refine eagR_readF rfl ?_
            refine loadMid rfl 93 _ rfl X1 0 rfl (rowL 16 fun i => .int .i64 (st2.r i)) _ HXR.out Try.underlying93 rfl HSZ.out ?_
            go_simp
            refine eagR_readF rfl ?_
            refine loadMid rfl 93 _ rfl Y1 0 rfl (rowL 16 fun i => .int .i64 (st2.r i)) _ HYR.out Try.underlying93 rfl HSZ.out ?_
            go_simp
            iterate 5 (refine eagR_readF rfl ?_; go_big_quiet_step (fail); refine wpQuiet_nil ?_)
            refine eagR_doesF rfl rfl ?_
            intro K hK
            go_simp
            refine (HE1 w14 HP14.out HQ14.out).out.mono ?_
            rintro e w' ⟨nn, rfl, rfl⟩
            refine hK _ _ (fun _ b _ => rfl) ?_
            clear hK K
            go_simp
            have a1c : ∀ y : AfterR (KeepL [X1, Y1, q1, q2]) (w14.drewN nn), y.world.cell? ⟨q1, 0, none⟩ = some (.slice (some ⟨g1, 0, none⟩) st2.m.length st2.m.length) := fun y => ((World.cell?_of_block (a := ⟨q1, 0, none⟩) (y.rel q1 (by simp))).trans (HA14.out.q.cell 0))
            have a2c : ∀ y : AfterR (KeepL [X1, Y1, q1, q2]) (w14.drewN nn), y.world.cell? ⟨q2, 0, none⟩ = some (.slice (some ⟨g2, 0, none⟩) st2.m.length st2.m.length) := fun y => ((World.cell?_of_block (a := ⟨q2, 0, none⟩) (y.rel q2 (by simp))).trans (HA214.out.q.cell 0))
            repeat (refine eagR_readF rfl ?_; go_big_quiet_step (fail); refine wpQuiet_nil ?_)
            refine eagR_doesF rfl rfl ?_
            intro K hK
            go_simp
            refine (HE2 (w14.drewN nn) (came_drewN (came_of_blk HA14.out.g hmlb) nn) (came_drewN (came_of_blk HA214.out.g hmlb) nn)).out.mono ?_
            rintro e w' ⟨n2, rfl, rfl⟩
            refine hK _ _ (fun _ b _ => rfl) ?_
            clear hK K a1c a2c
            go_simp
            have HBZ := Lib.hid (HB14.out.trans (below_drewN_self w.heap.size w14 (nn + n2)))
            repeat (refine eagR_readF rfl ?_; go_big_quiet_step (fail); refine wpQuiet_nil ?_)
            refine eagR_endF ?_
            clear HX14 HY14 HA14 HA214 HP14 HQ14 HB14 HXR HYR
            go_wp2_with fail
            go_ret
            exact ⟨rfl, HBZ.out⟩
          · have t1 : (E != 0) = true := by rw [bne_iff_ne]; exact hE
            clear hE HX11 HR11 HM11 HO11 HMM11 HOW11 HRES HO HMD
            go_wp2_with fail
            go_ret
            exact ⟨rfl, HB11.out⟩
end Go.Proofs.Ytnfgjcdiophphab
