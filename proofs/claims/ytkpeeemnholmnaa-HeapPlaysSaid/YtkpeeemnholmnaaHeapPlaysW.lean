/- The walk of HeapPlays. -/
import Derived.Test.YtkpeeemnholmnaaPlayInv
import Derived.Deep.Cut
import Derived.Deep.CutRange
import Derived.Deep.DeepCutAuto
import Derived.Deep.CutBlock
namespace Go.Proofs.Ytkpeeemnholmnaa
open Go.RowKit
set_option linter.unusedVariables false
set_option linter.unusedSimpArgs false

set_option maxRecDepth 100000 in
set_option maxHeartbeats 4000000 in
theorem heapPlays_walk (m0 u0 : Int) (A : Option Addr) (la ca : Nat) (ds : List Int) (X : Option Addr) (lx cx : Nat) (xs : List Int) (Y : Option Addr) (ly cy : Nat) (ys : List Int) (w : World)
    (_ : -9223372036854775808 ≤ m0 ∧ m0 ≤ 9223372036854775807) (_ : -9223372036854775808 ≤ u0 ∧ u0 ≤ 9223372036854775807)
    (h2 : Came w A la ca 1 (ds.map intCells) ∧ ∀ z ∈ ds, I64 z) (h3 : Came w X lx cx 1 (xs.map intCells) ∧ ∀ z ∈ xs, I64 z) (h4 : Came w Y ly cy 1 (ys.map intCells) ∧ ∀ z ∈ ys, I64 z) :
    Calls Try.prog 3 #[.int .i64 m0, .int .i64 u0, .slice A la ca, .slice X lx cx, .slice Y ly cy] w fun e w' => e = .returned (.bool true) ∧ Below w.heap.size w w' := by
  obtain ⟨mm, hmm⟩ : ∃ mm : Nat, (mm : Int) = m0 % 300 := ⟨(m0 % 300).toNat, by omega⟩
  obtain ⟨uu, huu⟩ : ∃ mm : Nat, (mm : Int) = u0 % 9 := ⟨(u0 % 9).toNat, by omega⟩
  have hmb : mm < 300 := by omega
  have hub : uu < 9 := by omega
  have HR1 : ∀ w, Calls Try.prog 8 #[.int .i64 m0, .int .i64 300] w fun e w' => e = .returned (.int .i64 (mm : Int)) ∧ w = w' := fun w => by rw [hmm]; exact rest_any m0 300 w (by omega) (by omega)
  have HR2 : ∀ w, Calls Try.prog 8 #[.int .i64 u0, .int .i64 9] w fun e w' => e = .returned (.int .i64 (uu : Int)) ∧ w = w' := fun w => by rw [huu]; exact rest_any u0 9 w (by omega) (by omega)
  have HN : ∀ w, Calls Try.prog 7 #[.int .i64 (32 + (mm : Int)), .int .i64 8, .int .i64 (4 + (uu : Int))] w (HNewPost (HS.new (32 + mm) 8 (4 + uu)) w) := fun w => hnew_ok (32 + mm) 8 (4 + uu) w (by omega) (by omega) (by omega)
  have HIN : Hid (HInv (HS.new (32 + mm) 8 (4 + uu)) [] []) := HInv.new _ _ _ (by omega) (by omega) (by omega)
  have HDS := Lib.hid h2.1
  have HXS := Lib.hid h3.1
  have HYS := Lib.hid h4.1
  have HIX := Lib.hid h3.2
  have hla := h2.1.count
  have hlx := h3.1.count
  have hly := h4.1.count
  clear hmm huu h2 h3 h4
  go_enter Try.func3, Try.ntmps3
  go_wp2_with (first
      | (go_at_call 8; refine (HR1 _).mono ?_; rintro e w' ⟨rfl, rfl⟩)
      | (go_at_call 8; refine (HR2 _).mono ?_; rintro e w' ⟨rfl, rfl⟩))
  refine (HN _).mono ?_
  rintro e w1 ⟨p, mb, rfl, hst, hp, hm, hb⟩
  have HST := Lib.hid hst
  have HB := Lib.hid hb
  clear hst hb
  go_wp2_with fail
  refine (heapFactL_ok _).mono ?_
  rintro e w2 ⟨rfl, hb2⟩
  have HPS := Lib.hid (PlayE.start (HST.out.later hb2) HIN.out hp hm (HB.out.trans (hb2.mono HB.out.size)) (Nat.le_trans HB.out.size hb2.size))
  clear hb2 HST HB HN HIN HR1 HR2
  go_wp2_with fail
  obtain ⟨G, hG⟩ : ∃ G, G = w2.heap.size := ⟨_, rfl⟩
  rw [← hG] at HPS ⊢
  generalize w2.alloc _ = w3 at HPS ⊢
  clear hG w2
  go_loopw [14, 15] (fun zv u wr => ∃ i : Nat, i ≤ 80 ∧ u = .int .i64 (i : Int) ∧ PlayE w.heap.size w p mb G i zv wr) (fun _ u _ => 80 - (intOf u).toNat)
  case atStart => exact ⟨0, Nat.zero_le _, rfl, HPS.out⟩
  case round =>
    clear HPS
    obtain ⟨i, hi, rfl, hps⟩ := hrel
    have HPS := Lib.hid hps
    have hbe : Below w.heap.size w wr := by obtain ⟨_, _, _, _, _, _, _, _, _, _, _, _, h⟩ := hps; exact h.be
    have HBE := Lib.hid hbe
    clear hps
    simp only [List.length_map] at hla hlx hly
    by_cases g : i < la ∧ i < lx ∧ i < ly ∧ i < 80
    · obtain ⟨g1, g2, g3, g4⟩ := g
      obtain ⟨rv, ov, gr, S, l1, l2, os, rs, zs, L, ψ, c, hpc⟩ := HPS.out
      obtain ⟨za, zc, rfl, hzc, hzm⟩ := hpc.ms.zr.shape
      obtain ⟨n, hn⟩ : ∃ n, n = zs.length := ⟨_, rfl⟩
      rw [← hn] at hpc hzc ⊢
      have hni : n ≤ i := by have := hpc.rp.len; have := hpc.rn; omega
      have HPC := Lib.hid hpc
      have HN := Lib.hid hn
      clear hpc HPS hn
      obtain ⟨bA, oA, rfl, hlA, hcA⟩ := HDS.out.ints (by omega)
      obtain ⟨bX, oX, rfl, hlX, hcX⟩ := HXS.out.ints (by omega)
      obtain ⟨bY, oY, rfl, hlY, hcY⟩ := HYS.out.ints (by omega)
      have cA := (hbe.cell (p := ⟨bA, oA + i, none⟩) hlA).trans (hcA i (by omega))
      have cX := (hbe.cell (p := ⟨bX, oX + i, none⟩) hlX).trans (hcX i (by omega))
      have cY := (hbe.cell (p := ⟨bY, oY + i, none⟩) hlY).trans (hcY i (by omega))
      clear hcA hcX hcY hbe
      have hx64 : I64 xs[i] := HIX.out _ (List.getElem_mem _)
      obtain ⟨x, hx⟩ : ∃ x, x = xs[i] := ⟨_, rfl⟩
      obtain ⟨y, hy⟩ : ∃ x, x = ys[i] := ⟨_, rfl⟩
      obtain ⟨d, hd⟩ : ∃ x, x = ds[i] := ⟨_, rfl⟩
      rw [← hx] at cX hx64
      rw [← hy] at cY
      rw [← hd] at cA
      clear hx hy hd
      go_wp2_with fail
      go_quiet (fail)
      have hbn := below_drewN_self wr.heap.size wr nq
      have HPC4 : Hid (PlayC w.heap.size w p mb G i (.slice za n zc) (wr.drewN nq) rv ov gr S l1 l2 os rs zs L ψ c) := ⟨HPC.out.ms.later hbn, HPC.out.hi, HPC.out.rp, HPC.out.on, HPC.out.rn, HBE.out.trans (below_drewN_self _ _ _)⟩
      have cA4 : (wr.drewN nq).cell? ⟨bA, oA + i, none⟩ = some (.int .i64 d) := cA
      clear cA cX cY hbn HPC HBE
      generalize wr.drewN nq = w4 at HPC4 cA4 ⊢
      have HR := fun (v m : Int) (hm : 0 < m ∧ m ≤ 1000000) (w : World) => rest_any v m w hm.1 hm.2
      obtain ⟨dd, hdd⟩ : ∃ dd : Nat, (dd : Int) = d % 8 := ⟨(d % 8).toNat, by omega⟩
      have hd8 : dd < 8 := by omega
      have HRD : ∀ w, Calls Try.prog 8 #[.int .i64 d, .int .i64 8] w fun e w' => e = .returned (.int .i64 (dd : Int)) ∧ w = w' := fun w => by rw [hdd]; exact rest_any d 8 w (by omega) (by omega)
      clear hdd
      go_upto_block 2 with (go_at_call 8; refine (HRD _).mono ?_; rintro e w' ⟨rfl, rfl⟩)
      go_cut [14] (fun zv wx => PlayE w.heap.size w p mb G (i + 1) zv wx)
      case first =>
        by_cases hA : dd < 3 ∨ n = 0
        · as_aux_lemma =>
            obtain ⟨ss, hss⟩ : ∃ ss : Nat, (ss : Int) = x % 6 := ⟨(x % 6).toNat, by omega⟩
            obtain ⟨wd, hwd⟩ : ∃ wd : Nat, (wd : Int) = x % 500 := ⟨(x % 500).toNat, by omega⟩
            obtain ⟨tt, htt⟩ : ∃ tt : Nat, (tt : Int) = y % 259 := ⟨(y % 259).toNat, by omega⟩
            have hs5 : ss ≤ 5 := by omega
            have hw5 : wd ≤ 500 := by omega
            have ht5 : tt ≤ 258 := by omega
            have HR6 : ∀ w, Calls Try.prog 8 #[.int .i64 x, .int .i64 6] w fun e w' => e = .returned (.int .i64 (ss : Int)) ∧ w = w' := fun w => by rw [hss]; exact HR x 6 (by omega) w
            have HR5 : ∀ w, Calls Try.prog 8 #[.int .i64 x, .int .i64 500] w fun e w' => e = .returned (.int .i64 (wd : Int)) ∧ w = w' := fun w => by rw [hwd]; exact HR x 500 (by omega) w
            have HRT : ∀ w, Calls Try.prog 8 #[.int .i64 y, .int .i64 259] w fun e w' => e = .returned (.int .i64 (tt : Int)) ∧ w = w' := fun w => by rw [htt]; exact HR y 259 (by omega) w
            clear hss hwd htt HR HRD cA4
            go_upto_region 20 with fail
            go_cut [110] (fun v wx => v = .bool true ∧ wx = w4)
            case first =>
              clear HR6 HR5 HRT HPC4
              by_cases h3 : dd < 3
              · have h3' : (dd : Int) < 3 := by omega
                go_wp2_with fail
                go_meet
                exact ⟨rfl, rfl⟩
              · have h3' : ¬ (dd : Int) < 3 := by omega
                obtain rfl : n = 0 := by omega
                go_wp2_with fail
                go_meet
                exact ⟨rfl, rfl⟩
            obtain ⟨rfl, rfl⟩ := hcut
            by_cases hroom : RoomB S ss = true
            · have HAL := Lib.hid (alloc_odd wc p mb rv S HPC4.out.ms.hs HPC4.out.hi.ok tt ss (2 * (wd : Int) + 1) ht5 (by omega) (by omega) (by omega) hroom)
              have HPA := Lib.hid (fun (w5 : World) h1 h2 => HPC4.out.alloc (w' := w5) (t := tt) (s := ss) (wd := wd) ht5 hs5 hw5 hroom h1 h2)
              clear hroom
              go_wp2_with (first
                | (go_at_call 8; refine (HR6 _).mono ?_; rintro e w' ⟨rfl, rfl⟩)
                | (go_at_call 8; refine (HR5 _).mono ?_; rintro e w' ⟨rfl, rfl⟩)
                | (go_at_call 8; refine (HRT _).mono ?_; rintro e w' ⟨rfl, rfl⟩))
              refine HAL.out.mono ?_
              rintro e w5 ⟨rfl, hst, hstep⟩
              obtain ⟨hbe5, l1', l2', c5, hms5, hi5, L', ψ', hrep⟩ := HPA.out w5 hst hstep
              have HMS5 := Lib.hid hms5
              have HI5 := Lib.hid hi5
              have HREP := Lib.hid hrep
              have HBE5 := Lib.hid hbe5
              have HOR : Hid (os.length ≤ i ∧ rs.length ≤ i) := ⟨HPC4.out.on, HPC4.out.rn⟩
              clear hst hstep hms5 hi5 hrep hbe5 HPA HAL HPC4 HR6 HR5
              obtain ⟨P, hP⟩ : ∃ P : Int, P = 2 * ((S.at_ ss : Nat) : Int) := ⟨_, rfl⟩
              rw [← hP] at HREP ⊢
              clear hP
              obtain ⟨S5, hS5⟩ : ∃ S5, S5 = S.alloc tt ss (2 * (wd : Int) + 1) := ⟨_, rfl⟩
              rw [← hS5] at HREP HMS5 HI5
              clear hS5
              go_wp2_with fail
              have hck := HMS5.out.gm.bx.cell 1
              simp only [List.getElem?_cons_zero, List.getElem?_cons_succ] at hck
              obtain ⟨i0, hi0, hz0, hz1, hz2⟩ := info_parts Try.infoH3
              have r1 := fun x : AfterR (KeepC ⟨G, 1, none⟩) w5.drew => Eq.trans x.rel hck
              refine wp_region_eagerRT (KeepC ⟨G, 1, none⟩) [(0, true), (1, true), (2, true), (3, true), (4, true), (5, true), (6, true), (8, true), (9, true), (10, true), (7, false), (11, false), (12, false), (13, false), (14, true), (15, true), (16, false)] (by kernel_rfl) (by kernel_rfl) ?_
              repeat (refine eagR_readT rfl ?_; go_big_quiet_step (fail); refine wpQuiet_nil ?_)
              clear r1 hck
              refine eagR_doesT rfl rfl ?_
              intro K hK
              go_simp
              refine (HRT _).mono ?_
              rintro e w' ⟨rfl, rfl⟩
              refine hK _ _ (fun _ => rfl) ?_
              clear hK K
              go_simp
              have HMS5 := Lib.hid (HMS5.out.later (below_drewN_self _ _ 1))
              have HBE5 : Hid (Below w.heap.size w w5.drew) := HBE5.out.drew
              change Hid (MS w.heap.size w5.drew p mb G rv ov gr (Value.slice za n zc) S5 os rs zs c5) at HMS5
              generalize w5.drew = w5 at HMS5 HBE5 ⊢
              refine eagR_doesT rfl rfl ?_
              intro K hK
              go_simp
              refine (add_ok w5 G ov gr os (tt : Int) ss ⟨(wd : Int), -1⟩ HMS5.out.gm.bx HMS5.out.gm.ob HMS5.out.ovG.1 (by have := HOR.out; omega) (by omega)).mono ?_
              rintro e w6 hadd
              have HBE6 := Lib.hid (HBE5.out.trans (HMS5.out.bAdd hadd))
              obtain ⟨rfl, hcell, ov6, fv6, c6, hms6⟩ := HMS5.out.add hadd
              have HMS6 := Lib.hid hms6
              refine hK _ _ (fun _ => hcell) ?_
              clear hK K hcell hms6 hadd HMS5 HBE5
              go_simp
              refine eagR_doesT rfl rfl ?_
              intro K hK
              go_simp
              refine hK _ _ (fun _ => World.cell?_of_block (a := ⟨G, 1, none⟩) (Below.heap_alloc _ _ _ HMS6.out.gm.bx.lt)) ?_
              clear hK K
              go_simp
              have hb7 : Below w6.heap.size w6 (w6.alloc (.cells #[.int .i64 (os.length : Int)] 3)) := (Below.refl w6.heap.size w6).alloc (Nat.le_refl _) _
              have HMS7 := Lib.hid (HMS6.out.later hb7)
              have HBE7 := Lib.hid (HBE6.out.trans (hb7.mono HMS6.out.hB))
              have hnew : (w6.alloc (.cells #[.int .i64 (os.length : Int)] 3)).cell? ⟨w6.heap.size, 0, none⟩ = some (.int .i64 (os.length : Int)) := (Blk.new w6 [.int .i64 (os.length : Int)] 3).cell 0
              clear hb7 HMS6 HBE6
              generalize w6.alloc (.cells #[.int .i64 (os.length : Int)] 3) = w7 at HMS7 HBE7 hnew ⊢
              obtain ⟨gr8, w8, hrun, hir8, hgr8, how8⟩ := run_append_irow (P := Try.prog) (w := w7) (ys := [(os.length : Int)]) 22 22 i0 Try.underlying22 hi0 hz0 hz1 hz2 HMS7.out.gm.rr ⟨w6.heap.size, 0, none⟩ 1 (fun j hj => by
                obtain rfl : j = 0 := by simpa using hj
                rw [Addr.add_lit]
                exact hnew) (by rw [intL_len]; have := HOR.out; simp; omega)
              rw [← push_ints] at hir8
              obtain ⟨ga8, gc8, rfl, _, _⟩ := hir8.shape
              refine eagR_doesT rfl rfl ?_
              intro K hK
              refine wp_append_eq w7 _ _ 22 22 rfl gr _ rfl rfl hrun ?_
              go_simp
              have hG8 : w8.heap[G]? = w7.heap[G]? := hgr8.block G HMS7.out.gm.bx.lt (fun e => HMS7.out.ovG.2 e.symm)
              refine hK _ _ (fun _ => World.cell?_of_block (a := ⟨G, 1, none⟩) hG8) ?_
              have hbx8 := HMS7.out.gm.bx.of_heap hG8
              have f5b := hbx8.free 1
              have f5c := hbx8.cell 1
              simp only [List.getElem?_cons_zero, List.getElem?_cons_succ] at f5c
              have HMS8 := Lib.hid (HMS7.out.setG hgr8 hir8 (fun g hg => (how8 g hg).imp id fun e => by omega))
              have HBE8 := Lib.hid (HBE7.out.trans (HMS7.out.bG hgr8 (.slice ga8 (intL (rs ++ [os.length])).length gc8)))
              clear hK K hG8 hbx8 hgr8 hir8 how8 hrun hnew HMS7 HBE7
              go_simp
              repeat (refine eagR_readT rfl ?_; go_big_quiet_step (fail); refine wpQuiet_nil ?_)
              refine eagR_freeT rfl rfl (by kernel_rfl) ?_
              intro K hK
              go_simp
              refine hK _ _ ?_
              clear hK K f5b f5c
              go_simp
              refine eagR_endT ?_
              generalize w8.setCell ⟨G, 1, none⟩ (.slice ga8 (intL (rs ++ [os.length])).length gc8) = w9 at HMS8 HBE8 ⊢
              have hb10 : Below w9.heap.size w9 (w9.alloc (.cells #[.int .i64 P] 3)) := (Below.refl w9.heap.size w9).alloc (Nat.le_refl _) _
              have HMS10 := Lib.hid (HMS8.out.later hb10)
              have HBE10 := Lib.hid (HBE8.out.trans (hb10.mono HMS8.out.hB))
              have hnew : (w9.alloc (.cells #[.int .i64 P] 3)).cell? ⟨w9.heap.size, 0, none⟩ = some (.int .i64 P) := (Blk.new w9 [.int .i64 P] 3).cell 0
              obtain ⟨zv11, w11, hrun, hir11, hgr11, how11⟩ := run_append_irow (P := Try.prog) (w := w9.alloc (.cells #[.int .i64 P] 3)) (ys := [P]) 22 22 i0 Try.underlying22 hi0 hz0 hz1 hz2 HMS10.out.zr ⟨w9.heap.size, 0, none⟩ 1 (fun j hj => by
                obtain rfl : j = 0 := by simpa using hj
                rw [Addr.add_lit]
                exact hnew) (by have := HN.out; simp; omega)
              have HE : Hid (PlayE w.heap.size w p mb G (i + 1) zv11 w11) := ⟨_, _, _, _, _, _, _, _, _, _, _, _, HMS10.out.setZ hgr11 hir11 (fun g hg => (how11 g hg).imp id fun e => by omega), HI5.out, HREP.out fv6, by have := HOR.out; simp; omega, by have := HOR.out; simp; omega, HBE10.out.trans (HMS10.out.bZ hgr11)⟩
              have HRUN := Lib.hid hrun
              clear hb10 hnew hir11 hgr11 how11 hrun HMS10 HBE10 HMS8 HBE8
              go_wp2_with (refine wpList_of_wp _ rfl (fun K Q' hk => wp_append_eq _ _ _ 22 22 rfl _ _ rfl rfl HRUN.out hk) ?_)
              go_meet
              exact HE.out
            · have hrf : RoomB S ss = false := by simpa using hroom
              have HAL := Lib.hid (alloc_full wc p mb rv S HPC4.out.ms.hs HPC4.out.hi.ok tt ss (2 * (wd : Int) + 1) ht5 (by omega) (by omega) hrf)
              have HRM := Lib.hid (fun (w : World) h => room_any w p mb rv S h HPC4.out.hi.ok ss (by omega))
              rw [hrf] at HRM
              clear hroom hrf
              go_wp2_with (first
                | (go_at_call 8; refine (HR6 _).mono ?_; rintro e w' ⟨rfl, rfl⟩)
                | (go_at_call 8; refine (HR5 _).mono ?_; rintro e w' ⟨rfl, rfl⟩)
                | (go_at_call 8; refine (HRT _).mono ?_; rintro e w' ⟨rfl, rfl⟩))
              refine HAL.out.mono ?_
              rintro e w5 ⟨k5, rfl, rfl⟩
              go_wp2_with fail
              refine (HRM.out _ (HPC4.out.ms.hs.drewN k5)).mono ?_
              rintro e w5 ⟨k6, rfl, rfl⟩
              go_wp2_with fail
              go_meet
              exact (HPC4.out.later (below_drewN_self _ _ (k5 + k6))).pack.more (Nat.le_succ i)
        · have hd3 : ¬ dd < 3 := by omega
          have hn0 : 0 < n := by omega
          have hnlen : zs.length = n := HN.out.symm
          have hrlen : rs.length = n := by rw [← HPC4.out.rp.len]; exact hnlen
          have b3 : ¬ (dd : Int) < 3 := by omega
          have bn : ((n : Int) == 0) = false := beq_eq_false_iff_ne.2 (by omega)
          clear cA4 HRD hA
          obtain ⟨kk, hkk⟩ : ∃ kk : Nat, (kk : Int) = x % (n : Int) := ⟨(x % (n : Int)).toNat, by have := Int.emod_nonneg x (b := (n : Int)) (by omega); omega⟩
          have hkn : kk < n := by have := Int.emod_lt_of_pos x (b := (n : Int)) (by omega); omega
          have HRK : ∀ w, Calls Try.prog 8 #[.int .i64 x, .int .i64 (n : Int)] w fun e w' => e = .returned (.int .i64 (kk : Int)) ∧ w = w' := fun w => by rw [hkk]; exact HR x n (by omega) w
          clear hkk
          by_cases hB : dd < 6
          · as_aux_lemma =>
              have b6 : (dd : Int) < 6 := by omega
              obtain ⟨jj, hjj⟩ : ∃ kk : Nat, (kk : Int) = y % (n : Int) := ⟨(y % (n : Int)).toNat, by have := Int.emod_nonneg y (b := (n : Int)) (by omega); omega⟩
              have hjn : jj < n := by have := Int.emod_lt_of_pos y (b := (n : Int)) (by omega); omega
              have HRJ : ∀ w, Calls Try.prog 8 #[.int .i64 y, .int .i64 (n : Int)] w fun e w' => e = .returned (.int .i64 (jj : Int)) ∧ w = w' := fun w => by rw [hjj]; exact HR y n (by omega) w
              clear hjj
              obtain ⟨a1, a2, a3, a4, a5, a6⟩ := HPC4.out.rootOf (k := kk) (by omega)
              obtain ⟨e1, e2, e3, e4, e5, e6⟩ := HPC4.out.rootOf (k := jj) (by omega)
              obtain ⟨gg, gc, rfl, hgc, hgl, hgcell⟩ := HPC4.out.ms.rootAt (by omega)
              rw [hrlen] at HPC4 hgc hgcell
              obtain ⟨rk, hrk⟩ : ∃ rk, rk = rs.getD kk 0 := ⟨_, rfl⟩
              have ck := hgcell kk (by omega)
              rw [← hrk] at a1 a2 a3 a4 a5 a6 ck
              obtain ⟨o, ho⟩ : ∃ o, os[rk]? = some o := ⟨os[rk], List.getElem?_eq_getElem a3⟩
              obtain ⟨go, oc, rfl, hoc, hgol, cfv⟩ := HPC4.out.ms.objAt ho
              obtain ⟨fa, fc, hfv, hfc, hfg⟩ := HPC4.out.ms.fldAt ho
              rw [hfv] at cfv
              have c0 : w4.cell? ⟨G, 0, none⟩ = some (.slice (some ⟨go, 0, none⟩) os.length oc) := HPC4.out.ms.gm.bx.cell 0
              have c1 : w4.cell? ⟨G, 1, none⟩ = some (.slice (some ⟨gg, 0, none⟩) n gc) := HPC4.out.ms.gm.bx.cell 1
              obtain ⟨nf, hnf⟩ : ∃ nf, nf = o.fs.length := ⟨_, rfl⟩
              rw [← hnf] at cfv hfc hfg
              have HRKE := Lib.hid hrk
              have HNF := Lib.hid hnf
              clear hrk hnf hnlen hrlen
              go_wp2_with (first
                | (go_at_call 8; refine (HRK _).mono ?_; rintro e w' ⟨rfl, rfl⟩))
              have hGl := HPC4.out.ms.gm.bx.lt
              have r0 := fun x : After w4.heap.size w4.drew => (x.below.cell (p := ⟨G, 0, none⟩) hGl).trans c0
              have r1 := fun x : After w4.heap.size w4.drew => (x.below.cell (p := ⟨G, 1, none⟩) hGl).trans c1
              have rk1 := fun x : After w4.heap.size w4.drew => (x.below.cell (p := ⟨gg, kk, none⟩) hgl).trans ck
              refine wp_region_eager w4.heap.size [(0, true), (1, true), (2, true), (3, true), (4, true), (5, true), (6, true), (7, true), (8, true), (9, true), (10, true), (11, true), (12, true)] (by kernel_rfl) (by kernel_rfl) ?_
              repeat (refine eag_read rfl ?_; go_big_quiet_step (fail); refine wpQuiet_nil ?_)
              refine eag_end ?_
              have HPC5 := Lib.hid (HPC4.out.later (below_drewN_self _ _ 1))
              change Hid (PlayC w.heap.size w p mb G i (Value.slice za n zc) w4.drew rv _ _ S l1 l2 os rs zs L ψ c) at HPC5
              have hgo5 : go < w4.drew.heap.size := hgol
              have cfv5 : w4.drew.cell? ⟨go, rk * 2 + 1, none⟩ = some (.slice fa nf fc) := cfv
              clear r0 r1 rk1 c0 c1 ck cfv hfg hGl hgl hgcell HPC4 hgol
              generalize w4.drew = w5 at HPC5 hgo5 cfv5 ⊢
              by_cases hnf0 : nf = 0
              · subst hnf0
                go_wp2_with fail
                go_meet
                exact HPC5.out.pack.more (Nat.le_succ i)
              · have hnfp : decide ((0 : Int) < (nf : Int)) = true := by simp; omega
                have hnfq : (0 : Int) < (nf : Int) := by omega
                have htag := HPC5.out.rp.tag rk a1 o ho
                have hnfs : nf = hsize (S.m (ψ rk)) := by rw [HNF.out]; exact htag.2
                have hnf4 : nf ≤ 4095 := by have := hsize_bd (S.m (ψ rk)); omega
                obtain ⟨aa, haa⟩ : ∃ kk : Nat, (kk : Int) = wrap64 (x.tdiv 7) % (nf : Int) := ⟨(wrap64 (x.tdiv 7) % (nf : Int)).toNat, by have := Int.emod_nonneg (wrap64 (x.tdiv 7)) (b := (nf : Int)) (by omega); omega⟩
                have haan : aa < nf := by have := Int.emod_lt_of_pos (wrap64 (x.tdiv 7)) (b := (nf : Int)) (by omega); omega
                have HRA : ∀ w, Calls Try.prog 8 #[.int .i64 (wrap64 (x.tdiv 7)), .int .i64 (nf : Int)] w fun e w' => e = .returned (.int .i64 (aa : Int)) ∧ w = w' := fun w => by rw [haa]; exact HR (wrap64 (x.tdiv 7)) nf (by omega) w
                clear haa HR HRK
                obtain ⟨rj, hrj⟩ : ∃ rk, rk = rs.getD jj 0 := ⟨_, rfl⟩
                rw [← hrj] at e1 e2 e3 e4 e5 e6
                have HRJE := Lib.hid hrj
                obtain ⟨gz, rfl, hgz⟩ := HPC5.out.ms.zForm (by rw [← HN.out]; omega)
                have czk := HPC5.out.ms.zCell (i := kk) (by rw [← HN.out]; omega)
                have czj := HPC5.out.ms.zCell (i := jj) (by rw [← HN.out]; omega)
                rw [a2] at czk
                rw [e2] at czj
                have HSTO := Lib.hid (fun (wx : World) (h : HeapSt wx p mb rv S) => store_inv wx p mb rv h HPC5.out.hi (o := ψ rk) (k := ψ rk + aa + 1) (ii := 2 * (ψ rk : Int) + 2 * ((aa : Int) + 1)) (v := 2 * (ψ rj : Int)) a4 (by omega) (by omega) (by push_cast; omega) (.inr (.inr ⟨_, e4, rfl⟩)) (by omega))
                obtain ⟨ak, hak⟩ : ∃ ak, ak = ψ rk := ⟨_, rfl⟩
                obtain ⟨aj, haj⟩ : ∃ ak, ak = ψ rj := ⟨_, rfl⟩
                rw [← hak] at HSTO czk a6
                rw [← haj] at HSTO czj e6
                have HAK := Lib.hid hak
                have HAJ := Lib.hid haj
                have hA2 := Lib.hid (And.intro a1 (And.intro e1 ho))
                clear a1 a2 a4 a5 e1 e2 e3 e4 e5 hak haj hrj hnfs htag
                go_wp2_with (first
                  | (go_at_call 8; refine (HRA _).mono ?_; rintro e w' ⟨rfl, rfl⟩)
                  | (go_at_call 8; refine (HRJ _).mono ?_; rintro e w' ⟨rfl, rfl⟩))
                go_still_tail 13, (by kernel_rfl)
                change wpList _ _ _ _ _ w5.drew
                have HPC6 := Lib.hid (HPC5.out.later (below_drewN_self _ _ 1))
                change Hid (PlayC w.heap.size w p mb G i (Value.slice (some ⟨gz, 0, none⟩) n zc) w5.drew rv _ _ S l1 l2 os rs zs L ψ c) at HPC6
                clear HPC5 cfv5 hgo5 czk czj
                generalize w5.drew = w6 at HPC6 ⊢
                go_wp2_with fail
                refine (HSTO.out _ HPC6.out.ms.hs).mono ?_
                rintro e w7 ⟨rv7, rem7, rfl, hst7, hi7, hstep7⟩
                rw [HAK.out, HAJ.out] at hst7 hi7
                have HMS7 := Lib.hid (HPC6.out.ms.heap hst7 hstep7)
                have HPE := Lib.hid (fun g hg => HPC6.out.stored (g := g) hA2.out.1 hA2.out.2.1 hA2.out.2.2 (t := aa) (by rw [← HNF.out]; exact haan) hst7 hi7 hstep7 hg)
                have c1 : w7.cell? ⟨G, 1, none⟩ = some (.slice (some ⟨gg, 0, none⟩) n gc) := HMS7.out.gm.bx.cell 1
                have cj := HMS7.out.rootCell (i := jj) (by rw [← HPC6.out.rp.len, ← HN.out]; exact hjn)
                rw [← HRJE.out] at cj
                have cfv := HMS7.out.objCell hA2.out.2.2
                rw [hfv, ← HNF.out] at cfv
                obtain ⟨fa', fc', e1, _, e2⟩ := HMS7.out.fldAt hA2.out.2.2
                rw [hfv] at e1
                injection e1 with e1 _ e3
                subst e1 e3
                obtain ⟨gf, rfl, hgf, hgfl, hfr⟩ := e2 (by rw [← HNF.out]; omega)
                rw [← HNF.out] at hfr
                have hq0 := hfr (aa * 2) (by omega)
                have hq1 := hfr (aa * 2 + 1) (by omega)
                obtain ⟨⟨v0, hv0⟩, hf0⟩ := hq0
                obtain ⟨⟨v1, hv1⟩, hf1⟩ := hq1
                have HPE2 := Lib.hid (HPE.out gf hgf)
                clear hfr hgf HPE HPC6 HSTO hst7 hi7 hstep7 HMS7
                go_wp2_with fail
                have r1 := KeepH.cell (w := w7.drew) c1
                have r2 := KeepH.cell (w := w7.drew) cj
                have r3 := KeepH.cell (w := w7.drew) cfv
                refine wp_region_eagerRT KeepH [(0, true), (1, true), (2, true), (3, true), (4, true), (5, true), (6, true), (7, true), (8, true), (9, true), (10, true), (11, true), (12, true), (13, true), (14, false)] (by kernel_rfl) (by kernel_rfl) ?_
                repeat (refine eagR_readT rfl ?_; go_big_quiet_step (fail); refine wpQuiet_nil ?_)
                clear r1 r2 r3
                refine eagR_freeT rfl rfl (by kernel_rfl) ?_
                intro K hK
                go_simp
                refine hK _ _ ?_
                clear hK K
                go_simp
                refine eagR_endT ?_
                have HPE3 := Lib.hid ((HPE2.out.more (Nat.le_succ i)).later (below_drewN_self _ _ 1))
                clear HPE2
                go_wp2_with fail
                go_meet
                exact HPE3.out
          · have b6 : ¬ (dd : Int) < 6 := by omega
            by_cases hC : dd = 6
            · as_aux_lemma =>
                have b66 : ((dd : Int) == 6) = true := beq_iff_eq.2 (by omega)
                clear hC hB
                obtain ⟨gz, rfl, hgz⟩ := HPC4.out.ms.zForm (by omega)
                obtain ⟨gg, gc, rfl, hgc, hgl, hgcell⟩ := HPC4.out.ms.rootAt (by omega)
                rw [hrlen] at HPC4 hgc
                obtain ⟨i0, hi0, hz0, hz1, hz2⟩ := info_parts Try.infoH3
                clear hgcell
                go_wp2_with (first
                  | (go_at_call 8; refine (HRK _).mono ?_; rintro e w' ⟨rfl, rfl⟩))
                have HPC5 := Lib.hid (HPC4.out.later (below_drewN_self _ _ 1))
                change Hid (PlayC w.heap.size w p mb G i (Value.slice (some ⟨gz, 0, none⟩) n zc) w4.drew rv _ _ S l1 l2 os rs zs L ψ c) at HPC5
                have hzr := HPC5.out.ms.zr
                have hcut1 := hzr.cut (k := kk) (by omega)
                obtain ⟨ad, had, hadc⟩ : ∃ ad : Addr, (if zc = kk + 1 then (some ⟨gz, 0, none⟩ : Option Addr) else some ⟨gz, kk + 1, none⟩) = some ad ∧ ∀ j, j < n - (kk + 1) → ad.add j = ⟨gz, kk + 1 + j, none⟩ := by
                  by_cases hz : zc = kk + 1
                  · exact ⟨_, if_pos hz, fun j hj => by omega⟩
                  · exact ⟨_, if_neg hz, fun j hj => by rw [Addr.add_lit]⟩
                obtain ⟨zv5, w5, hrun, hir, hgr, how⟩ := run_append_irow (P := Try.prog) (ys := zs.drop (kk + 1)) 22 22 i0 Try.underlying22 hi0 hz0 hz1 hz2 hcut1 ad (zc - (kk + 1)) (fun j hj => by
                  have hj2 : j < n - (kk + 1) := by rw [List.length_drop, hnlen] at hj; exact hj
                  rw [hadc j hj2, hzr.word (g := gz) rfl (i := kk + 1 + j) (by omega)]
                  simp [intV]) (by simp; omega)
                rw [List.length_drop, hnlen] at hrun
                have HMS5 := Lib.hid (HPC5.out.ms.setZ (w' := w5) (by exact hgr) hir (fun g hg => (how g hg).imp id fun e => Nat.le_of_eq e.symm))
                have HBE5 := Lib.hid (HPC5.out.be.trans (HPC5.out.ms.bZ (w' := w5) (by exact hgr)))
                obtain ⟨za5, zc5, rfl, _, _⟩ := hir.shape
                have HRUN := Lib.hid hrun
                have HAD := Lib.hid had
                have HPC6 := Lib.hid HPC5.out.rp
                have HON : Hid (os.length ≤ i ∧ rs.length ≤ i) := ⟨HPC5.out.on, HPC5.out.rn⟩
                have HHI := Lib.hid HPC5.out.hi
                generalize hm5 : (zs.take kk ++ zs.drop (kk + 1)).length = m5 at HMS5 HRUN
                clear hzr hcut1 hadc hrun hir hgr how HPC4 had
                refine wp_region_eagerRT KeepH [(0, true), (1, true), (2, true), (3, true), (4, true), (5, true), (6, true), (7, true), (8, false), (9, true)] (by kernel_rfl) (by kernel_rfl) ?_
                repeat (refine eagR_readT rfl ?_; go_big_quiet_step (fail); refine wpQuiet_nil ?_)
                refine eagR_freeT rfl rfl (by kernel_rfl) ?_
                intro K hK
                simp only [HAD.out]
                refine wp_append_eq w4.drew _ _ 22 22 rfl _ _ rfl rfl HRUN.out ?_
                clear HRUN HAD HPC5
                go_simp
                refine hK _ _ ?_
                clear hK K
                go_simp
                refine eagR_readT rfl ?_; go_big_quiet_step (fail); refine wpQuiet_nil ?_
                refine eagR_endT ?_
                have c1 : w5.cell? ⟨G, 1, none⟩ = some (.slice (some ⟨gg, 0, none⟩) n gc) := HMS5.out.gm.bx.cell 1
                go_wp2_with fail
                have r1 := fun x : AfterR (KeepC ⟨G, 1, none⟩) w5.drew => Eq.trans x.rel c1
                have HMS6 := Lib.hid (HMS5.out.later (below_drewN_self _ _ 1))
                have HBE6 := Lib.hid (HBE5.out.drew)
                change Hid (MS w.heap.size w5.drew p mb G rv _ _ _ S os rs _ _) at HMS6
                clear HMS5 HBE5
                have hzr := HMS6.out.gm.rr
                have hcut1 := hzr.cut (k := kk) (by rw [intL_len]; omega)
                obtain ⟨ad, had, hadc⟩ : ∃ ad : Addr, (if gc = kk + 1 then (some ⟨gg, 0, none⟩ : Option Addr) else some ⟨gg, kk + 1, none⟩) = some ad ∧ ∀ j, j < n - (kk + 1) → ad.add j = ⟨gg, kk + 1 + j, none⟩ := by
                  by_cases hz : gc = kk + 1
                  · exact ⟨_, if_pos hz, fun j hj => by omega⟩
                  · exact ⟨_, if_neg hz, fun j hj => by rw [Addr.add_lit]⟩
                obtain ⟨gr8, w8, hrun, hir8, hgr8, how8⟩ := run_append_irow (P := Try.prog) (ys := (intL rs).drop (kk + 1)) 22 22 i0 Try.underlying22 hi0 hz0 hz1 hz2 hcut1 ad (gc - (kk + 1)) (fun j hj => by
                  have hj2 : j < n - (kk + 1) := by rw [List.length_drop, intL_len, hrlen] at hj; exact hj
                  rw [hadc j hj2, hzr.word (g := gg) rfl (i := kk + 1 + j) (by rw [intL_len]; omega)]
                  simp [intV]) (by simp [intL_len]; omega)
                rw [List.length_drop, intL_len, hrlen] at hrun
                rw [← intL_take, ← intL_drop, ← intL_append] at hir8
                obtain ⟨ga8, gc8, rfl, _, _⟩ := hir8.shape
                have hG8 : w8.heap[G]? = w5.drew.heap[G]? := hgr8.block G HMS6.out.gm.bx.lt (fun e => HMS6.out.ovG.2 e.symm)
                have hbx8 := HMS6.out.gm.bx.of_heap hG8
                have f5b := hbx8.free 1
                have f5c := hbx8.cell 1
                simp only [List.getElem?_cons_zero, List.getElem?_cons_succ] at f5c
                have HMS8 := Lib.hid (HMS6.out.setG hgr8 hir8 (fun g hg => (how8 g hg).imp id fun e => Nat.le_of_eq e.symm))
                have HBE8 := Lib.hid (HBE6.out.trans (HMS6.out.bG hgr8 (.slice ga8 (intL (rs.take kk ++ rs.drop (kk + 1))).length gc8)))
                clear HMS6 HBE6 hbx8 hgr8 hir8 how8 hzr hcut1 hadc
                refine wp_region_eagerRT (KeepC ⟨G, 1, none⟩) [(0, true), (1, true), (2, true), (3, true), (4, true), (5, true), (6, true), (7, true), (8, true), (9, true), (10, true), (11, true), (12, true), (13, true), (14, true), (15, false), (16, true), (17, true), (18, false)] (by kernel_rfl) (by kernel_rfl) ?_
                repeat (refine eagR_readT rfl ?_; go_big_quiet_step (fail); refine wpQuiet_nil ?_)
                refine eagR_doesT rfl rfl ?_
                intro K hK
                refine wp_append_eq w5.drew _ _ 22 22 rfl _ _ rfl rfl hrun ?_
                clear hrun had r1 c1
                go_simp
                refine hK _ _ (fun _ => World.cell?_of_block (a := ⟨G, 1, none⟩) hG8) ?_
                clear hK K
                go_simp
                repeat (refine eagR_readT rfl ?_; go_big_quiet_step (fail); refine wpQuiet_nil ?_)
                refine eagR_freeT rfl rfl (by kernel_rfl) ?_
                intro K hK
                go_simp
                refine hK _ _ ?_
                clear hK K f5b f5c
                go_simp
                refine eagR_endT ?_
                have HE : Hid (PlayE w.heap.size w p mb G (i + 1) (.slice za5 m5 zc5) (w8.setCell ⟨G, 1, none⟩ (.slice ga8 (intL (rs.take kk ++ rs.drop (kk + 1))).length gc8))) :=
                  ⟨_, _, _, _, _, _, _, _, _, _, _, _, HMS8.out, HHI.out, HPC6.out.drop (k := kk) (by omega), by have := HON.out; omega, by have := HON.out; simp; omega, HBE8.out⟩
                clear HMS8 HBE8
                go_wp2_with fail
                go_meet
                exact HE.out
            · as_aux_lemma =>
                have b66 : ((dd : Int) == 6) = false := beq_eq_false_iff_ne.2 (by omega)
                obtain ⟨yy, hyy⟩ : ∃ kk : Nat, (kk : Int) = y % 3 := ⟨(y % 3).toNat, by omega⟩
                have HR3 : ∀ w, Calls Try.prog 8 #[.int .i64 y, .int .i64 3] w fun e w' => e = .returned (.int .i64 (yy : Int)) ∧ w = w' := fun w => by rw [hyy]; exact HR y 3 (by omega) w
                have hmf : ∀ (fn : Fn) (first cap : Array Value) (w : World), (Instr.makeFunc fn first cap).run Try.prog w = .ok (.func fn first cap) w := fun _ _ _ _ => rfl
                have HMI := Lib.hid (HPC4.out.minor (by omega))
                have HMA := Lib.hid (HPC4.out.major (by omega))
                clear HRK HR hyy HPC4
                by_cases hy3 : yy = 0
                · have y3 : ((yy : Int) == 0) = true := beq_iff_eq.2 (by omega)
                  go_wp2_with (first
                    | (go_at_call 8; refine (HR3 _).mono ?_; rintro e w' ⟨rfl, rfl⟩))
                  refine HMA.out.mono ?_
                  rintro e w5 (⟨rfl, hpe⟩ | ⟨za5, m5, zc5, rfl, hpe⟩)
                  · have HPE := Lib.hid (hpe.more (Nat.le_succ i))
                    clear hpe HMI HMA
                    go_wp2_with fail
                    go_meet
                    exact HPE.out
                  · have HPE := Lib.hid (hpe.more (Nat.le_succ i))
                    clear hpe HMI HMA
                    go_wp2_with fail
                    go_meet
                    exact HPE.out
                · have y3 : ((yy : Int) == 0) = false := beq_eq_false_iff_ne.2 (by omega)
                  go_wp2_with (first
                    | (go_at_call 8; refine (HR3 _).mono ?_; rintro e w' ⟨rfl, rfl⟩))
                  refine HMI.out.mono ?_
                  rintro e w5 (⟨rfl, hpe⟩ | ⟨za5, m5, zc5, rfl, hpe⟩)
                  · have HPE := Lib.hid (hpe.more (Nat.le_succ i))
                    clear hpe HMI HMA
                    go_wp2_with fail
                    go_meet
                    exact HPE.out
                  · have HPE := Lib.hid (hpe.more (Nat.le_succ i))
                    clear hpe HMI HMA
                    go_wp2_with fail
                    go_meet
                    exact HPE.out
      case rest =>
        as_aux_lemma =>
          clear HPC4 cA4 HN hzc hzm HRD HR
          obtain ⟨rv', ov', gr', S', l1', l2', os', rs', zs', L', ψ', c', hpc⟩ := hcut
          obtain ⟨za', zc', rfl, _, _⟩ := hpc.ms.zr.shape
          have HS1 := Lib.hid (shows_ok wc p mb G rv' S' l1' l2' os' rs' zs' L' ψ' za' zc' hpc.ms.hs hpc.hi hpc.ms.gm.reads hpc.ms.zr.came.2 hpc.rp (by have := hpc.on; omega) (by have := hpc.rn; omega))
          have HPC5 := Lib.hid hpc
          clear hpc
          go_wp2_with fail
          refine HS1.out.mono ?_
          rintro e w5 ⟨rfl, hb5⟩
          have HPC6 : Hid (PlayC w.heap.size w p mb G (i + 1) (.slice za' zs'.length zc') w5 rv' ov' gr' S' l1' l2' os' rs' zs' L' ψ' c') := ⟨HPC5.out.ms.later hb5, HPC5.out.hi, HPC5.out.rp, HPC5.out.on, HPC5.out.rn, HPC5.out.be.trans (hb5.mono HPC5.out.ms.hB)⟩
          clear HS1 HPC5 hb5
          go_wp2_with fail
          refine (check_ok w5 p mb rv' S' HPC6.out.ms.hs HPC6.out.hi.ok l1' l2' HPC6.out.hi.wf).mono ?_
          rintro e w6 ⟨rfl, hb6⟩
          have HPE : Hid (PlayE w.heap.size w p mb G (i + 1) (.slice za' zs'.length zc') w6) := ⟨rv', ov', gr', S', l1', l2', os', rs', zs', L', ψ', c', HPC6.out.ms.later hb6, HPC6.out.hi, HPC6.out.rp, HPC6.out.on, HPC6.out.rn, HPC6.out.be.trans (hb6.mono HPC6.out.ms.hB)⟩
          clear HPC6 hb6
          go_wp2_with fail
          go_roundw
          case rel => exact ⟨i + 1, by omega, by go_num, HPE.out⟩
          case measure => simp [intOf]; omega
    ·
      have g9 : ¬ i < la ∨ (i < la ∧ ¬ i < lx) ∨ (i < la ∧ i < lx ∧ ¬ i < ly) ∨ (i < la ∧ i < lx ∧ i < ly ∧ ¬ i < 80) := by omega
      clear g
      rcases g9 with g1 | ⟨g1, g2⟩ | ⟨g1, g2, g3⟩ | ⟨g1, g2, g3, g4⟩
      all_goals
        go_wp2_with fail
        go_ret
        exact ⟨rfl, hbe⟩
end Go.Proofs.Ytkpeeemnholmnaa
