/- The walk of InsnStream (printed by insnstream.py). -/
import Derived.Test.YtekckijcljgaoaaStream
namespace Go.Proofs.Ytekckijcljgaoaa
open Go.RowKit
set_option linter.unusedVariables false

set_option maxRecDepth 100000 in
set_option maxHeartbeats 40000000 in
theorem stream_small (av : Option Addr) (len cap : Nat) (its : List Op5) (lv : Option Addr) (ll lc : Nat) (zs : List Bool) (w : World) (hcm : Came w av len cap 5 (its.map opC)) (hbl : Came w lv ll lc 1 (zs.map boolCells)) (hc : ¬ 40 < len) :
    Calls Try.prog 3 #[.slice av len cap, .slice lv ll lc] w fun e w' => e = .returned (.bool true) ∧ Below w.heap.size w w' := by
  have HFACT := fun w => Lib.hid (insnFact_ok w)
  have hle := hcm.le
  have hmx := hcm.max
  have hle2 := hbl.le
  have hmx2 := hbl.max
  have hmx0 : max (40 : Int) 0 = 40 := by omega
  have HTK := came_takeS hcm len (by omega)
  rw [← List.map_take] at HTK
  obtain ⟨xs, hxs⟩ : ∃ xs, xs = its.take len := ⟨_, rfl⟩
  rw [← hxs] at HTK
  have hlen : xs.length = len := by simpa using HTK.count
  have hzl : zs.length = ll := by simpa using hbl.count
  have HCAME := Lib.hid HTK
  have HBL := Lib.hid hbl
  have HLEN := Lib.hid hlen
  have HZL := Lib.hid hzl
  have h40 : len ≤ 40 := by omega
  obtain ⟨i0, hi0, hz0, hz1, hz2⟩ := info_parts Try.infoT3
  obtain ⟨i1, hi1, hy0, hy1, hy2⟩ := info_parts Try.infoT27
  clear hcm hbl HTK hlen hxs hzl
  go_enter Try.func3, Try.ntmps3
  go_wp2_with fail
  refine (HFACT _).out.mono ?_
  rintro e w1 ⟨rfl, hb⟩
  have HB1 := Lib.hid hb
  have HCM := Lib.hid (HCAME.out.below hb)
  have HBL1 := Lib.hid (HBL.out.below hb)
  clear hb HFACT HCAME HBL
  go_wp2_with fail
  go_loopw [5, 6, 7, 26] (fun va vo vs u wr => ∃ (k : Nat) (E : List Rec), k ≤ len ∧ u = .int .i64 k ∧ E.length ≤ k ∧ (∀ r ∈ E, RecOk r) ∧ RowsE w1.heap.size wr va vo vs E ∧ Below w1.heap.size w1 wr) (fun _ _ _ u _ => len - (intOf u).toNat)
  case atStart => exact ⟨0, [], Nat.zero_le _, rfl, Nat.le_refl _, (fun r hr => by cases hr), rowsE_nil _ _, Below.refl _ _⟩
  case round =>
    obtain ⟨k, E, hk, rfl, hEl, hEok, hrows, hb⟩ := hrel
    have HEOK := Lib.hid hEok
    clear hEok
    by_cases hlt : k < len
    · obtain ⟨b0, off, ea, hbl, hcell⟩ := came_ops HCM.out (by omega)
      subst ea
      have hkl : k < xs.length := by have := HLEN.out; omega
      have hcs := (hcell k hkl).later hb hbl
      obtain ⟨o, ho⟩ : ∃ o, o = xs[k] := ⟨_, rfl⟩
      rw [← ho] at hcs
      clear ho hcell
      obtain ⟨op, d, a, b, n⟩ := o
      obtain ⟨c0, c1, c2, c3, c4⟩ := hcs
      simp only at c0 c1 c2 c3 c4
      have hw1r : w1.heap.size ≤ wr.heap.size := hb.size
      have HR0 := Lib.hid hrows
      have HB0 := Lib.hid hb
      have hbr : b0 < wr.heap.size := by omega
      have hcase : ¬ k < ll ∨ ∃ (b1 o1 : Nat) (bl : Bool), k < ll ∧ lv = some ⟨b1, o1, none⟩ ∧ b1 < wr.heap.size ∧ wr.cell? ⟨b1, o1 + k, none⟩ = some (.bool bl) := by
        by_cases h : k < ll
        · obtain ⟨b1, o1, eb, hbl1, hbc⟩ := HBL1.out.bools (by omega)
          exact .inr ⟨b1, o1, _, h, eb, by omega, (hb.cell (p := ⟨b1, o1 + k, none⟩) hbl1).trans (hbc k (by have := HZL.out; omega))⟩
        · exact .inl h
      clear hrows hb
      rcases hcase with hkb | ⟨b1, o1, bl, hkb, rfl, hb1r, cb⟩
      case' inr => cases bl
      all_goals
        go_wp2_with fail
        first | refine (enc_two _ _ _ _ _ _).mono ?_ | refine (long_two _ _ _ _ _ _).mono ?_
        rintro e w5 (⟨ws, gw, hrec, rfl, hgb, hge, hb5⟩ | ⟨c, hc0, rfl, hb5⟩)
        · have hrec2 : RecOk ⟨⟨op, d, a, b, n⟩, ws⟩ := hrec
          have hws1 : 1 ≤ ws.length := hrec.pos
          have hws2 : ws.length ≤ 2 := hrec.two
          have hcl : (codeE E).length ≤ 80 := by have := codeE_len E HEOK.out; omega
          have hE40 : E.length ≤ 40 := by omega
          have HEOK2 : Hid (∀ r ∈ E ++ [⟨⟨op, d, a, b, n⟩, ws⟩], RecOk r) := by
            intro r hr
            rcases List.mem_append.1 hr with hr | hr
            · exact HEOK.out r hr
            · obtain rfl := List.mem_singleton.1 hr; exact hrec2
          have HR : Hid (Rows3 w1.heap.size 3 27 w5.drew u5 u6 u7 ((codeE E).map (Value.int .i64)) (codeE E).length ((opsE E).flatMap opC) E.length ((sizesE E).map (Value.int .i64)) E.length [(gw, (ws.map (Value.int .i64)).toArray, 3), (wr.heap.size, #[.int .i64 op, .int .i64 d, .int .i64 a, .int .i64 b, .int .i64 n], 27)]) :=
            ((HR0.out.alloc #[.int .i64 op, .int .i64 d, .int .i64 a, .int .i64 b, .int .i64 n] 27).add hb5 hgb hge).later ((Below.refl _ _).drew)
          have HB : Hid (Below w1.heap.size w1 w5.drew) := ((HB0.out.alloc HB0.out.size _).trans (hb5.mono (by have := HB0.out.size; simp; omega))).drew
          clear hgb hge hb5 HR0 HB0 hrec hrec2
          go_wp2_with fail
          refine wp_region_forks (KeptB w1.heap.size wr.heap.size) 15 rfl (by kernel_rfl) ?_
          generalize w5.drew = w6 at HR HB ⊢
          have hp := HR.out.gs (wr.heap.size, #[.int .i64 op, .int .i64 d, .int .i64 a, .int .i64 b, .int .i64 n], 27) (by repeat (first | exact List.mem_cons_self | apply List.mem_cons_of_mem))
          have hq : Blk w6 wr.heap.size 27 [.int .i64 op, .int .i64 d, .int .i64 a, .int .i64 b, .int .i64 n] := hp.1
          have r0 := fun x : AfterR (KeptB w1.heap.size wr.heap.size) w6 => (World.cell?_of_block (a := ⟨wr.heap.size, 0, none⟩) x.rel.2).trans (hq.cell 0)
          have r1 := fun x : AfterR (KeptB w1.heap.size wr.heap.size) w6 => (World.cell?_of_block (a := ⟨wr.heap.size, 1, none⟩) x.rel.2).trans (hq.cell 1)
          have r2 := fun x : AfterR (KeptB w1.heap.size wr.heap.size) w6 => (World.cell?_of_block (a := ⟨wr.heap.size, 2, none⟩) x.rel.2).trans (hq.cell 2)
          have r3 := fun x : AfterR (KeptB w1.heap.size wr.heap.size) w6 => (World.cell?_of_block (a := ⟨wr.heap.size, 3, none⟩) x.rel.2).trans (hq.cell 3)
          have r4 := fun x : AfterR (KeptB w1.heap.size wr.heap.size) w6 => (World.cell?_of_block (a := ⟨wr.heap.size, 4, none⟩) x.rel.2).trans (hq.cell 4)
          simp only [List.getElem?_cons_zero, List.getElem?_cons_succ] at r0 r1 r2 r3 r4
          clear hp hq
          refine forks_read 0 rfl (by kernel_rfl) ?_
          go_big_quiet_step (fail)
          refine wpQuiet_nil ?_
          refine forks_read 1 rfl (by kernel_rfl) ?_
          go_big_quiet_step (fail)
          refine wpQuiet_nil ?_
          refine forks_read 3 rfl (by kernel_rfl) ?_
          go_big_quiet_step (fail)
          refine wpQuiet_nil ?_
          refine forks_read 4 rfl (by kernel_rfl) ?_
          go_big_quiet_step (fail)
          refine wpQuiet_nil ?_
          refine forks_read 7 rfl (by kernel_rfl) ?_
          go_big_quiet_step (fail)
          refine wpQuiet_nil ?_
          refine forks_read 8 rfl (by kernel_rfl) ?_
          go_big_quiet_step (fail)
          refine wpQuiet_nil ?_
          refine forks_read 9 rfl (by kernel_rfl) ?_
          go_big_quiet_step (fail)
          refine wpQuiet_nil ?_
          clear r0 r1 r2 r3 r4
          refine forks_three 2 5 10 (by kernel_rfl) ?_ ?_ ?_
          · have hp := HR.out.gs (wr.heap.size, #[.int .i64 op, .int .i64 d, .int .i64 a, .int .i64 b, .int .i64 n], 27) (by repeat (first | exact List.mem_cons_self | apply List.mem_cons_of_mem))
            have hplt := (Array.getElem?_eq_some_iff.1 hp.1).1
            refine does_intro rfl rfl ?_
            intro K hK
            have hg := HR.out.gs (gw, (ws.map (Value.int .i64)).toArray, 3) (by repeat (first | exact List.mem_cons_self | apply List.mem_cons_of_mem))
            refine wp_append_lies _ _ _ 25 rfl w1.heap.size 3 i0 (.int .i64 0) 1 8 Try.underlying25 hi0 hz0 hz1 hz2 rfl (by decide) _ _ _ rfl HR.out.ra ⟨gw, 0, none⟩ ws.length ws.length (ws.map (Value.int .i64)) rfl ?_ ?_ (ints_oneCell _ _) ?_ ?_ ?_ HB.out.size _ rfl ?_
            · simp
            · exact World.news_of_block hg.1
            · omega
            · unfold maxLen; omega
            · omega
            intro gw11 cw11 w11 hown hgrow hat _
            have hHR := HR.out.growA hown hgrow hat
            have hHB := HB.out.grown hgrow HB.out.size (fun k hk => (HR.out.ra.lt k hk).1)
            have hkp := kept_grown hgrow hplt hp.2.1 HB.out.size (fun k hk => (HR.out.ra.lt k hk).1)
            go_simp
            refine hK _ _ hkp ?_
            replace HR := Lib.hid hHR
            replace HB := Lib.hid hHB
            clear hown hgrow hat hHR hHB hkp hp hplt hg hK K
            refine forks_two 5 10 (by kernel_rfl) ?_ ?_
            · have hp := HR.out.gs (wr.heap.size, #[.int .i64 op, .int .i64 d, .int .i64 a, .int .i64 b, .int .i64 n], 27) (by repeat (first | exact List.mem_cons_self | apply List.mem_cons_of_mem))
              have hplt := (Array.getElem?_eq_some_iff.1 hp.1).1
              refine does_intro rfl rfl ?_
              intro K hK
              go_simp
              refine hK _ _ (kept_alloc hplt HB.out.size _) ?_
              replace HR := Lib.hid (HR.out.alloc #[.int .i64 op, .int .i64 d, .int .i64 a, .int .i64 b, .int .i64 n] 27)
              replace HB := Lib.hid (HB.out.alloc HB.out.size (.cells #[.int .i64 op, .int .i64 d, .int .i64 a, .int .i64 b, .int .i64 n] 27))
              clear hp hplt hK K
              obtain ⟨g5, hg5⟩ : ∃ g, g = w11.heap.size := ⟨_, rfl⟩
              rw [← hg5] at HR ⊢
              clear hg5
              generalize w11.alloc (.cells #[.int .i64 op, .int .i64 d, .int .i64 a, .int .i64 b, .int .i64 n] 27) = w12 at HR HB ⊢
              refine forks_two 6 10 (by kernel_rfl) ?_ ?_
              · have hp := HR.out.gs (wr.heap.size, #[.int .i64 op, .int .i64 d, .int .i64 a, .int .i64 b, .int .i64 n], 27) (by repeat (first | exact List.mem_cons_self | apply List.mem_cons_of_mem))
                have hplt := (Array.getElem?_eq_some_iff.1 hp.1).1
                refine does_intro rfl rfl ?_
                intro K hK
                have hg := HR.out.gs (g5, #[.int .i64 op, .int .i64 d, .int .i64 a, .int .i64 b, .int .i64 n], 27) (by repeat (first | exact List.mem_cons_self | apply List.mem_cons_of_mem))
                refine wp_append_lies _ _ _ 22 rfl w1.heap.size 27 i1 (.agg #[.int .i64 0, .int .i64 0, .int .i64 0, .int .i64 0, .int .i64 0]) 5 40 Try.underlying22 hi1 hy0 hy1 hy2 rfl (by decide) _ _ _ rfl HR.out.ro ⟨g5, 0, none⟩ 1 1 [.int .i64 op, .int .i64 d, .int .i64 a, .int .i64 b, .int .i64 n] rfl ?_ ?_ (by intro u hu; simp at hu; rcases hu with rfl | rfl | rfl | rfl | rfl <;> rfl) ?_ ?_ ?_ HB.out.size _ rfl ?_
                · simp
                · exact World.news_of_block hg.1
                · omega
                · unfold maxLen; omega
                · omega
                intro gw13 cw13 w13 hown hgrow hat _
                have hHR := HR.out.growO hown hgrow hat
                have hHB := HB.out.grown hgrow HB.out.size (fun k hk => (HR.out.ro.lt k hk).1)
                have hkp := kept_grown hgrow hplt hp.2.2.1 HB.out.size (fun k hk => (HR.out.ro.lt k hk).1)
                go_simp
                refine hK _ _ hkp ?_
                replace HR := Lib.hid hHR
                replace HB := Lib.hid hHB
                clear hown hgrow hat hHR hHB hkp hp hplt hg hK K
                refine forks_one 10 (by kernel_rfl) ?_
                have hp := HR.out.gs (wr.heap.size, #[.int .i64 op, .int .i64 d, .int .i64 a, .int .i64 b, .int .i64 n], 27) (by repeat (first | exact List.mem_cons_self | apply List.mem_cons_of_mem))
                have hplt := (Array.getElem?_eq_some_iff.1 hp.1).1
                refine does_intro rfl rfl ?_
                intro K hK
                go_simp
                refine hK _ _ (kept_alloc hplt HB.out.size _) ?_
                replace HR := Lib.hid (HR.out.alloc #[.int .i64 (ws.length : Int)] 3)
                replace HB := Lib.hid (HB.out.alloc HB.out.size (.cells #[.int .i64 (ws.length : Int)] 3))
                clear hp hplt hK K
                obtain ⟨g10, hg10⟩ : ∃ g, g = w13.heap.size := ⟨_, rfl⟩
                rw [← hg10] at HR ⊢
                clear hg10
                generalize w13.alloc (.cells #[.int .i64 (ws.length : Int)] 3) = w14 at HR HB ⊢
                refine forks_one 11 (by kernel_rfl) ?_
                have hp := HR.out.gs (wr.heap.size, #[.int .i64 op, .int .i64 d, .int .i64 a, .int .i64 b, .int .i64 n], 27) (by repeat (first | exact List.mem_cons_self | apply List.mem_cons_of_mem))
                have hplt := (Array.getElem?_eq_some_iff.1 hp.1).1
                refine does_intro rfl rfl ?_
                intro K hK
                have hg := HR.out.gs (g10, #[.int .i64 (ws.length : Int)], 3) (by repeat (first | exact List.mem_cons_self | apply List.mem_cons_of_mem))
                refine wp_append_lies _ _ _ 25 rfl w1.heap.size 3 i0 (.int .i64 0) 1 8 Try.underlying25 hi0 hz0 hz1 hz2 rfl (by decide) _ _ _ rfl HR.out.rs ⟨g10, 0, none⟩ 1 1 [.int .i64 (ws.length : Int)] rfl ?_ ?_ (by intro u hu; simp at hu; subst hu; rfl) ?_ ?_ ?_ HB.out.size _ rfl ?_
                · simp
                · exact World.news_of_block hg.1
                · omega
                · unfold maxLen; omega
                · omega
                intro gw15 cw15 w15 hown hgrow hat _
                have hHR := HR.out.growS hown hgrow hat
                have hHB := HB.out.grown hgrow HB.out.size (fun k hk => (HR.out.rs.lt k hk).1)
                have hkp := kept_grown hgrow hplt hp.2.2.2 HB.out.size (fun k hk => (HR.out.rs.lt k hk).1)
                go_simp
                refine hK _ _ hkp ?_
                replace HR := Lib.hid hHR
                replace HB := Lib.hid hHB
                clear hown hgrow hat hHR hHB hkp hp hplt hg hK K
                refine forks_read 12 rfl (by kernel_rfl) ?_
                go_big_quiet_step (fail)
                refine wpQuiet_nil ?_
                refine forks_read 13 rfl (by kernel_rfl) ?_
                go_big_quiet_step (fail)
                refine wpQuiet_nil ?_
                refine forks_read 14 rfl (by kernel_rfl) ?_
                go_big_quiet_step (fail)
                refine wpQuiet_nil ?_
                refine forks_end (by kernel_rfl) ?_
                go_wp2_with fail
                go_roundw
                case rel => exact ⟨k + 1, E ++ [⟨⟨op, d, a, b, n⟩, ws⟩], by omega, by go_num, by simp; omega, HEOK2.out, rowsE_snoc HR.out, HB.out⟩
                case measure => simp [intOf]; omega
              · have hp := HR.out.gs (wr.heap.size, #[.int .i64 op, .int .i64 d, .int .i64 a, .int .i64 b, .int .i64 n], 27) (by repeat (first | exact List.mem_cons_self | apply List.mem_cons_of_mem))
                have hplt := (Array.getElem?_eq_some_iff.1 hp.1).1
                refine does_intro rfl rfl ?_
                intro K hK
                go_simp
                refine hK _ _ (kept_alloc hplt HB.out.size _) ?_
                replace HR := Lib.hid (HR.out.alloc #[.int .i64 (ws.length : Int)] 3)
                replace HB := Lib.hid (HB.out.alloc HB.out.size (.cells #[.int .i64 (ws.length : Int)] 3))
                clear hp hplt hK K
                obtain ⟨g10, hg10⟩ : ∃ g, g = w12.heap.size := ⟨_, rfl⟩
                rw [← hg10] at HR ⊢
                clear hg10
                generalize w12.alloc (.cells #[.int .i64 (ws.length : Int)] 3) = w16 at HR HB ⊢
                refine forks_one 6 (by kernel_rfl) ?_
                have hp := HR.out.gs (wr.heap.size, #[.int .i64 op, .int .i64 d, .int .i64 a, .int .i64 b, .int .i64 n], 27) (by repeat (first | exact List.mem_cons_self | apply List.mem_cons_of_mem))
                have hplt := (Array.getElem?_eq_some_iff.1 hp.1).1
                refine does_intro rfl rfl ?_
                intro K hK
                have hg := HR.out.gs (g5, #[.int .i64 op, .int .i64 d, .int .i64 a, .int .i64 b, .int .i64 n], 27) (by repeat (first | exact List.mem_cons_self | apply List.mem_cons_of_mem))
                refine wp_append_lies _ _ _ 22 rfl w1.heap.size 27 i1 (.agg #[.int .i64 0, .int .i64 0, .int .i64 0, .int .i64 0, .int .i64 0]) 5 40 Try.underlying22 hi1 hy0 hy1 hy2 rfl (by decide) _ _ _ rfl HR.out.ro ⟨g5, 0, none⟩ 1 1 [.int .i64 op, .int .i64 d, .int .i64 a, .int .i64 b, .int .i64 n] rfl ?_ ?_ (by intro u hu; simp at hu; rcases hu with rfl | rfl | rfl | rfl | rfl <;> rfl) ?_ ?_ ?_ HB.out.size _ rfl ?_
                · simp
                · exact World.news_of_block hg.1
                · omega
                · unfold maxLen; omega
                · omega
                intro gw17 cw17 w17 hown hgrow hat _
                have hHR := HR.out.growO hown hgrow hat
                have hHB := HB.out.grown hgrow HB.out.size (fun k hk => (HR.out.ro.lt k hk).1)
                have hkp := kept_grown hgrow hplt hp.2.2.1 HB.out.size (fun k hk => (HR.out.ro.lt k hk).1)
                go_simp
                refine hK _ _ hkp ?_
                replace HR := Lib.hid hHR
                replace HB := Lib.hid hHB
                clear hown hgrow hat hHR hHB hkp hp hplt hg hK K
                refine forks_one 11 (by kernel_rfl) ?_
                have hp := HR.out.gs (wr.heap.size, #[.int .i64 op, .int .i64 d, .int .i64 a, .int .i64 b, .int .i64 n], 27) (by repeat (first | exact List.mem_cons_self | apply List.mem_cons_of_mem))
                have hplt := (Array.getElem?_eq_some_iff.1 hp.1).1
                refine does_intro rfl rfl ?_
                intro K hK
                have hg := HR.out.gs (g10, #[.int .i64 (ws.length : Int)], 3) (by repeat (first | exact List.mem_cons_self | apply List.mem_cons_of_mem))
                refine wp_append_lies _ _ _ 25 rfl w1.heap.size 3 i0 (.int .i64 0) 1 8 Try.underlying25 hi0 hz0 hz1 hz2 rfl (by decide) _ _ _ rfl HR.out.rs ⟨g10, 0, none⟩ 1 1 [.int .i64 (ws.length : Int)] rfl ?_ ?_ (by intro u hu; simp at hu; subst hu; rfl) ?_ ?_ ?_ HB.out.size _ rfl ?_
                · simp
                · exact World.news_of_block hg.1
                · omega
                · unfold maxLen; omega
                · omega
                intro gw18 cw18 w18 hown hgrow hat _
                have hHR := HR.out.growS hown hgrow hat
                have hHB := HB.out.grown hgrow HB.out.size (fun k hk => (HR.out.rs.lt k hk).1)
                have hkp := kept_grown hgrow hplt hp.2.2.2 HB.out.size (fun k hk => (HR.out.rs.lt k hk).1)
                go_simp
                refine hK _ _ hkp ?_
                replace HR := Lib.hid hHR
                replace HB := Lib.hid hHB
                clear hown hgrow hat hHR hHB hkp hp hplt hg hK K
                refine forks_read 12 rfl (by kernel_rfl) ?_
                go_big_quiet_step (fail)
                refine wpQuiet_nil ?_
                refine forks_read 13 rfl (by kernel_rfl) ?_
                go_big_quiet_step (fail)
                refine wpQuiet_nil ?_
                refine forks_read 14 rfl (by kernel_rfl) ?_
                go_big_quiet_step (fail)
                refine wpQuiet_nil ?_
                refine forks_end (by kernel_rfl) ?_
                go_wp2_with fail
                go_roundw
                case rel => exact ⟨k + 1, E ++ [⟨⟨op, d, a, b, n⟩, ws⟩], by omega, by go_num, by simp; omega, HEOK2.out, rowsE_snoc HR.out, HB.out⟩
                case measure => simp [intOf]; omega
            · have hp := HR.out.gs (wr.heap.size, #[.int .i64 op, .int .i64 d, .int .i64 a, .int .i64 b, .int .i64 n], 27) (by repeat (first | exact List.mem_cons_self | apply List.mem_cons_of_mem))
              have hplt := (Array.getElem?_eq_some_iff.1 hp.1).1
              refine does_intro rfl rfl ?_
              intro K hK
              go_simp
              refine hK _ _ (kept_alloc hplt HB.out.size _) ?_
              replace HR := Lib.hid (HR.out.alloc #[.int .i64 (ws.length : Int)] 3)
              replace HB := Lib.hid (HB.out.alloc HB.out.size (.cells #[.int .i64 (ws.length : Int)] 3))
              clear hp hplt hK K
              obtain ⟨g10, hg10⟩ : ∃ g, g = w11.heap.size := ⟨_, rfl⟩
              rw [← hg10] at HR ⊢
              clear hg10
              generalize w11.alloc (.cells #[.int .i64 (ws.length : Int)] 3) = w19 at HR HB ⊢
              refine forks_one 5 (by kernel_rfl) ?_
              have hp := HR.out.gs (wr.heap.size, #[.int .i64 op, .int .i64 d, .int .i64 a, .int .i64 b, .int .i64 n], 27) (by repeat (first | exact List.mem_cons_self | apply List.mem_cons_of_mem))
              have hplt := (Array.getElem?_eq_some_iff.1 hp.1).1
              refine does_intro rfl rfl ?_
              intro K hK
              go_simp
              refine hK _ _ (kept_alloc hplt HB.out.size _) ?_
              replace HR := Lib.hid (HR.out.alloc #[.int .i64 op, .int .i64 d, .int .i64 a, .int .i64 b, .int .i64 n] 27)
              replace HB := Lib.hid (HB.out.alloc HB.out.size (.cells #[.int .i64 op, .int .i64 d, .int .i64 a, .int .i64 b, .int .i64 n] 27))
              clear hp hplt hK K
              obtain ⟨g5, hg5⟩ : ∃ g, g = w19.heap.size := ⟨_, rfl⟩
              rw [← hg5] at HR ⊢
              clear hg5
              generalize w19.alloc (.cells #[.int .i64 op, .int .i64 d, .int .i64 a, .int .i64 b, .int .i64 n] 27) = w20 at HR HB ⊢
              refine forks_one 6 (by kernel_rfl) ?_
              have hp := HR.out.gs (wr.heap.size, #[.int .i64 op, .int .i64 d, .int .i64 a, .int .i64 b, .int .i64 n], 27) (by repeat (first | exact List.mem_cons_self | apply List.mem_cons_of_mem))
              have hplt := (Array.getElem?_eq_some_iff.1 hp.1).1
              refine does_intro rfl rfl ?_
              intro K hK
              have hg := HR.out.gs (g5, #[.int .i64 op, .int .i64 d, .int .i64 a, .int .i64 b, .int .i64 n], 27) (by repeat (first | exact List.mem_cons_self | apply List.mem_cons_of_mem))
              refine wp_append_lies _ _ _ 22 rfl w1.heap.size 27 i1 (.agg #[.int .i64 0, .int .i64 0, .int .i64 0, .int .i64 0, .int .i64 0]) 5 40 Try.underlying22 hi1 hy0 hy1 hy2 rfl (by decide) _ _ _ rfl HR.out.ro ⟨g5, 0, none⟩ 1 1 [.int .i64 op, .int .i64 d, .int .i64 a, .int .i64 b, .int .i64 n] rfl ?_ ?_ (by intro u hu; simp at hu; rcases hu with rfl | rfl | rfl | rfl | rfl <;> rfl) ?_ ?_ ?_ HB.out.size _ rfl ?_
              · simp
              · exact World.news_of_block hg.1
              · omega
              · unfold maxLen; omega
              · omega
              intro gw21 cw21 w21 hown hgrow hat _
              have hHR := HR.out.growO hown hgrow hat
              have hHB := HB.out.grown hgrow HB.out.size (fun k hk => (HR.out.ro.lt k hk).1)
              have hkp := kept_grown hgrow hplt hp.2.2.1 HB.out.size (fun k hk => (HR.out.ro.lt k hk).1)
              go_simp
              refine hK _ _ hkp ?_
              replace HR := Lib.hid hHR
              replace HB := Lib.hid hHB
              clear hown hgrow hat hHR hHB hkp hp hplt hg hK K
              refine forks_one 11 (by kernel_rfl) ?_
              have hp := HR.out.gs (wr.heap.size, #[.int .i64 op, .int .i64 d, .int .i64 a, .int .i64 b, .int .i64 n], 27) (by repeat (first | exact List.mem_cons_self | apply List.mem_cons_of_mem))
              have hplt := (Array.getElem?_eq_some_iff.1 hp.1).1
              refine does_intro rfl rfl ?_
              intro K hK
              have hg := HR.out.gs (g10, #[.int .i64 (ws.length : Int)], 3) (by repeat (first | exact List.mem_cons_self | apply List.mem_cons_of_mem))
              refine wp_append_lies _ _ _ 25 rfl w1.heap.size 3 i0 (.int .i64 0) 1 8 Try.underlying25 hi0 hz0 hz1 hz2 rfl (by decide) _ _ _ rfl HR.out.rs ⟨g10, 0, none⟩ 1 1 [.int .i64 (ws.length : Int)] rfl ?_ ?_ (by intro u hu; simp at hu; subst hu; rfl) ?_ ?_ ?_ HB.out.size _ rfl ?_
              · simp
              · exact World.news_of_block hg.1
              · omega
              · unfold maxLen; omega
              · omega
              intro gw22 cw22 w22 hown hgrow hat _
              have hHR := HR.out.growS hown hgrow hat
              have hHB := HB.out.grown hgrow HB.out.size (fun k hk => (HR.out.rs.lt k hk).1)
              have hkp := kept_grown hgrow hplt hp.2.2.2 HB.out.size (fun k hk => (HR.out.rs.lt k hk).1)
              go_simp
              refine hK _ _ hkp ?_
              replace HR := Lib.hid hHR
              replace HB := Lib.hid hHB
              clear hown hgrow hat hHR hHB hkp hp hplt hg hK K
              refine forks_read 12 rfl (by kernel_rfl) ?_
              go_big_quiet_step (fail)
              refine wpQuiet_nil ?_
              refine forks_read 13 rfl (by kernel_rfl) ?_
              go_big_quiet_step (fail)
              refine wpQuiet_nil ?_
              refine forks_read 14 rfl (by kernel_rfl) ?_
              go_big_quiet_step (fail)
              refine wpQuiet_nil ?_
              refine forks_end (by kernel_rfl) ?_
              go_wp2_with fail
              go_roundw
              case rel => exact ⟨k + 1, E ++ [⟨⟨op, d, a, b, n⟩, ws⟩], by omega, by go_num, by simp; omega, HEOK2.out, rowsE_snoc HR.out, HB.out⟩
              case measure => simp [intOf]; omega
          · have hp := HR.out.gs (wr.heap.size, #[.int .i64 op, .int .i64 d, .int .i64 a, .int .i64 b, .int .i64 n], 27) (by repeat (first | exact List.mem_cons_self | apply List.mem_cons_of_mem))
            have hplt := (Array.getElem?_eq_some_iff.1 hp.1).1
            refine does_intro rfl rfl ?_
            intro K hK
            go_simp
            refine hK _ _ (kept_alloc hplt HB.out.size _) ?_
            replace HR := Lib.hid (HR.out.alloc #[.int .i64 op, .int .i64 d, .int .i64 a, .int .i64 b, .int .i64 n] 27)
            replace HB := Lib.hid (HB.out.alloc HB.out.size (.cells #[.int .i64 op, .int .i64 d, .int .i64 a, .int .i64 b, .int .i64 n] 27))
            clear hp hplt hK K
            obtain ⟨g5, hg5⟩ : ∃ g, g = w6.heap.size := ⟨_, rfl⟩
            rw [← hg5] at HR ⊢
            clear hg5
            generalize w6.alloc (.cells #[.int .i64 op, .int .i64 d, .int .i64 a, .int .i64 b, .int .i64 n] 27) = w23 at HR HB ⊢
            refine forks_two 2 10 (by kernel_rfl) ?_ ?_
            · have hp := HR.out.gs (wr.heap.size, #[.int .i64 op, .int .i64 d, .int .i64 a, .int .i64 b, .int .i64 n], 27) (by repeat (first | exact List.mem_cons_self | apply List.mem_cons_of_mem))
              have hplt := (Array.getElem?_eq_some_iff.1 hp.1).1
              refine does_intro rfl rfl ?_
              intro K hK
              have hg := HR.out.gs (gw, (ws.map (Value.int .i64)).toArray, 3) (by repeat (first | exact List.mem_cons_self | apply List.mem_cons_of_mem))
              refine wp_append_lies _ _ _ 25 rfl w1.heap.size 3 i0 (.int .i64 0) 1 8 Try.underlying25 hi0 hz0 hz1 hz2 rfl (by decide) _ _ _ rfl HR.out.ra ⟨gw, 0, none⟩ ws.length ws.length (ws.map (Value.int .i64)) rfl ?_ ?_ (ints_oneCell _ _) ?_ ?_ ?_ HB.out.size _ rfl ?_
              · simp
              · exact World.news_of_block hg.1
              · omega
              · unfold maxLen; omega
              · omega
              intro gw24 cw24 w24 hown hgrow hat _
              have hHR := HR.out.growA hown hgrow hat
              have hHB := HB.out.grown hgrow HB.out.size (fun k hk => (HR.out.ra.lt k hk).1)
              have hkp := kept_grown hgrow hplt hp.2.1 HB.out.size (fun k hk => (HR.out.ra.lt k hk).1)
              go_simp
              refine hK _ _ hkp ?_
              replace HR := Lib.hid hHR
              replace HB := Lib.hid hHB
              clear hown hgrow hat hHR hHB hkp hp hplt hg hK K
              refine forks_two 6 10 (by kernel_rfl) ?_ ?_
              · have hp := HR.out.gs (wr.heap.size, #[.int .i64 op, .int .i64 d, .int .i64 a, .int .i64 b, .int .i64 n], 27) (by repeat (first | exact List.mem_cons_self | apply List.mem_cons_of_mem))
                have hplt := (Array.getElem?_eq_some_iff.1 hp.1).1
                refine does_intro rfl rfl ?_
                intro K hK
                have hg := HR.out.gs (g5, #[.int .i64 op, .int .i64 d, .int .i64 a, .int .i64 b, .int .i64 n], 27) (by repeat (first | exact List.mem_cons_self | apply List.mem_cons_of_mem))
                refine wp_append_lies _ _ _ 22 rfl w1.heap.size 27 i1 (.agg #[.int .i64 0, .int .i64 0, .int .i64 0, .int .i64 0, .int .i64 0]) 5 40 Try.underlying22 hi1 hy0 hy1 hy2 rfl (by decide) _ _ _ rfl HR.out.ro ⟨g5, 0, none⟩ 1 1 [.int .i64 op, .int .i64 d, .int .i64 a, .int .i64 b, .int .i64 n] rfl ?_ ?_ (by intro u hu; simp at hu; rcases hu with rfl | rfl | rfl | rfl | rfl <;> rfl) ?_ ?_ ?_ HB.out.size _ rfl ?_
                · simp
                · exact World.news_of_block hg.1
                · omega
                · unfold maxLen; omega
                · omega
                intro gw25 cw25 w25 hown hgrow hat _
                have hHR := HR.out.growO hown hgrow hat
                have hHB := HB.out.grown hgrow HB.out.size (fun k hk => (HR.out.ro.lt k hk).1)
                have hkp := kept_grown hgrow hplt hp.2.2.1 HB.out.size (fun k hk => (HR.out.ro.lt k hk).1)
                go_simp
                refine hK _ _ hkp ?_
                replace HR := Lib.hid hHR
                replace HB := Lib.hid hHB
                clear hown hgrow hat hHR hHB hkp hp hplt hg hK K
                refine forks_one 10 (by kernel_rfl) ?_
                have hp := HR.out.gs (wr.heap.size, #[.int .i64 op, .int .i64 d, .int .i64 a, .int .i64 b, .int .i64 n], 27) (by repeat (first | exact List.mem_cons_self | apply List.mem_cons_of_mem))
                have hplt := (Array.getElem?_eq_some_iff.1 hp.1).1
                refine does_intro rfl rfl ?_
                intro K hK
                go_simp
                refine hK _ _ (kept_alloc hplt HB.out.size _) ?_
                replace HR := Lib.hid (HR.out.alloc #[.int .i64 (ws.length : Int)] 3)
                replace HB := Lib.hid (HB.out.alloc HB.out.size (.cells #[.int .i64 (ws.length : Int)] 3))
                clear hp hplt hK K
                obtain ⟨g10, hg10⟩ : ∃ g, g = w25.heap.size := ⟨_, rfl⟩
                rw [← hg10] at HR ⊢
                clear hg10
                generalize w25.alloc (.cells #[.int .i64 (ws.length : Int)] 3) = w26 at HR HB ⊢
                refine forks_one 11 (by kernel_rfl) ?_
                have hp := HR.out.gs (wr.heap.size, #[.int .i64 op, .int .i64 d, .int .i64 a, .int .i64 b, .int .i64 n], 27) (by repeat (first | exact List.mem_cons_self | apply List.mem_cons_of_mem))
                have hplt := (Array.getElem?_eq_some_iff.1 hp.1).1
                refine does_intro rfl rfl ?_
                intro K hK
                have hg := HR.out.gs (g10, #[.int .i64 (ws.length : Int)], 3) (by repeat (first | exact List.mem_cons_self | apply List.mem_cons_of_mem))
                refine wp_append_lies _ _ _ 25 rfl w1.heap.size 3 i0 (.int .i64 0) 1 8 Try.underlying25 hi0 hz0 hz1 hz2 rfl (by decide) _ _ _ rfl HR.out.rs ⟨g10, 0, none⟩ 1 1 [.int .i64 (ws.length : Int)] rfl ?_ ?_ (by intro u hu; simp at hu; subst hu; rfl) ?_ ?_ ?_ HB.out.size _ rfl ?_
                · simp
                · exact World.news_of_block hg.1
                · omega
                · unfold maxLen; omega
                · omega
                intro gw27 cw27 w27 hown hgrow hat _
                have hHR := HR.out.growS hown hgrow hat
                have hHB := HB.out.grown hgrow HB.out.size (fun k hk => (HR.out.rs.lt k hk).1)
                have hkp := kept_grown hgrow hplt hp.2.2.2 HB.out.size (fun k hk => (HR.out.rs.lt k hk).1)
                go_simp
                refine hK _ _ hkp ?_
                replace HR := Lib.hid hHR
                replace HB := Lib.hid hHB
                clear hown hgrow hat hHR hHB hkp hp hplt hg hK K
                refine forks_read 12 rfl (by kernel_rfl) ?_
                go_big_quiet_step (fail)
                refine wpQuiet_nil ?_
                refine forks_read 13 rfl (by kernel_rfl) ?_
                go_big_quiet_step (fail)
                refine wpQuiet_nil ?_
                refine forks_read 14 rfl (by kernel_rfl) ?_
                go_big_quiet_step (fail)
                refine wpQuiet_nil ?_
                refine forks_end (by kernel_rfl) ?_
                go_wp2_with fail
                go_roundw
                case rel => exact ⟨k + 1, E ++ [⟨⟨op, d, a, b, n⟩, ws⟩], by omega, by go_num, by simp; omega, HEOK2.out, rowsE_snoc HR.out, HB.out⟩
                case measure => simp [intOf]; omega
              · have hp := HR.out.gs (wr.heap.size, #[.int .i64 op, .int .i64 d, .int .i64 a, .int .i64 b, .int .i64 n], 27) (by repeat (first | exact List.mem_cons_self | apply List.mem_cons_of_mem))
                have hplt := (Array.getElem?_eq_some_iff.1 hp.1).1
                refine does_intro rfl rfl ?_
                intro K hK
                go_simp
                refine hK _ _ (kept_alloc hplt HB.out.size _) ?_
                replace HR := Lib.hid (HR.out.alloc #[.int .i64 (ws.length : Int)] 3)
                replace HB := Lib.hid (HB.out.alloc HB.out.size (.cells #[.int .i64 (ws.length : Int)] 3))
                clear hp hplt hK K
                obtain ⟨g10, hg10⟩ : ∃ g, g = w24.heap.size := ⟨_, rfl⟩
                rw [← hg10] at HR ⊢
                clear hg10
                generalize w24.alloc (.cells #[.int .i64 (ws.length : Int)] 3) = w28 at HR HB ⊢
                refine forks_one 6 (by kernel_rfl) ?_
                have hp := HR.out.gs (wr.heap.size, #[.int .i64 op, .int .i64 d, .int .i64 a, .int .i64 b, .int .i64 n], 27) (by repeat (first | exact List.mem_cons_self | apply List.mem_cons_of_mem))
                have hplt := (Array.getElem?_eq_some_iff.1 hp.1).1
                refine does_intro rfl rfl ?_
                intro K hK
                have hg := HR.out.gs (g5, #[.int .i64 op, .int .i64 d, .int .i64 a, .int .i64 b, .int .i64 n], 27) (by repeat (first | exact List.mem_cons_self | apply List.mem_cons_of_mem))
                refine wp_append_lies _ _ _ 22 rfl w1.heap.size 27 i1 (.agg #[.int .i64 0, .int .i64 0, .int .i64 0, .int .i64 0, .int .i64 0]) 5 40 Try.underlying22 hi1 hy0 hy1 hy2 rfl (by decide) _ _ _ rfl HR.out.ro ⟨g5, 0, none⟩ 1 1 [.int .i64 op, .int .i64 d, .int .i64 a, .int .i64 b, .int .i64 n] rfl ?_ ?_ (by intro u hu; simp at hu; rcases hu with rfl | rfl | rfl | rfl | rfl <;> rfl) ?_ ?_ ?_ HB.out.size _ rfl ?_
                · simp
                · exact World.news_of_block hg.1
                · omega
                · unfold maxLen; omega
                · omega
                intro gw29 cw29 w29 hown hgrow hat _
                have hHR := HR.out.growO hown hgrow hat
                have hHB := HB.out.grown hgrow HB.out.size (fun k hk => (HR.out.ro.lt k hk).1)
                have hkp := kept_grown hgrow hplt hp.2.2.1 HB.out.size (fun k hk => (HR.out.ro.lt k hk).1)
                go_simp
                refine hK _ _ hkp ?_
                replace HR := Lib.hid hHR
                replace HB := Lib.hid hHB
                clear hown hgrow hat hHR hHB hkp hp hplt hg hK K
                refine forks_one 11 (by kernel_rfl) ?_
                have hp := HR.out.gs (wr.heap.size, #[.int .i64 op, .int .i64 d, .int .i64 a, .int .i64 b, .int .i64 n], 27) (by repeat (first | exact List.mem_cons_self | apply List.mem_cons_of_mem))
                have hplt := (Array.getElem?_eq_some_iff.1 hp.1).1
                refine does_intro rfl rfl ?_
                intro K hK
                have hg := HR.out.gs (g10, #[.int .i64 (ws.length : Int)], 3) (by repeat (first | exact List.mem_cons_self | apply List.mem_cons_of_mem))
                refine wp_append_lies _ _ _ 25 rfl w1.heap.size 3 i0 (.int .i64 0) 1 8 Try.underlying25 hi0 hz0 hz1 hz2 rfl (by decide) _ _ _ rfl HR.out.rs ⟨g10, 0, none⟩ 1 1 [.int .i64 (ws.length : Int)] rfl ?_ ?_ (by intro u hu; simp at hu; subst hu; rfl) ?_ ?_ ?_ HB.out.size _ rfl ?_
                · simp
                · exact World.news_of_block hg.1
                · omega
                · unfold maxLen; omega
                · omega
                intro gw30 cw30 w30 hown hgrow hat _
                have hHR := HR.out.growS hown hgrow hat
                have hHB := HB.out.grown hgrow HB.out.size (fun k hk => (HR.out.rs.lt k hk).1)
                have hkp := kept_grown hgrow hplt hp.2.2.2 HB.out.size (fun k hk => (HR.out.rs.lt k hk).1)
                go_simp
                refine hK _ _ hkp ?_
                replace HR := Lib.hid hHR
                replace HB := Lib.hid hHB
                clear hown hgrow hat hHR hHB hkp hp hplt hg hK K
                refine forks_read 12 rfl (by kernel_rfl) ?_
                go_big_quiet_step (fail)
                refine wpQuiet_nil ?_
                refine forks_read 13 rfl (by kernel_rfl) ?_
                go_big_quiet_step (fail)
                refine wpQuiet_nil ?_
                refine forks_read 14 rfl (by kernel_rfl) ?_
                go_big_quiet_step (fail)
                refine wpQuiet_nil ?_
                refine forks_end (by kernel_rfl) ?_
                go_wp2_with fail
                go_roundw
                case rel => exact ⟨k + 1, E ++ [⟨⟨op, d, a, b, n⟩, ws⟩], by omega, by go_num, by simp; omega, HEOK2.out, rowsE_snoc HR.out, HB.out⟩
                case measure => simp [intOf]; omega
            · have hp := HR.out.gs (wr.heap.size, #[.int .i64 op, .int .i64 d, .int .i64 a, .int .i64 b, .int .i64 n], 27) (by repeat (first | exact List.mem_cons_self | apply List.mem_cons_of_mem))
              have hplt := (Array.getElem?_eq_some_iff.1 hp.1).1
              refine does_intro rfl rfl ?_
              intro K hK
              go_simp
              refine hK _ _ (kept_alloc hplt HB.out.size _) ?_
              replace HR := Lib.hid (HR.out.alloc #[.int .i64 (ws.length : Int)] 3)
              replace HB := Lib.hid (HB.out.alloc HB.out.size (.cells #[.int .i64 (ws.length : Int)] 3))
              clear hp hplt hK K
              obtain ⟨g10, hg10⟩ : ∃ g, g = w23.heap.size := ⟨_, rfl⟩
              rw [← hg10] at HR ⊢
              clear hg10
              generalize w23.alloc (.cells #[.int .i64 (ws.length : Int)] 3) = w31 at HR HB ⊢
              refine forks_one 2 (by kernel_rfl) ?_
              have hp := HR.out.gs (wr.heap.size, #[.int .i64 op, .int .i64 d, .int .i64 a, .int .i64 b, .int .i64 n], 27) (by repeat (first | exact List.mem_cons_self | apply List.mem_cons_of_mem))
              have hplt := (Array.getElem?_eq_some_iff.1 hp.1).1
              refine does_intro rfl rfl ?_
              intro K hK
              have hg := HR.out.gs (gw, (ws.map (Value.int .i64)).toArray, 3) (by repeat (first | exact List.mem_cons_self | apply List.mem_cons_of_mem))
              refine wp_append_lies _ _ _ 25 rfl w1.heap.size 3 i0 (.int .i64 0) 1 8 Try.underlying25 hi0 hz0 hz1 hz2 rfl (by decide) _ _ _ rfl HR.out.ra ⟨gw, 0, none⟩ ws.length ws.length (ws.map (Value.int .i64)) rfl ?_ ?_ (ints_oneCell _ _) ?_ ?_ ?_ HB.out.size _ rfl ?_
              · simp
              · exact World.news_of_block hg.1
              · omega
              · unfold maxLen; omega
              · omega
              intro gw32 cw32 w32 hown hgrow hat _
              have hHR := HR.out.growA hown hgrow hat
              have hHB := HB.out.grown hgrow HB.out.size (fun k hk => (HR.out.ra.lt k hk).1)
              have hkp := kept_grown hgrow hplt hp.2.1 HB.out.size (fun k hk => (HR.out.ra.lt k hk).1)
              go_simp
              refine hK _ _ hkp ?_
              replace HR := Lib.hid hHR
              replace HB := Lib.hid hHB
              clear hown hgrow hat hHR hHB hkp hp hplt hg hK K
              refine forks_one 6 (by kernel_rfl) ?_
              have hp := HR.out.gs (wr.heap.size, #[.int .i64 op, .int .i64 d, .int .i64 a, .int .i64 b, .int .i64 n], 27) (by repeat (first | exact List.mem_cons_self | apply List.mem_cons_of_mem))
              have hplt := (Array.getElem?_eq_some_iff.1 hp.1).1
              refine does_intro rfl rfl ?_
              intro K hK
              have hg := HR.out.gs (g5, #[.int .i64 op, .int .i64 d, .int .i64 a, .int .i64 b, .int .i64 n], 27) (by repeat (first | exact List.mem_cons_self | apply List.mem_cons_of_mem))
              refine wp_append_lies _ _ _ 22 rfl w1.heap.size 27 i1 (.agg #[.int .i64 0, .int .i64 0, .int .i64 0, .int .i64 0, .int .i64 0]) 5 40 Try.underlying22 hi1 hy0 hy1 hy2 rfl (by decide) _ _ _ rfl HR.out.ro ⟨g5, 0, none⟩ 1 1 [.int .i64 op, .int .i64 d, .int .i64 a, .int .i64 b, .int .i64 n] rfl ?_ ?_ (by intro u hu; simp at hu; rcases hu with rfl | rfl | rfl | rfl | rfl <;> rfl) ?_ ?_ ?_ HB.out.size _ rfl ?_
              · simp
              · exact World.news_of_block hg.1
              · omega
              · unfold maxLen; omega
              · omega
              intro gw33 cw33 w33 hown hgrow hat _
              have hHR := HR.out.growO hown hgrow hat
              have hHB := HB.out.grown hgrow HB.out.size (fun k hk => (HR.out.ro.lt k hk).1)
              have hkp := kept_grown hgrow hplt hp.2.2.1 HB.out.size (fun k hk => (HR.out.ro.lt k hk).1)
              go_simp
              refine hK _ _ hkp ?_
              replace HR := Lib.hid hHR
              replace HB := Lib.hid hHB
              clear hown hgrow hat hHR hHB hkp hp hplt hg hK K
              refine forks_one 11 (by kernel_rfl) ?_
              have hp := HR.out.gs (wr.heap.size, #[.int .i64 op, .int .i64 d, .int .i64 a, .int .i64 b, .int .i64 n], 27) (by repeat (first | exact List.mem_cons_self | apply List.mem_cons_of_mem))
              have hplt := (Array.getElem?_eq_some_iff.1 hp.1).1
              refine does_intro rfl rfl ?_
              intro K hK
              have hg := HR.out.gs (g10, #[.int .i64 (ws.length : Int)], 3) (by repeat (first | exact List.mem_cons_self | apply List.mem_cons_of_mem))
              refine wp_append_lies _ _ _ 25 rfl w1.heap.size 3 i0 (.int .i64 0) 1 8 Try.underlying25 hi0 hz0 hz1 hz2 rfl (by decide) _ _ _ rfl HR.out.rs ⟨g10, 0, none⟩ 1 1 [.int .i64 (ws.length : Int)] rfl ?_ ?_ (by intro u hu; simp at hu; subst hu; rfl) ?_ ?_ ?_ HB.out.size _ rfl ?_
              · simp
              · exact World.news_of_block hg.1
              · omega
              · unfold maxLen; omega
              · omega
              intro gw34 cw34 w34 hown hgrow hat _
              have hHR := HR.out.growS hown hgrow hat
              have hHB := HB.out.grown hgrow HB.out.size (fun k hk => (HR.out.rs.lt k hk).1)
              have hkp := kept_grown hgrow hplt hp.2.2.2 HB.out.size (fun k hk => (HR.out.rs.lt k hk).1)
              go_simp
              refine hK _ _ hkp ?_
              replace HR := Lib.hid hHR
              replace HB := Lib.hid hHB
              clear hown hgrow hat hHR hHB hkp hp hplt hg hK K
              refine forks_read 12 rfl (by kernel_rfl) ?_
              go_big_quiet_step (fail)
              refine wpQuiet_nil ?_
              refine forks_read 13 rfl (by kernel_rfl) ?_
              go_big_quiet_step (fail)
              refine wpQuiet_nil ?_
              refine forks_read 14 rfl (by kernel_rfl) ?_
              go_big_quiet_step (fail)
              refine wpQuiet_nil ?_
              refine forks_end (by kernel_rfl) ?_
              go_wp2_with fail
              go_roundw
              case rel => exact ⟨k + 1, E ++ [⟨⟨op, d, a, b, n⟩, ws⟩], by omega, by go_num, by simp; omega, HEOK2.out, rowsE_snoc HR.out, HB.out⟩
              case measure => simp [intOf]; omega
          · have hp := HR.out.gs (wr.heap.size, #[.int .i64 op, .int .i64 d, .int .i64 a, .int .i64 b, .int .i64 n], 27) (by repeat (first | exact List.mem_cons_self | apply List.mem_cons_of_mem))
            have hplt := (Array.getElem?_eq_some_iff.1 hp.1).1
            refine does_intro rfl rfl ?_
            intro K hK
            go_simp
            refine hK _ _ (kept_alloc hplt HB.out.size _) ?_
            replace HR := Lib.hid (HR.out.alloc #[.int .i64 (ws.length : Int)] 3)
            replace HB := Lib.hid (HB.out.alloc HB.out.size (.cells #[.int .i64 (ws.length : Int)] 3))
            clear hp hplt hK K
            obtain ⟨g10, hg10⟩ : ∃ g, g = w6.heap.size := ⟨_, rfl⟩
            rw [← hg10] at HR ⊢
            clear hg10
            generalize w6.alloc (.cells #[.int .i64 (ws.length : Int)] 3) = w35 at HR HB ⊢
            refine forks_two 2 5 (by kernel_rfl) ?_ ?_
            · have hp := HR.out.gs (wr.heap.size, #[.int .i64 op, .int .i64 d, .int .i64 a, .int .i64 b, .int .i64 n], 27) (by repeat (first | exact List.mem_cons_self | apply List.mem_cons_of_mem))
              have hplt := (Array.getElem?_eq_some_iff.1 hp.1).1
              refine does_intro rfl rfl ?_
              intro K hK
              have hg := HR.out.gs (gw, (ws.map (Value.int .i64)).toArray, 3) (by repeat (first | exact List.mem_cons_self | apply List.mem_cons_of_mem))
              refine wp_append_lies _ _ _ 25 rfl w1.heap.size 3 i0 (.int .i64 0) 1 8 Try.underlying25 hi0 hz0 hz1 hz2 rfl (by decide) _ _ _ rfl HR.out.ra ⟨gw, 0, none⟩ ws.length ws.length (ws.map (Value.int .i64)) rfl ?_ ?_ (ints_oneCell _ _) ?_ ?_ ?_ HB.out.size _ rfl ?_
              · simp
              · exact World.news_of_block hg.1
              · omega
              · unfold maxLen; omega
              · omega
              intro gw36 cw36 w36 hown hgrow hat _
              have hHR := HR.out.growA hown hgrow hat
              have hHB := HB.out.grown hgrow HB.out.size (fun k hk => (HR.out.ra.lt k hk).1)
              have hkp := kept_grown hgrow hplt hp.2.1 HB.out.size (fun k hk => (HR.out.ra.lt k hk).1)
              go_simp
              refine hK _ _ hkp ?_
              replace HR := Lib.hid hHR
              replace HB := Lib.hid hHB
              clear hown hgrow hat hHR hHB hkp hp hplt hg hK K
              refine forks_one 5 (by kernel_rfl) ?_
              have hp := HR.out.gs (wr.heap.size, #[.int .i64 op, .int .i64 d, .int .i64 a, .int .i64 b, .int .i64 n], 27) (by repeat (first | exact List.mem_cons_self | apply List.mem_cons_of_mem))
              have hplt := (Array.getElem?_eq_some_iff.1 hp.1).1
              refine does_intro rfl rfl ?_
              intro K hK
              go_simp
              refine hK _ _ (kept_alloc hplt HB.out.size _) ?_
              replace HR := Lib.hid (HR.out.alloc #[.int .i64 op, .int .i64 d, .int .i64 a, .int .i64 b, .int .i64 n] 27)
              replace HB := Lib.hid (HB.out.alloc HB.out.size (.cells #[.int .i64 op, .int .i64 d, .int .i64 a, .int .i64 b, .int .i64 n] 27))
              clear hp hplt hK K
              obtain ⟨g5, hg5⟩ : ∃ g, g = w36.heap.size := ⟨_, rfl⟩
              rw [← hg5] at HR ⊢
              clear hg5
              generalize w36.alloc (.cells #[.int .i64 op, .int .i64 d, .int .i64 a, .int .i64 b, .int .i64 n] 27) = w37 at HR HB ⊢
              refine forks_one 6 (by kernel_rfl) ?_
              have hp := HR.out.gs (wr.heap.size, #[.int .i64 op, .int .i64 d, .int .i64 a, .int .i64 b, .int .i64 n], 27) (by repeat (first | exact List.mem_cons_self | apply List.mem_cons_of_mem))
              have hplt := (Array.getElem?_eq_some_iff.1 hp.1).1
              refine does_intro rfl rfl ?_
              intro K hK
              have hg := HR.out.gs (g5, #[.int .i64 op, .int .i64 d, .int .i64 a, .int .i64 b, .int .i64 n], 27) (by repeat (first | exact List.mem_cons_self | apply List.mem_cons_of_mem))
              refine wp_append_lies _ _ _ 22 rfl w1.heap.size 27 i1 (.agg #[.int .i64 0, .int .i64 0, .int .i64 0, .int .i64 0, .int .i64 0]) 5 40 Try.underlying22 hi1 hy0 hy1 hy2 rfl (by decide) _ _ _ rfl HR.out.ro ⟨g5, 0, none⟩ 1 1 [.int .i64 op, .int .i64 d, .int .i64 a, .int .i64 b, .int .i64 n] rfl ?_ ?_ (by intro u hu; simp at hu; rcases hu with rfl | rfl | rfl | rfl | rfl <;> rfl) ?_ ?_ ?_ HB.out.size _ rfl ?_
              · simp
              · exact World.news_of_block hg.1
              · omega
              · unfold maxLen; omega
              · omega
              intro gw38 cw38 w38 hown hgrow hat _
              have hHR := HR.out.growO hown hgrow hat
              have hHB := HB.out.grown hgrow HB.out.size (fun k hk => (HR.out.ro.lt k hk).1)
              have hkp := kept_grown hgrow hplt hp.2.2.1 HB.out.size (fun k hk => (HR.out.ro.lt k hk).1)
              go_simp
              refine hK _ _ hkp ?_
              replace HR := Lib.hid hHR
              replace HB := Lib.hid hHB
              clear hown hgrow hat hHR hHB hkp hp hplt hg hK K
              refine forks_one 11 (by kernel_rfl) ?_
              have hp := HR.out.gs (wr.heap.size, #[.int .i64 op, .int .i64 d, .int .i64 a, .int .i64 b, .int .i64 n], 27) (by repeat (first | exact List.mem_cons_self | apply List.mem_cons_of_mem))
              have hplt := (Array.getElem?_eq_some_iff.1 hp.1).1
              refine does_intro rfl rfl ?_
              intro K hK
              have hg := HR.out.gs (g10, #[.int .i64 (ws.length : Int)], 3) (by repeat (first | exact List.mem_cons_self | apply List.mem_cons_of_mem))
              refine wp_append_lies _ _ _ 25 rfl w1.heap.size 3 i0 (.int .i64 0) 1 8 Try.underlying25 hi0 hz0 hz1 hz2 rfl (by decide) _ _ _ rfl HR.out.rs ⟨g10, 0, none⟩ 1 1 [.int .i64 (ws.length : Int)] rfl ?_ ?_ (by intro u hu; simp at hu; subst hu; rfl) ?_ ?_ ?_ HB.out.size _ rfl ?_
              · simp
              · exact World.news_of_block hg.1
              · omega
              · unfold maxLen; omega
              · omega
              intro gw39 cw39 w39 hown hgrow hat _
              have hHR := HR.out.growS hown hgrow hat
              have hHB := HB.out.grown hgrow HB.out.size (fun k hk => (HR.out.rs.lt k hk).1)
              have hkp := kept_grown hgrow hplt hp.2.2.2 HB.out.size (fun k hk => (HR.out.rs.lt k hk).1)
              go_simp
              refine hK _ _ hkp ?_
              replace HR := Lib.hid hHR
              replace HB := Lib.hid hHB
              clear hown hgrow hat hHR hHB hkp hp hplt hg hK K
              refine forks_read 12 rfl (by kernel_rfl) ?_
              go_big_quiet_step (fail)
              refine wpQuiet_nil ?_
              refine forks_read 13 rfl (by kernel_rfl) ?_
              go_big_quiet_step (fail)
              refine wpQuiet_nil ?_
              refine forks_read 14 rfl (by kernel_rfl) ?_
              go_big_quiet_step (fail)
              refine wpQuiet_nil ?_
              refine forks_end (by kernel_rfl) ?_
              go_wp2_with fail
              go_roundw
              case rel => exact ⟨k + 1, E ++ [⟨⟨op, d, a, b, n⟩, ws⟩], by omega, by go_num, by simp; omega, HEOK2.out, rowsE_snoc HR.out, HB.out⟩
              case measure => simp [intOf]; omega
            · have hp := HR.out.gs (wr.heap.size, #[.int .i64 op, .int .i64 d, .int .i64 a, .int .i64 b, .int .i64 n], 27) (by repeat (first | exact List.mem_cons_self | apply List.mem_cons_of_mem))
              have hplt := (Array.getElem?_eq_some_iff.1 hp.1).1
              refine does_intro rfl rfl ?_
              intro K hK
              go_simp
              refine hK _ _ (kept_alloc hplt HB.out.size _) ?_
              replace HR := Lib.hid (HR.out.alloc #[.int .i64 op, .int .i64 d, .int .i64 a, .int .i64 b, .int .i64 n] 27)
              replace HB := Lib.hid (HB.out.alloc HB.out.size (.cells #[.int .i64 op, .int .i64 d, .int .i64 a, .int .i64 b, .int .i64 n] 27))
              clear hp hplt hK K
              obtain ⟨g5, hg5⟩ : ∃ g, g = w35.heap.size := ⟨_, rfl⟩
              rw [← hg5] at HR ⊢
              clear hg5
              generalize w35.alloc (.cells #[.int .i64 op, .int .i64 d, .int .i64 a, .int .i64 b, .int .i64 n] 27) = w40 at HR HB ⊢
              refine forks_one 2 (by kernel_rfl) ?_
              have hp := HR.out.gs (wr.heap.size, #[.int .i64 op, .int .i64 d, .int .i64 a, .int .i64 b, .int .i64 n], 27) (by repeat (first | exact List.mem_cons_self | apply List.mem_cons_of_mem))
              have hplt := (Array.getElem?_eq_some_iff.1 hp.1).1
              refine does_intro rfl rfl ?_
              intro K hK
              have hg := HR.out.gs (gw, (ws.map (Value.int .i64)).toArray, 3) (by repeat (first | exact List.mem_cons_self | apply List.mem_cons_of_mem))
              refine wp_append_lies _ _ _ 25 rfl w1.heap.size 3 i0 (.int .i64 0) 1 8 Try.underlying25 hi0 hz0 hz1 hz2 rfl (by decide) _ _ _ rfl HR.out.ra ⟨gw, 0, none⟩ ws.length ws.length (ws.map (Value.int .i64)) rfl ?_ ?_ (ints_oneCell _ _) ?_ ?_ ?_ HB.out.size _ rfl ?_
              · simp
              · exact World.news_of_block hg.1
              · omega
              · unfold maxLen; omega
              · omega
              intro gw41 cw41 w41 hown hgrow hat _
              have hHR := HR.out.growA hown hgrow hat
              have hHB := HB.out.grown hgrow HB.out.size (fun k hk => (HR.out.ra.lt k hk).1)
              have hkp := kept_grown hgrow hplt hp.2.1 HB.out.size (fun k hk => (HR.out.ra.lt k hk).1)
              go_simp
              refine hK _ _ hkp ?_
              replace HR := Lib.hid hHR
              replace HB := Lib.hid hHB
              clear hown hgrow hat hHR hHB hkp hp hplt hg hK K
              refine forks_one 6 (by kernel_rfl) ?_
              have hp := HR.out.gs (wr.heap.size, #[.int .i64 op, .int .i64 d, .int .i64 a, .int .i64 b, .int .i64 n], 27) (by repeat (first | exact List.mem_cons_self | apply List.mem_cons_of_mem))
              have hplt := (Array.getElem?_eq_some_iff.1 hp.1).1
              refine does_intro rfl rfl ?_
              intro K hK
              have hg := HR.out.gs (g5, #[.int .i64 op, .int .i64 d, .int .i64 a, .int .i64 b, .int .i64 n], 27) (by repeat (first | exact List.mem_cons_self | apply List.mem_cons_of_mem))
              refine wp_append_lies _ _ _ 22 rfl w1.heap.size 27 i1 (.agg #[.int .i64 0, .int .i64 0, .int .i64 0, .int .i64 0, .int .i64 0]) 5 40 Try.underlying22 hi1 hy0 hy1 hy2 rfl (by decide) _ _ _ rfl HR.out.ro ⟨g5, 0, none⟩ 1 1 [.int .i64 op, .int .i64 d, .int .i64 a, .int .i64 b, .int .i64 n] rfl ?_ ?_ (by intro u hu; simp at hu; rcases hu with rfl | rfl | rfl | rfl | rfl <;> rfl) ?_ ?_ ?_ HB.out.size _ rfl ?_
              · simp
              · exact World.news_of_block hg.1
              · omega
              · unfold maxLen; omega
              · omega
              intro gw42 cw42 w42 hown hgrow hat _
              have hHR := HR.out.growO hown hgrow hat
              have hHB := HB.out.grown hgrow HB.out.size (fun k hk => (HR.out.ro.lt k hk).1)
              have hkp := kept_grown hgrow hplt hp.2.2.1 HB.out.size (fun k hk => (HR.out.ro.lt k hk).1)
              go_simp
              refine hK _ _ hkp ?_
              replace HR := Lib.hid hHR
              replace HB := Lib.hid hHB
              clear hown hgrow hat hHR hHB hkp hp hplt hg hK K
              refine forks_one 11 (by kernel_rfl) ?_
              have hp := HR.out.gs (wr.heap.size, #[.int .i64 op, .int .i64 d, .int .i64 a, .int .i64 b, .int .i64 n], 27) (by repeat (first | exact List.mem_cons_self | apply List.mem_cons_of_mem))
              have hplt := (Array.getElem?_eq_some_iff.1 hp.1).1
              refine does_intro rfl rfl ?_
              intro K hK
              have hg := HR.out.gs (g10, #[.int .i64 (ws.length : Int)], 3) (by repeat (first | exact List.mem_cons_self | apply List.mem_cons_of_mem))
              refine wp_append_lies _ _ _ 25 rfl w1.heap.size 3 i0 (.int .i64 0) 1 8 Try.underlying25 hi0 hz0 hz1 hz2 rfl (by decide) _ _ _ rfl HR.out.rs ⟨g10, 0, none⟩ 1 1 [.int .i64 (ws.length : Int)] rfl ?_ ?_ (by intro u hu; simp at hu; subst hu; rfl) ?_ ?_ ?_ HB.out.size _ rfl ?_
              · simp
              · exact World.news_of_block hg.1
              · omega
              · unfold maxLen; omega
              · omega
              intro gw43 cw43 w43 hown hgrow hat _
              have hHR := HR.out.growS hown hgrow hat
              have hHB := HB.out.grown hgrow HB.out.size (fun k hk => (HR.out.rs.lt k hk).1)
              have hkp := kept_grown hgrow hplt hp.2.2.2 HB.out.size (fun k hk => (HR.out.rs.lt k hk).1)
              go_simp
              refine hK _ _ hkp ?_
              replace HR := Lib.hid hHR
              replace HB := Lib.hid hHB
              clear hown hgrow hat hHR hHB hkp hp hplt hg hK K
              refine forks_read 12 rfl (by kernel_rfl) ?_
              go_big_quiet_step (fail)
              refine wpQuiet_nil ?_
              refine forks_read 13 rfl (by kernel_rfl) ?_
              go_big_quiet_step (fail)
              refine wpQuiet_nil ?_
              refine forks_read 14 rfl (by kernel_rfl) ?_
              go_big_quiet_step (fail)
              refine wpQuiet_nil ?_
              refine forks_end (by kernel_rfl) ?_
              go_wp2_with fail
              go_roundw
              case rel => exact ⟨k + 1, E ++ [⟨⟨op, d, a, b, n⟩, ws⟩], by omega, by go_num, by simp; omega, HEOK2.out, rowsE_snoc HR.out, HB.out⟩
              case measure => simp [intOf]; omega
        · have HR := Lib.hid (((HR0.out.alloc #[.int .i64 op, .int .i64 d, .int .i64 a, .int .i64 b, .int .i64 n] 27).later hb5).bare)
          have HB : Hid (Below w1.heap.size w1 w5) := (HB0.out.alloc HB0.out.size _).trans (hb5.mono (by have := HB0.out.size; simp; omega))
          clear HR0 HB0 hb5
          go_wp2_with fail
          go_roundw
          case rel => exact ⟨k + 1, E, by omega, by go_num, by omega, HEOK.out, HR.out, HB.out⟩
          case measure => simp [intOf]; omega
    · have ek : k = len := by omega
      obtain ⟨a1, c1, rfl, hcode⟩ := came_of_owns_ints hrows.ra
      obtain ⟨a2, c2, rfl, hops⟩ := came_of_ownsG (E := opC) (zs := opsE E) (by omega) opC_len (opsE_len E) hrows.ro
      obtain ⟨a4, c4, rfl, hszs⟩ := came_of_owns_ints hrows.rs
      have HOPS := Lib.hid hops
      have HSZ := Lib.hid hszs
      have HBW := Lib.hid (HB1.out.trans (hb.mono HB1.out.size))
      have HCODE := Lib.hid hcode
      have l1 := hops.le
      have l2 := hops.max
      have l3 := hszs.le
      have l4 := hszs.max
      have hE40 : E.length ≤ 40 := by omega
      clear hrows hb hops hszs hcode
      go_wp2_with fail
      obtain ⟨w4, hw4⟩ : ∃ w4, w4 = wr := ⟨_, rfl⟩
      rw [← hw4] at HOPS HSZ HBW HCODE ⊢
      clear hw4
      go_loopw [5, 64] (fun v u w5 => ∃ (j : Nat) (a : Option Addr) (c : Nat), j ≤ E.length ∧ u = .int .i64 j ∧ v = .slice a (codeE (E.drop j)).length c ∧ Came w4 a (codeE (E.drop j)).length c 1 ((codeE (E.drop j)).map intCells) ∧ Below w4.heap.size w4 w5) (fun _ u _ => E.length - (intOf u).toNat)
      case atStart => exact ⟨0, a1, c1, Nat.zero_le _, rfl, rfl, HCODE.out, Below.refl _ _⟩
      case round =>
        clear HCODE
        obtain ⟨j, a3, c3, hj, rfl, rfl, hcm, hb⟩ := hrel
        by_cases hlt2 : j < E.length
        · have hr := HEOK.out E[j] (List.getElem_mem hlt2)
          have hcd := codeE_drop hlt2
          have hcd2 := codeE_drop2 hlt2
          have hdec := hr.dec (codeE (E.drop (j + 1)))
          rw [← hcd] at hdec
          have hL : (codeE (E.drop j)).length = E[j].ws.length + (codeE (E.drop (j + 1))).length := by rw [hcd, List.length_append]
          have hpos := hr.pos
          obtain ⟨b3, o3, ea, hb3, _⟩ := hcm.ints (by omega)
          subst ea
          have hcmx := hcm.max
          have hcle := hcm.le
          have hcm2 := came_dropS hcm E[j].ws.length (by omega)
          rw [hcd2] at hcm2
          obtain ⟨bo, oo, eb, hbo, hoc⟩ := came_ops HOPS.out (by omega)
          subst eb
          have hoj := (hoc j (by rw [opsE_len]; exact hlt2)).later hb hbo
          have eo : (opsE E)[j]'(by rw [opsE_len]; exact hlt2) = E[j].o := by simp [opsE]
          rw [eo] at hoj
          obtain ⟨bs, os, ec, hbs, hsc⟩ := HSZ.out.ints (by omega)
          subst ec
          have hsj := (hb.cell (p := ⟨bs, os + j, none⟩) hbs).trans (hsc j (by rw [sizesE_len]; exact hlt2))
          have es : (sizesE E)[j]'(by rw [sizesE_len]; exact hlt2) = (E[j].ws.length : Int) := by simp [sizesE]
          rw [es] at hsj
          have HD := fun wx (hx : Below w4.heap.size w4 wx) => Lib.hid (decode_any wx (some ⟨b3, o3, none⟩) (codeE (E.drop j)).length c3 (codeE (E.drop j)) (hcm.below hx))
          rw [hdec] at HD
          obtain ⟨r, hrr⟩ : ∃ r, r = E[j] := ⟨_, rfl⟩
          rw [← hrr] at hcm2 hoj hsj HD hL hpos
          clear hr hcd hcd2 hdec hrr eo es hoc hsc
          obtain ⟨⟨op, d, a, b, n⟩, ws⟩ := r
          obtain ⟨x0, x1, x2, x3, x4⟩ := hoj
          simp only at x0 x1 x2 x3 x4 hsj hcm2 HD hL hpos
          have HB := Lib.hid hb
          have hw4r : w4.heap.size ≤ wr.heap.size := hb.size
          have HCM2 := Lib.hid hcm2
          obtain ⟨L, hLL⟩ : ∃ L, L = (codeE (E.drop j)).length := ⟨_, rfl⟩
          rw [← hLL] at HD hL hcle HCM2 ⊢
          obtain ⟨m, hmm⟩ : ∃ m, m = ws.length := ⟨_, rfl⟩
          rw [← hmm] at HD hL hpos hsj HCM2
          have HLL := Lib.hid hLL
          have h1 : (m : Int) ≤ (L : Int) := by omega
          have h2 : (j : Int) < (E.length : Int) := by omega
          have h3 : (0 : Int) ≤ (j : Int) := by omega
          have HL := Lib.hid hL
          have hmL : m ≤ L := by omega
          clear hcm hcm2 hb hLL hmm hL
          go_wp2_with fail
          refine (HD _ (HB.out.alloc hw4r _)).out.mono ?_
          rintro e w5 ⟨rfl, hb5⟩
          simp only [Dec.val]
          have hx := (Blk.new wr (opC ⟨op, d, a, b, n⟩) 27).below hb5 (by simp)
          have y0 := hx.cell 0
          have y1 := hx.cell 1
          have y2 := hx.cell 2
          have y3 := hx.cell 3
          have y4 := hx.cell 4
          simp only [opC, List.getElem?_cons_zero, List.getElem?_cons_succ] at y0 y1 y2 y3 y4
          have hs5 := (hb5.cell (p := ⟨bs, os + j, none⟩) (by simp; omega)).trans ((World.cell?_alloc_lt _ _ _ (by simp; omega)).trans hsj)
          have hl5 : wr.heap.size < w5.heap.size := by have := hb5.size; simp at this; omega
          have hb5s : bs < w5.heap.size := by omega
          have HB5 := Lib.hid ((HB.out.alloc hw4r (.cells #[.int .i64 op, .int .i64 d, .int .i64 a, .int .i64 b, .int .i64 n] 27)).trans (hb5.mono (B' := w4.heap.size) (by simp; omega)))
          clear hx hb5 hsj x0 x1 x2 x3 x4 HD
          go_wp2_with fail
          go_roundw
          case rel =>
            refine ⟨j + 1, if c3 = m then some ⟨b3, o3, none⟩ else some ⟨b3, o3 + m, none⟩, c3 - m, by omega, by go_num, ?_, ?_, ?_⟩
            · rw [show (codeE (E.drop (j + 1))).length = L - m by have := HL.out; omega]
            · have h9 := HCM2.out
              rw [show L - m = (codeE (E.drop (j + 1))).length by have := HL.out; omega] at h9
              by_cases hcm3 : c3 = m
              · rw [if_pos hcm3]
                exact ⟨h9.count, h9.le, h9.max, (fun h => by cases h), h9.size, fun h0 => by have := HL.out; omega⟩
              · rw [if_neg hcm3]; exact h9
            · exact HB5.out.alloc (by omega) _
          case measure => simp [intOf]; omega
        · have ej : j = E.length := by omega
          have h0 : (codeE (E.drop j)).length = 0 := by rw [ej, List.drop_length]; rfl
          rw [h0]
          have HB := Lib.hid hb
          clear hcm hb
          go_wp2_with fail
          go_ret
          exact ⟨rfl, HBW.out.trans (HB.out.mono HBW.out.size)⟩

end Go.Proofs.Ytekckijcljgaoaa
