/- HeapPlays: the reference's graph in memory; Graph.Add puts an object behind the others. -/
import Derived.Test.YtkpeeemnholmnaaPlayRow
import Derived.Test.YtkpeeemnholmnaaShowRep
import Derived.Test.YtkpeeemnholmnaaEagerT
import Derived.Deep.AppendLies
import Derived.Deep.MidRow
namespace Go.Proofs.Ytkpeeemnholmnaa
open Go.RowKit
set_option linter.unusedVariables false

theorem Try.infoO42 : (Try.prog.info? 42).map (fun i => (i.zero, i.size, i.bytes)) = some (some (.agg #[.int .i64 0, .slice none 0 0]), 2, 32) := by kernel_rfl
theorem Try.infoF37 : (Try.prog.info? 37).map (fun i => (i.zero, i.size, i.bytes)) = some (some (.agg #[.int .i64 0, .int .i64 0]), 2, 16) := by kernel_rfl

/-- two blocks stay -/
def KeepG (a b : Nat) (w w' : World) : Prop := w'.heap[a]? = w.heap[a]? ∧ w'.heap[b]? = w.heap[b]?
instance (a b : Nat) : PreR (KeepG a b) := ⟨fun w => ⟨rfl, rfl⟩, fun h k => ⟨k.1.trans h.1, k.2.trans h.2⟩⟩
theorem fC_len (f : Fld) : (fC f).length = 2 := rfl
theorem oC_len (o : Ob) : (oC o).length = 2 := rfl
/-- the graph in memory -/
structure GM (w : World) (G : Nat) (ov gr : Value) (os : List Ob) (rs : List Nat) : Prop where
  bx : Blk w G 32 [ov, gr]
  ob : w.ownsRow 0 42 2 ov os.length (os.flatMap oC)
  fl : ∀ o ∈ os, w.ownsRow 0 37 2 o.fv o.fs.length (o.fs.flatMap fC)
  rr : IRow w gr (intL rs)

/-- what Add may have changed, and what it leaves -/
def AddPost (G : Nat) (ov gr : Value) (os : List Ob) (t : Int) (s : Nat) (f : Fld) (w : World) (e : Ending) (w' : World) : Prop :=
  ∃ ov' fv, e = .returned (.int .i64 (os.length : Int)) ∧ Blk w' G 32 [ov', gr] ∧
    w'.ownsRow 0 42 2 ov' (os.length + 1) ((os ++ [(⟨t, fv, List.replicate s f⟩ : Ob)]).flatMap oC) ∧
    w'.ownsRow w.heap.size 37 2 fv s ((List.replicate s f).flatMap fC) ∧
    (∀ g, ov'.ownBlock = some g → (ov.ownBlock = some g ∨ w.heap.size ≤ g) ∧ fv.ownBlock ≠ some g ∧ g ≠ G) ∧
    w'.os = w.os ∧ w'.tape = w.tape ∧ w'.output = w.output ∧ w.heap.size ≤ w'.heap.size ∧ ∀ k, k < w.heap.size → k ≠ G → ov.ownBlock ≠ some k → w'.heap[k]? = w.heap[k]?

set_option maxRecDepth 100000 in
set_option maxHeartbeats 2000000 in
theorem add_ok (w : World) (G : Nat) (ov gr : Value) (os : List Ob) (t : Int) (s : Nat) (f : Fld) (hb : Blk w G 32 [ov, gr])
    (ho : w.ownsRow 0 42 2 ov os.length (os.flatMap oC)) (hne : ov.ownBlock ≠ some G) (hn : os.length ≤ 1000) (hs : s ≤ 1000) :
    Calls Try.prog 11 #[.pointer (some ⟨G, 0, none⟩), .int .i64 t, .int .i64 (s : Int), .agg #[.int .i64 f.word, .int .i64 f.ref]] w (AddPost G ov gr os t s f w) := by
  obtain ⟨i0, hi0, hz0, hz1, hz2⟩ := info_parts Try.infoF37
  obtain ⟨i1, hi1, hy0, hy1, hy2⟩ := info_parts Try.infoO42
  obtain ⟨oa, oc, rfl⟩ := ownG_shape ho
  have hGlt := hb.lt
  have HB := Lib.hid hb
  have HO := Lib.hid ho
  have HNE := Lib.hid hne
  obtain ⟨fw, fr⟩ := f
  have H1 : Hid (Blk ((w.alloc (.cells #[.int .i64 fw, .int .i64 fr] 37)).alloc (.cells #[.int .i64 t, .slice none 0 0] 42)) w.heap.size 37 (fC ⟨fw, fr⟩)) := (Blk.new w (fC ⟨fw, fr⟩) 37).alloc _
  have H2 : Hid (Blk ((w.alloc (.cells #[.int .i64 fw, .int .i64 fr] 37)).alloc (.cells #[.int .i64 t, .slice none 0 0] 42)) (w.heap.size + 1) 42 [.int .i64 t, .slice none 0 0]) := by
    have := Blk.new (w.alloc (.cells #[.int .i64 fw, .int .i64 fr] 37)) [.int .i64 t, .slice none 0 0] 42
    rw [World.size_alloc] at this
    exact this
  clear hb ho hne
  go_enter Try.func11, Try.ntmps11
  go_wp2_with fail
  have HBW0 : Hid (Below w.heap.size w ((w.alloc (.cells #[.int .i64 fw, .int .i64 fr] 37)).alloc (.cells #[.int .i64 t, .slice none 0 0] 42))) := ((Below.refl w.heap.size w).alloc (Nat.le_refl _) _).alloc (by simp) _
  have hsz0 : w.heap.size + 2 ≤ ((w.alloc (.cells #[.int .i64 fw, .int .i64 fr] 37)).alloc (.cells #[.int .i64 t, .slice none 0 0] 42)).heap.size := by simp
  generalize (w.alloc (.cells #[.int .i64 fw, .int .i64 fr] 37)).alloc _ = w1 at H1 H2 HBW0 hsz0 ⊢
  go_loopw [13] (fun u wr => ∃ (k : Nat) (fv : Value), k ≤ s ∧ u = .int .i64 (k : Int) ∧ Blk wr w.heap.size 37 (fC ⟨fw, fr⟩) ∧ Blk wr (w.heap.size + 1) 42 [.int .i64 t, fv] ∧
      wr.ownsRow (w.heap.size + 2) 37 2 fv k ((List.replicate k (⟨fw, fr⟩ : Fld)).flatMap fC) ∧ Below w.heap.size w wr ∧ w.heap.size + 2 ≤ wr.heap.size) (fun u _ => s - (intOf u).toNat)
  case atStart => exact ⟨0, _, Nat.zero_le _, rfl, H1.out, H2.out, World.ownsRow_nil _ _ _ _, HBW0.out, hsz0⟩
  case round =>
    obtain ⟨k, fv, hk, rfl, hf1, hf2, hf3, hf4, hf5⟩ := hrel
    obtain ⟨fa, fc, rfl⟩ := ownG_shape hf3
    have HF1 := Lib.hid hf1
    have HF2 := Lib.hid hf2
    have HF3 := Lib.hid hf3
    have HF4 := Lib.hid hf4
    clear H1 H2 HBW0
    have c1 := hf2.cell 1
    have fz := hf2.free 1
    have c10 : wr.cell? ⟨w.heap.size, 0, none⟩ = some (.int .i64 fw) := hf1.cell 0
    have c11 : wr.cell? ⟨w.heap.size, 1, none⟩ = some (.int .i64 fr) := hf1.cell 1
    simp only [List.getElem?_cons_zero, List.getElem?_cons_succ] at c1
    clear hf1 hf2 hf3 hf4
    by_cases hlt : k < s
    · have HNEW : Hid (Blk (wr.alloc (.cells #[.int .i64 fw, .int .i64 fr] 37)) wr.heap.size 37 (fC ⟨fw, fr⟩)) := Blk.new wr (fC ⟨fw, fr⟩) 37
      have HA1 : Hid (∀ j u, (fC ⟨fw, fr⟩)[j]? = some u → (wr.alloc (.cells #[.int .i64 fw, .int .i64 fr] 37)).cell? ((⟨wr.heap.size, 0, none⟩ : Addr).add j) = some u) := fun j u hj => by
        rw [Addr.add_lit, Nat.zero_add, HNEW.out.cell]
        exact hj
      have HA2 : Hid (∀ u ∈ fC ⟨fw, fr⟩, u.oneCell' = true) := fun u hu => by
        simp [fC] at hu
        rcases hu with rfl | rfl <;> rfl
      go_wp2_with (at_builtin; go_loud (refine wpList_append_lies _ rfl _ _ 40 rfl (w.heap.size + 2) 37 i0 (.agg #[.int .i64 0, .int .i64 0]) 2 16 Try.underlying40 hi0 hz0 hz1 hz2 rfl (by decide) _ k _ rfl (HF3.out.alloc _) ⟨wr.heap.size, 0, none⟩ 1 1 (fC ⟨fw, fr⟩) rfl rfl HA1.out HA2.out (by decide) (by unfold maxLen; omega) (by omega) (by simp; omega) _ rfl ?_))
      intro g7 cap7 w7 hown' hgrow hwh hlt7
      have hal : ∀ x, x < wr.heap.size → (wr.alloc (.cells #[.int .i64 fw, .int .i64 fr] 37)).heap[x]? = wr.heap[x]? := fun x hx => Below.heap_alloc _ _ _ hx
      have hsz2 : (wr.alloc (.cells #[.int .i64 fw, .int .i64 fr] 37)).heap.size = wr.heap.size + 1 := by simp
      have hown0 : ∀ g, (Value.slice fa k fc).ownBlock = some g → w.heap.size + 2 ≤ g := fun g hg => (HF3.out.lt g hg).1
      have hkk : ∀ x, x < w.heap.size + 2 → w7.heap[x]? = wr.heap[x]? := fun x hx => (hgrow.block x (by omega) (fun e => by have := hown0 x e.symm; omega)).trans (hal x (by omega))
      have hsz7 := hgrow.size
      have hg7 : w.heap.size + 2 ≤ g7 := by
        rcases hwh with h | h
        · exact hown0 g7 h
        · omega
      have hf1' := HF1.out.of_heap (hkk _ (by omega))
      have hf2' := HF2.out.of_heap (hkk _ (by omega))
      have F1 := Lib.hid hf1'
      have F2 := Lib.hid (hf2'.set 1 (.slice (some ⟨g7, 0, none⟩) (k + 1) cap7))
      have FB : Hid (Below w.heap.size w w7) := ⟨hgrow.os.trans HF4.out.os, hgrow.tape.trans HF4.out.tape, hgrow.output.trans HF4.out.output, by omega, fun x hx => (hkk x (by omega)).trans (HF4.out.block x hx)⟩
      have e7 : (List.replicate (k + 1) (⟨fw, fr⟩ : Fld)).flatMap fC = (List.replicate k (⟨fw, fr⟩ : Fld)).flatMap fC ++ fC ⟨fw, fr⟩ := by
        rw [List.replicate_succ', List.flatMap_append]; simp
      rw [← e7] at hown'
      have FO := Lib.hid hown'
      have c7 := hf2'.cell 1
      have f7 := hf2'.free 1
      simp only [List.getElem?_cons_zero, List.getElem?_cons_succ] at c7
      clear hal hkk hgrow hwh hf1' hf2' e7 hown' HNEW HA1 HA2 HF1 HF2 HF3 HF4 c1 fz c10 c11 hown0 hsz2
      go_wp2_with fail
      go_roundw
      case rel =>
        refine ⟨k + 1, .slice (some ⟨g7, 0, none⟩) (k + 1) cap7, by omega, by go_num, F1.out.setOther (a := ⟨w.heap.size + 1, 1, none⟩) (by simp) _, F2.out, ownG_other (a := ⟨w.heap.size + 1, 1, none⟩) FO.out (by simp [Value.ownBlock]; omega) _, FB.out.setCell (by show w.heap.size ≤ w.heap.size + 1; omega) _, by simp; omega⟩
      case measure => simp [intOf]; omega
    · obtain rfl : k = s := by omega
      have HGB : Hid (Blk wr G 32 [.slice oa os.length oc, gr]) := HB.out.below HF4.out hGlt
      have HOB : Hid (wr.ownsRow 0 42 2 (.slice oa os.length oc) os.length (os.flatMap oC)) := ownG_below HO.out HF4.out
      have c10' : wr.cell? ⟨w.heap.size + 1, 0, none⟩ = some (.int .i64 t) := HF2.out.cell 0
      have g0 := HGB.out.cell 0
      have g1 := HGB.out.cell 1
      simp only [List.getElem?_cons_zero, List.getElem?_cons_succ] at g0 g1
      have hGr : G < wr.heap.size := HGB.out.lt
      have r0 := fun x : AfterR (KeepG G (w.heap.size + 1)) wr.drew => (World.cell?_of_block (a := ⟨G, 0, none⟩) x.rel.1).trans g0
      have r1 := fun x : AfterR (KeepG G (w.heap.size + 1)) wr.drew => (World.cell?_of_block (a := ⟨w.heap.size + 1, 0, none⟩) x.rel.2).trans c10'
      have r2 := fun x : AfterR (KeepG G (w.heap.size + 1)) wr.drew => (World.cell?_of_block (a := ⟨w.heap.size + 1, 1, none⟩) x.rel.2).trans c1
      clear fz c10 c11
      go_wp2_with fail
      refine wp_region_eagerRT (KeepG G (w.heap.size + 1)) [(0, true), (1, true), (2, true), (3, true), (4, true), (5, true), (6, false), (7, false), (8, true), (9, true), (10, false)] (by kernel_rfl) (by kernel_rfl) ?_
      repeat (refine eagR_readT rfl ?_; go_big_quiet_step (fail); refine wpQuiet_nil ?_)
      clear r0 r1 r2 g0 g1 c1 c10'
      refine eagR_doesT rfl rfl ?_
      intro K hK
      go_simp
      refine hK _ _ (fun _ => ⟨Below.heap_alloc _ _ _ hGr, Below.heap_alloc _ _ _ (by show w.heap.size + 1 < wr.heap.size; omega)⟩) ?_
      clear hK K
      have hbz : Below wr.heap.size wr (wr.alloc (.cells #[.int .i64 t, .slice fa k fc] 42)).drew := ((Below.refl wr.heap.size wr).alloc (Nat.le_refl _) (.cells #[.int .i64 t, .slice fa k fc] 42)).drew
      have HOB3 := Lib.hid (ownG_below HOB.out hbz)
      have HG3 := Lib.hid (HGB.out.below hbz hGr)
      have HF33 := Lib.hid (ownG_below HF3.out hbz)
      have HB3 := Lib.hid (HF4.out.trans (hbz.mono (by omega : w.heap.size ≤ wr.heap.size)))
      have HNEW : Hid (Blk (wr.alloc (.cells #[.int .i64 t, .slice fa k fc] 42)).drew wr.heap.size 42 (oC ⟨t, .slice fa k fc, List.replicate k ⟨fw, fr⟩⟩)) := Blk.new wr (oC ⟨t, .slice fa k fc, List.replicate k ⟨fw, fr⟩⟩) 42
      have hsz3 : (wr.alloc (.cells #[.int .i64 t, .slice fa k fc] 42)).drew.heap.size = wr.heap.size + 1 := by simp
      clear hbz HGB HOB HF1 HF2
      generalize (wr.alloc (.cells #[.int .i64 t, .slice fa k fc] 42)).drew = wz at HOB3 HG3 HF33 HB3 HNEW hsz3 ⊢
      refine eagR_doesT rfl rfl ?_
      intro K hK
      refine wp_append_lies _ _ _ 30 rfl 0 42 i1 (.agg #[.int .i64 0, .slice none 0 0]) 2 32 Try.underlying30 hi1 hy0 hy1 hy2 rfl (by decide) (Value.slice oa os.length oc) os.length _ rfl HOB3.out ⟨wr.heap.size, 0, none⟩ 1 1 (oC ⟨t, .slice fa k fc, List.replicate k ⟨fw, fr⟩⟩) rfl rfl ?_ ?_ (by decide) ?_ ?_ (Nat.zero_le _) wz.heap.size rfl ?_
      · intro j u hj
        rw [Addr.add_lit, Nat.zero_add, HNEW.out.cell]
        exact hj
      · intro u hu
        simp [oC] at hu
        rcases hu with rfl | rfl <;> rfl
      · unfold maxLen; omega
      · omega
      intro g' cap' w9 hown' hgrow hwh hlt9
      have hoalt : ∀ g, (Value.slice oa os.length oc).ownBlock = some g → g < w.heap.size := fun g hg => (HO.out.lt g hg).2
      have hgp : g' ≠ G ∧ ((Value.slice oa os.length oc).ownBlock = some g' ∨ w.heap.size + 2 ≤ g') ∧ (Value.slice fa k fc).ownBlock ≠ some g' := by
        refine ⟨?_, ?_, fun e => ?_⟩
        · rcases hwh with h1 | h1
          · exact fun e => HNE.out (by rw [h1, e])
          · omega
        · rcases hwh with h1 | h1
          · exact .inl h1
          · right; omega
        · have := HF3.out.lt g' e
          rcases hwh with h1 | h1
          · have := hoalt g' h1; omega
          · omega
      have hkeep : ∀ x, x < wz.heap.size → (Value.slice oa os.length oc).ownBlock ≠ some x → w9.heap[x]? = wz.heap[x]? := fun x hx hne => hgrow.block x hx (fun e => hne e.symm)
      have hpk : w9.heap[G]? = wz.heap[G]? := hkeep G HG3.out.lt HNE.out
      have hpk2 : w9.heap[w.heap.size + 1]? = wz.heap[w.heap.size + 1]? := hkeep _ (by omega) (fun e => by have := hoalt _ e; omega)
      go_simp
      refine hK _ _ (fun _ => ⟨hpk, hpk2⟩) ?_
      have f5 := HG3.out.of_heap hpk
      have f5b := f5.free 0
      have f5c := f5.cell 0
      simp only [List.getElem?_cons_zero] at f5c
      have HP5 := Lib.hid f5
      have HO9 := Lib.hid hown'
      have HGP := Lib.hid hgp
      have HKE := Lib.hid hkeep
      have HGS : Hid (w9.os = wz.os ∧ w9.tape = wz.tape ∧ w9.output = wz.output) := ⟨hgrow.os, hgrow.tape, hgrow.output⟩
      have hsz9 := hgrow.size
      clear hK K hown' hgrow hwh hpk hpk2 f5 hgp hkeep
      repeat (refine eagR_readT rfl ?_; go_big_quiet_step (fail); refine wpQuiet_nil ?_)
      refine eagR_freeT rfl rfl (by kernel_rfl) ?_
      intro K hK
      go_simp
      refine hK _ _ ?_
      clear hK K f5b f5c
      go_simp
      refine eagR_endT ?_
      have f6c : (w9.setCell ⟨G, 0, none⟩ (.slice (some ⟨g', 0, none⟩) (os.length + 1) cap')).cell? ⟨G, 0, none⟩ = some (.slice (some ⟨g', 0, none⟩) (os.length + 1) cap') := (HP5.out.set 0 (.slice (some ⟨g', 0, none⟩) (os.length + 1) cap')).cell 0
      go_wp2_with fail
      go_ret
      have hg9 := HGP.out
      refine ⟨.slice (some ⟨g', 0, none⟩) (os.length + 1) cap', .slice fa k fc, ?_, HP5.out.set 0 (.slice (some ⟨g', 0, none⟩) (os.length + 1) cap'), ?_, ?_, fun g hg => ?_, ?_, ?_, ?_, ?_, fun x hx h1 h2 => ?_⟩
      · congr 2
      · have e9 : (os ++ [(⟨t, .slice fa k fc, List.replicate k ⟨fw, fr⟩⟩ : Ob)]).flatMap oC = os.flatMap oC ++ oC ⟨t, .slice fa k fc, List.replicate k ⟨fw, fr⟩⟩ := by
          rw [List.flatMap_append]; simp
        rw [e9]
        exact ownG_other (a := ⟨G, 0, none⟩) HO9.out (by simp [Value.ownBlock]; exact hg9.1) _
      · refine ownG_base (ownG_kept HF33.out fun g hg => ?_) (by omega : w.heap.size ≤ w.heap.size + 2)
        have hgl := HF33.out.lt g hg
        refine (Below.heap_setCell _ _ _ _ (by show g ≠ G; omega)).trans (HKE.out g hgl.2 fun e => ?_)
        have := (HO.out.lt g e).2
        omega
      · have e : g' = g := by simpa [Value.ownBlock] using hg
        rw [← e]
        exact ⟨hg9.2.1.imp id (fun h => by omega), hg9.2.2, hg9.1⟩
      · exact HGS.out.1.trans HB3.out.os
      · exact HGS.out.2.1.trans HB3.out.tape
      · exact HGS.out.2.2.trans HB3.out.output
      · simp; omega
      · exact (Below.heap_setCell _ _ _ _ h1).trans ((HKE.out x (by omega) h2).trans (HB3.out.block x hx))
end Go.Proofs.Ytkpeeemnholmnaa
