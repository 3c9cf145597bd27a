/- HeapPlays: the contract of Shows. UNDER WAY. -/
import Derived.Test.YtkpeeemnholmnaaShowRep
import Derived.Test.YtkpeeemnholmnaaEager
import Derived.Deep.LoopGhost
namespace Go.Proofs.Ytkpeeemnholmnaa
open Go.RowKit
set_option linter.unusedVariables false

theorem BStep.below {A ab T B : Nat} {tv tv' : Value} {w w' : World} (h : BStep A ab T tv tv' w w') (h1 : B ≤ ab) (h2 : B ≤ T) (h3 : ∀ g, tv.ownBlock = some g → B ≤ g) (hB : B ≤ w.heap.size) : Below B w w' :=
  ⟨h.os, h.tape, h.output, h.size, fun k hk => h.block k (by omega) (by omega) (by omega) (fun e => by have := h3 k e; omega)⟩

theorem owns_pop {w : World} {B : Nat} {e : TypeId} {a : Option Addr} {n c : Nat} {xs : List Value} {x : Value} (h : w.ownsRow B e 1 (.slice a (n + 1) c) (n + 1) (xs ++ [x])) : w.ownsRow B e 1 (.slice a n c) n xs := by
  obtain ⟨h1, h2⟩ := h
  have hl : xs.length = n := by simpa using h1
  refine ⟨by simpa using hl, ?_⟩
  rcases h2 with ⟨h3, h4⟩ | ⟨g, cap, cur, h3, h4, h5, h6, h7, h8, h9⟩
  · omega
  · injection h3 with e1 e2 e3
    subst e1 e3
    refine .inr ⟨g, c, cur, rfl, h4, h5, by omega, h7, h8, ?_⟩
    have := congrArg (List.take n) h9
    rw [List.take_take] at this
    simp [hl] at this ⊢
    rw [← hl] at this ⊢
    simpa using this
theorem BSt.pop {w : World} {A ab T n : Nat} {ta : Option Addr} {tc : Nat} {f : Nat → Int} {td : List Nat} {k : Nat} (h : BSt w A ab T n (.slice ta (td.length + 1) tc) f (td ++ [k])) :
    BSt (w.setCell ⟨T, 0, none⟩ (.slice ta td.length tc)) A ab T n (.slice ta td.length tc) f td := by
  have hb : (Value.slice ta td.length tc).ownBlock = (Value.slice ta (td.length + 1) tc).ownBlock := by cases ta <;> rfl
  refine ⟨h.a.setOther (a := ⟨T, 0, none⟩) h.d2 _, h.r.setOther (a := ⟨T, 0, none⟩) h.d3 _, h.t.set 0 _, owns_other (a := ⟨T, 0, none⟩) ?_ (by rw [hb]; exact h.e3) _, h.d1, h.d2, h.d3, by rw [hb]; exact h.e1, by rw [hb]; exact h.e2, by rw [hb]; exact h.e3⟩
  have ho := h.o
  rw [List.length_append] at ho
  unfold remL at ho ⊢
  rw [List.map_append] at ho
  exact owns_pop ho
/-- how the walk of Shows stands -/
def ShInv (w : World) (A ab T n : Nat) (L : Nat → Prop) (ψ : Nat → Nat) (f : Nat → Int) (td : List Nat) (wr : World) : Prop :=
  ∃ tv, BSt wr A ab T n tv f td ∧ BOk L ψ n f td ∧ Below w.heap.size w wr ∧ ∀ g, tv.ownBlock = some g → w.heap.size ≤ g
theorem nil_look (a : Addr) (w : World) : (nilAhead 200 48 (.agg #[.pointer (some a)]) "Look").run Try.prog w = .ok (some false) w := by kernel_rfl
theorem method_look (a : Addr) (w : World) : (method 200 48 (.agg #[.pointer (some a)]) "Look").run Try.prog w = .ok (57, .agg #[.pointer (some a)]) w := by kernel_rfl
theorem nil_read (a : Addr) (w : World) : (nilAhead 200 48 (.agg #[.pointer (some a)]) "Read").run Try.prog w = .ok (some false) w := by kernel_rfl
theorem method_read (a : Addr) (w : World) : (method 200 48 (.agg #[.pointer (some a)]) "Read").run Try.prog w = .ok (58, .agg #[.pointer (some a)]) w := by kernel_rfl
abbrev shownV (p : Nat) : Value := .iface 48 (.agg #[.pointer (some ⟨p, 0, none⟩)])

set_option maxRecDepth 100000 in
set_option maxHeartbeats 4000000 in
theorem shows_ok (w : World) (p mb G : Nat) (rv : Value) (S : HS) (l1 l2 : List Nat) (os : List Ob) (rs : List Nat) (zs : List Int) (L : Nat → Prop) (ψ : Nat → Nat) (za : Option Addr) (zc : Nat)
    (h : HeapSt w p mb rv S) (hi : HInv S l1 l2) (hg : GRead w G os rs) (hz : Came w za zs.length zc 1 (zs.map intCells)) (hr : Rep S l1 l2 os rs zs L ψ) (hn : os.length ≤ 1000) (hrn : rs.length ≤ 1000) :
    Calls Try.prog 16 #[.pointer (some ⟨G, 0, none⟩), shownV p, .slice za zs.length zc] w fun e w' => e = .returned (.bool true) ∧ Below w.heap.size w w' := by
  have hmf : ∀ (fn : Fn) (first cap : Array Value) (w : World), (Instr.makeFunc fn first cap).run Try.prog w = .ok (.func fn first cap) w := fun _ _ _ _ => rfl
  have hmk := run_make_rep (P := Try.prog) 22 3 (.int .i64 0) 8 Try.underlying22 Try.infoH3 rfl os.length (by omega) (by omega)
  have hn1 := nil_look
  have hn2 := nil_read
  have hm1 := method_look
  have hm2 := method_read
  obtain ⟨oa, oc, ra, rc, g1, g2, g3, g4⟩ := hg.box
  have hlen := hr.len
  have hgl := hg.lt
  have HG := Lib.hid hg
  have HR := Lib.hid hr
  have HI := Lib.hid hi
  have HST := Lib.hid h
  have HZ := Lib.hid hz
  have HPOS : Hid (∀ k, L k → 0 < ψ k) := fun k hk => (hi.pos (hr.mem k hk)).1
  have HOA := Lib.hid g3
  have HRA := Lib.hid g4
  clear hg hr hi h hz g3 g4
  obtain ⟨n, hno⟩ : ∃ n, n = os.length := ⟨_, rfl⟩
  obtain ⟨m, hmo⟩ : ∃ m, m = rs.length := ⟨_, rfl⟩
  rw [← hno] at g1 hn hmk HOA
  rw [← hmo] at g2 hrn hlen HRA
  rw [hlen] at HZ ⊢
  have HNO := Lib.hid hno
  have HMO := Lib.hid hmo
  have HLEN := Lib.hid hlen
  clear hno hmo hlen
  have hB0 : Below w.heap.size w (((w.alloc (.cells (rowL n fun _ => Value.int .i64 0).toArray 3)).alloc (.cells #[.slice (some ⟨w.heap.size, 0, none⟩) n n] 22)).alloc (.cells #[.slice none 0 0] 22)) := (((Below.refl _ w).alloc (Nat.le_refl _) _).alloc (by simp) _).alloc (by simp; omega) _
  have g3 : (((w.alloc (.cells (rowL n fun _ => Value.int .i64 0).toArray 3)).alloc (.cells #[.slice (some ⟨w.heap.size, 0, none⟩) n n] 22)).alloc (.cells #[.slice none 0 0] 22)).cell? ⟨G, 1, none⟩ = some (.slice ra m rc) := (hB0.cell hgl).trans g2
  clear g2
  have HB0 := Lib.hid hB0
  clear hB0
  go_enter Try.func16, Try.ntmps16
  go_wp2_with fail
  have hS0 : BSt (((w.alloc (.cells (rowL n fun _ => Value.int .i64 0).toArray 3)).alloc (.cells #[.slice (some ⟨w.heap.size, 0, none⟩) n n] 22)).alloc (.cells #[.slice none 0 0] 22)) (w.heap.size + 1) w.heap.size (w.heap.size + 1 + 1) n (.slice none 0 0) (fun _ => 0) [] := by
    have b1 := Blk.new w (rowL n fun _ => Value.int .i64 0) 3
    have b2 := Blk.new (w.alloc (.cells (rowL n fun _ => Value.int .i64 0).toArray 3)) [.slice (some ⟨w.heap.size, 0, none⟩) n n] 22
    rw [World.size_alloc] at b2
    have b3 := Blk.new ((w.alloc (.cells (rowL n fun _ => Value.int .i64 0).toArray 3)).alloc (.cells #[.slice (some ⟨w.heap.size, 0, none⟩) n n] 22)) [.slice none 0 0] 22
    rw [World.size_alloc, World.size_alloc] at b3
    exact ⟨b2.alloc _, (b1.alloc _).alloc _, b3, World.ownsRow_nil _ _ _ _, by omega, by omega, by omega, by simp [Value.ownBlock], by simp [Value.ownBlock], by simp [Value.ownBlock]⟩
  have hPS : ShInv w (w.heap.size + 1) w.heap.size (w.heap.size + 1 + 1) n L ψ (fun _ => 0) [] (((w.alloc (.cells (rowL n fun _ => Value.int .i64 0).toArray 3)).alloc (.cells #[.slice (some ⟨w.heap.size, 0, none⟩) n n] 22)).alloc (.cells #[.slice none 0 0] 22)) :=
    ⟨.slice none 0 0, hS0, ⟨(fun j _ => .inl rfl), (fun k hk => by cases hk), List.nodup_nil⟩, HB0.out, fun g hg => by simp [Value.ownBlock] at hg⟩
  have HPS := Lib.hid hPS
  obtain ⟨ab, hab⟩ : ∃ x, x = w.heap.size := ⟨_, rfl⟩
  obtain ⟨A, hA⟩ : ∃ x, x = w.heap.size + 1 := ⟨_, rfl⟩
  obtain ⟨T, hT⟩ : ∃ x, x = w.heap.size + 1 + 1 := ⟨_, rfl⟩
  have HABT : Hid (w.heap.size ≤ A ∧ w.heap.size ≤ ab ∧ w.heap.size ≤ T) := ⟨by omega, by omega, by omega⟩
  rw [← hT, ← hA, ← hab] at HPS ⊢
  clear hS0 hPS HB0 g3
  generalize World.alloc _ _ = w3 at HPS ⊢
  clear hab hA hT
  go_loopw [41] (fun u wr => ∃ (i : Nat) (f : Nat → Int) (td : List Nat), i ≤ m ∧ u = .int .i64 (i : Int) ∧ ShInv w A ab T n L ψ f td wr ∧ ∀ j, j < i → f (rs.getD j 0) ≠ 0) (fun u _ => m - (intOf u).toNat)
  case atStart => exact ⟨0, _, _, Nat.zero_le _, rfl, HPS.out, fun j hj => by omega⟩
  case round =>
    clear HPS
    obtain ⟨i, f, td, hi, rfl, hsh, hdone⟩ := hrel
    by_cases hlt : i < m
    · have hrl : i < rs.length := by have := HMO.out; omega
      have hzl : i < zs.length := by have := HLEN.out; omega
      obtain ⟨tv, s1, s2, s3, s4⟩ := hsh
      obtain ⟨b1, f1, ea, _, hc1⟩ := (HRA.out.below s3).ints (by omega)
      subst ea
      obtain ⟨b2, f2, ea, _, hc2⟩ := (HZ.out.below s3).ints (by omega)
      subst ea
      have y1 := hc1 i (by simp [intL]; exact hrl)
      have y2 := hc2 i hzl
      obtain ⟨hk, hzk⟩ := HR.out.root i hrl
      have ek : rs.getD i 0 = rs[i] := by simp [List.getD, hrl]
      have ez : zs.getD i 0 = zs[i] := by simp [List.getD, hzl]
      rw [ez] at hzk
      have ey : (intL rs)[i]'(by simp [intL]; exact hrl) = ((rs.getD i 0 : Nat) : Int) := by rw [ek]; simp [intL]
      rw [ey] at y1
      rw [hzk] at y2
      obtain ⟨k, hkk⟩ : ∃ k, k = rs.getD i 0 := ⟨_, rfl⟩
      rw [← hkk] at y1 y2 hk
      have hkn : k < n := by have := HR.out.lt k hk; have := HNO.out; omega
      have hpk := HPOS.out k hk
      obtain ⟨p1, p2⟩ := s2.pre HPOS.out HR.out.inj hk hkn
      have HCALL := Lib.hid (bind_ok wr s1 k (2 * (ψ k : Int)) hkn (by omega) (by have := s2.len; omega) (by omega) p1 p2)
      have HBO := Lib.hid (s2.bind HPOS.out hk hkn)
      have HS3 := Lib.hid s3
      have HS4 := Lib.hid s4
      have HDN : Hid (∀ j, j < i + 1 → bindF f k (2 * (ψ k : Int)) (rs.getD j 0) ≠ 0) := fun j hj => by
        unfold bindF
        split
        · omega
        · rename_i hne
          by_cases e : j = i
          · exact absurd (by rw [e, hkk]) hne
          · exact hdone j (by omega)
      obtain ⟨z, hz⟩ : ∃ z, z = 2 * (ψ k : Int) := ⟨_, rfl⟩
      rw [← hz] at y2 HCALL HBO HDN
      clear hz hkk hzk ek ez ey hc1 hc2 s1 s2 s3 s4 p1 p2 hdone hrl hzl
      go_wp2_with fail
      refine HCALL.out.mono ?_
      rintro e w4 ⟨tv', rfl, t1, t2⟩
      have HSH : Hid (ShInv w A ab T n L ψ (bindF f k z) (if f k = 0 then td ++ [k] else td) w4) := by
        obtain ⟨q1, q2, q3⟩ := HABT.out
        refine ⟨tv', t1, HBO.out, HS3.out.trans (t2.below q2 q3 HS4.out HS3.out.size), fun g hg => ?_⟩
        rcases t2.row g hg with h | h
        · exact HS4.out g h
        · have := HS3.out.size; omega
      clear t1 t2
      go_wp2_with fail
      go_roundw
      case rel => exact ⟨i + 1, _, _, by omega, by go_num, HSH.out, HDN.out⟩
      case measure => simp [intOf]; omega
    · obtain rfl : i = m := by omega
      have HDN := Lib.hid hdone
      have HSH := Lib.hid hsh
      clear hdone hsh hlt hi
      go_wp2_with fail
      go_loopg [12] (2 * zeros n f + td.length) (fun gm _ wr => ∃ (f : Nat → Int) (td : List Nat), ShInv w A ab T n L ψ f td wr ∧ 2 * zeros n f + td.length ≤ gm) 
      case atStart => exact ⟨f, td, HSH.out, Nat.le_refl _⟩
      case round =>
        clear HSH HDN
        obtain ⟨f, td, hsh, hgm⟩ := hrel
        obtain ⟨tv, s1, s2, s3, s4⟩ := hsh
        have HB3 := Lib.hid s3
        have hTc := s1.t.cell 0
        obtain ⟨ta, tc, rfl⟩ := own_slice s1.o
        rcases List.eq_nil_or_concat td with rfl | ⟨td0, k, rfl⟩
        · have cT : wr.cell? ⟨T, 0, none⟩ = some (.slice ta 0 tc) := hTc
          clear s1 s2 s3 s4 hTc
          go_wp2_with fail
          go_ret
          exact ⟨rfl, HB3.out⟩
        · obtain ⟨hk, hkn, hfk⟩ := s2.t k (by simp)
          have HBF := Lib.hid hfk
          have el : (td0 ++ [k]).length = td0.length + 1 := by simp
          have s1b : BSt wr A ab T n (.slice ta (td0.length + 1) tc) f (td0 ++ [k]) := by rw [← el]; simpa using s1
          have cT : wr.cell? ⟨T, 0, none⟩ = some (.slice ta (td0.length + 1) tc) := s1b.t.cell 0
          have fT := s1b.t.free 0
          have hlen2 := s2.len
          rw [List.concat_eq_append] at hlen2
          rw [el] at hlen2
          have htc := (came_of_remL s1b.o).2.le
          obtain ⟨tb, tf, ea, _, hc1⟩ := (came_of_remL s1b.o).2.ints (by omega)
          subst ea
          have y1 := hc1 td0.length (by simp [intL])
          have ey : (intL (td0 ++ [k]))[td0.length]'(by simp [intL]) = (k : Int) := by simp [intL]
          rw [ey] at y1
          obtain ⟨ob, hob⟩ : ∃ ob, os[k]? = some ob := ⟨os[k]'(by have := HNO.out; omega), by simp⟩
          obtain ⟨b2, f2, ea, hb2, hc2⟩ := HOA.out.cells (by omega) (by omega)
          subst ea
          have hb2T : b2 ≠ T := by have := HABT.out.2.2; omega
          have hGT : G ≠ T := by have := HABT.out.2.2; omega
          have hW : Hid (BSt (wr.setCell ⟨T, 0, none⟩ (.slice (some ⟨tb, tf, none⟩) td0.length tc)) A ab T n (.slice (some ⟨tb, tf, none⟩) td0.length tc) f td0) := s1b.pop
          have x1 : (wr.setCell ⟨T, 0, none⟩ (.slice (some ⟨tb, tf, none⟩) td0.length tc)).cell? ⟨G, 0, none⟩ = some (.slice (some ⟨b2, f2, none⟩) n oc) := (World.cell?_of_block (a := ⟨G, 0, none⟩) (Below.heap_setCell _ _ _ _ hGT)).trans ((s3.cell hgl).trans g1)
          have x2 : (wr.setCell ⟨T, 0, none⟩ (.slice (some ⟨tb, tf, none⟩) td0.length tc)).cell? ⟨b2, f2 + k * 2, none⟩ = some (.int .i64 ob.tag) := (World.cell?_of_block (a := ⟨b2, f2 + k * 2, none⟩) (Below.heap_setCell _ _ _ _ hb2T)).trans ((s3.cell (p := ⟨b2, f2 + k * 2, none⟩) hb2).trans (hc2 k (oC ob) (by rw [List.getElem?_map, hob]; rfl) 0 (by omega)))
          have x3 : (wr.setCell ⟨T, 0, none⟩ (.slice (some ⟨tb, tf, none⟩) td0.length tc)).cell? ⟨b2, f2 + k * 2 + 1, none⟩ = some ob.fv := (World.cell?_of_block (a := ⟨b2, f2 + k * 2 + 1, none⟩) (Below.heap_setCell _ _ _ _ hb2T)).trans ((s3.cell (p := ⟨b2, f2 + k * 2 + 1, none⟩) hb2).trans (hc2 k (oC ob) (by rw [List.getElem?_map, hob]; rfl) 1 (by omega)))
          have HB4 : Hid (Below w.heap.size w (wr.setCell ⟨T, 0, none⟩ (.slice (some ⟨tb, tf, none⟩) td0.length tc))) := s3.setCell HABT.out.2.2 _
          have HS4 := Lib.hid s4
          have HBOK : Hid (BOk L ψ n f td0) := ⟨s2.b, fun j hj => s2.t j (by simp [hj]), (List.nodup_append.1 (by simpa using s2.nd)).1⟩
          obtain ⟨tg, htg⟩ : ∃ tg, tg = ob.tag := ⟨_, rfl⟩
          obtain ⟨fa, fc, hfv, hfc⟩ := HG.out.fl ob (List.mem_of_getElem? hob)
          obtain ⟨nf, hnf⟩ : ∃ nf, nf = ob.fs.length := ⟨_, rfl⟩
          rw [← hnf] at hfv hfc
          rw [← htg] at x2
          rw [hfv] at x3
          have HTAG := Lib.hid htg
          have HNF := Lib.hid hnf
          have HFC := Lib.hid hfc
          clear htg hfv hnf hfc hc1 hc2 ey s1 s2 s3 s4 s1b hTc
          go_wp2_with fail
          have hsz : (wr.setCell ⟨T, 0, none⟩ (.slice (some ⟨tb, tf, none⟩) td0.length tc)).heap.size = wr.heap.size := by simp [World.setCell]
          have hbx := Blk.new (wr.setCell ⟨T, 0, none⟩ (.slice (some ⟨tb, tf, none⟩) td0.length tc)) [.int .i64 tg, .slice fa nf fc] 42
          have hbe := (Below.refl (wr.setCell ⟨T, 0, none⟩ (.slice (some ⟨tb, tf, none⟩) td0.length tc)).heap.size (wr.setCell ⟨T, 0, none⟩ (.slice (some ⟨tb, tf, none⟩) td0.length tc))).alloc (Nat.le_refl _) (.cells #[.int .i64 tg, .slice fa nf fc] 42)
          have HW5 := Lib.hid (hW.out.later hbe)
          have HB5 := Lib.hid (HB4.out.trans (hbe.mono HB4.out.size))
          rw [hsz] at hbx
          have HBX := Lib.hid hbx
          have hbxge : w.heap.size ≤ wr.heap.size := HB3.out.size
          clear hbe hbx x1 x2 x3 y1 fT hW HB4 hsz cT
          generalize World.alloc _ _ = w5 at HW5 HB5 HBX ⊢
          obtain ⟨bx, hbx⟩ : ∃ bx, bx = wr.heap.size := ⟨_, rfl⟩
          rw [← hbx] at HBX hbxge ⊢
          clear hbx
          have hST5 := HST.out.later HB5.out
          have hTG := HR.out.tag k hk ob hob
          have HLOOK : Hid (∀ wx, HeapSt wx p mb rv S → Calls Try.prog 57 #[.agg #[.pointer (some ⟨p, 0, none⟩)], .int .i64 (f k)] wx (LookPost tg (nf : Int) wx)) := fun wx hx => by
            rw [HTAG.out, hTG.1, HNF.out, hTG.2]
            exact look_ok wx p mb rv S hx HI.out.ok (ψ k) (f k) hfk (HI.out.objAt (HR.out.mem k hk))
          have hAl := HW5.out.a.lt
          have habl := HW5.out.r.lt
          have cA5 : w5.cell? ⟨A, 0, none⟩ = some (.slice (some ⟨ab, 0, none⟩) n n) := HW5.out.a.cell 0
          have cK5 : w5.cell? ⟨ab, k, none⟩ = some (.int .i64 (f k)) := HW5.out.r.row hkn
          have HFK := Lib.hid hfk
          have HST5 := Lib.hid hST5
          obtain ⟨z, hz⟩ : ∃ z, z = f k := ⟨_, rfl⟩
          rw [← hz] at HLOOK cK5 HFK
          clear hz hfk hTG hST5
          have rA : ∀ x : After w5.heap.size w5.drew, x.world.cell? ⟨A, 0, none⟩ = some (.slice (some ⟨ab, 0, none⟩) n n) := fun x => (x.below.cell (p := ⟨A, 0, none⟩) hAl).trans cA5
          have rK : ∀ x : After w5.heap.size w5.drew, x.world.cell? ⟨ab, k, none⟩ = some (.int .i64 z) := fun x => (x.below.cell (p := ⟨ab, k, none⟩) habl).trans cK5
          refine wp_region_eager w5.heap.size [(0, true), (1, true), (2, true), (3, true), (4, true), (5, false), (6, true), (7, true), (8, false), (9, true), (10, true), (11, true), (12, true), (13, true), (14, true), (15, true)] (by kernel_rfl) (by kernel_rfl) ?_
          repeat (refine eag_read rfl ?_; go_big_quiet_step (fail); refine wpQuiet_nil ?_)
          clear rA rK
          refine eag_does rfl rfl ?_
          intro K hK
          go_simp
          refine hK _ _ (Below.refl _ _) ?_
          clear hK K
          repeat (refine eag_read rfl ?_; go_big_quiet_step (fail); refine wpQuiet_nil ?_)
          refine eag_does rfl rfl ?_
          intro K hK
          go_simp
          refine (HLOOK.out _ (HST5.out.drewN 1)).mono ?_
          rintro e w6 ⟨rfl, hb6⟩
          refine hK _ _ hb6 ?_
          have HB6 := Lib.hid (HB5.out.trans ((below_drewN_self w.heap.size w5 1).trans (hb6.mono HB5.out.size)))
          have HW6 := Lib.hid ((HW5.out.later (below_drewN_self w5.heap.size w5 1)).later hb6)
          have HX6 := Lib.hid ((HBX.out.below (below_drewN_self w5.heap.size w5 1) HBX.out.lt).below hb6 HBX.out.lt)
          clear hK K hb6
          repeat (refine eag_read rfl ?_; go_big_quiet_step (fail); refine wpQuiet_nil ?_)
          refine eag_end ?_
          have cb0 : w6.cell? ⟨bx, 0, none⟩ = some (.int .i64 tg) := HX6.out.cell 0
          have cb1 : w6.cell? ⟨bx, 1, none⟩ = some (.slice fa nf fc) := HX6.out.cell 1
          have zt : (tg != tg) = false := by simp
          have zn : ((nf : Int) != (nf : Int)) = false := by simp
          have hfl := (HFC.out).le
          have hfm := (HFC.out).max
          have HSI : Hid (ShInv w A ab T n L ψ f td0 w6) := ⟨_, HW6.out, HBOK.out, HB6.out, fun g hg => HS4.out g hg⟩
          rw [List.concat_eq_append] at hgm
          rw [el] at hgm
          have HFK2 : Hid (z = 2 * (ψ k : Int)) := HFK.out
          go_wp2_with fail
          obtain ⟨M, hM⟩ : ∃ M, M = 2 * zeros n f + td0.length := ⟨_, rfl⟩
          have HM0 : Hid (2 * zeros n f + td0.length ≤ M) := by unfold Hid; omega
          have HF0 : Hid (f k = z) := by unfold Hid; rw [HFK.out]; exact HBF.out
          go_loopw [107] (fun u wr => ∃ (t : Nat) (f : Nat → Int) (td : List Nat), t ≤ nf ∧ u = .int .i64 (t : Int) ∧ ShInv w A ab T n L ψ f td wr ∧ f k = z ∧ 2 * zeros n f + td.length ≤ M) (fun u _ => nf - (intOf u).toNat)
          case atStart => exact ⟨0, f, td0, Nat.zero_le _, rfl, HSI.out, HF0.out, HM0.out⟩
          case round =>
            clear HSI HF0 HM0 HW6 HX6 HB6 HBOK
            obtain ⟨t, f, td, ht, rfl, hsh, hfk, hmm⟩ := hrel
            by_cases hlt : t < nf
            · obtain ⟨tv, s1, s2, s3, s4⟩ := hsh
              obtain ⟨fd, hfd⟩ : ∃ fd, ob.fs[t]? = some fd := ⟨ob.fs[t]'(by have := HNF.out; omega), by simp⟩
              obtain ⟨b3, f3, ea, hb3, hc3⟩ := (HFC.out.below s3).cells (by omega) (by omega)
              subst ea
              have x2 : wr.cell? ⟨b3, f3 + t * 2, none⟩ = some (.int .i64 fd.word) := hc3 t (fC fd) (by rw [List.getElem?_map, hfd]; rfl) 0 (by omega)
              have x3 : wr.cell? ⟨b3, f3 + t * 2 + 1, none⟩ = some (.int .i64 fd.ref) := hc3 t (fC fd) (by rw [List.getElem?_map, hfd]; rfl) 1 (by omega)
              have hfl3 := HR.out.fld k hk ob hob t fd hfd
              obtain ⟨wo, hwo⟩ : ∃ wo, wo = fd.word := ⟨_, rfl⟩
              obtain ⟨re, hre⟩ : ∃ re, re = fd.ref := ⟨_, rfl⟩
              rw [← hwo] at x2 hfl3
              rw [← hre] at x3 hfl3
              have hbx9 := Blk.new wr [.int .i64 wo, .int .i64 re] 37
              have hbe := (Below.refl wr.heap.size wr).alloc (Nat.le_refl _) (.cells #[.int .i64 wo, .int .i64 re] 37)
              have HW5 := Lib.hid (s1.later hbe)
              have HB5 := Lib.hid (s3.trans (hbe.mono s3.size))
              have HBX := Lib.hid hbx9
              have HS9 := Lib.hid s4
              have HBO9 := Lib.hid s2
              clear hbe hbx9 hc3 s1 s2 s3 s4 hwo hre
              go_wp2_with fail
              generalize World.alloc _ _ = w8 at HW5 HB5 HBX ⊢
              obtain ⟨by_, hby⟩ : ∃ bx, bx = wr.heap.size := ⟨_, rfl⟩
              rw [← hby] at HBX ⊢
              clear hby x2 x3
              have hST8 := HST.out.later HB5.out
              have hSt := HI.out.wf.mem HI.out.ok (ψ k) (HR.out.mem k hk)
              have hSn := HI.out.ok.st
              have hSz := HI.out.ok.n
              have htgk := HR.out.tag k hk ob hob
              have hnf9 := HNF.out
              have hnfb : nf ≤ 4095 := by rw [HNF.out, htgk.2]; exact hsize_bd _
              have HREAD : Hid (∀ wx, HeapSt wx p mb rv S → Calls Try.prog 58 #[.agg #[.pointer (some ⟨p, 0, none⟩)], .int .i64 (z + 2 * ((t : Int) + 1))] wx (ReadPost (S.m (ψ k + t + 1)) wx)) := fun wx hx =>
                read_ok wx p mb rv S hx HI.out.ok (ψ k + t + 1) _ (by have := HFK.out; push_cast; omega) (by omega)
              have hAl := HW5.out.a.lt
              have habl := HW5.out.r.lt
              have cA5 : w8.cell? ⟨A, 0, none⟩ = some (.slice (some ⟨ab, 0, none⟩) n n) := HW5.out.a.cell 0
              have cK5 : w8.cell? ⟨ab, k, none⟩ = some (.int .i64 z) := by rw [← hfk]; exact HW5.out.r.row hkn
              have hzb : 0 ≤ z ∧ z ≤ 200000 := by have := HFK.out; omega
              obtain ⟨v9, hv9⟩ : ∃ v9, v9 = S.m (ψ k + t + 1) := ⟨_, rfl⟩
              have hvw := HI.out.wd (ψ k) (HR.out.mem k hk) (ψ k + t + 1) (by omega) (by omega)
              rw [← hv9] at HREAD hfl3 hvw
              have HST8 := Lib.hid hST8
              clear hv9 hST8 htgk hSt hnf9
              have rA : ∀ x : After w8.heap.size w8.drew, x.world.cell? ⟨A, 0, none⟩ = some (.slice (some ⟨ab, 0, none⟩) n n) := fun x => (x.below.cell (p := ⟨A, 0, none⟩) hAl).trans cA5
              have rK : ∀ x : After w8.heap.size w8.drew, x.world.cell? ⟨ab, k, none⟩ = some (.int .i64 z) := fun x => (x.below.cell (p := ⟨ab, k, none⟩) habl).trans cK5
              refine wp_region_eager w8.heap.size [(0, true), (1, true), (2, true), (3, true), (4, true), (5, true), (6, true), (7, true), (8, true), (9, false), (10, true), (11, true), (12, false), (13, true), (14, true), (15, true), (16, true), (17, true)] (by kernel_rfl) (by kernel_rfl) ?_
              repeat (refine eag_read rfl ?_; go_big_quiet_step (fail); refine wpQuiet_nil ?_)
              clear rA rK
              refine eag_does rfl rfl ?_
              intro K hK
              go_simp
              refine hK _ _ (Below.refl _ _) ?_
              clear hK K
              repeat (refine eag_read rfl ?_; go_big_quiet_step (fail); refine wpQuiet_nil ?_)
              refine eag_does rfl rfl ?_
              intro K hK
              go_simp
              refine (HREAD.out _ (HST8.out.drewN 1)).mono ?_
              rintro e w9 ⟨rfl, hb9⟩
              refine hK _ _ hb9 ?_
              have HB9 := Lib.hid (HB5.out.trans ((below_drewN_self w.heap.size w8 1).trans (hb9.mono HB5.out.size)))
              have HW9 := Lib.hid ((HW5.out.later (below_drewN_self w8.heap.size w8 1)).later hb9)
              have HX9 := Lib.hid ((HBX.out.below (below_drewN_self w8.heap.size w8 1) HBX.out.lt).below hb9 HBX.out.lt)
              clear hK K hb9
              repeat (refine eag_read rfl ?_; go_big_quiet_step (fail); refine wpQuiet_nil ?_)
              refine eag_end ?_
              have c0 : w9.cell? ⟨by_, 0, none⟩ = some (.int .i64 wo) := HX9.out.cell 0
              have c1 : w9.cell? ⟨by_, 1, none⟩ = some (.int .i64 re) := HX9.out.cell 1
              rcases hfl3 with ⟨h1, h2⟩ | ⟨q, h1, h2, h3⟩
              · have zv : (v9 != 2 * wo + 1) = false := by rw [h2]; simp
                have hwb : -2147483648 ≤ 2 * wo + 1 ∧ 2 * wo + 1 ≤ 2147483647 := by omega
                have hge : ¬ (0 ≤ re) := by omega
                have HSN : Hid (ShInv w A ab T n L ψ f td w9) := ⟨tv, HW9.out, HBO9.out, HB9.out, HS9.out⟩
                clear h2 HX9
                go_wp2_with fail
                go_roundw
                case rel => exact ⟨t + 1, f, td, by omega, by go_num, HSN.out, hfk, hmm⟩
                case measure => simp [intOf]; omega
              · subst h1
                have hqn : q < n := by have := HR.out.lt q h2; have := HNO.out; omega
                obtain ⟨p1, p2⟩ := HBO9.out.pre HPOS.out HR.out.inj h2 hqn
                have hpq := HPOS.out q h2
                have hbo := HBO9.out.bind HPOS.out h2 hqn
                rw [← h3] at p1 p2 hbo
                have hlen9 := HBO9.out.len
                have HCALL := Lib.hid (bind_ok w9 HW9.out q v9 hqn (by omega) (by omega) (by omega) p1 p2)
                have HBO := Lib.hid hbo
                have hzb9 := zeros_bind (f := f) (k := q) (p := v9) (by omega) n
                have HMM : Hid (2 * zeros n (bindF f q v9) + (if f q = 0 then td ++ [q] else td).length ≤ M) := by
                  unfold Hid
                  by_cases e : f q = 0
                  · rw [if_pos ⟨hqn, e⟩] at hzb9
                    rw [if_pos e, List.length_append]
                    simp only [List.length_cons, List.length_nil]
                    omega
                  · rw [if_neg (fun h => e h.2)] at hzb9
                    rw [if_neg e]
                    omega
                have HFK9 : Hid (bindF f q v9 k = z) := by
                  unfold Hid bindF
                  split
                  · rename_i e
                    rw [h3, HFK.out, e]
                  · exact hfk
                have hq0 : ¬ ((q : Int) < 0) := by omega
                have hq1 : (0 : Int) ≤ (q : Int) := by omega
                clear h3 hbo hzb9 p1 p2 HX9 hmm
                go_wp2_with fail
                refine HCALL.out.mono ?_
                rintro e wa ⟨tv', rfl, t1, t2⟩
                have HSN : Hid (ShInv w A ab T n L ψ (bindF f q v9) (if f q = 0 then td ++ [q] else td) wa) := by
                  obtain ⟨q1, q2, q3⟩ := HABT.out
                  refine ⟨tv', t1, HBO.out, HB9.out.trans (t2.below q2 q3 HS9.out HB9.out.size), fun g hg => ?_⟩
                  rcases t2.row g hg with h | h
                  · exact HS9.out g h
                  · have := HB9.out.size; omega
                clear t1 t2
                go_wp2_with fail
                go_roundw
                case rel => exact ⟨t + 1, _, _, by omega, by go_num, HSN.out, HFK9.out, HMM.out⟩
                case measure => simp [intOf]; omega
            · have HSH := Lib.hid hsh
              clear hsh
              go_wp2_with fail
              go_roundg (2 * zeros n f + td.length)
              case rel => exact ⟨f, td, HSH.out, Nat.le_refl _⟩
              case measure => omega
end Go.Proofs.Ytkpeeemnholmnaa
