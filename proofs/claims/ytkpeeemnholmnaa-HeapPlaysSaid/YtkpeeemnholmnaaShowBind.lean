/- HeapPlays: the contract of the closure that binds an object of the graph to a pointer (Shows$1). -/
import Derived.Test.YtkpeeemnholmnaaHeapShow
import Derived.Deep.AppendLies
namespace Go.Proofs.Ytkpeeemnholmnaa
open Go.RowKit
set_option linter.unusedVariables false

/-- the boxes of 'at' and 'todo' -/
structure BSt (w : World) (A ab T n : Nat) (tv : Value) (f : Nat → Int) (td : List Nat) : Prop where
  a : Blk w A 22 [.slice (some ⟨ab, 0, none⟩) n n]
  r : Blk w ab 3 (rowL n fun k => .int .i64 (f k))
  t : Blk w T 22 [tv]
  o : w.ownsRow 0 3 1 tv td.length (remL td)
  d1 : A ≠ ab
  d2 : A ≠ T
  d3 : ab ≠ T
  e1 : tv.ownBlock ≠ some A
  e2 : tv.ownBlock ≠ some ab
  e3 : tv.ownBlock ≠ some T
structure BStep (A ab T : Nat) (tv tv' : Value) (w w' : World) : Prop where
  os : w'.os = w.os
  tape : w'.tape = w.tape
  output : w'.output = w.output
  size : w.heap.size ≤ w'.heap.size
  block : ∀ k, k < w.heap.size → k ≠ ab → k ≠ T → tv.ownBlock ≠ some k → w'.heap[k]? = w.heap[k]?
  row : ∀ g, tv'.ownBlock = some g → tv.ownBlock = some g ∨ w.heap.size ≤ g
section
variable {w w' : World} {A ab T n : Nat} {tv tv' : Value} {f : Nat → Int} {td : List Nat}
theorem BStep.refl (A ab T : Nat) (tv : Value) (w : World) : BStep A ab T tv tv w w := ⟨rfl, rfl, rfl, Nat.le_refl _, fun _ _ _ _ _ => rfl, fun g h => .inl h⟩
theorem BStep.trans {tv'' : Value} {w'' : World} (h : BStep A ab T tv tv' w w') (k : BStep A ab T tv' tv'' w' w'') : BStep A ab T tv tv'' w w'' := by
  refine ⟨k.os.trans h.os, k.tape.trans h.tape, k.output.trans h.output, Nat.le_trans h.size k.size, fun b hb h1 h2 h3 => ?_, fun g hg => ?_⟩
  · refine (k.block b (Nat.lt_of_lt_of_le hb h.size) h1 h2 fun e => ?_).trans (h.block b hb h1 h2 h3)
    rcases h.row b e with e2 | e2
    · exact h3 e2
    · omega
  · rcases k.row g hg with e | e
    · exact h.row g e
    · right; have := h.size; omega
theorem BStep.of_below (h : Below w.heap.size w w') : BStep A ab T tv tv w w' :=
  ⟨h.os, h.tape, h.output, h.size, fun k hk _ _ _ => h.block k hk, fun g hg => .inl hg⟩
theorem BSt.later (h : BSt w A ab T n tv f td) (hb : Below w.heap.size w w') : BSt w' A ab T n tv f td :=
  ⟨h.a.below hb h.a.lt, h.r.below hb h.r.lt, h.t.below hb h.t.lt, h.o.kept (row := none) ⟨hb.os, hb.tape, hb.output, hb.size, fun k hk _ => hb.block k hk⟩ (by cases hv : tv.ownBlock <;> simp), h.d1, h.d2, h.d3, h.e1, h.e2, h.e3⟩

def bindF (f : Nat → Int) (k : Nat) (p : Int) : Nat → Int := fun j => if j = k then p else f j
def BindPost (A ab T n : Nat) (tv : Value) (f : Nat → Int) (td : List Nat) (k : Nat) (p : Int) (w : World) (e : Ending) (w' : World) : Prop :=
  ∃ tv', e = .returned (.bool true) ∧ BSt w' A ab T n tv' (bindF f k p) (if f k = 0 then td ++ [k] else td) ∧ BStep A ab T tv tv' w w'

set_option maxRecDepth 100000 in
set_option maxHeartbeats 4000000 in
theorem bind_ok (w : World) (h : BSt w A ab T n tv f td) (k : Nat) (p : Int) (hk : k < n) (hn : n ≤ 65536) (htd : td.length ≤ 65536) (hp : 0 < p) (h0 : f k = 0 ∨ f k = p) (hinj : ∀ j, j < n → j ≠ k → f j ≠ p) :
    Calls Try.prog 30 #[.int .i64 (k : Int), .int .i64 p, .pointer (some ⟨A, 0, none⟩), .pointer (some ⟨T, 0, none⟩)] w (BindPost A ab T n tv f td k p w) := by
  obtain ⟨i0, hi0, hz0, hz1, hz2⟩ := info_parts Try.infoH3
  have cA : w.cell? ⟨A, 0, none⟩ = some (.slice (some ⟨ab, 0, none⟩) n n) := h.a.cell 0
  have ck := h.r.row hk
  have H := Lib.hid h
  rcases h0 with h0 | h0
  · have HF0 := Lib.hid h0
    have hcr := fun j hj => h.r.row (i := j) hj
    have frk := h.r.free k
    rw [h0] at ck
    have hlen := h.t.lt
    obtain ⟨ta, tc, rfl⟩ := own_slice h.o
    have cT : w.cell? ⟨T, 0, none⟩ = some (.slice ta td.length tc) := h.t.cell 0
    have fT := h.t.free 0
    have hne : (w.setCell ⟨ab, k, none⟩ (.int .i64 p)).cell? ⟨T, 0, none⟩ = some (.slice ta td.length tc) := (World.cell?_of_block (a := ⟨T, 0, none⟩) (Below.heap_setCell _ _ _ _ (Ne.symm h.d3))).trans cT
    have HCR := Lib.hid hcr
    have HIJ := Lib.hid hinj
    have HNE := Lib.hid hne
    clear hcr h hne
    go_enter Try.func30, Try.ntmps30
    go_wp2_with fail
    go_loop [22] (fun u => ∃ j : Nat, j ≤ n ∧ u = .int .i64 (j : Int)) (fun u => n - (intOf u).toNat)
    case atStart => exact ⟨0, Nat.zero_le _, rfl⟩
    case round =>
      obtain ⟨j, hj, rfl⟩ := hrel
      by_cases hlt : j < n
      · have cj := HCR.out j hlt
        have q : (f j == p) = false := by
          simp only [beq_eq_false_iff_ne, ne_eq]
          by_cases e : j = k
          · rw [e, HF0.out]; omega
          · exact HIJ.out j hlt e
        obtain ⟨x, hx⟩ : ∃ x, x = f j := ⟨_, rfl⟩
        rw [← hx] at cj q
        clear hx
        go_wp2_with fail
        go_round
        case rel => exact ⟨j + 1, by omega, by go_num⟩
        case measure => simp [intOf]; omega
      · obtain rfl : j = n := by omega
        have HSM : Hid (BSt (w.setCell ⟨ab, k, none⟩ (.int .i64 p)) A ab T j (.slice ta td.length tc) (bindF f k p) td) := by
          have hh := H.out
          refine ⟨hh.a.setOther (a := ⟨ab, k, none⟩) hh.d1 _, ?_, hh.t.setOther (a := ⟨ab, k, none⟩) (Ne.symm hh.d3) _, owns_other (a := ⟨ab, k, none⟩) hh.o hh.e2 _, hh.d1, hh.d2, hh.d3, hh.e1, hh.e2, hh.e3⟩
          refine (hh.r.rowSet k (.int .i64 p)).rowCongr fun j _ => ?_
          show _ = Value.int .i64 (if j = k then p else f j)
          split <;> rfl
        have c9 : (w.setCell ⟨ab, k, none⟩ (.int .i64 p)).cell? ⟨T, 0, none⟩ = some (.slice ta td.length tc) := HSM.out.t.cell 0
        have hsz : Hid ((w.setCell ⟨ab, k, none⟩ (.int .i64 p)).heap.size = w.heap.size) := by unfold Hid; simp [World.setCell]
        have HBW : Hid (∀ x, x ≠ ab → (w.setCell ⟨ab, k, none⟩ (.int .i64 p)).heap[x]? = w.heap[x]?) := fun x hx => Below.heap_setCell _ _ _ _ hx
        have HO := Lib.hid HSM.out.o
        have HA3 : Hid (∀ u ∈ [Value.int .i64 (k : Int)], u.oneCell' = true) := by intro u hu; simp at hu; subst hu; rfl
        have ha2 := cell_one_new (w.setCell ⟨ab, k, none⟩ (.int .i64 p)) (.int .i64 (k : Int)) 3
        rw [hsz.out] at ha2
        have HA2 := Lib.hid ha2
        clear ha2
        have hlt9 : Hid (A < w.heap.size ∧ ab < w.heap.size) := ⟨H.out.a.lt, H.out.r.lt⟩
        have hpos : (decide ((0 : Int) < p)) = true := by simp; omega
        clear HCR HIJ HNE cT fT
        go_wp2_with (at_builtin; go_loud (refine wpList_append_lies _ rfl _ _ 22 rfl 0 3 i0 (.int .i64 0) 1 8 Try.underlying22 hi0 hz0 hz1 hz2 rfl (by decide) _ td.length (remL td) rfl (HO.out.alloc _) ⟨w.heap.size, 0, none⟩ 1 1 [.int .i64 (k : Int)] rfl rfl HA2.out HA3.out (by decide) (by unfold maxLen; omega) (by omega) (Nat.zero_le _) (w.heap.size + 1) (by simp) ?_))
        intro g7 cap7 w7 hown' hgrow hwh hlt7
        have hs := hsz.out
        obtain ⟨hA9, hab9⟩ := hlt9.out
        have hal : ∀ x, x < w.heap.size → ((w.setCell ⟨ab, k, none⟩ (.int .i64 p)).alloc (.cells #[.int .i64 (k : Int)] 3)).heap[x]? = (w.setCell ⟨ab, k, none⟩ (.int .i64 p)).heap[x]? := fun x hx => ((Below.refl w.heap.size (w.setCell ⟨ab, k, none⟩ (.int .i64 p))).alloc (by rw [hs]; exact Nat.le_refl _) (.cells #[.int .i64 (k : Int)] 3)).block x hx
        have hsz2 : ((w.setCell ⟨ab, k, none⟩ (.int .i64 p)).alloc (.cells #[.int .i64 (k : Int)] 3)).heap.size = w.heap.size + 1 := by simp
        have hkk : ∀ x, x < w.heap.size → (Value.slice ta td.length tc).ownBlock ≠ some x → w7.heap[x]? = (w.setCell ⟨ab, k, none⟩ (.int .i64 p)).heap[x]? := fun x hx hne => (hgrow.block x (by omega) (fun e => hne e.symm)).trans (hal x hx)
        have hsize7 : w.heap.size ≤ w7.heap.size := by have := hgrow.size; omega
        have hgp : g7 ≠ A ∧ g7 ≠ ab ∧ g7 ≠ T ∧ ((Value.slice ta td.length tc).ownBlock = some g7 ∨ w.heap.size ≤ g7) := by
          rcases hwh with h1 | h1
          · exact ⟨fun e => H.out.e1 (by rw [h1, e]), fun e => H.out.e2 (by rw [h1, e]), fun e => H.out.e3 (by rw [h1, e]), .inl h1⟩
          · exact ⟨by omega, by omega, by omega, .inr (by omega)⟩
        have ha7 := HSM.out.a.of_heap (hkk A hA9 H.out.e1)
        have hr7 := HSM.out.r.of_heap (hkk ab hab9 H.out.e2)
        have ht7 := HSM.out.t.of_heap (hkk T hlen H.out.e3)
        have c7 : w7.cell? ⟨T, 0, none⟩ = some (.slice ta td.length tc) := ht7.cell 0
        have f7 := ht7.free 0
        have hst7 : Hid (BStep A ab T (.slice ta td.length tc) (.slice ta td.length tc) w w7) := ⟨hgrow.os, hgrow.tape, hgrow.output, hsize7, fun x h1 h2 h3 h4 => (hkk x h1 h4).trans (HBW.out x h2), fun g hg => .inl hg⟩
        have HA7 := Lib.hid ha7
        have HR7 := Lib.hid hr7
        have HT7 := Lib.hid ht7
        have HGP := Lib.hid hgp
        have HOW := Lib.hid hown'
        clear ha7 hr7 ht7 hgp hown' hgrow hwh hal hsz2 hkk HO HA2 HA3 c9 hs hsize7 ck cA frk HBW hsz HSM
        go_wp2_with fail
        go_ret
        have hv9 := HGP.out
        have hp9 : (Value.slice (some ⟨g7, 0, none⟩) (td.length + 1) cap7).ownBlock ≠ some A := fun e => by simp [Value.ownBlock] at e; omega
        have hm9 : (Value.slice (some ⟨g7, 0, none⟩) (td.length + 1) cap7).ownBlock ≠ some ab := fun e => by simp [Value.ownBlock] at e; omega
        have ht9 : (Value.slice (some ⟨g7, 0, none⟩) (td.length + 1) cap7).ownBlock ≠ some T := fun e => by simp [Value.ownBlock] at e; omega
        have hh := H.out
        refine ⟨.slice (some ⟨g7, 0, none⟩) (td.length + 1) cap7, ret_bool (by simp), ?_, ?_⟩
        · rw [if_pos HF0.out]
          refine ⟨HA7.out.setOther (a := ⟨T, 0, none⟩) hh.d2 _, HR7.out.setOther (a := ⟨T, 0, none⟩) hh.d3 _, HT7.out.set 0 _, ?_, hh.d1, hh.d2, hh.d3, hp9, hm9, ht9⟩
          have h9 := owns_other (a := ⟨T, 0, none⟩) HOW.out ht9 (Value.slice (some ⟨g7, 0, none⟩) (td.length + 1) cap7)
          rw [List.length_append]
          unfold remL at h9 ⊢
          rw [List.map_append]
          exact h9
        · have h9 := hst7.out
          refine ⟨h9.os, h9.tape, h9.output, by have := h9.size; simpa [World.setCell] using this, fun x h1 h2 h3 h4 => (Below.heap_setCell _ _ _ _ h3).trans (h9.block x h1 h2 h3 h4), fun g hg => ?_⟩
          have : g7 = g := by simpa [Value.ownBlock] using hg
          rw [← this]
          exact hv9.2.2.2
  · have q : (p != 0) = true := by simp; omega
    rw [h0] at ck
    clear h
    go_enter Try.func30, Try.ntmps30
    go_wp2_with fail
    go_ret
    refine ⟨tv, ret_bool (by simp), ?_, BStep.refl _ _ _ _ _⟩
    have e : (if f k = 0 then td ++ [k] else td) = td := if_neg (by omega)
    rw [e]
    have hh := H.out
    refine ⟨hh.a, hh.r.rowCongr fun j _ => ?_, hh.t, hh.o, hh.d1, hh.d2, hh.d3, hh.e1, hh.e2, hh.e3⟩
    unfold bindF
    split
    · rename_i e; rw [e, h0]
    · rfl
end
end Go.Proofs.Ytkpeeemnholmnaa
