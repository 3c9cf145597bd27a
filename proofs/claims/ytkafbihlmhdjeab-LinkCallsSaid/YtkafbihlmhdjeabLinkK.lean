/- keep4's linkFact. -/
import Derived.Test.YtkafbihlmhdjeabLnkLink
namespace Go.Proofs.Ytkafbihlmhdjeab
open Go.RowKit
set_option linter.unusedVariables false
set_option linter.unusedSimpArgs false

theorem came_takeL {w : World} {a : Option Addr} {len cap s : Nat} {vs : List (List Value)} (h : Came w a len cap s vs) (n : Nat) (hn : n ≤ len) : Came w a n cap s (vs.take n) := by
  have hc := h.count
  have hle := h.le
  have hmx := h.max
  refine ⟨by simp; omega, by omega, by omega, fun ha => ⟨by have := (h.nil ha).1; omega, (h.nil ha).2⟩, fun v hv => h.size v (List.mem_of_mem_take hv), fun h0 h1 => ?_⟩
  obtain ⟨b, off, ha, hb, hcl⟩ := h.cells (by omega) h1
  refine ⟨b, off, ha, hb, fun i v hv j hj => ?_⟩
  rw [List.getElem?_take] at hv
  split at hv
  · exact hcl i v hv j hj
  · cases hv
theorem Lnk.cut {w : World} {a : Option Addr} {n c : Nat} {l : List LF} (h : Lnk w a n c l) (m : Nat) (hm : m ≤ n) : Lnk w a m c (l.take m) :=
  ⟨by rw [List.map_take]; exact came_takeL h.came m hm, fun f hf => h.ok f (List.mem_of_mem_take hf)⟩
def retI : Item := ⟨22, 0, 0, 0, 0, -1⟩
/-- a function that returns -/
def retF (p : Nat) : LF := ⟨0, some ⟨p, 0, none⟩, 1, 1, [retI], none, 0, 0, [], none, 0, 0, [], 1⟩
theorem came_nilL (w : World) (sz : Nat) : Came w none 0 0 sz ([] : List (List Value)) := ⟨rfl, Nat.le_refl _, by omega, fun _ => ⟨rfl, rfl⟩, fun v hv => (by cases hv), fun h => by omega⟩
theorem came_lit {α : Type} {w : World} {g sz n : Nat} {t : TypeId} {E : α → List Value} {zs : List α} (hE : ∀ z, (E z).length = sz) (h : Blk w g t (zs.flatMap E)) (hn : zs.length = n) (hm : n ≤ 1000) : Came w (some ⟨g, 0, none⟩) n n sz (zs.map E) := by
  refine ⟨by simpa using hn, Nat.le_refl _, by omega, fun h => (by cases h), fun v hv => ?_, fun _ _ => ⟨g, 0, rfl, h.lt, fun i v hv j hj => ?_⟩⟩
  · obtain ⟨z, _, rfl⟩ := List.mem_map.1 hv; exact hE z
  · rw [List.getElem?_map] at hv
    obtain ⟨z, hz, rfl⟩ := Option.map_eq_some_iff.1 hv
    have hi : i < zs.length := (List.getElem?_eq_some_iff.1 hz).1
    rw [h.cell, Nat.zero_add, flatN_get hE zs i j hi hj]
    rw [List.getElem?_eq_getElem hi] at hz
    rw [Option.some.inj hz]
theorem retF_ok {w : World} {p : Nat} (hp : Blk w p 68 (itemCells retI)) : (retF p).Ok w := by
  have i0 : ∀ z : Int, -5 ≤ z ∧ z ≤ 100 → I64 z := fun z h => by unfold I64; omega
  refine ⟨came_lit (zs := [retI]) (fun _ => rfl) hp rfl (by show 1 ≤ 1000; omega), by show 1 * 48 ≤ _; omega, came_nilL w 2, by show 0 ≤ _; omega, came_nilL w 4, by show 0 ≤ _; omega, fun z hz => (by cases hz), i0 0 (by omega), i0 1 (by omega), fun z hz => ?_, fun z hz => (by cases hz)⟩
  have : z = retI := by simpa [retF] using hz
  subst this
  exact ⟨i0 22 (by omega), i0 0 (by omega), i0 0 (by omega), i0 0 (by omega), i0 0 (by omega), i0 (-1) (by omega)⟩
theorem retF_chk1 (p : Nat) : chkE [retF p] = 0 := by
  have h1 : itemsE [retI] = 0 := by decide
  have h2 : fnL 1 (retF p) = 0 := by
    unfold fnL
    rw [show (retF p).its = [retI] from rfl, h1]
    rw [if_neg (by simp), if_neg (by show ¬ (1 = 0 ∨ (1 : Int) < 1 ∨ (4096 : Int) < 1); omega)]
    unfold refsE
    rw [show (retF p).its = [retI] from rfl, show (retF p).calls = [] from rfl, show (retF p).maps = [] from rfl]
    rfl
  unfold chkE
  rw [if_neg (by show ¬ 256 < 1; omega)]
  show (if fnL 1 (retF p) ≠ 0 then _ else _) = _
  rw [h2]
  rfl
theorem retF_in {w : World} {p : Nat} (h : (retF p).Ok w) : LinkIn [retF p] (fun _ => 0) 0 := by
  refine ⟨fun k hk => ?_, fun k hk => Nat.zero_le _, fun k hk => rfl, by show 0 < 1; omega⟩
  have hk' : k < 1 := hk
  obtain rfl : k = 0 := by omega
  exact chkE_fn (retF_chk1 p) (fun f hf => by
    have : f = retF p := by simpa using hf
    subst this
    rfl) (retF p) (by simp)
def ret3 : List Item := [⟨20, 0, 0, 0, 0, 2⟩, ⟨0, 0, 0, 0, 0, -1⟩, retI]
theorem retF_fin (p : Nat) : finS [retF p] (fun _ => 0) 0 = (ret3, []) := rfl
theorem ret3_sizes {L : Nat → Bool} (h : SizesOf ret3 3 L) : ∀ i, i < 3 → L i = false := by
  have hM : Holds ret3 3 (fun _ => false) := by
    refine ⟨fun i hi hb => ?_, fun i hi hf => ?_⟩
    · rcases i with _ | _ | _ | i
      · exact absurd hb (by decide)
      · exact absurd hb (by decide)
      · exact absurd hb (by decide)
      · omega
    · rcases i with _ | _ | _ | i
      · exact absurd hf (by decide)
      · exact absurd hf (by decide)
      · exact absurd hf (by decide)
      · omega
  intro i hi
  cases hl : L i
  · rfl
  · have := h.least _ hM i hi hl
    cases this
theorem ret3_pos {L : Nat → Bool} (h : SizesOf ret3 3 L) : posL (allL ret3 false L) 2 = 2 ∧ posL (allL ret3 false L) 3 = 3 := by
  have hl := ret3_sizes h
  have e : ∀ i, i < 3 → allL ret3 false L i = false := fun i hi => by unfold allL; rw [hl i hi]; rfl
  have e0 := e 0 (by omega)
  have e1 := e 1 (by omega)
  have e2 := e 2 (by omega)
  refine ⟨?_, ?_⟩ <;> simp [posL, e0, e1, e2]

set_option maxRecDepth 100000 in
set_option maxHeartbeats 4000000 in
theorem linkFactK_ok (w : World) : Calls Try.prog 27 #[] w fun e w' => e = .returned (.bool true) ∧ Below w.heap.size w w' := by
  go_enter Try.func27, Try.ntmps27
  go_wp2_with fail
  obtain ⟨w1, hw1⟩ : ∃ w1, w1 = w.alloc (.cells #[.int .i64 22, .int .i64 0, .int .i64 0, .int .i64 0, .int .i64 0, .int .i64 (-1)] 68) := ⟨_, rfl⟩
  obtain ⟨w2, hw2⟩ : ∃ w2, w2 = w1.alloc (.cells #[.int .i64 0, .slice (some ⟨w.heap.size, 0, none⟩) 1 1, .slice none 0 0, .slice none 0 0, .int .i64 1] 53) := ⟨_, rfl⟩
  obtain ⟨w3, hw3⟩ : ∃ w3, w3 = w2.alloc (.cells #[.int .i64 0, .slice (some ⟨w.heap.size, 0, none⟩) 1 1, .slice none 0 0, .slice none 0 0, .int .i64 1] 53) := ⟨_, rfl⟩
  obtain ⟨w4, hw4⟩ : ∃ w4, w4 = w3.alloc (.cells #[.int .i64 0] 3) := ⟨_, rfl⟩
  rw [← hw1, ← hw2, ← hw3, ← hw4]
  have s1 : w1.heap.size = w.heap.size + 1 := by rw [hw1]; simp
  have s2 : w2.heap.size = w.heap.size + 1 + 1 := by rw [hw2, World.size_alloc, s1]
  have s3 : w3.heap.size = w.heap.size + 1 + 1 + 1 := by rw [hw3, World.size_alloc, s2]
  have b1 : Blk w4 w.heap.size 68 (itemCells retI) := by
    rw [hw4, hw3, hw2, hw1]
    exact (((Blk.new w (itemCells retI) 68).alloc _).alloc _).alloc _
  have b3 : Blk w4 (w.heap.size + 1 + 1) 53 ([retF w.heap.size].flatMap lfC) := by
    have := Blk.new w2 ([retF w.heap.size].flatMap lfC) 53
    rw [s2] at this
    rw [hw4, hw3]
    exact this.alloc _
  have b4 : ClsAt w4 (w.heap.size + 1 + 1 + 1) 1 (fun _ => 0) := by
    have := Blk.new w3 (rowL 1 fun _ => .int .i64 0) 3
    rw [s3] at this
    rw [hw4]
    exact this
  have hb : Below w.heap.size w w4 := by
    rw [hw4, hw3, hw2, hw1]
    exact ((((Below.refl _ _).alloc (Nat.le_refl _) _).alloc (by simp) _).alloc (by simp; omega) _).alloc (by simp; omega) _
  have hL : Lnk w4 (some ⟨w.heap.size + 1 + 1, 0, none⟩) 1 1 [retF w.heap.size] := ⟨came_lit lfC_len b3 rfl (by omega), fun f hf => by
    have : f = retF w.heap.size := by simpa using hf
    subst this
    exact retF_ok b1⟩
  have HB := Lib.hid hb
  have hlk := link_any w4 _ 1 1 _ hL (retF_chk1 _) _ _ b4 0 (retF_in (retF_ok b1)) false
  rw [retF_fin] at hlk
  have HLK := Lib.hid hlk
  clear hw1 hw2 hw3 hw4 s1 s2 s3 b1 b3 b4 hb hL hlk
  refine HLK.out.mono ?_
  rintro e w5 (⟨hno, _⟩ | ⟨_, hb5, L, vc, vs, vm, ga, rfl, hok⟩)
  · exfalso
    rcases hno with h | ⟨L, h1, h2⟩
    · exact absurd h (by decide)
    · have := (ret3_pos h1).2
      have h2' : 16384 < posL (allL ret3 false L) 3 := h2
      omega
  obtain ⟨h1, h2, h3, h4, ⟨vma, vmn, vmc, rfl⟩, h6⟩ := hok
  have hps := ret3_pos h1
  obtain ⟨vca, vcc, rfl⟩ := ownG_shape h3
  obtain ⟨vsa, vsc, rfl⟩ := ownG_shape h4
  have e3 : (patch (posL (allL ret3 false L)) [] (codeTo ret3 (allL ret3 false L) ret3.length)).length = 3 := by
    have := codeTo_len ret3 (allL ret3 false L) 3
    rw [hps.2] at this
    show (codeTo ret3 (allL ret3 false L) 3).length = 3
    omega
  obtain ⟨ms, hms⟩ : ∃ ms, ms = ((repsL (fun _ => 0) 1).map fun r => posL (allL ret3 false L) (bpos [retF w.heap.size] (fun _ => 0) r)).length := ⟨_, rfl⟩
  have a0 := h6.row (i := 0) (by omega)
  have a0' : w5.cell? ⟨ga, 0, none⟩ = some (.int .i64 2) := a0.trans (by show some (Value.int .i64 (posL (allL ret3 false L) 2)) = _; rw [hps.1])
  simp only [e3]
  rw [← hms]
  have HB5 := Lib.hid (HB.out.trans (hb5.mono HB.out.size))
  have HA := Lib.hid h6
  have hby : Below w5.heap.size w5 (w5.alloc (.cells #[.slice vca 3 vcc, .int .i64 0, .slice vsa ms vsc, .slice vma vmn vmc, .slice none 0 0] 60)) := (Below.refl _ _).alloc (Nat.le_refl _) _
  have r0 := (hby.cell (p := ⟨ga, 0, none⟩) h6.lt).trans a0'
  have HB6 := Lib.hid (HB.out.trans ((hb5.mono HB.out.size).trans (hby.mono (Nat.le_trans HB.out.size hb5.size))))
  clear h1 h2 h3 h4 h6 hps e3 hms hb5 HLK HB a0 a0' hby HB5
  go_wp2_with fail
  go_ret
  exact ⟨rfl, HB6.out⟩
end Go.Proofs.Ytkafbihlmhdjeab
