/- A level of the cache: its state, and access as a step of it. -/
import Derived.Test.YtkpeeemnholmnabAccess
namespace Go.Proofs.Ytkpeeemnholmnab
open Go.RowKit
set_option linter.unusedVariables false
set_option linter.unusedSimpArgs false

structure Conf where
  (words sets ways miss : Nat)
structure Conf.Ok (c : Conf) : Prop where
  w : 1 ≤ c.words ∧ c.words ≤ 64
  s : 1 ≤ c.sets ∧ c.sets ≤ 256
  y : 1 ≤ c.ways ∧ c.ways ≤ 8
  m : c.miss ≤ 1000
def confCells (c : Conf) : List Value := [.int .i64 c.words, .int .i64 c.sets, .int .i64 c.ways, .int .i64 c.miss]

def upd {α : Type} (f : Nat → α) (i : Nat) (v : α) : Nat → α := fun j => if j = i then v else f j
theorem upd_same {α : Type} (f : Nat → α) (i : Nat) (v : α) : upd f i v i = v := if_pos rfl
theorem upd_other {α : Type} (f : Nat → α) {i j : Nat} (v : α) (h : j ≠ i) : upd f i v j = f j := if_neg h

/-- the blocks of a level -/
def Own (p sb sets : Nat) (sv : Nat → Value) (k : Nat) : Prop := k = p ∨ k = sb ∨ ∃ i, i < sets ∧ (sv i).ownBlock = some k

structure LevelSt (w : World) (p sb : Nat) (c : Conf) (sv : Nat → Value) (xs : Nat → List CLine) : Prop where
  st : Blk w p 84 [.int .i64 c.words, .int .i64 c.sets, .int .i64 c.ways, .int .i64 c.miss, .slice (some ⟨sb, 0, none⟩) c.sets c.sets]
  ss : Blk w sb 40 (rowL c.sets sv)
  rr : ∀ i, i < c.sets → Lines w (sv i) (xs i) ∧ (xs i).length ≤ c.ways
  ne : p ≠ sb
  dd : ∀ i, i < c.sets → (sv i).ownBlock ≠ some p ∧ (sv i).ownBlock ≠ some sb
  d2 : ∀ i j, i < c.sets → j < c.sets → i ≠ j → ∀ g, (sv i).ownBlock = some g → (sv j).ownBlock ≠ some g

/-- only the blocks in O may have changed; the new ones are among them, or new -/
structure Fr (O O' : Nat → Prop) (w w' : World) : Prop where
  os : w'.os = w.os
  tape : w'.tape = w.tape
  output : w'.output = w.output
  size : w.heap.size ≤ w'.heap.size
  block : ∀ k, k < w.heap.size → ¬ O k → w'.heap[k]? = w.heap[k]?
  own : ∀ k, O' k → O k ∨ w.heap.size ≤ k
theorem Fr.refl (O : Nat → Prop) (w : World) : Fr O O w w := ⟨rfl, rfl, rfl, Nat.le_refl _, fun _ _ _ => rfl, fun _ h => .inl h⟩
theorem Fr.trans {O O' O'' : Nat → Prop} {w w' w'' : World} (h : Fr O O' w w') (k : Fr O' O'' w' w'') : Fr O O'' w w'' :=
  ⟨k.os.trans h.os, k.tape.trans h.tape, k.output.trans h.output, Nat.le_trans h.size k.size, fun b hb hn => (k.block b (Nat.lt_of_lt_of_le hb h.size) (fun e => by
    rcases h.own b e with e2 | e2
    · exact hn e2
    · omega)).trans (h.block b hb hn), fun b hb => by
    rcases k.own b hb with e | e
    · exact h.own b e
    · right; have := h.size; omega⟩
theorem Fr.below {O O' : Nat → Prop} {w w' : World} (h : Fr O O' w w') (B : Nat) (hB : ∀ k, O k → B ≤ k) (hs : B ≤ w.heap.size) : Below B w w' :=
  ⟨h.os, h.tape, h.output, h.size, fun k hk => h.block k (by omega) (fun e => by have := hB k e; omega)⟩
theorem Fr.wide {O O' P P' : Nat → Prop} {w w' : World} (h : Fr O O' w w') (h1 : ∀ k, O k → P k) (h2 : ∀ k, P' k → O' k ∨ P k) : Fr P P' w w' :=
  ⟨h.os, h.tape, h.output, h.size, fun k hk hn => h.block k hk (fun e => hn (h1 k e)), fun k hk => by
    rcases h2 k hk with e | e
    · rcases h.own k e with e2 | e2
      · exact .inl (h1 k e2)
      · exact .inr e2
    · exact .inl e⟩
theorem Fr.of_below {O : Nat → Prop} {w w' : World} (h : Below w.heap.size w w') : Fr O O w w' := ⟨h.os, h.tape, h.output, h.size, fun k hk _ => h.block k hk, fun _ h => .inl h⟩

section
variable {w w' : World} {p sb : Nat} {c : Conf} {sv : Nat → Value} {xs : Nat → List CLine}
theorem LevelSt.lt (h : LevelSt w p sb c sv xs) {k : Nat} (hk : Own p sb c.sets sv k) : k < w.heap.size := by
  rcases hk with rfl | rfl | ⟨i, hi, hg⟩
  · exact h.st.lt
  · exact h.ss.lt
  · exact (h.rr i hi).1.lt hg
theorem LevelSt.keep (h : LevelSt w p sb c sv xs) (hb : ∀ k, Own p sb c.sets sv k → w'.heap[k]? = w.heap[k]?) : LevelSt w' p sb c sv xs :=
  ⟨h.st.of_heap (hb _ (.inl rfl)), h.ss.of_heap (hb _ (.inr (.inl rfl))), fun i hi => ⟨(h.rr i hi).1.keep fun g hg => hb g (.inr (.inr ⟨i, hi, hg⟩)), (h.rr i hi).2⟩, h.ne, h.dd, h.d2⟩
theorem LevelSt.later (h : LevelSt w p sb c sv xs) (hb : Below w.heap.size w w') : LevelSt w' p sb c sv xs := h.keep fun k hk => hb.block k (h.lt hk)
end

theorem acc_length {ways : Nat} {line : Int} {wr : Bool} {xs : List CLine} (hy : 1 ≤ ways) (h : xs.length ≤ ways) : (acc ways line wr xs).length ≤ ways := by
  unfold acc
  split
  · rename_i h1
    rw [List.length_cons, List.length_eraseIdx_of_lt h1]; omega
  · split
    · rw [List.length_cons, List.length_dropLast]; omega
    · rw [List.length_cons]; omega
theorem acc_mem {ways : Nat} {line : Int} {wr : Bool} {xs : List CLine} {x : CLine} (h : x ∈ acc ways line wr xs) : x.1 = line ∨ x ∈ xs := by
  unfold acc at h
  split at h
  · rcases List.mem_cons.1 h with rfl | h
    · exact .inl rfl
    · exact .inr (List.mem_of_mem_eraseIdx h)
  · split at h
    · rcases List.mem_cons.1 h with rfl | h
      · exact .inl rfl
      · exact .inr (List.dropLast_subset _ h)
    · rcases List.mem_cons.1 h with rfl | h
      · exact .inl rfl
      · exact .inr h

def lnOf (c : Conf) (word : Nat) : Nat := word / c.words
def ixOf (c : Conf) (word : Nat) : Nat := lnOf c word % c.sets
def stepL (c : Conf) (word : Nat) (wr : Bool) (xs : Nat → List CLine) : Nat → List CLine := upd xs (ixOf c word) (acc c.ways (lnOf c word : Int) wr (xs (ixOf c word)))
def hitL (c : Conf) (word : Nat) (xs : Nat → List CLine) : Bool := accHit (lnOf c word : Int) (xs (ixOf c word))
def oldL (c : Conf) (word : Nat) (xs : Nat → List CLine) : CLine := accOld c.ways (lnOf c word : Int) (xs (ixOf c word))

def LevPost (p sb : Nat) (c : Conf) (sv : Nat → Value) (xs : Nat → List CLine) (word : Nat) (wr : Bool) (w : World) (e : Ending) (w' : World) : Prop :=
  ∃ sv', e = .returned (.tuple #[.bool (hitL c word xs), .int .i64 (oldL c word xs).1, .bool (oldL c word xs).2]) ∧ LevelSt w' p sb c sv' (stepL c word wr xs) ∧ Fr (Own p sb c.sets sv) (Own p sb c.sets sv') w w'

theorem level_access (w : World) (p sb : Nat) (c : Conf) (sv : Nat → Value) (xs : Nat → List CLine) (h : LevelSt w p sb c sv xs) (ok : c.Ok) (word : Nat) (wr : Bool) (hw : word ≤ 65535) :
    Calls Try.prog 30 #[.pointer (some ⟨p, 0, none⟩), .int .i64 (word : Int), .bool wr] w (LevPost p sb c sv xs word wr w) := by
  have hix : ixOf c word < c.sets := Nat.mod_lt _ (by have := ok.s; omega)
  refine (access_core w p sb (ixOf c word) c.words c.sets c.ways (lnOf c word) word wr sv (xs (ixOf c word)) (by rw [h.st.cell]; rfl) (by rw [h.st.cell]; rfl) (by rw [h.st.cell]; rfl) (by rw [h.st.cell]; rfl) h.ss (h.rr _ hix).1 h.ne (h.dd _ hix).1 (h.dd _ hix).2 ok.w ok.s ok.y hw rfl rfl (h.rr _ hix).2).mono ?_
  rintro e w' ⟨v', he, hl, ho, hs, hk⟩
  have hps := h.st.lt
  have hss := h.ss.lt
  have hv' : ∀ g, v'.ownBlock = some g → (sv (ixOf c word)).ownBlock = some g ∨ w.heap.size ≤ g := fun g hg => by
    rcases ho with h1 | ⟨g', h1, h2⟩
    · exact .inl (h1.symm.trans hg)
    · rw [hg] at h1; right; have := Option.some.inj h1; omega
  refine ⟨upd sv (ixOf c word) v', he, ⟨h.st.of_heap (hk.block _ hps h.ne (h.dd _ hix).1), hs.rowCongr fun i _ => rfl, fun i hi => ?_, h.ne, fun i hi => ?_, fun i j hi hj hij g hg hg2 => ?_⟩, ⟨hk.os, hk.tape, hk.output, hk.size, fun k hkl hn => hk.block k hkl (fun e => hn (.inr (.inl e))) (fun e => hn (.inr (.inr ⟨_, hix, e⟩))), fun k hok => ?_⟩⟩
  · unfold stepL
    by_cases e : i = ixOf c word
    · subst e
      rw [upd_same, upd_same]
      exact ⟨hl, acc_length ok.y.1 (h.rr _ hix).2⟩
    · rw [upd_other _ _ e, upd_other _ _ e]
      exact ⟨(h.rr i hi).1.keep fun g hg => hk.block g ((h.rr i hi).1.lt hg) (fun e2 => (h.dd i hi).2 (by rw [hg, e2])) (h.d2 i _ hi hix e g hg), (h.rr i hi).2⟩
  · by_cases e : i = ixOf c word
    · subst e
      rw [upd_same]
      refine ⟨fun e2 => ?_, fun e2 => ?_⟩
      · rcases hv' _ e2 with h1 | h1
        · exact (h.dd _ hix).1 h1
        · omega
      · rcases hv' _ e2 with h1 | h1
        · exact (h.dd _ hix).2 h1
        · omega
    · rw [upd_other _ _ e]; exact h.dd i hi
  · by_cases e : i = ixOf c word
    · subst e
      rw [upd_same] at hg
      rw [upd_other _ _ (Ne.symm hij)] at hg2
      rcases hv' _ hg with h1 | h1
      · exact h.d2 _ j hix hj hij g h1 hg2
      · have := (h.rr j hj).1.lt hg2; omega
    · rw [upd_other _ _ e] at hg
      by_cases e2 : j = ixOf c word
      · subst e2
        rw [upd_same] at hg2
        rcases hv' _ hg2 with h1 | h1
        · exact h.d2 i _ hi hix hij g hg h1
        · have := (h.rr i hi).1.lt hg; omega
      · rw [upd_other _ _ e2] at hg2
        exact h.d2 i j hi hj hij g hg hg2
  · rcases hok with rfl | rfl | ⟨i, hi, hg⟩
    · exact .inl (.inl rfl)
    · exact .inl (.inr (.inl rfl))
    · by_cases e : i = ixOf c word
      · subst e
        rw [upd_same] at hg
        rcases hv' _ hg with h1 | h1
        · exact .inl (.inr (.inr ⟨_, hix, h1⟩))
        · exact .inr h1
      · rw [upd_other _ _ e] at hg
        exact .inl (.inr (.inr ⟨i, hi, hg⟩))
end Go.Proofs.Ytkpeeemnholmnab
