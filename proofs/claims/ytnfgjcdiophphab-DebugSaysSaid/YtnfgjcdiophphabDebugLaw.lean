/- The law DebugSays: the contracts of Find and Where in one; the mathematics. -/
import Derived.Test.YtnfgjcdiophphabDebugFind
import Derived.Test.YtnfgjcdiophphabSameInts
namespace Go.Proofs.Ytnfgjcdiophphab
open Go.RowKit
set_option linter.unusedVariables false
set_option linter.unusedSimpArgs false

def starts3 : List Int := [2, 9, 20]
def stOf (fn : Int) : Int := starts3.getD fn.toNat 0
/-- the law's own search of the function -/
def fnK (p : Int) : Nat → Int
  | 0 => -1
  | k + 1 => if starts3.getD k 0 ≤ p ∧ p < 40 then (k : Int) else fnK p k
theorem fnK_all : ∀ n : Nat, n < 45 → fnK ((n : Int) - 2) 3 = funcOf 40 starts3 ((n : Int) - 2) := by decide
theorem fnK_eq {p : Int} (h : -2 ≤ p ∧ p ≤ 42) : funcOf 40 starts3 p = fnK p 3 := by
  have := fnK_all (p + 2).toNat (by omega)
  have e : (((p + 2).toNat : Nat) : Int) - 2 = p := by omega
  rw [e] at this
  exact this.symm
theorem fnK_bd (p : Int) (k : Nat) : -1 ≤ fnK p k ∧ fnK p k < k := by
  induction k with
  | zero => unfold fnK; omega
  | succ k ih => unfold fnK; split <;> omega

/-- the law's own line -/
def nowL (fn p : Int) : Int → List MarkD → Int
  | cur, [] => cur
  | cur, m :: r => if m.fn = fn ∧ 0 ≤ fn ∧ stOf fn ≤ m.pc ∧ m.pc ≤ p then nowL fn p m.line r else nowL fn p cur r
theorem nowL_at {fn p cur : Int} {k : Nat} {ms : List MarkD} (hk : k < ms.length) : nowL fn p cur (ms.drop k) =
    if ms[k].fn = fn ∧ 0 ≤ fn ∧ stOf fn ≤ ms[k].pc ∧ ms[k].pc ≤ p then nowL fn p ms[k].line (ms.drop (k + 1)) else nowL fn p cur (ms.drop (k + 1)) := by
  rw [List.drop_eq_getElem_cons hk]; rfl
theorem nowL_find {fn p : Int} (h : 0 ≤ fn) : ∀ (ms : List MarkD) (cur : Int), findL fn (stOf fn) p cur ms = nowL fn p cur ms
  | [], cur => rfl
  | m :: r, cur => by
    unfold findL nowL
    by_cases h1 : m.pc ≤ p ∧ stOf fn ≤ m.pc ∧ m.fn = fn
    · rw [if_pos h1, if_pos ⟨h1.2.2, h, h1.2.1, h1.1⟩, nowL_find h]
    · rw [if_neg h1, if_neg (fun e => h1 ⟨e.2.2.2, e.2.2.1, e.1⟩), nowL_find h]

def FindLaw (ms : List MarkD) (p : Int) (w : World) (e : Ending) (w' : World) : Prop :=
  ∃ c fn line a m k, e = .returned (.tuple #[.agg #[.int .i64 fn, .int .i64 line, .slice a m k], .int .i64 c]) ∧ Below w.heap.size w w' ∧
    (checkM 40 3 ms ≠ 0 → c = checkM 40 3 ms) ∧ (checkM 40 3 ms = 0 → fnK p 3 < 0 → c = 12) ∧ (checkM 40 3 ms = 0 → 0 ≤ fnK p 3 → c = 0 ∧ fn = fnK p 3 ∧ line = nowL (fnK p 3) p 0 ms)

theorem find_law (ca : Option Addr) (cc : Nat) (entry : Int) (sa : Option Addr) (sc : Nat) (pa : Option Addr) (pl pc : Nat) (ma : Option Addr) (ml mc : Nat) (ms : List MarkD) (p : Int) (w : World) (h : Came w ma ml mc 4 (ms.map markCells))
    (hz : Came w sa 3 sc 1 (starts3.map intCells)) (hv : ∀ m ∈ ms, VarsOk w m) (hp : -2 ≤ p ∧ p ≤ 42) :
    Calls Try.prog 19 #[.agg #[.slice ca 40 cc, .int .i64 entry, .slice sa 3 sc, .slice pa pl pc, .slice ma ml mc], .int .i64 p] w (FindLaw ms p w) := by
  have hs : starts3.Pairwise (· ≤ ·) := by decide
  by_cases hc : checkM 40 3 ms = 0
  · have hb := fnK_bd p 3
    by_cases hf : fnK p 3 < 0
    · refine (find_none ca 40 cc entry sa 3 sc pa pl pc ma ml mc ms starts3 p w h hc hz (by omega) (by omega) hs (by rw [fnK_eq hp]; exact hf)).mono ?_
      rintro e w' ⟨rfl, hb⟩
      exact ⟨12, 0, 0, none, 0, 0, rfl, hb, fun h => absurd hc h, fun _ _ => rfl, fun _ h => by omega⟩
    · obtain ⟨f, hff⟩ : ∃ f : Nat, fnK p 3 = (f : Int) := ⟨(fnK p 3).toNat, by omega⟩
      have hfl : f < starts3.length := by show f < 3; omega
      refine (find_ok ca 40 cc entry sa 3 sc pa pl pc ma ml mc ms starts3 p w h hc hz (by omega) (by omega) hs hv f (by rw [fnK_eq hp]; exact hff) hfl).mono ?_
      rintro e w' ⟨a, m, k, rfl, hb⟩
      refine ⟨0, f, _, a, m, k, rfl, hb, fun h => absurd hc h, fun _ h => by omega, fun _ _ => ⟨rfl, hff.symm, ?_⟩⟩
      rw [← nowL_find (by omega), hff]
      have e1 : stOf (f : Int) = starts3[f] := by
        unfold stOf
        rw [List.getD_eq_getElem?_getD, Int.toNat_natCast, List.getElem?_eq_getElem hfl]
        rfl
      rw [e1]
  · refine (find_err ca 40 cc entry sa 3 sc pa pl pc ma ml mc ms p w h hc).mono ?_
    rintro e w' ⟨rfl, hb⟩
    exact ⟨_, 0, 0, none, 0, 0, rfl, hb, fun _ => rfl, fun h => absurd h hc, fun h => absurd h hc⟩

def WhereLaw (ms : List MarkD) (line : Int) (w : World) (e : Ending) (w' : World) : Prop :=
  ∃ v c l, e = .returned (.tuple #[v, .int .i64 c]) ∧ w'.ownsRow w.heap.size 3 1 v l.length (l.map (Value.int .i64)) ∧ Below w.heap.size w w' ∧
    (checkM 40 3 ms ≠ 0 → c = checkM 40 3 ms ∧ l = []) ∧ (checkM 40 3 ms = 0 → c = 0 ∧ l = whereT 1 line 0 ms)
theorem where_law (ca : Option Addr) (cc : Nat) (entry : Int) (sa : Option Addr) (sc : Nat) (pa : Option Addr) (pl pc : Nat) (ma : Option Addr) (ml mc : Nat) (ms : List MarkD) (line : Int) (w : World) (h : Came w ma ml mc 4 (ms.map markCells)) :
    Calls Try.prog 21 #[.agg #[.slice ca 40 cc, .int .i64 entry, .slice sa 3 sc, .slice pa pl pc, .slice ma ml mc], .int .i64 1, .int .i64 line] w (WhereLaw ms line w) := by
  by_cases hc : checkM 40 3 ms = 0
  · refine (where_ok ca 40 cc entry sa 3 sc pa pl pc ma ml mc ms 1 line w h hc ⟨by omega, by decide⟩).mono ?_
    rintro e w' ⟨v, rfl, ho, hb⟩
    exact ⟨v, 0, _, rfl, ho, hb, fun h => absurd hc h, fun _ => ⟨rfl, rfl⟩⟩
  · refine (where_err ca 40 cc entry sa 3 sc pa pl pc ma ml mc ms 1 line w h hc).mono ?_
    rintro e w' ⟨rfl, hb⟩
    exact ⟨.slice none 0 0, _, [], rfl, World.ownsRow_nil _ _ _ _, hb, fun _ => ⟨rfl, rfl⟩, fun h => absurd h hc⟩

/-- what the law reckons of Check, up to mark k -/
def lastOf (ms : List MarkD) (k : Nat) : Int := if k = 0 then -1 else ((ms.map (·.pc)).getD (k - 1) 0)
theorem lastOf_succ {ms : List MarkD} {k : Nat} (h : k < ms.length) : lastOf ms (k + 1) = ms[k].pc := by
  unfold lastOf
  rw [if_neg (by omega), List.getD_eq_getElem?_getD, Nat.add_sub_cancel, List.getElem?_map, List.getElem?_eq_getElem h]
  rfl
end Go.Proofs.Ytnfgjcdiophphab
