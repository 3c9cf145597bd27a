/- timing's Issue at any valid state; what it answers where no number of the state is above 2^40. -/
import Derived.Test.YtgcbdndfobiphabIssueE
import Derived.Test.YtgcbdndfobiphabIssued
namespace Go.Proofs.Ytgcbdndfobiphab
open Go.RowKit
set_option linter.unusedVariables false
set_option linter.unusedSimpArgs false

def tsOf (S : TI) : TS := ⟨S.next.toNat, S.div.toNat, S.done.toNat, fun i => if i < 16 then (S.rd i).toNat else 0, S.wr.map Int.toNat⟩
def tiOf (T : TS) : TI := ⟨(T.next : Int), (T.div : Int), (T.done : Int), fun i => (T.rd i : Int), wrL T.wr⟩
def smallT (S : TI) : Prop := S.next ≤ 1099511627776 ∧ S.div ≤ 1099511627776 ∧ S.done ≤ 1099511627776 ∧ (∀ i, i < 16 → S.rd i ≤ 1099511627776) ∧ ∀ z ∈ S.wr, z ≤ 1099511627776
theorem tiOf_cells (T : TS) (v : Value) : tiCells (tiOf T) v = stCells T v := rfl
theorem tsOf_ok {S : TI} (h : stE S = 0) (hs : smallT S) : (tsOf S).Ok 1099511627776 ∧ wrL (tsOf S).wr = S.wr ∧ ∀ v, stCells (tsOf S) v = tiCells S v := by
  obtain ⟨g1, ⟨g2, g3⟩, g4, g5, g6, g7⟩ := stE_good h
  obtain ⟨s1, s2, s3, s4, s5⟩ := hs
  have hz : ∀ z ∈ S.wr, 0 ≤ z := fun z hz => by have := g2 z hz; omega
  refine ⟨⟨?_, ?_, ?_, fun i => ?_, fun x hx => ?_, ?_, ?_⟩, ?_, fun v => ?_⟩
  · show S.next.toNat ≤ _; omega
  · show S.div.toNat ≤ _; omega
  · show S.done.toNat ≤ _; omega
  · show (if i < 16 then (S.rd i).toNat else 0) ≤ _
    split
    · rename_i hi; have := s4 i hi; omega
    · omega
  · obtain ⟨z, hzm, rfl⟩ := List.mem_map.1 hx
    have := g2 z hzm
    have := s5 z hzm
    refine ⟨?_, by omega⟩
    show S.next.toNat ≤ _
    omega
  · show (S.wr.map Int.toNat).Pairwise (· < ·)
    rw [List.pairwise_map]
    refine List.Pairwise.imp_of_mem ?_ g3
    intro x y hx hy hxy
    have := hz x hx
    omega
  · show (S.wr.map Int.toNat).length ≤ _; simpa using g1
  · show (S.wr.map Int.toNat).map (fun i : Nat => (i : Int)) = S.wr
    rw [List.map_map]
    conv => rhs; rw [← List.map_id S.wr]
    refine List.map_congr_left fun z hzm => ?_
    have := hz z hzm
    simp; omega
  · have e : ∀ i, i < 16 → (((tsOf S).rd i : Nat) : Int) = S.rd i := fun i hi => by
      have := g7 i hi
      show (((if i < 16 then (S.rd i).toNat else 0) : Nat) : Int) = _
      rw [if_pos hi]; omega
    have e1 : (((tsOf S).next : Nat) : Int) = S.next := by show ((S.next.toNat : Nat) : Int) = _; omega
    have e2 : (((tsOf S).div : Nat) : Int) = S.div := by show ((S.div.toNat : Nat) : Int) = _; omega
    have e3 : (((tsOf S).done : Nat) : Int) = S.done := by show ((S.done.toNat : Nat) : Int) = _; omega
    unfold stCells tiCells
    rw [e1, e2, e3, e 0 (by omega), e 1 (by omega), e 2 (by omega), e 3 (by omega), e 4 (by omega), e 5 (by omega), e 6 (by omega), e 7 (by omega), e 8 (by omega), e 9 (by omega), e 10 (by omega), e 11 (by omega), e 12 (by omega), e 13 (by omega), e 14 (by omega), e 15 (by omega)]

def IssueAPost (S : TI) (op d a b : Int) (extra : Nat) (w : World) (e : Ending) (w' : World) : Prop :=
  ∃ (S' : TI) (va : Option Addr) (vc : Nat) (vl : Nat) (t : Int), e = .returned (.tuple #[.agg (tiCells S' (.slice va vl vc)).toArray, .int .i64 t, .int .i64 0]) ∧ Below w.heap.size w w' ∧
    (smallT S → S' = tiOf (nextS (tsOf S) op d a b extra) ∧ t = (startOf (tsOf S) op d a b (latOf op + extra) : Int) ∧ vl = (nextS (tsOf S) op d a b extra).wr.length ∧ Came w' va (nextS (tsOf S) op d a b extra).wr.length vc 1 ((wrL (nextS (tsOf S) op d a b extra).wr).map intCells))
theorem wrI_at {w : World} {S : TI} {wv : Value} (h : WrI w wv S.wr) (e : wrL (tsOf S).wr = S.wr) : WrAt w wv (tsOf S).wr := by
  obtain ⟨a, c, rfl, hc, _⟩ := h
  have hl : (tsOf S).wr.length = S.wr.length := by show (S.wr.map Int.toNat).length = _; simp
  exact ⟨a, c, by rw [hl], by rw [hl, e]; exact hc⟩
theorem issue_all (S : TI) (wv : Value) (op d a b n : Int) (extra : Nat) (w : World) (hx : extra ≤ 10000) (hck : checkE op d a b n = 0) (hnx : I64 S.next) (hst : stE S = 0) (hw : WrI w wv S.wr) :
    Calls Try.prog 17 #[.agg (tiCells S wv).toArray, .agg #[.int .i64 op, .int .i64 d, .int .i64 a, .int .i64 b, .int .i64 n], .int .i64 (extra : Int)] w (IssueAPost S op d a b extra w) := by
  by_cases hs : smallT S
  · obtain ⟨h1, h2, h3⟩ := tsOf_ok hst hs
    obtain ⟨hd, ha, hb⟩ := good_regs hck
    rw [← h3]
    refine (issue_ok (tsOf S) wv op d a b n extra w 1099511627776 (by omega) hx hck hd ha hb h1 (wrI_at hw h2)).mono ?_
    rintro e w' ⟨wv', rfl, hown, hb⟩
    obtain ⟨va, vl, vc, rfl⟩ := owns_shape hown
    obtain ⟨e2, hcm⟩ := ownI_came hown
    have e3 : vl = (nextS (tsOf S) op d a b extra).wr.length := by rw [e2]; simp [wrL]
    exact ⟨_, va, vc, vl, _, rfl, hb, fun _ => ⟨rfl, rfl, e3, by rw [← e3]; exact hcm⟩⟩
  · refine (issue_any S wv op d a b n extra w hx hck hnx hst hw).mono ?_
    rintro e w' ⟨S', va, vl, vc, t, rfl, hb⟩
    exact ⟨S', va, vc, vl, t, rfl, hb, fun h => absurd h hs⟩
theorem issued_small (S : TI) (wv : Value) (op d a b n : Int) (extra : Nat) (w : World) (hx : extra ≤ 10000) (hck : checkE op d a b n = 0) (hst : stE S = 0) (hw : WrI w wv S.wr) (hs : smallT S) :
    Calls Try.prog 19 #[.agg (tiCells S wv).toArray, .agg #[.int .i64 op, .int .i64 d, .int .i64 a, .int .i64 b, .int .i64 n], .int .i64 (extra : Int)] w (IssuedPost (tsOf S) op d a b extra w) := by
  obtain ⟨h1, h2, h3⟩ := tsOf_ok hst hs
  rw [← h3]
  exact issued_ok (tsOf S) wv op d a b n extra w 1099511627776 (Nat.le_refl _) hx hck h1 (wrI_at hw h2)
theorem boxC_new (w : World) (cs : List Value) : Blk (boxS w cs.toArray) w.heap.size 25 cs ∧ Below w.heap.size w (boxS w cs.toArray) := by
  have hg := newZ w
  obtain ⟨wz, hwz⟩ : ∃ wz, wz = w.alloc (.cells #[.int .i64 0, .int .i64 0, .int .i64 0, .int .i64 0, .int .i64 0, .int .i64 0, .int .i64 0, .int .i64 0, .int .i64 0, .int .i64 0, .int .i64 0, .int .i64 0, .int .i64 0, .int .i64 0, .int .i64 0, .int .i64 0, .int .i64 0, .int .i64 0, .int .i64 0, .slice none 0 0] 25) := ⟨_, rfl⟩
  have hb : Below w.heap.size w wz := by rw [hwz]; exact (Below.refl w.heap.size w).alloc (Nat.le_refl _) _
  have hsz : w.heap.size ≤ wz.heap.size := by rw [hwz]; simp
  unfold boxS
  rw [← hwz] at hg ⊢
  clear hwz
  refine ⟨by unfold Blk; simp [World.setRow, Array.getElem?_modify, hg], hb.trans ?_⟩
  have hgr : wz.grownBy (wz.setRow w.heap.size cs.toArray) (some w.heap.size) := ⟨rfl, rfl, rfl, by simp [World.setRow], fun k _ hk => by simp only [World.setRow, Array.getElem?_modify]; rw [if_neg (fun e => hk (by rw [e]))]⟩
  exact grown_below hgr (fun g hg => by simp at hg; omega) hsz
end Go.Proofs.Ytgcbdndfobiphab
