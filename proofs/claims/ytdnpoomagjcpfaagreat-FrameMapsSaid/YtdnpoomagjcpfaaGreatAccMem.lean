/- Accepted's closure 'good': each used register is held by its place. Accepted's memory, and what its list of states says. No function of the program is walked. -/
import Derived.Test.YtdnpoomagjcpfaaGreatAccRef
import Derived.Test.YtdnpoomagjcpfaaGreatBase
namespace Go.Proofs.YtdnpoomagjcpfaaGreat
open Go.RowKit
set_option linter.unusedVariables false
set_option linter.unusedSimpArgs false

def aC (a : AL) : List Value := [.slice a.ra a.rn a.rc, .slice a.sa a.sn a.sc, .int .i64 a.k]
theorem blk_range {w : World} {b : Nat} {t : TypeId} {cs : List Value} (h : Blk w b t cs) : w.rangeAt b 0 cs := by
 intro j v hv
 rw [Blk.cell h (0 + j), Nat.zero_add]
 exact hv

/-- a row of pairs that stands -/
def PRow (w : World) (a : Option Addr) (c : Nat) (zs : List (Int × Int)) : Prop := w.ownsRow 0 85 2 (.slice a zs.length c) zs.length (zs.flatMap wpC)
theorem PRow.came {w : World} {a : Option Addr} {c : Nat} {zs : List (Int × Int)} (h : PRow w a c zs) : Came w a zs.length c 2 (zs.map wpC) := by
 obtain ⟨a', c', e, hc⟩ := came_ofN (E := wpC) (by decide : 0 < 2) (fun _ => rfl) rfl h
 injection e with e1 _ e3
 subst e1 e3
 exact hc
theorem PRow.below {w w' : World} {a : Option Addr} {c : Nat} {zs : List (Int × Int)} (h : PRow w a c zs) (hb : Below w.heap.size w w') : PRow w' a c zs := ownG_below h hb
/-- blocks of integers only -/
def IntB (w : World) (T : Nat → Prop) : Prop := ∀ k, T k → ∃ cur, w.heap[k]? = some (.cells cur 3 (0, 0))
theorem IntB.own {w : World} {base k : Nat} {v : Value} {l : List Value} (h : w.ownsRow base 3 1 v k l) : IntB w (fun k => v.ownBlock = some k) := fun k hk => own_blkTy h hk
theorem IntB.noBlk {w : World} {T : Nat → Prop} (h : IntB w T) {b : Nat} {t : TypeId} {cs : List Value} (hb : Blk w b t cs) (hne : t ≠ 3) : ¬ T b := fun hT => by
 obtain ⟨cur, h1⟩ := h b hT
 have h2 : w.heap[b]? = _ := hb
 rw [h1] at h2
 injection h2 with h2
 injection h2 with _ h2 _
 exact hne h2.symm
theorem IntB.noOwn {w : World} {T : Nat → Prop} (h : IntB w T) {base size k : Nat} {e : TypeId} {v : Value} {l : List Value} (ho : w.ownsRow base e size v k l) (hne : e ≠ 3) : ∀ g, v.ownBlock = some g → ¬ T g := fun g hg hT => by
 obtain ⟨cur, h1⟩ := h g hT
 obtain ⟨cur', h2⟩ := own_blkTy ho hg
 rw [h1] at h2
 injection h2 with h2
 injection h2 with _ h2 _
 exact hne h2.symm
theorem PRow.rest {w w' : World} {T : Nat → Prop} {a : Option Addr} {c : Nat} {zs : List (Int × Int)} (h : PRow w a c zs) (hr : RestS T w w') (hT : IntB w T) : PRow w' a c zs :=
 ownG_kept h fun g hg => hr.block g (h.lt g hg).2 (hT.noOwn h (by decide) g hg)
theorem PRow.other {w : World} {a : Option Addr} {c : Nat} {zs : List (Int × Int)} (h : PRow w a c zs) {b : Nat} {t : TypeId} {cs : List Value} (hb : Blk w b t cs) (hne : 85 ≠ t) (j : Nat) (v : Value) : PRow (w.setCell ⟨b, j, none⟩ v) a c zs :=
 ownG_other (a := ⟨b, j, none⟩) h (blk_noOwn hb h hne) v
/-- one listed state -/
structure SE where
 (blk : Nat) (sa : Option Addr) (sc : Nat) (zs : List (Int × Int))
def SE.p (e : SE) : Nat × List (Int × Int) := (e.blk, e.zs)
def seC (e : SE) : List Value := [.int .i64 (e.blk : Int), .slice e.sa e.zs.length e.sc]
section
variable {w0 w w' : World} {pf pa : Nat} {f : VF} {a : AL} {all : List SE} {v : Value}
end
section
variable {w0 w w' : World} {pf pa : Nat} {f : VF} {a : AL} {all : List SE} {v : Value} {bb wb : Nat} {b : VB} {sa : Option Addr} {sc : Nat} {zs : List (Int × Int)}
end
theorem eqW_iff {xs ys : List (Int × Int)} (hx : xs.Nodup) (hy : ys.Nodup) : eqW xs ys = true ↔ ∀ z, z ∈ xs ↔ z ∈ ys := by
 unfold eqW
 rw [decide_eq_true_eq]
 constructor
 ·rintro ⟨hl, hs⟩ z
  refine ⟨hs z, fun hz => ?_⟩
  rcases Classical.em (z ∈ xs) with h | h
  ·exact h
  ·have h1 : (z :: xs).Nodup := List.nodup_cons.2 ⟨h, hx⟩
   have := List.Nodup.length_le_of_subset h1 (l₂ := ys) (fun u hu => by
    rcases List.mem_cons.1 hu with rfl | hu
    ·exact hz
    ·exact hs u hu)
   simp at this
   omega
 ·intro h
  refine ⟨Nat.le_antisymm (List.Nodup.length_le_of_subset hx (fun u hu => (h u).1 hu)) (List.Nodup.length_le_of_subset hy (fun u hu => (h u).2 hu)), fun z hz => (h z).1 hz⟩
/-- what the list of states says, k of them followed -/
structure AccJ (f : VF) (a : AL) (m n : Nat) (X0 : Nat → Nat → Bool) (all : List SE) (k : Nat) : Prop where
 seen : SeenW f a m n X0 (all.map SE.p)
 start : ∃ zs, (0, zs) ∈ all.map SE.p ∧ RelW m n zs X0
 closed : ∀ j (hj : j < all.length), j < k → ClosedW f a (all.map SE.p) all[j].p
/-- some of the successors are listed -/
def PartW (f : VF) (all : List SE) (i : Nat) (zs : List (Int × Int)) (k : Nat) : Prop := ∀ t ∈ (f.blk i).e.to.take k, ∃ s ∈ all, s.blk = t.toNat ∧ ∀ z, z ∈ s.zs ↔ z ∈ zs
theorem AccJ.good {f : VF} {a : AL} {m n : Nat} {X0 : Nat → Nat → Bool} {all : List SE} {k : Nat} (ga : a.Good n m) (hf : f.Fits n) (h0 : 0 < f.blocks.length) (h : AccJ f a m n X0 all k) (hk : all.length ≤ k) : GoodS f a X0 :=
 good_of_closed ga hf h0 h.seen h.start fun s hs => by
  obtain ⟨e, he, rfl⟩ := List.mem_map.1 hs
  obtain ⟨j, hj, rfl⟩ := List.getElem_of_mem he
  exact h.closed j hj (by omega)
theorem AccJ.more {f : VF} {a : AL} {m n : Nat} {X0 : Nat → Nat → Bool} {all : List SE} {k : Nat} (h : AccJ f a m n X0 all k) (hk : k ≤ all.length) {e : SE} (he : e.blk < f.blocks.length) {X : Nat → Nat → Bool} (hr : RelW m n e.zs X) (hx : ReachS f a X0 e.blk X) : AccJ f a m n X0 (all ++ [e]) k := by
 refine ⟨fun s hs => ?_, ?_, fun j hj hjk => ?_⟩
 ·rw [List.map_append] at hs
  rcases List.mem_append.1 hs with hs | hs
  ·exact h.seen s hs
  ·simp at hs; subst hs; exact ⟨he, X, hr, hx⟩
 ·obtain ⟨zs, h1, h2⟩ := h.start
  exact ⟨zs, by rw [List.map_append]; exact List.mem_append_left _ h1, h2⟩
 ·have hj2 : j < all.length := by omega
  rw [List.getElem_append_left hj2, List.map_append]
  exact (h.closed j hj2 hjk).more
theorem AccJ.step {f : VF} {a : AL} {m n : Nat} {X0 : Nat → Nat → Bool} {all : List SE} {k : Nat} (h : AccJ f a m n X0 all k) (hk : k < all.length) {zs' : List (Int × Int)} (hb : blkW a (f.blk all[k].blk) all[k].zs = some zs') {q : Nat} (hq : (f.blk all[k].blk).e.to.length ≤ q) (hp : PartW f all all[k].blk zs' q) : AccJ f a m n X0 all (k + 1) := by
 refine ⟨h.seen, h.start, fun j hj hjk => ?_⟩
 by_cases e : j = k
 ·subst e
  refine ⟨zs', hb, fun t ht => ?_⟩
  unfold PartW at hp
  rw [List.take_of_length_le hq] at hp
  obtain ⟨s, h1, h2, h3⟩ := hp t ht
  exact ⟨s.p, List.mem_map.2 ⟨s, h1, rfl⟩, h2, h3⟩
 ·exact h.closed j hj (by omega)
theorem PartW.more {f : VF} {all : List SE} {i : Nat} {zs : List (Int × Int)} {k : Nat} (h : PartW f all i zs k) (e : SE) : PartW f (all ++ [e]) i zs k := fun t ht => by
 obtain ⟨s, h1, h2⟩ := h t ht
 exact ⟨s, List.mem_append_left _ h1, h2⟩
theorem PartW.next {f : VF} {all : List SE} {i : Nat} {zs : List (Int × Int)} {k : Nat} (h : PartW f all i zs k) {t : Int} (ht : (f.blk i).e.to[k]? = some t) {s : SE} (hs : s ∈ all) (h1 : s.blk = t.toNat) (h2 : ∀ z, z ∈ s.zs ↔ z ∈ zs) : PartW f all i zs (k + 1) := fun u hu => by
 rw [List.take_add_one, ht] at hu
 rcases List.mem_append.1 hu with hu | hu
 ·exact h u hu
 ·simp at hu; subst hu; exact ⟨s, hs, h1, h2⟩
end Go.Proofs.YtdnpoomagjcpfaaGreat
