/- The reference's Where: pairs of a place and a register; holds. The reference's Where.equal. The reference's Where.without. The reference's Where.put. -/
import Derived.Test.YtdnpoomagjcpfaaGreatAccLaw
import Derived.Test.YtdnpoomagjcpfaaGreatBase
namespace Go.Proofs.YtdnpoomagjcpfaaGreat
open Go.RowKit
set_option linter.unusedVariables false
set_option linter.unusedSimpArgs false

def wpC (z : Int × Int) : List Value := [.int .i64 z.1, .int .i64 z.2]
theorem came_pairs {w : World} {a : Option Addr} {len cap : Nat} {zs : List (Int × Int)} (h : Came w a len cap 2 (zs.map wpC)) (h0 : 0 < len) :
  ∃ b off, a = some ⟨b, off, none⟩ ∧ b < w.heap.size ∧ ∀ i (hi : i < zs.length), w.cell? ⟨b, off + i * 2, none⟩ = some (.int .i64 zs[i].1) ∧ w.cell? ⟨b, off + i * 2 + 1, none⟩ = some (.int .i64 zs[i].2) := by
 obtain ⟨b, off, ha, hb, hc⟩ := h.cells h0 (by omega)
 refine ⟨b, off, ha, hb, fun i hi => ?_⟩
 have hv : (zs.map wpC)[i]? = some (wpC zs[i]) := by rw [List.getElem?_map, List.getElem?_eq_getElem hi]; rfl
 exact ⟨hc i _ hv 0 (by omega), hc i _ hv 1 (by omega)⟩


def eqW (ws vs : List (Int × Int)) : Bool := decide (ws.length = vs.length ∧ ∀ z ∈ ws, z ∈ vs)

def outW (lo hi : Int) (zs : List (Int × Int)) : List (Int × Int) := zs.filter (fun z => decide (z.1 < lo) || decide (hi < z.1))
def RowW (w0 : World) (zs : List (Int × Int)) (e : Ending) (w' : World) : Prop :=
 ∃ v, e = .returned v ∧ w'.ownsRow w0.heap.size 85 2 v zs.length (zs.flatMap wpC) ∧ Below w0.heap.size w0 w'
theorem cells_new2 (w : World) {B : Nat} (hB : w.heap.size = B) (v0 v1 : Value) (t : TypeId) : ∀ j u, [v0, v1][j]? = some u → (w.alloc (.cells #[v0, v1] t)).cell? (Addr.add ⟨B, 0, none⟩ j) = some u := by
 intro j u h
 subst hB
 rw [Addr.add_lit, Nat.zero_add, World.cell?_alloc_new]
 simpa using h
theorem outW_succ {lo hi : Int} {zs : List (Int × Int)} {k : Nat} {z : Int × Int} (h : zs.take (k + 1) = zs.take k ++ [z]) : outW lo hi (zs.take (k + 1)) = outW lo hi (zs.take k) ++ (if z.1 < lo ∨ hi < z.1 then [z] else []) := by
 rw [h]; unfold outW; rw [List.filter_append]
 congr 1
 by_cases h1 : z.1 < lo <;> by_cases h2 : hi < z.1 <;> simp [h1, h2]
theorem outW_len (lo hi : Int) (zs : List (Int × Int)) : (outW lo hi zs).length ≤ zs.length := List.length_filter_le _ _
theorem infoPair : ∃ i, Tryz.prog.info? 85 = some i ∧ i.zero = some (.agg #[.int .i64 0, .int .i64 0]) ∧ i.size = 2 ∧ i.bytes = 16 := info_partsV (by kernel_rfl)

/-- the pairs that stay -/
def keepW (p r : Int) (zs : List (Int × Int)) : List (Int × Int) := zs.filter (fun z => decide (z.1 ≠ p) && decide (z.2 ≠ r))
/-- the pairs of a place that are put behind -/
def addW (p : Int) (out : List (Int × Int)) : List Int → List (Int × Int)
 | [] => out
 | s :: ss => addW p (if (p, s) ∈ out then out else out ++ [(p, s)]) ss
def putW (p r : Int) (also : List Int) (zs : List (Int × Int)) : List (Int × Int) := if p = 0 then keepW p r zs else addW p (keepW p r zs) (also ++ [r])
theorem keepW_succ {p r : Int} {zs : List (Int × Int)} {k : Nat} {z : Int × Int} (h : zs.take (k + 1) = zs.take k ++ [z]) : keepW p r (zs.take (k + 1)) = keepW p r (zs.take k) ++ (if z.1 ≠ p ∧ z.2 ≠ r then [z] else []) := by
 rw [h]; unfold keepW; rw [List.filter_append]
 congr 1
 by_cases h1 : z.1 = p <;> by_cases h2 : z.2 = r <;> simp [h1, h2]
theorem keepW_len (p r : Int) (zs : List (Int × Int)) : (keepW p r zs).length ≤ zs.length := List.length_filter_le _ _
theorem addW_len (p : Int) : ∀ (ss : List Int) (out : List (Int × Int)), (addW p out ss).length ≤ out.length + ss.length
 | [], out => Nat.le_refl _
 | s :: ss, out => by
  have h1 := addW_len p ss out
  have h2 := addW_len p ss (out ++ [(p, s)])
  show (addW p (if (p, s) ∈ out then out else out ++ [(p, s)]) ss).length ≤ _
  by_cases h : (p, s) ∈ out
  ·rw [if_pos h]; simp only [List.length_cons]; omega
  ·rw [if_neg h]; simp only [List.length_append, List.length_cons, List.length_nil] at h2 ⊢; omega
theorem addW_snoc (p s : Int) : ∀ (ss : List Int) (out : List (Int × Int)), addW p out (ss ++ [s]) = if (p, s) ∈ addW p out ss then addW p out ss else addW p out ss ++ [(p, s)]
 | [], out => rfl
 | t :: ss, out => by
  show addW p (if (p, t) ∈ out then out else out ++ [(p, t)]) (ss ++ [s]) = _
  rw [addW_snoc p s ss]
  rfl
theorem flat_getN {α : Type} (E : α → List Value) (sz : Nat) (hE : ∀ z, (E z).length = sz) : ∀ (zs : List α) (i j : Nat), j < sz → (zs.flatMap E)[i * sz + j]? = (zs[i]?).bind fun z => (E z)[j]?
 | [], i, j, _ => by simp
 | z :: zs, i, j, hj => by
  rw [List.flatMap_cons]
  cases i with
  | zero => rw [List.getElem?_append_left (by rw [hE]; omega)]; simp
  | succ i =>
   rw [List.getElem?_append_right (by rw [hE, Nat.succ_mul]; omega), hE, show (i + 1) * sz + j - sz = i * sz + j by rw [Nat.succ_mul]; omega, flat_getN E sz hE zs i j hj]
   simp
/-- an own row as a slice that is handed on -/
theorem came_ofN {w : World} {base : Nat} {e : TypeId} {v : Value} {n sz : Nat} {α : Type} {E : α → List Value} {zs : List α} (hsz : 0 < sz) (hE : ∀ z, (E z).length = sz) (hn : zs.length = n) (h : w.ownsRow base e sz v n (zs.flatMap E)) :
  ∃ a cap, v = .slice a n cap ∧ Came w a n cap sz (zs.map E) := by
 obtain ⟨hl, hr⟩ := h
 have hall : ∀ v ∈ zs.map E, v.length = sz := by
  intro v hv
  obtain ⟨z, _, rfl⟩ := List.mem_map.1 hv
  exact hE z
 rcases hr with ⟨rfl, hx⟩ | ⟨g, c, cur, rfl, hg, hgg, hnc, hcm, hcs, htake⟩
 ·subst hx
  exact ⟨none, 0, rfl, by simpa using hn, Nat.le_refl _, by omega, fun _ => ⟨rfl, rfl⟩, hall, fun h => by omega⟩
 ·refine ⟨some ⟨g, 0, none⟩, c, rfl, by simpa using hn, hnc, by unfold maxLen at hcm; omega, fun h => by simp at h, hall, fun h0 _ => ⟨g, 0, rfl, lt_of_block hgg, fun i v hv j hj => ?_⟩⟩
  rw [List.getElem?_map] at hv
  obtain ⟨z, hz, rfl⟩ := Option.map_eq_some_iff.1 hv
  have hil : i < zs.length := (List.getElem?_eq_some_iff.1 hz).1
  have hlt : i * sz + j < n * sz := by
   have : (i + 1) * sz ≤ n * sz := Nat.mul_le_mul_right sz (by omega)
   rw [Nat.succ_mul] at this; omega
  have h2 : (cur.toList.take (n * sz))[i * sz + j]? = (E z)[j]? := by rw [htake, flat_getN E sz hE zs i j hj, hz]; rfl
  rw [List.getElem?_take, if_pos hlt] at h2
  simp only [World.cell?, hgg, Nat.zero_add]
  simpa using h2
theorem own_tyN {w : World} {base base' : Nat} {e e' : TypeId} {size size' : Nat} {v v' : Value} {n n' : Nat} {l l' : List Value} (h : w.ownsRow base e size v n l) (h' : w.ownsRow base' e' size' v' n' l') (hne : e ≠ e') : ∀ g, v.ownBlock = some g → v'.ownBlock ≠ some g := by
 intro g hg hg'
 rcases h.2 with ⟨rfl, _⟩ | ⟨g1, c, cur, rfl, _, hb, _⟩
 ·simp [Value.ownBlock] at hg
 rcases h'.2 with ⟨rfl, _⟩ | ⟨g2, c', cur', rfl, _, hb', _⟩
 ·simp [Value.ownBlock] at hg'
 have e1 : g1 = g := by simpa [Value.ownBlock] using hg
 have e2 : g2 = g := by simpa [Value.ownBlock] using hg'
 subst e1 e2
 rw [hb] at hb'
 injection hb' with hb'
 injection hb' with _ hb' _
 exact hne hb'
/-- what put answers: a row of its own; only the row that came with it may have grown -/
def PutPost (w0 : World) (av : Value) (zs : List (Int × Int)) (e : Ending) (w' : World) : Prop :=
 ∃ v, e = .returned v ∧ w'.ownsRow w0.heap.size 85 2 v zs.length (zs.flatMap wpC) ∧ RestS (fun k => av.ownBlock = some k) w0 w'
/-- what stands in the second loop -/
structure PutI (w0 w : World) (B0 : Nat) (av v l : Value) (out : List (Int × Int)) (ls : List Int) : Prop where
 own : w.ownsRow w0.heap.size 85 2 v out.length (out.flatMap wpC)
 row : w.ownsRow B0 3 1 l ls.length (ls.map (Value.int .i64))
 rest : RestS (fun k => av.ownBlock = some k) w0 w
theorem PutI.below {w0 w w' : World} {B0 : Nat} {av v l : Value} {out : List (Int × Int)} {ls : List Int} (h : PutI w0 w B0 av v l out ls) (hb : Below w.heap.size w w') : PutI w0 w' B0 av v l out ls :=
 ⟨ownG_below h.own hb, ownG_below h.row hb, h.rest.trans ⟨hb.os, hb.tape, hb.output, hb.size, fun k hk _ => hb.block k hk⟩⟩
theorem PutI.grow {w0 w w' : World} {B0 : Nat} {av v l : Value} {out : List (Int × Int)} {ls : List Int} (h : PutI w0 w B0 av v l out ls) {v' : Value} {out' : List (Int × Int)} (hown : w'.ownsRow w0.heap.size 85 2 v' out'.length (out'.flatMap wpC)) (hg : w.grownBy w' v.ownBlock) : PutI w0 w' B0 av v' l out' ls := by
 refine ⟨hown, ownG_kept h.row fun g hgl => hg.block g (h.row.lt g hgl).2 fun e => own_tyN h.row h.own (by decide) g hgl e.symm, ?_⟩
 have hr := h.rest
 refine ⟨hg.os.trans hr.os, hg.tape.trans hr.tape, hg.output.trans hr.output, Nat.le_trans hr.size hg.size, fun k hk hs => (hg.block k (Nat.lt_of_lt_of_le hk hr.size) fun e => ?_).trans (hr.block k hk hs)⟩
 have := (h.own.lt k e.symm).1
 omega

end Go.Proofs.YtdnpoomagjcpfaaGreat
