/- The reference's Where: pairs of a place and a register; holds. The reference's Where.equal. The reference's Where.without. The reference's Where.put. -/
import Derived.Test.YtlcnbihfpjhffaaAccLaw
import Derived.Test.YtlcnbihfpjhffaaBase
namespace Go.Proofs.Ytlcnbihfpjhffaa
open Go.RowKit
set_option linter.unusedVariables false
set_option linter.unusedSimpArgs false

def wpC (z : Int × Int) : List Value := [.int .i64 z.1, .int .i64 z.2]



theorem infoPair : ∃ i, Try.prog.info? 32 = some i ∧ i.zero = some (.agg #[.int .i64 0, .int .i64 0]) ∧ i.size = 2 ∧ i.bytes = 16 := info_partsV (by kernel_rfl)

theorem flat_getN {α : Type} (E : α → List Value) (sz : Nat) (hE : ∀ z, (E z).length = sz) : ∀ (zs : List α) (i j : Nat), j < sz → (zs.flatMap E)[i * sz + j]? = (zs[i]?).bind fun z => (E z)[j]?
 | [], i, j, _ => by simp
 | z :: zs, i, j, hj => by
  rw [List.flatMap_cons]
  cases i with
  | zero => rw [List.getElem?_append_left (by rw [hE]; omega)]; simp
  | succ i =>
   rw [List.getElem?_append_right (by rw [hE, Nat.succ_mul]; omega), hE, show (i + 1) * sz + j - sz = i * sz + j by rw [Nat.succ_mul]; omega, flat_getN E sz hE zs i j hj]
   simp
/-- an own row as a slice that is handed on -/
theorem came_ofN {w : World} {base : Nat} {e : TypeId} {v : Value} {n sz : Nat} {α : Type} {E : α → List Value} {zs : List α} (hsz : 0 < sz) (hE : ∀ z, (E z).length = sz) (hn : zs.length = n) (h : w.ownsRow base e sz v n (zs.flatMap E)) :
  ∃ a cap, v = .slice a n cap ∧ Came w a n cap sz (zs.map E) := by
 obtain ⟨hl, hr⟩ := h
 have hall : ∀ v ∈ zs.map E, v.length = sz := by
  intro v hv
  obtain ⟨z, _, rfl⟩ := List.mem_map.1 hv
  exact hE z
 rcases hr with ⟨rfl, hx⟩ | ⟨g, c, cur, rfl, hg, hgg, hnc, hcm, hcs, htake⟩
 ·subst hx
  exact ⟨none, 0, rfl, by simpa using hn, Nat.le_refl _, by omega, fun _ => ⟨rfl, rfl⟩, hall, fun h => by omega⟩
 ·refine ⟨some ⟨g, 0, none⟩, c, rfl, by simpa using hn, hnc, by unfold maxLen at hcm; omega, fun h => by simp at h, hall, fun h0 _ => ⟨g, 0, rfl, lt_of_block hgg, fun i v hv j hj => ?_⟩⟩
  rw [List.getElem?_map] at hv
  obtain ⟨z, hz, rfl⟩ := Option.map_eq_some_iff.1 hv
  have hil : i < zs.length := (List.getElem?_eq_some_iff.1 hz).1
  have hlt : i * sz + j < n * sz := by
   have : (i + 1) * sz ≤ n * sz := Nat.mul_le_mul_right sz (by omega)
   rw [Nat.succ_mul] at this; omega
  have h2 : (cur.toList.take (n * sz))[i * sz + j]? = (E z)[j]? := by rw [htake, flat_getN E sz hE zs i j hj, hz]; rfl
  rw [List.getElem?_take, if_pos hlt] at h2
  simp only [World.cell?, hgg, Nat.zero_add]
  simpa using h2
theorem own_tyN {w : World} {base base' : Nat} {e e' : TypeId} {size size' : Nat} {v v' : Value} {n n' : Nat} {l l' : List Value} (h : w.ownsRow base e size v n l) (h' : w.ownsRow base' e' size' v' n' l') (hne : e ≠ e') : ∀ g, v.ownBlock = some g → v'.ownBlock ≠ some g := by
 intro g hg hg'
 rcases h.2 with ⟨rfl, _⟩ | ⟨g1, c, cur, rfl, _, hb, _⟩
 ·simp [Value.ownBlock] at hg
 rcases h'.2 with ⟨rfl, _⟩ | ⟨g2, c', cur', rfl, _, hb', _⟩
 ·simp [Value.ownBlock] at hg'
 have e1 : g1 = g := by simpa [Value.ownBlock] using hg
 have e2 : g2 = g := by simpa [Value.ownBlock] using hg'
 subst e1 e2
 rw [hb] at hb'
 injection hb' with hb'
 injection hb' with _ hb' _
 exact hne hb'

end Go.Proofs.Ytlcnbihfpjhffaa
