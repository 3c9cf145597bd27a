/- An allocation that came in. -/
import Derived.Test.YtlcnbihfpjhffaaComeVfn
import Derived.Test.YtlcnbihfpjhffaaAllocC
namespace Go.Proofs.Ytlcnbihfpjhffaa
open Go.Joins Go.ChangeShapes Go.WideShapes Go.ChangeAt Go.RowKit Go.Deep
set_option linter.unusedVariables false

section
variable {H : Type} {enc : TypeId × Value → H} {w : World} {base : Nat} {held : Bool}
set_option maxRecDepth 100000 in
theorem come_al {v : Value} {b0 : Nat} {d : DataW H} {p : List MemPlace} (hv : Value.okWide Try.prog w .any b0 34 v) (h : DataW.Trod enc Try.prog w base (fun _ => true) held 34 v d p) (hw : ∀ y ∈ d.weights Try.prog 34, y ≤ reachBytes) :
    ∃ a : AL, v = a.v ∧ a.Ok w := by
  obtain ⟨v0, v1, v2, y0, y1, y2, n, rfl, rfl, rfl, h0, h1, h2⟩ := open_agg3 Try.underlying34 (by kernel_rfl) (by kernel_rfl) hv h
  have hwe : ∀ y, y ∈ y0.1.weights Try.prog 22 ∨ y ∈ y1.1.weights Try.prog 22 → y ≤ reachBytes := fun y hy => by
    refine hw y ?_
    rw [DataW.weights, Try.underlying34]
    simp only [List.map_cons, List.map_nil, DataW.weightsEach, List.mem_append]
    exact hy.elim .inl fun h => .inr (.inl h)
  obtain ⟨z2, rfl, i2⟩ := int_cellV (c := v2) Try.underlying3 h2
  obtain ⟨ra, rn, rc, rfl, h4⟩ := slice_cellV (c := v0) Try.underlying22 h0
  obtain ⟨sa, sn, sc, rfl, h5⟩ := slice_cellV (c := v1) Try.underlying22 h1
  obtain ⟨rs, j1, j2, j3⟩ := come_intsW Try.underlying22 Try.underlying3 (by kernel_rfl) (by kernel_rfl) h4 (fun y hy => hwe y (.inl hy))
  obtain ⟨ss, k1, k2, k3⟩ := come_intsW Try.underlying22 Try.underlying3 (by kernel_rfl) (by kernel_rfl) h5 (fun y hy => hwe y (.inr hy))
  exact ⟨⟨ra, rn, rc, rs, sa, sn, sc, ss, z2⟩, rfl, j1, j3, j2, k1, k3, k2, i2⟩
end
end Go.Proofs.Ytlcnbihfpjhffaa
