/- Plain laws on what Decode answers. -/
import Derived.Test.YtekckijcljgaoaaDecode
namespace Go.Proofs.Ytekckijcljgaoaa
open Go.RowKit
set_option linter.unusedVariables false

theorem Came.take {w : World} {a : Option Addr} {len cap sz : Nat} {vs : List (List Value)} (h : Came w a len cap sz vs) (n : Nat) (hn : n ≤ len) (hn0 : 0 < n) : Came w a n cap sz (vs.take n) := by
  refine ⟨by have := h.count; simp; omega, by have := h.le; omega, h.max, fun ha => by have := (h.nil ha).1; omega, fun v hv => h.size v (List.mem_of_mem_take hv), fun h0 h1 => ?_⟩
  obtain ⟨b, off, ha, hb, hc⟩ := h.cells (by omega) h1
  exact ⟨b, off, ha, hb, fun i v hv j hj => hc i v (by rw [List.getElem?_take] at hv; split at hv <;> simp_all) j hj⟩

theorem decFin_cases (w n size : Int) : decFin w n size = decBad 3 ∨ (checkE (w / 134217728) (w / 4194304 % 16) (w / 262144 % 16) (w / 16384 % 16) n = 0 ∧ decFin w n size = ⟨w / 134217728, w / 4194304 % 16, w / 262144 % 16, w / 16384 % 16, n, size, 0⟩) := by
  unfold decFin; split
  · exact .inr ⟨by assumption, rfl⟩
  · exact .inl rfl

/-- the three outcomes of Decode -/
theorem decode_cases (zs : List Int) :
    (∃ e, decode zs = decBad e ∧ (e = 3 ∨ e = 12)) ∨
    (∃ q, decode zs = q ∧ q.err = 0 ∧ q.size = 1 ∧ 1 ≤ zs.length ∧ checkE q.op q.d q.a q.b q.n = 0 ∧ shortB q.n = true ∧ zs.take 1 = encWords q.op q.d q.a q.b q.n) ∨
    (∃ q, decode zs = q ∧ q.err = 0 ∧ q.size = 2 ∧ 2 ≤ zs.length ∧ checkE q.op q.d q.a q.b q.n = 0 ∧ zs.take 2 = longWords q.op q.d q.a q.b q.n) := by
  match zs with
  | [] => exact .inl ⟨12, rfl, .inr rfl⟩
  | x :: r =>
    show (∃ e, decWord x r = decBad e ∧ _) ∨ (∃ q, decWord x r = q ∧ _) ∨ (∃ q, decWord x r = q ∧ _)
    unfold decWord
    by_cases h1 : (0 ≤ x ∧ x ≤ 4294967295) ∧ x / 256 % 64 = 0
    · rw [if_pos h1]
      by_cases h2 : x / 67108864 % 2 = 1
      · rw [if_pos h2]
        by_cases h3 : x % 256 = 0
        · rw [if_pos h3]
          match r with
          | [] => exact .inl ⟨12, rfl, .inr rfl⟩
          | y :: r' =>
            show (∃ e, (if 0 ≤ y ∧ y ≤ 4294967295 then decFin x (wrap32 y) 2 else decBad 3) = decBad e ∧ _) ∨ (∃ q, (if 0 ≤ y ∧ y ≤ 4294967295 then decFin x (wrap32 y) 2 else decBad 3) = q ∧ _) ∨ (∃ q, (if 0 ≤ y ∧ y ≤ 4294967295 then decFin x (wrap32 y) 2 else decBad 3) = q ∧ _)
            by_cases h4 : 0 ≤ y ∧ y ≤ 4294967295
            · rw [if_pos h4]
              rcases decFin_cases x (wrap32 y) 2 with h5 | ⟨h5, h6⟩
              · exact .inl ⟨3, h5, .inl rfl⟩
              · refine .inr (.inr ⟨_, h6, rfl, rfl, by simp, h5, ?_⟩)
                simp only [List.take_succ_cons, List.take_zero, longWords, wordOf, List.cons.injEq, and_true]
                unfold wrap32
                omega
            · rw [if_neg h4]; exact .inl ⟨3, rfl, .inl rfl⟩
        · rw [if_neg h3]; exact .inl ⟨3, rfl, .inl rfl⟩
      · rw [if_neg h2]
        rcases decFin_cases x (n8 x) 1 with h5 | ⟨h5, h6⟩
        · exact .inl ⟨3, h5, .inl rfl⟩
        · have hb := i8_bd (x % 256)
          have hs : shortB (n8 x) = true := inB_true.2 (by unfold n8; omega)
          refine .inr (.inl ⟨_, h6, rfl, rfl, by simp, h5, hs, ?_⟩)
          have hw : n8 x % 256 = x % 256 := by
            unfold n8
            simp only [IntKind.wrap, IntKind.bits, IntKind.signed]; simp; split <;> omega
          unfold encWords
          rw [if_pos hs]
          simp only [List.take_succ_cons, List.take_zero, wordOf, List.cons.injEq, and_true]
          show x = _ + n8 x % 256
          rw [hw]
          omega
    · rw [if_neg h1]; exact .inl ⟨3, rfl, .inl rfl⟩
end Go.Proofs.Ytekckijcljgaoaa
