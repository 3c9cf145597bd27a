/- The contract of insn's Check. -/
import Derived.Test.YtgcbdndfobiphabInsnA
import Derived.Deep.Cut
import Derived.Deep.CutRange
import Derived.Deep.DeepCutAuto
namespace Go.Proofs.Ytgcbdndfobiphab
open Go.RowKit
set_option linter.unusedVariables false

def rangeBad (d a b n : Int) : Bool := !inB d 0 15 || !inB a 0 15 || !inB b 0 15 || !inB n (-2147483648) 2147483647
def formBad (u : Uses) (d a b n : Int) : Bool := (!u.d && d != 0) || (!u.a && a != 0) || (!u.b && b != 0) || (!u.n && n != 0)
def limBad (op n : Int) : Bool := ((op == 9 || op == 10) && !inB n 0 31) || (op == 14 && !inB n 0 4095) || (op == 24 && !inB n 1 6)
/-- what Check answers -/
def checkE (op d a b n : Int) : Int :=
  if inB op 0 24 = false then 1 else if rangeBad d a b n = true then 4 else if formBad (usesOf op) d a b n = true then 3 else if limBad op n = true then 4 else 0

def opV (op d a b n : Int) : Value := .agg #[.int .i64 op, .int .i64 d, .int .i64 a, .int .i64 b, .int .i64 n]

def CheckPost (op d a b n : Int) (w : World) (e : Ending) (w' : World) : Prop := e = .returned (.int .i64 (checkE op d a b n)) ∧ Below w.heap.size w w'

set_option maxRecDepth 100000 in
set_option maxHeartbeats 2000000 in
theorem check_any (op d a b n : Int) (w : World) : Calls Try.prog 25 #[.agg #[.int .i64 op, .int .i64 d, .int .i64 a, .int .i64 b, .int .i64 n]] w (CheckPost op d a b n w) := by
  by_cases h0 : inB op 0 24 = true
  · have h0' : (!inB op 0 24) = false := by simp [h0]
    have HU := fun w => Lib.hid (used_any op w (inB_true.1 h0))
    obtain ⟨u, hu⟩ : ∃ u, u = usesOf op := ⟨_, rfl⟩
    have HCE : Hid (checkE op d a b n = if rangeBad d a b n = true then 4 else if formBad u d a b n = true then 3 else if limBad op n = true then 4 else 0) := by
      unfold Hid checkE; rw [if_neg (by simp [h0]), hu]
    have hup : ∀ w, UsedPost op w = fun e w' => e = .returned (.agg #[.bool u.d, .bool u.a, .bool u.b, .bool u.n]) ∧ w' = w.alloc (.cells #[.bool u.d, .bool u.a, .bool u.b, .bool u.n] 58) := by intro w; subst hu; rfl
    have HUP := Lib.hid hup
    clear hu hup
    go_enter Try.func25, Try.ntmps25
    go_upto_region 3 with (go_at_call 31; refine (iin_any _ _ _ _).mono ?_; rintro e w' ⟨rfl, rfl⟩)
    go_cut [29] from 8 (fun s wx => s = .bool (rangeBad d a b n) ∧ wx = w.alloc (.cells #[.int .i64 op, .int .i64 d, .int .i64 a, .int .i64 b, .int .i64 n] 27))
    case first =>
      have hs : inB d 0 15 = false ∨ (inB d 0 15 = true ∧ (inB a 0 15 = false ∨ (inB a 0 15 = true ∧ (inB b 0 15 = false ∨ (inB b 0 15 = true ∧ (inB n (-2147483648) 2147483647 = false ∨ inB n (-2147483648) 2147483647 = true)))))) := by
        cases inB d 0 15 <;> cases inB a 0 15 <;> cases inB b 0 15 <;> cases inB n (-2147483648) 2147483647 <;> simp
      rcases hs with h1 | ⟨h1, h2 | ⟨h2, h3 | ⟨h3, h4 | h4⟩⟩⟩
      all_goals
        go_wp2_with (go_at_call 31; refine (iin_any _ _ _ _).mono ?_; rintro e w' ⟨rfl, rfl⟩)
        go_meet
        exact ⟨by simp [rangeBad, *], rfl⟩
    case rest =>
      obtain ⟨rfl, rfl⟩ := hcut
      cases hrb : rangeBad d a b n
      · go_upto_region 6 with (go_at_call 32; refine (HU _).out.mono ?_; rw [HUP.out]; rintro e w' ⟨rfl, rfl⟩)
        go_cut [70] from 33 (fun s wx => s = .bool (formBad u d a b n) ∧ wx = ((w.alloc (.cells #[.int .i64 op, .int .i64 d, .int .i64 a, .int .i64 b, .int .i64 n] 27)).alloc (.cells #[.bool u.d, .bool u.a, .bool u.b, .bool u.n] 58)).alloc (.cells #[.bool u.d, .bool u.a, .bool u.b, .bool u.n] 58))
        case first =>
          obtain ⟨ud, ua, ub, un⟩ := u
          have tri : ∀ (x : Bool) (k : Int), (x = false ∧ (k != 0) = true) ∨ x = true ∨ (x = false ∧ (k != 0) = false) := by
            intro x k; cases x <;> cases (k != 0) <;> simp
          have T1 := Lib.hid (tri ud d)
          have T2 := Lib.hid (tri ua a)
          have T3 := Lib.hid (tri ub b)
          have T4 := Lib.hid (tri un n)
          clear tri
          rcases T1.out with ⟨rfl, h1⟩ | rfl | ⟨rfl, h1⟩
          · clear T1 T2 T3 T4
            go_wp2
            go_meet
            exact ⟨by simp [formBad, *], rfl⟩
          · clear T1
            rcases T2.out with ⟨rfl, h2⟩ | rfl | ⟨rfl, h2⟩
            · clear T2 T3 T4
              go_wp2
              go_meet
              exact ⟨by simp [formBad, *], rfl⟩
            · clear T2
              rcases T3.out with ⟨rfl, h3⟩ | rfl | ⟨rfl, h3⟩
              · clear T3 T4
                go_wp2
                go_meet
                exact ⟨by simp [formBad, *], rfl⟩
              · clear T3
                rcases T4.out with ⟨rfl, h4⟩ | rfl | ⟨rfl, h4⟩
                · clear T4
                  go_wp2
                  go_meet
                  exact ⟨by simp [formBad, *], rfl⟩
                · clear T4
                  go_wp2
                  go_meet
                  exact ⟨by simp [formBad, *], rfl⟩
                · clear T4
                  go_wp2
                  go_meet
                  exact ⟨by simp [formBad, *], rfl⟩
              · clear T3
                rcases T4.out with ⟨rfl, h4⟩ | rfl | ⟨rfl, h4⟩
                · clear T4
                  go_wp2
                  go_meet
                  exact ⟨by simp [formBad, *], rfl⟩
                · clear T4
                  go_wp2
                  go_meet
                  exact ⟨by simp [formBad, *], rfl⟩
                · clear T4
                  go_wp2
                  go_meet
                  exact ⟨by simp [formBad, *], rfl⟩
            · clear T2
              rcases T3.out with ⟨rfl, h3⟩ | rfl | ⟨rfl, h3⟩
              · clear T3 T4
                go_wp2
                go_meet
                exact ⟨by simp [formBad, *], rfl⟩
              · clear T3
                rcases T4.out with ⟨rfl, h4⟩ | rfl | ⟨rfl, h4⟩
                · clear T4
                  go_wp2
                  go_meet
                  exact ⟨by simp [formBad, *], rfl⟩
                · clear T4
                  go_wp2
                  go_meet
                  exact ⟨by simp [formBad, *], rfl⟩
                · clear T4
                  go_wp2
                  go_meet
                  exact ⟨by simp [formBad, *], rfl⟩
              · clear T3
                rcases T4.out with ⟨rfl, h4⟩ | rfl | ⟨rfl, h4⟩
                · clear T4
                  go_wp2
                  go_meet
                  exact ⟨by simp [formBad, *], rfl⟩
                · clear T4
                  go_wp2
                  go_meet
                  exact ⟨by simp [formBad, *], rfl⟩
                · clear T4
                  go_wp2
                  go_meet
                  exact ⟨by simp [formBad, *], rfl⟩
          · clear T1
            rcases T2.out with ⟨rfl, h2⟩ | rfl | ⟨rfl, h2⟩
            · clear T2 T3 T4
              go_wp2
              go_meet
              exact ⟨by simp [formBad, *], rfl⟩
            · clear T2
              rcases T3.out with ⟨rfl, h3⟩ | rfl | ⟨rfl, h3⟩
              · clear T3 T4
                go_wp2
                go_meet
                exact ⟨by simp [formBad, *], rfl⟩
              · clear T3
                rcases T4.out with ⟨rfl, h4⟩ | rfl | ⟨rfl, h4⟩
                · clear T4
                  go_wp2
                  go_meet
                  exact ⟨by simp [formBad, *], rfl⟩
                · clear T4
                  go_wp2
                  go_meet
                  exact ⟨by simp [formBad, *], rfl⟩
                · clear T4
                  go_wp2
                  go_meet
                  exact ⟨by simp [formBad, *], rfl⟩
              · clear T3
                rcases T4.out with ⟨rfl, h4⟩ | rfl | ⟨rfl, h4⟩
                · clear T4
                  go_wp2
                  go_meet
                  exact ⟨by simp [formBad, *], rfl⟩
                · clear T4
                  go_wp2
                  go_meet
                  exact ⟨by simp [formBad, *], rfl⟩
                · clear T4
                  go_wp2
                  go_meet
                  exact ⟨by simp [formBad, *], rfl⟩
            · clear T2
              rcases T3.out with ⟨rfl, h3⟩ | rfl | ⟨rfl, h3⟩
              · clear T3 T4
                go_wp2
                go_meet
                exact ⟨by simp [formBad, *], rfl⟩
              · clear T3
                rcases T4.out with ⟨rfl, h4⟩ | rfl | ⟨rfl, h4⟩
                · clear T4
                  go_wp2
                  go_meet
                  exact ⟨by simp [formBad, *], rfl⟩
                · clear T4
                  go_wp2
                  go_meet
                  exact ⟨by simp [formBad, *], rfl⟩
                · clear T4
                  go_wp2
                  go_meet
                  exact ⟨by simp [formBad, *], rfl⟩
              · clear T3
                rcases T4.out with ⟨rfl, h4⟩ | rfl | ⟨rfl, h4⟩
                · clear T4
                  go_wp2
                  go_meet
                  exact ⟨by simp [formBad, *], rfl⟩
                · clear T4
                  go_wp2
                  go_meet
                  exact ⟨by simp [formBad, *], rfl⟩
                · clear T4
                  go_wp2
                  go_meet
                  exact ⟨by simp [formBad, *], rfl⟩
        case rest =>
          obtain ⟨rfl, rfl⟩ := hcut
          cases hfb : formBad u d a b n
          · go_upto_region 8 with fail
            go_cut [106] from 71 (fun s wx => s = .bool (limBad op n) ∧ wx = ((w.alloc (.cells #[.int .i64 op, .int .i64 d, .int .i64 a, .int .i64 b, .int .i64 n] 27)).alloc (.cells #[.bool u.d, .bool u.a, .bool u.b, .bool u.n] 58)).alloc (.cells #[.bool u.d, .bool u.a, .bool u.b, .bool u.n] 58))
            case first =>
              by_cases h9 : op = 9
              · subst h9
                cases h1 : inB n 0 31
                all_goals
                  go_wp2_with (go_at_call 31; refine (iin_any _ _ _ _).mono ?_; rintro e w' ⟨rfl, rfl⟩)
                  go_meet
                  exact ⟨by simp [limBad, h1], rfl⟩
              · by_cases h10 : op = 10
                · subst h10
                  cases h1 : inB n 0 31
                  all_goals
                    go_wp2_with (go_at_call 31; refine (iin_any _ _ _ _).mono ?_; rintro e w' ⟨rfl, rfl⟩)
                    go_meet
                    exact ⟨by simp [limBad, h1], rfl⟩
                · by_cases h14 : op = 14
                  · subst h14
                    cases h1 : inB n 0 4095
                    all_goals
                      go_wp2_with (go_at_call 31; refine (iin_any _ _ _ _).mono ?_; rintro e w' ⟨rfl, rfl⟩)
                      go_meet
                      exact ⟨by simp [limBad, h1], rfl⟩
                  · by_cases h24 : op = 24
                    · subst h24
                      cases h1 : inB n 1 6
                      all_goals
                        go_wp2_with (go_at_call 31; refine (iin_any _ _ _ _).mono ?_; rintro e w' ⟨rfl, rfl⟩)
                        go_meet
                        exact ⟨by simp [limBad, h1], rfl⟩
                    · have g9 : (op == 9) = false := beq_eq_false_iff_ne.2 h9
                      have g10 : (op == 10) = false := beq_eq_false_iff_ne.2 h10
                      have g14 : (op == 14) = false := beq_eq_false_iff_ne.2 h14
                      have g24 : (op == 24) = false := beq_eq_false_iff_ne.2 h24
                      clear h9 h10 h14 h24
                      go_wp2_with (go_at_call 31; refine (iin_any _ _ _ _).mono ?_; rintro e w' ⟨rfl, rfl⟩)
                      go_meet
                      exact ⟨by simp [limBad, *], rfl⟩
            case rest =>
              obtain ⟨rfl, rfl⟩ := hcut
              cases hlb : limBad op n
              all_goals
                go_wp2
                go_ret
                exact ⟨by rw [HCE.out, hrb, hfb, hlb]; rfl, (((Below.refl _ _).alloc (Nat.le_refl _) _).alloc (by simp) _).alloc (by simp; omega) _⟩
          · go_wp2
            go_ret
            exact ⟨by rw [HCE.out, hrb, hfb]; rfl, (((Below.refl _ _).alloc (Nat.le_refl _) _).alloc (by simp) _).alloc (by simp; omega) _⟩
      · go_wp2
        go_ret
        exact ⟨by rw [HCE.out, hrb]; rfl, (Below.refl _ _).alloc (Nat.le_refl _) _⟩
  · have h0' : (!inB op 0 24) = true := by simp [h0]
    have h0f : inB op 0 24 = false := by simpa using h0
    have HCE : Hid (checkE op d a b n = 1) := by unfold Hid checkE; rw [if_pos h0f]
    go_enter Try.func25, Try.ntmps25
    go_wp2_with (go_at_call 31; refine (iin_any _ _ _ _).mono ?_; rintro e w' ⟨rfl, rfl⟩)
    go_ret
    exact ⟨by rw [HCE.out]; rfl, (Below.refl _ _).alloc (Nat.le_refl _) _⟩
end Go.Proofs.Ytgcbdndfobiphab
