/- The errors of an instruction and of a block's end, as functions; tile's 'in'. -/
import Derived.Test.YtlaogkbdjkofaaaVShape
namespace Go.Proofs.Ytlaogkbdjkofaaa
open Go.RowKit
set_option linter.unusedVariables false
set_option linter.unusedSimpArgs false

def formV (s : Sh) (x : VI) : Bool := (!s.d && x.d != 0) || (!s.a && x.a != 0) || (!s.b && x.b != 0) || (!s.n && x.n != 0) || (!s.l && decide (0 < (x.sn : Int)))
def lim31V (x : VI) : Bool := inB x.n (-2147483648) 2147483647
def limV (x : VI) : Bool := (decide (6 < (x.sn : Int)) || !inB x.n (-2147483648) 2147483647) || ((x.op == 101 || x.op == 103) && !inB x.n 0 255) || ((x.op == 9 || x.op == 10) && !inB x.n 0 31) || (x.op == 14 && !inB x.n 0 4095)
def namesV (regs : Int) (l : List Int) : Bool := l.all fun r => inB r 0 (regs - 1)
/-- the error of an instruction -/
def badI (x : VI) (regs : Int) : Int :=
  if shIs x.op = false then 1 else if formV (shV x.op) x = true then 3 else if limV x = true then 4 else if namesV regs (x.d :: x.a :: x.b :: x.args) = false then 6 else 0

set_option maxHeartbeats 400000 in
theorem tin_any (n l h : Int) (w : World) : Calls Try.prog 88 #[.int .i64 n, .int .i64 l, .int .i64 h] w fun e w' => e = .returned (.bool (inB n l h)) ∧ w = w' := by
  go_enter Try.func88, Try.ntmps88
  by_cases h1 : l ≤ n
  · by_cases h2 : n ≤ h
    · go_wp2
      go_ret
      exact ⟨ret_bool (inB_true.2 ⟨h1, h2⟩).symm, rfl⟩
    · go_wp2
      go_ret
      exact ⟨ret_bool (inB_false.2 (.inr (by omega))).symm, rfl⟩
  · go_wp2
    go_ret
    exact ⟨ret_bool (inB_false.2 (.inl (by omega))).symm, rfl⟩

/-- the row of three numbers and the arguments -/
theorem app_three (w : World) (a b d : Int) (sa : Option Addr) (sn sc : Nat) (args : List Int) (hx : Came w sa sn sc 1 (args.map intCells)) (hr : sn * 8 ≤ 140737488351232) (ty : TypeId) :
    ∃ v' w', (Builtin.append_ #[22, 22] ty #[.slice (some ⟨w.heap.size, 0, none⟩) 3 3, .slice sa sn sc]).run Try.prog (w.alloc (.cells #[.int .i64 a, .int .i64 b, .int .i64 d] 3)) = .ok v' w' ∧
      w'.ownsRow w.heap.size 3 1 v' (a :: b :: d :: args).length ((a :: b :: d :: args).map (Value.int .i64)) ∧ Below w.heap.size w w' := by
  have h1 := World.ownsRow_lit (base := w.heap.size) (e := 3) (size := 1) w #[.int .i64 a, .int .i64 b, .int .i64 d] 3 (by simp) (by decide) rfl
  have hb1 : Below w.heap.size w (w.alloc (.cells #[.int .i64 a, .int .i64 b, .int .i64 d] 3)) := (Below.refl _ w).alloc (Nat.le_refl _) _
  obtain ⟨v', w', e1, e2, e3⟩ := run_app _ ty _ w.heap.size 3 [a, b, d] h1 sa sn sc args (hx.below hb1) (by omega) (by simp)
  refine ⟨v', w', e1, ?_, hb1.trans (belowOf (base := 0) e3 (fun g hg => ?_) (by simp))⟩
  · have hl : (a :: b :: d :: args).length = 3 + sn := by have : args.length = sn := by simpa using hx.count
                                                          simp; omega
    rw [hl]; exact e2
  · have : g = w.heap.size := by simpa [Value.ownBlock] using hg.symm
    omega

def endMany (kind : Int) : Int := if kind == 1 then 1 else if kind == 2 then 2 else 0
def endOk (x : VE) : Bool :=
  if x.kind == 0 then (x.op == 0 && x.b == 0) && x.n == 0
  else if x.kind == 1 then ((x.op == 0 && x.a == 0) && x.b == 0) && x.n == 0
  else if x.kind == 2 then ((x.op == 16 || x.op == 17) || x.op == 18) && x.n == 0
  else ((x.op == 0 && x.a == 0) && x.b == 0) && inB x.n 1 6
def toV (blocks : Int) (l : List Int) : Bool := l.all fun r => inB r 1 (blocks - 1)
/-- the error of the end of a block -/
def badE (x : VE) (regs blocks : Int) : Int :=
  if ¬ (0 ≤ x.kind ∧ x.kind ≤ 3) then 1 else if endOk x = false ∨ (x.sn : Int) ≠ endMany x.kind then 3 else if inB x.a 0 (regs - 1) = false ∨ inB x.b 0 (regs - 1) = false then 6 else if toV blocks x.to = false then 4 else 0

end Go.Proofs.Ytlaogkbdjkofaaa
