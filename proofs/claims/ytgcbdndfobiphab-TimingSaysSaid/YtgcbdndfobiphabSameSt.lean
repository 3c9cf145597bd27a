/- The reference's SameState at two equal states. -/
import Derived.Test.YtgcbdndfobiphabTimeG
import Derived.Test.YtgcbdndfobiphabSameInts
import Derived.Deep.MidRow
namespace Go.Proofs.Ytgcbdndfobiphab
open Go.RowKit
set_option linter.unusedVariables false
set_option linter.unusedSimpArgs false

set_option maxRecDepth 100000 in
theorem eq16I (f : Nat → Int) (w : World) : (Op.equalIn 10000 22 (.agg #[.int .i64 (f 0), .int .i64 (f 1), .int .i64 (f 2), .int .i64 (f 3), .int .i64 (f 4), .int .i64 (f 5), .int .i64 (f 6), .int .i64 (f 7), .int .i64 (f 8), .int .i64 (f 9), .int .i64 (f 10), .int .i64 (f 11), .int .i64 (f 12), .int .i64 (f 13), .int .i64 (f 14), .int .i64 (f 15)]) (.agg #[.int .i64 (f 0), .int .i64 (f 1), .int .i64 (f 2), .int .i64 (f 3), .int .i64 (f 4), .int .i64 (f 5), .int .i64 (f 6), .int .i64 (f 7), .int .i64 (f 8), .int .i64 (f 9), .int .i64 (f 10), .int .i64 (f 11), .int .i64 (f 12), .int .i64 (f 13), .int .i64 (f 14), .int .i64 (f 15)])).run Try.prog w = .ok true w := by
  have u3 := Try.underlying3
  have a3 := Try.isAgg3
  have z3 := Try.sizeOf3
  rw [show (10000 : Nat) = 9999 + 1 from rfl, Op.equalIn]
  simp only [Sem.run_bind, run_underlying Try.underlying22, Result.andThen_ok]
  simp only [Std.Legacy.Range.forIn_eq_forIn_range', Std.Legacy.Range.size, Nat.sub_zero, Nat.add_sub_cancel, Nat.div_one, List.range'_succ, List.range'_zero, List.forIn_cons, List.forIn_nil]
  go_simp

set_option maxRecDepth 100000 in
set_option maxHeartbeats 4000000 in
theorem sameState_ok (S : TI) (a1 : Option Addr) (c1 : Nat) (a2 : Option Addr) (c2 : Nat) (w : World) (h1 : Came w a1 S.wr.length c1 1 (S.wr.map intCells)) (h2 : Came w a2 S.wr.length c2 1 (S.wr.map intCells)) :
    Calls Try.prog 18 #[.agg (tiCells S (.slice a1 S.wr.length c1)).toArray, .agg (tiCells S (.slice a2 S.wr.length c2)).toArray] w fun e w' => e = .returned (.bool true) ∧ Below w.heap.size w w' := by
  obtain ⟨nx, dv, dn, rd, wr⟩ := S
  simp only [tiCells] at *
  have HB0 : Hid (Below w.heap.size w ((w.alloc (.cells #[.int .i64 nx, .int .i64 dv, .int .i64 dn, .int .i64 (rd 0), .int .i64 (rd 1), .int .i64 (rd 2), .int .i64 (rd 3), .int .i64 (rd 4), .int .i64 (rd 5), .int .i64 (rd 6), .int .i64 (rd 7), .int .i64 (rd 8), .int .i64 (rd 9), .int .i64 (rd 10), .int .i64 (rd 11), .int .i64 (rd 12), .int .i64 (rd 13), .int .i64 (rd 14), .int .i64 (rd 15), .slice a1 wr.length c1] 25)).alloc (.cells #[.int .i64 nx, .int .i64 dv, .int .i64 dn, .int .i64 (rd 0), .int .i64 (rd 1), .int .i64 (rd 2), .int .i64 (rd 3), .int .i64 (rd 4), .int .i64 (rd 5), .int .i64 (rd 6), .int .i64 (rd 7), .int .i64 (rd 8), .int .i64 (rd 9), .int .i64 (rd 10), .int .i64 (rd 11), .int .i64 (rd 12), .int .i64 (rd 13), .int .i64 (rd 14), .int .i64 (rd 15), .slice a2 wr.length c2] 25))) := ((Below.refl _ _).alloc (Nat.le_refl _) _).alloc (by simp) _
  have HSI := fun w h1 h2 => Lib.hid (same_ints w a1 wr.length c1 wr a2 wr.length c2 wr h1 h2)
  simp only [decide_true] at HSI
  have HC1 := Lib.hid (h1.below HB0.out)
  have HC2 := Lib.hid (h2.below HB0.out)
  have heq := eq16I rd
  have hgt : Try.prog.eqGuardType Try.prog.depth 22 = false := by kernel_rfl
  have e1 : (nx == nx) = true := by simp
  have e2 : (dv == dv) = true := by simp
  have e3 : (dn == dn) = true := by simp
  clear h1 h2
  go_enter Try.func18, Try.ntmps18
  go_wp2_with fail
  refine (HSI _ HC1.out HC2.out).out.mono ?_
  rintro e w' ⟨n, rfl, rfl⟩
  go_wp2_with fail
  go_ret
  exact ⟨rfl, HB0.out.trans (below_drewN_self _ _ _)⟩
end Go.Proofs.Ytgcbdndfobiphab
