/- Accepted's closure 'good': each used register is held by its place. Accepted's memory, and what its list of states says. No function of the program is walked. -/
import Derived.Test.YtlcnbihfpjhffaaAccRef
import Derived.Test.YtlcnbihfpjhffaaBase
namespace Go.Proofs.Ytlcnbihfpjhffaa
open Go.RowKit
set_option linter.unusedVariables false
set_option linter.unusedSimpArgs false

theorem blk_range {w : World} {b : Nat} {t : TypeId} {cs : List Value} (h : Blk w b t cs) : w.rangeAt b 0 cs := by
 intro j v hv
 rw [Blk.cell h (0 + j), Nat.zero_add]
 exact hv
end Go.Proofs.Ytlcnbihfpjhffaa
