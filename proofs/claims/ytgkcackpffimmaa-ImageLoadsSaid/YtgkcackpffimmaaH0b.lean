/- Sealed texts, as the document seals and opens them. -/
import Derived.Test.YtgkcackpffimmaaC3b
import Derived.Test.YtgkcackpffimmaaH0
import Derived.Test.YtgkcackpffimmaaD2
set_option linter.unusedVariables false
set_option linter.unusedSimpArgs false
set_option maxRecDepth 10000
set_option maxHeartbeats 4000000
namespace Go.Proofs.Ytgkcackpffimmaa
open Go.TM

theorem refseal_pure (l : List UInt8) (σ : TS) (h : l.length ≤ 100000) : TPure Try.prog 105 [.str (B l)] σ (.str (B (sealL l))) := refseal_walk (B l) σ (by rw [B_size]; exact h)
theorem refopen_pure (l : List UInt8) (σ : TS) (h : l.length ≤ 100000) : TPure Try.prog 119 [.str (B l)] σ (.tup [.str (B (openL l).1), .int .i64 (openL l).2]) := by
  have := refopen_walk (B l) σ (by rw [B_size]; exact h)
  rw [openB_B] at this
  exact this
end Go.Proofs.Ytgkcackpffimmaa
