/- The ports' operations as a row: how many there are, and each. -/
import Derived.Test.YtgkcackpffimmaaP11
set_option linter.unusedVariables false
set_option linter.unusedSimpArgs false
set_option maxRecDepth 10000
set_option maxHeartbeats 4000000
namespace Go.Proofs.Ytgkcackpffimmaa
open Go.TM

@[go_sem ↓] theorem lenOps (r : Row Opn) : tlenOp (mkTab Try.prog) 72 (rowTV opC r) = some (.int .i64 r.l.length) := tlen_row tab72 rfl
@[go_sem ↓] theorem ixOps {k : IntKind} {n : Int} (r : Row Opn) (h0 : 0 ≤ n) (h1 : n < r.l.length) : tindexAddr (mkTab Try.prog) 72 (rowTV opC r) (.int k n) =
    some (.cp (.int .i64 (nth r.l n.toNat).ask :: .int .i64 (nth r.l n.toNat).now :: .int .i64 (nth r.l n.toNat).port :: .str (B (nth r.l n.toNat).data) :: (r.l.drop (n.toNat + 1)).flatMap opC)) :=
  tix_row tab72 rfl tab74 (fun _ => rfl) (by decide) h0 h1
end Go.Proofs.Ytgkcackpffimmaa
