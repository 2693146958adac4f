/- The image: what is loaded is encoded as the same bytes. -/
import Derived.Test.YtgkcackpffimmaaI17
import Derived.Test.YtgkcackpffimmaaI4a
set_option linter.unusedVariables false
set_option linter.unusedSimpArgs false
set_option maxRecDepth 10000
set_option maxHeartbeats 4000000
namespace Go.Proofs.Ytgkcackpffimmaa
open Go.TM

theorem ior_i64 {a b n : Int} (h : ior .u64 a b = n) (hn : n ≤ 9223372036854775807) : ior .i64 a b = n := by
  unfold ior at h ⊢
  rw [show IntKind.bits .u64 = 64 from rfl] at h
  rw [show IntKind.bits .i64 = 64 from rfl]
  have h1 := (BitVec.ofInt 64 a ||| BitVec.ofInt 64 b).isLt
  generalize (BitVec.ofInt 64 a ||| BitVec.ofInt 64 b).toNat = m at *
  rw [wrapU64_of (by omega) (by omega)] at h
  rw [wrap64_of (by omega) (by omega)]
  exact h
theorem fresh_is {hi lo : Int} (h1 : 0 ≤ hi) (h2 : 0 ≤ lo ∧ lo < 4294967296) (h3 : hi * 4294967296 + lo ≤ 1099511627776) : ior .i64 (ishl .i64 hi 32) lo = hi * 4294967296 + lo := by
  have k1 : ishl .i64 hi 32 = hi * 2 ^ 32 := by unfold ishl; exact wrap64_of (by show _ ≤ hi * 4294967296; omega) (by show hi * 4294967296 ≤ _; omega)
  have k2 : ior .u64 (hi * 2 ^ 32) lo = hi * 4294967296 + lo := ior_low 32 h1 h2.1 (by show lo < 4294967296; omega) (by show hi * 4294967296 + lo < 18446744073709551616; omega)
  rw [k1]
  exact ior_i64 k2 (by omega)
end Go.Proofs.Ytgkcackpffimmaa
