/- Sealed texts: what seals and opens, and that another byte is told. -/
import Derived.Test.YtgkcackpffimmaaC3
import Derived.Test.YtgkcackpffimmaaD2
set_option linter.unusedVariables false
set_option linter.unusedSimpArgs false
set_option maxRecDepth 10000
set_option maxHeartbeats 4000000
namespace Go.Proofs.Ytgkcackpffimmaa
open Go.TM

/- sealed texts -/
theorem sealB_B (l : List UInt8) : sealB (B l) = B (sealL l) := rfl
def openL (s : List UInt8) : List UInt8 × Int := if s.length < 4 then ([], 10) else if sealL (s.take (s.length - 4)) = s then (s.take (s.length - 4), 0) else ([], 12)
theorem openB_B (s : List UInt8) : openB (B s) = (B (openL s).1, (openL s).2) := by
  unfold openB openL
  rw [B_size, B_extract, List.drop_zero, sealB_B]
  simp only [B_inj]
  split
  · rfl
  · split <;> rfl

theorem seal_pure (l : List UInt8) (σ : TS) (h : l.length ≤ 100000) : TPure Try.prog 100 [.str (B l)] σ (.str (B (sealL l))) :=
  TCalls.pure (seal_walk (B l) σ (by rw [B_size]; exact h)) fun tv s q => by
    obtain ⟨rfl, hg⟩ := q
    exact ⟨hg, rfl, rfl, rfl⟩
theorem open_pure (l : List UInt8) (σ : TS) (h : l.length ≤ 100000) : TPure Try.prog 112 [.str (B l)] σ (.tup [.str (B (openL l).1), .int .i64 (openL l).2]) :=
  TCalls.pure (open_walk (B l) σ (by rw [B_size]; exact h)) fun tv s q => by
    obtain ⟨rfl, hg⟩ := q
    rw [openB_B]
    exact ⟨hg, rfl, rfl, rfl⟩

end Go.Proofs.Ytgkcackpffimmaa
