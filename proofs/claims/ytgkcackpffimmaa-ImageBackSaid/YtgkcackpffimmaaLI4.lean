/- IMAGE: what was encoded is loaded as the same network. It is proved that the statement ImageBack holds of the given program, for every argument. -/
import Derived.Test.YtgkcackpffimmaaRows
import Derived.WalkKit
import Derived.ProofKit
import Derived.OpenShut
import Derived.ShutString
import Derived.ChangeOld
import Derived.Below
import Derived.Test.YtgkcackpffimmaaI24
import Derived.Test.YtgkcackpffimmaaJ0
set_option linter.unusedVariables false
set_option linter.unusedSimpArgs false
set_option maxRecDepth 10000
namespace Go.Proofs.Ytgkcackpffimmaa.imageBackDone
open Go.TM

theorem calls (tvs : List TV) (h : TyAll (mkTab Try.prog) 6 Try.f21.params.toList tvs) : TCalls Try.prog 21 tvs [] fun tv _ => tv = .bool true := by
  rw [show Try.f21.params.toList = [27] by kernel_rfl] at h
  obtain ⟨a, _, rfl, ha, h⟩ := TyAll_cons h
  obtain rfl := TyAll_nil h
  obtain ⟨c, rfl, hc⟩ := TyCfgV ha
  exact (back11_walk c hc).mono fun tv s q => q.1

open Go.ChangeShapes Go.WideShapes Go.ChangeAt Go.RowKit
set_option maxRecDepth 100000 in
theorem lifted (os : Os) (started : os.Started) (H : Type) (enc : TypeId × Value → H) :
    ReturnsInHanded {} Try.checked os 21 .any (Rows.imageBackSpec.pre6 enc Try.prog Try.f21 Rows.imageBackRow.domain false) (Rows.imageBackSpec.post enc Try.prog Try.f21 false true false false) := by
  refine returnsInHanded_of_change (C := Try.checked) own started (by kernel_rfl) Try.func21
    (ChangeSpec.witness6 (enc := enc) (C := Try.checked) false ⟨#[], #[.agg #[.int .i64 0, .slice none 0 0, .int .i64 0, .slice none 0 0, .slice none 0 0, .slice none 0 0]], []⟩ 8 (by kernel_rfl) (by kernel_rfl) (by kernel_rfl) (by kernel_rfl)) ?_
  intro W base args ds gs before hval hW hcnd _
  exact law_contract (rt := 4) 6 laidOut rfl (by intro ds h; match ds, h with | [_], _ => rfl) (by kernel_rfl) (by kernel_rfl) (by kernel_rfl) (by kernel_rfl) calls W base args ds gs before hval hW
theorem f1 : Rows.imageBackRow.wf (OpenSpec.ofChange Rows.imageBackSpec) = true := by kernel_rfl
theorem f4 : (Rows.imageBackRow.inPlace == Try.prog.inPlace 21) = true := by kernel_rfl
theorem f5 : (Rows.imageBackRow.unfollowed == Try.prog.unfollowed 21) = true := by kernel_rfl
theorem f6 : (Rows.imageBackRow.recurses == Try.prog.recurses 21) = true := by kernel_rfl
theorem f7 : (Rows.imageBackRow.named == Try.prog.varsNamed 21) = true := by kernel_rfl
theorem facts : joinedFacts Try.prog 21 Try.f21 Rows.imageBackSpec Rows.imageBackRow = true := by
  unfold joinedFacts
  rw [f1, laidOut, jMaps, f4, f5, f6, f7, jHeard, jMay, jLift, jMake, jPlain]
  kernel_rfl
theorem named : Try.prog.funcNamed Rows.imageBackRow.func = some 21 := by kernel_rfl
theorem over : Rows.imageBackRow.holds Try.pinned (OpenSpec.ofChange Rows.imageBackSpec) :=
  OpenClaim.holds_of_wide 21 Try.f21 rfl rfl rfl rfl rfl rfl rfl ⟨rfl, rfl, rfl, rfl, rfl⟩ rfl rfl rfl rfl rfl named Try.func21 facts
    (of_decide_eq_true (by kernel_rfl)) (by unfold Func.isWrapper; first | (rw [if_pos (by decide +kernel)]; kernel_rfl) | (rw [if_neg (by decide +kernel)]; exact ⟨rfl, rfl⟩))
    (fun os started H enc _ => lifted os started H enc)
theorem proved : Rows.ImageBackSaid := over
end Go.Proofs.Ytgkcackpffimmaa.imageBackDone
