/- CONFIG: a network that may be may be without its last port, its last window, or all ports and its last link. It is proved that the statement ConfigLess holds of the given program, for every argument. -/
import Derived.Test.YtgkcackpffimmaaRows
import Derived.WalkKit
import Derived.ProofKit
import Derived.OpenShut
import Derived.ShutString
import Derived.ChangeOld
import Derived.Below
import Derived.Test.YtgkcackpffimmaaG3
import Derived.Test.YtgkcackpffimmaaJ0
set_option linter.unusedVariables false
set_option linter.unusedSimpArgs false
set_option maxRecDepth 10000
namespace Go.Proofs.Ytgkcackpffimmaa.configLessDone
open Go.TM

theorem calls (tvs : List TV) (h : TyAll (mkTab Try.prog) 6 Try.f4.params.toList tvs) : TCalls Try.prog 4 tvs [] fun tv _ => tv = .bool true := by
  rw [show Try.f4.params.toList = [27] by kernel_rfl] at h
  obtain ⟨a, _, rfl, ha, h⟩ := TyAll_cons h
  obtain rfl := TyAll_nil h
  obtain ⟨c, rfl, hc⟩ := TyCfgV ha
  exact (less_walk c hc).mono fun tv s q => q.1

open Go.ChangeShapes Go.WideShapes Go.ChangeAt Go.RowKit
set_option maxRecDepth 100000 in
theorem lifted (os : Os) (started : os.Started) (H : Type) (enc : TypeId × Value → H) :
    ReturnsInHanded {} Try.checked os 4 .any (Rows.configLessSpec.pre6 enc Try.prog Try.f4 Rows.configLessRow.domain false) (Rows.configLessSpec.post enc Try.prog Try.f4 false true false false) := by
  refine returnsInHanded_of_change (C := Try.checked) own started (by kernel_rfl) Try.func4
    (ChangeSpec.witness6 (enc := enc) (C := Try.checked) false ⟨#[], #[.agg #[.int .i64 0, .slice none 0 0, .int .i64 0, .slice none 0 0, .slice none 0 0, .slice none 0 0]], []⟩ 8 (by kernel_rfl) (by kernel_rfl) (by kernel_rfl) (by kernel_rfl)) ?_
  intro W base args ds gs before hval hW hcnd _
  exact law_contract (rt := 4) 6 laidOut rfl (by intro ds h; match ds, h with | [_], _ => rfl) (by kernel_rfl) (by kernel_rfl) (by kernel_rfl) (by kernel_rfl) calls W base args ds gs before hval hW
theorem f1 : Rows.configLessRow.wf (OpenSpec.ofChange Rows.configLessSpec) = true := by kernel_rfl
theorem f4 : (Rows.configLessRow.inPlace == Try.prog.inPlace 4) = true := by kernel_rfl
theorem f5 : (Rows.configLessRow.unfollowed == Try.prog.unfollowed 4) = true := by kernel_rfl
theorem f6 : (Rows.configLessRow.recurses == Try.prog.recurses 4) = true := by kernel_rfl
theorem f7 : (Rows.configLessRow.named == Try.prog.varsNamed 4) = true := by kernel_rfl
theorem facts : joinedFacts Try.prog 4 Try.f4 Rows.configLessSpec Rows.configLessRow = true := by
  unfold joinedFacts
  rw [f1, laidOut, jMaps, f4, f5, f6, f7, jHeard, jMay, jLift, jMake, jPlain]
  kernel_rfl
theorem named : Try.prog.funcNamed Rows.configLessRow.func = some 4 := by kernel_rfl
theorem over : Rows.configLessRow.holds Try.pinned (OpenSpec.ofChange Rows.configLessSpec) :=
  OpenClaim.holds_of_wide 4 Try.f4 rfl rfl rfl rfl rfl rfl rfl ⟨rfl, rfl, rfl, rfl, rfl⟩ rfl rfl rfl rfl rfl named Try.func4 facts
    (of_decide_eq_true (by kernel_rfl)) (by unfold Func.isWrapper; first | (rw [if_pos (by decide +kernel)]; kernel_rfl) | (rw [if_neg (by decide +kernel)]; exact ⟨rfl, rfl⟩))
    (fun os started H enc _ => lifted os started H enc)
theorem proved : Rows.ConfigLessSaid := over
end Go.Proofs.Ytgkcackpffimmaa.configLessDone
