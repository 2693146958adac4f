/- IMAGE: which network an image is of, or why it is of none. It is proved that the statement ImageLoads holds of the given program, for every argument. -/
import Derived.Test.YtgkcackpffimmaaRows
import Derived.WalkKit
import Derived.ProofKit
import Derived.OpenShut
import Derived.ShutString
import Derived.ChangeOld
import Derived.Below
import Derived.Test.YtgkcackpffimmaaI26
import Derived.Test.YtgkcackpffimmaaJ0
set_option linter.unusedVariables false
set_option linter.unusedSimpArgs false
set_option maxRecDepth 10000
namespace Go.Proofs.Ytgkcackpffimmaa.imageLoadsDone
open Go.TM

theorem calls (tvs : List TV) (h : TyAll (mkTab Try.prog) 6 Try.f20.params.toList tvs) : TCalls Try.prog 20 tvs [] fun tv _ => tv = .bool true := by
  rw [show Try.f20.params.toList = [9] by kernel_rfl] at h
  obtain ⟨a, _, rfl, ha, h⟩ := TyAll_cons h
  obtain rfl := TyAll_nil h
  obtain ⟨s, rfl, hs⟩ := TyV_str tab9 rfl ha
  rw [B_of s]
  exact (loads11_walk s.data.toList).mono fun tv s q => q.1

open Go.ChangeShapes Go.WideShapes Go.ChangeAt Go.RowKit
set_option maxRecDepth 100000 in
theorem lifted (os : Os) (started : os.Started) (H : Type) (enc : TypeId × Value → H) :
    ReturnsInHanded {} Try.checked os 20 .any (Rows.imageLoadsSpec.pre6 enc Try.prog Try.f20 Rows.imageLoadsRow.domain false) (Rows.imageLoadsSpec.post enc Try.prog Try.f20 false true false false) := by
  refine returnsInHanded_of_change (C := Try.checked) own started (by kernel_rfl) Try.func20
    (ChangeSpec.witness6 (enc := enc) (C := Try.checked) false ⟨#[], #[.string ⟨#[]⟩], []⟩ 8 (by kernel_rfl) (by kernel_rfl) (by kernel_rfl) (by kernel_rfl)) ?_
  intro W base args ds gs before hval hW hcnd _
  exact law_contract (rt := 4) 6 laidOut rfl (by intro ds h; match ds, h with | [_], _ => rfl) (by kernel_rfl) (by kernel_rfl) (by kernel_rfl) (by kernel_rfl) calls W base args ds gs before hval hW
theorem f1 : Rows.imageLoadsRow.wf (OpenSpec.ofChange Rows.imageLoadsSpec) = true := by kernel_rfl
theorem f4 : (Rows.imageLoadsRow.inPlace == Try.prog.inPlace 20) = true := by kernel_rfl
theorem f5 : (Rows.imageLoadsRow.unfollowed == Try.prog.unfollowed 20) = true := by kernel_rfl
theorem f6 : (Rows.imageLoadsRow.recurses == Try.prog.recurses 20) = true := by kernel_rfl
theorem f7 : (Rows.imageLoadsRow.named == Try.prog.varsNamed 20) = true := by kernel_rfl
theorem facts : joinedFacts Try.prog 20 Try.f20 Rows.imageLoadsSpec Rows.imageLoadsRow = true := by
  unfold joinedFacts
  rw [f1, laidOut, jMaps, f4, f5, f6, f7, jHeard, jMay, jLift, jMake, jPlain]
  kernel_rfl
theorem named : Try.prog.funcNamed Rows.imageLoadsRow.func = some 20 := by kernel_rfl
theorem over : Rows.imageLoadsRow.holds Try.pinned (OpenSpec.ofChange Rows.imageLoadsSpec) :=
  OpenClaim.holds_of_wide 20 Try.f20 rfl rfl rfl rfl rfl rfl rfl ⟨rfl, rfl, rfl, rfl, rfl⟩ rfl rfl rfl rfl rfl named Try.func20 facts
    (of_decide_eq_true (by kernel_rfl)) (by unfold Func.isWrapper; first | (rw [if_pos (by decide +kernel)]; kernel_rfl) | (rw [if_neg (by decide +kernel)]; exact ⟨rfl, rfl⟩))
    (fun os started H enc _ => lifted os started H enc)
theorem proved : Rows.ImageLoadsSaid := over
end Go.Proofs.Ytgkcackpffimmaa.imageLoadsDone
