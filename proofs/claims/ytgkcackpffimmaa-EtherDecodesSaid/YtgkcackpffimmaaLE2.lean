/- ETHER: Decode and Look answer as the reference answers. It is proved that the statement EtherDecodes holds of the given program, for every argument. -/
import Derived.Test.YtgkcackpffimmaaRows
import Derived.WalkKit
import Derived.ProofKit
import Derived.OpenShut
import Derived.ShutString
import Derived.ChangeOld
import Derived.Below
import Derived.Test.YtgkcackpffimmaaH9
import Derived.Test.YtgkcackpffimmaaJ0
set_option linter.unusedVariables false
set_option linter.unusedSimpArgs false
set_option maxRecDepth 10000
namespace Go.Proofs.Ytgkcackpffimmaa.etherDecodesDone
open Go.TM

theorem calls (tvs : List TV) (h : TyAll (mkTab Try.prog) 6 Try.f12.params.toList tvs) : TCalls Try.prog 12 tvs [] fun tv _ => tv = .bool true := by
  rw [show Try.f12.params.toList = [9] by kernel_rfl] at h
  obtain ⟨a, _, rfl, ha, h⟩ := TyAll_cons h
  obtain rfl := TyAll_nil h
  obtain ⟨s, rfl, hs⟩ := TyV_str tab9 rfl ha
  rw [B_of s] at hs ⊢
  rw [B_size] at hs
  exact (decodes_walk s.data.toList hs).mono fun tv s q => q.1

open Go.ChangeShapes Go.WideShapes Go.ChangeAt Go.RowKit
set_option maxRecDepth 100000 in
theorem lifted (os : Os) (started : os.Started) (H : Type) (enc : TypeId × Value → H) :
    ReturnsInHanded {} Try.checked os 12 .any (Rows.etherDecodesSpec.pre6 enc Try.prog Try.f12 Rows.etherDecodesRow.domain false) (Rows.etherDecodesSpec.post enc Try.prog Try.f12 false true false false) := by
  refine returnsInHanded_of_change (C := Try.checked) own started (by kernel_rfl) Try.func12
    (ChangeSpec.witness6 (enc := enc) (C := Try.checked) false ⟨#[], #[.string ⟨#[]⟩], []⟩ 8 (by kernel_rfl) (by kernel_rfl) (by kernel_rfl) (by kernel_rfl)) ?_
  intro W base args ds gs before hval hW hcnd _
  exact law_contract (rt := 4) 6 laidOut rfl (by intro ds h; match ds, h with | [_], _ => rfl) (by kernel_rfl) (by kernel_rfl) (by kernel_rfl) (by kernel_rfl) calls W base args ds gs before hval hW
theorem f1 : Rows.etherDecodesRow.wf (OpenSpec.ofChange Rows.etherDecodesSpec) = true := by kernel_rfl
theorem f4 : (Rows.etherDecodesRow.inPlace == Try.prog.inPlace 12) = true := by kernel_rfl
theorem f5 : (Rows.etherDecodesRow.unfollowed == Try.prog.unfollowed 12) = true := by kernel_rfl
theorem f6 : (Rows.etherDecodesRow.recurses == Try.prog.recurses 12) = true := by kernel_rfl
theorem f7 : (Rows.etherDecodesRow.named == Try.prog.varsNamed 12) = true := by kernel_rfl
theorem facts : joinedFacts Try.prog 12 Try.f12 Rows.etherDecodesSpec Rows.etherDecodesRow = true := by
  unfold joinedFacts
  rw [f1, laidOut, jMaps, f4, f5, f6, f7, jHeard, jMay, jLift, jMake, jPlain]
  kernel_rfl
theorem named : Try.prog.funcNamed Rows.etherDecodesRow.func = some 12 := by kernel_rfl
theorem over : Rows.etherDecodesRow.holds Try.pinned (OpenSpec.ofChange Rows.etherDecodesSpec) :=
  OpenClaim.holds_of_wide 12 Try.f12 rfl rfl rfl rfl rfl rfl rfl ⟨rfl, rfl, rfl, rfl, rfl⟩ rfl rfl rfl rfl rfl named Try.func12 facts
    (of_decide_eq_true (by kernel_rfl)) (by unfold Func.isWrapper; first | (rw [if_pos (by decide +kernel)]; kernel_rfl) | (rw [if_neg (by decide +kernel)]; exact ⟨rfl, rfl⟩))
    (fun os started H enc _ => lifted os started H enc)
theorem proved : Rows.EtherDecodesSaid := over
end Go.Proofs.Ytgkcackpffimmaa.etherDecodesDone
