/- ETHER: Encode and Size answer as the reference answers. It is proved that the statement EtherEncodes holds of the given program, for every argument. -/
import Derived.Test.YtgkcackpffimmaaRows
import Derived.WalkKit
import Derived.ProofKit
import Derived.OpenShut
import Derived.ShutString
import Derived.ChangeOld
import Derived.Below
import Derived.Test.YtgkcackpffimmaaH9
import Derived.Test.YtgkcackpffimmaaJ0
set_option linter.unusedVariables false
set_option linter.unusedSimpArgs false
set_option maxRecDepth 10000
namespace Go.Proofs.Ytgkcackpffimmaa.etherEncodesDone
open Go.TM

theorem calls (tvs : List TV) (h : TyAll (mkTab Try.prog) 6 Try.f8.params.toList tvs) : TCalls Try.prog 8 tvs [] fun tv _ => tv = .bool true := by
  rw [show Try.f8.params.toList = [48, 3] by kernel_rfl] at h
  obtain ⟨a, _, rfl, ha, h⟩ := TyAll_cons h
  obtain ⟨b, _, rfl, hb, h⟩ := TyAll_cons h
  obtain rfl := TyAll_nil h
  obtain ⟨f, rfl, hf, hl⟩ := TyFrm ha
  obtain ⟨n, rfl, hn⟩ := TyV_int tab3 rfl hb
  exact (encodes_walk f n hn hf hl).mono fun tv s q => q.1

open Go.ChangeShapes Go.WideShapes Go.ChangeAt Go.RowKit
set_option maxRecDepth 100000 in
theorem lifted (os : Os) (started : os.Started) (H : Type) (enc : TypeId × Value → H) :
    ReturnsInHanded {} Try.checked os 8 .any (Rows.etherEncodesSpec.pre6 enc Try.prog Try.f8 Rows.etherEncodesRow.domain false) (Rows.etherEncodesSpec.post enc Try.prog Try.f8 false true false false) := by
  refine returnsInHanded_of_change (C := Try.checked) own started (by kernel_rfl) Try.func8
    (ChangeSpec.witness6 (enc := enc) (C := Try.checked) false ⟨#[], #[.agg #[.int .i64 0, .int .i64 0, .int .i64 0, .int .i64 0, .string ⟨#[]⟩], .int .i64 0], []⟩ 8 (by kernel_rfl) (by kernel_rfl) (by kernel_rfl) (by kernel_rfl)) ?_
  intro W base args ds gs before hval hW hcnd _
  exact law_contract (rt := 4) 6 laidOut rfl (by intro ds h; match ds, h with | [_, _], _ => rfl) (by kernel_rfl) (by kernel_rfl) (by kernel_rfl) (by kernel_rfl) calls W base args ds gs before hval hW
theorem f1 : Rows.etherEncodesRow.wf (OpenSpec.ofChange Rows.etherEncodesSpec) = true := by kernel_rfl
theorem f4 : (Rows.etherEncodesRow.inPlace == Try.prog.inPlace 8) = true := by kernel_rfl
theorem f5 : (Rows.etherEncodesRow.unfollowed == Try.prog.unfollowed 8) = true := by kernel_rfl
theorem f6 : (Rows.etherEncodesRow.recurses == Try.prog.recurses 8) = true := by kernel_rfl
theorem f7 : (Rows.etherEncodesRow.named == Try.prog.varsNamed 8) = true := by kernel_rfl
theorem facts : joinedFacts Try.prog 8 Try.f8 Rows.etherEncodesSpec Rows.etherEncodesRow = true := by
  unfold joinedFacts
  rw [f1, laidOut, jMaps, f4, f5, f6, f7, jHeard, jMay, jLift, jMake, jPlain]
  kernel_rfl
theorem named : Try.prog.funcNamed Rows.etherEncodesRow.func = some 8 := by kernel_rfl
theorem over : Rows.etherEncodesRow.holds Try.pinned (OpenSpec.ofChange Rows.etherEncodesSpec) :=
  OpenClaim.holds_of_wide 8 Try.f8 rfl rfl rfl rfl rfl rfl rfl ⟨rfl, rfl, rfl, rfl, rfl⟩ rfl rfl rfl rfl rfl named Try.func8 facts
    (of_decide_eq_true (by kernel_rfl)) (by unfold Func.isWrapper; first | (rw [if_pos (by decide +kernel)]; kernel_rfl) | (rw [if_neg (by decide +kernel)]; exact ⟨rfl, rfl⟩))
    (fun os started H enc _ => lifted os started H enc)
theorem proved : Rows.EtherEncodesSaid := over
end Go.Proofs.Ytgkcackpffimmaa.etherEncodesDone
