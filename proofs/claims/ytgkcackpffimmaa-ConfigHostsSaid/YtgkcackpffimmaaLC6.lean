/- CONFIG: a network that may be may be with one host more, which sends and takes nothing. It is proved that the statement ConfigHosts holds of the given program, for every argument. -/
import Derived.Test.YtgkcackpffimmaaRows
import Derived.WalkKit
import Derived.ProofKit
import Derived.OpenShut
import Derived.ShutString
import Derived.ChangeOld
import Derived.Below
import Derived.Test.YtgkcackpffimmaaM5
import Derived.Test.YtgkcackpffimmaaJ0
set_option linter.unusedVariables false
set_option linter.unusedSimpArgs false
set_option maxRecDepth 10000
namespace Go.Proofs.Ytgkcackpffimmaa.configHostsDone
open Go.TM

theorem calls (tvs : List TV) (h : TyAll (mkTab Try.prog) 6 Try.f24.params.toList tvs) : TCalls Try.prog 24 tvs [] fun tv _ => tv = .bool true := by
  rw [show Try.f24.params.toList = [27] by kernel_rfl] at h
  obtain ⟨a, _, rfl, ha, h⟩ := TyAll_cons h
  obtain rfl := TyAll_nil h
  obtain ⟨c, rfl, hc⟩ := TyCfgV ha
  exact (hosts_walk c hc []).mono fun tv s q => q.1

open Go.ChangeShapes Go.WideShapes Go.ChangeAt Go.RowKit
set_option maxRecDepth 100000 in
theorem lifted (os : Os) (started : os.Started) (H : Type) (enc : TypeId × Value → H) :
    ReturnsInHanded {} Try.checked os 24 .any (Rows.configHostsSpec.pre6 enc Try.prog Try.f24 Rows.configHostsRow.domain false) (Rows.configHostsSpec.post enc Try.prog Try.f24 false true false false) := by
  refine returnsInHanded_of_change (C := Try.checked) own started (by kernel_rfl) Try.func24
    (ChangeSpec.witness6 (enc := enc) (C := Try.checked) false ⟨#[], #[.agg #[.int .i64 0, .slice none 0 0, .int .i64 0, .slice none 0 0, .slice none 0 0, .slice none 0 0]], []⟩ 8 (by kernel_rfl) (by kernel_rfl) (by kernel_rfl) (by kernel_rfl)) ?_
  intro W base args ds gs before hval hW hcnd _
  exact law_contract (rt := 4) 6 laidOut rfl (by intro ds h; match ds, h with | [_], _ => rfl) (by kernel_rfl) (by kernel_rfl) (by kernel_rfl) (by kernel_rfl) calls W base args ds gs before hval hW
theorem f1 : Rows.configHostsRow.wf (OpenSpec.ofChange Rows.configHostsSpec) = true := by kernel_rfl
theorem f4 : (Rows.configHostsRow.inPlace == Try.prog.inPlace 24) = true := by kernel_rfl
theorem f5 : (Rows.configHostsRow.unfollowed == Try.prog.unfollowed 24) = true := by kernel_rfl
theorem f6 : (Rows.configHostsRow.recurses == Try.prog.recurses 24) = true := by kernel_rfl
theorem f7 : (Rows.configHostsRow.named == Try.prog.varsNamed 24) = true := by kernel_rfl
theorem facts : joinedFacts Try.prog 24 Try.f24 Rows.configHostsSpec Rows.configHostsRow = true := by
  unfold joinedFacts
  rw [f1, laidOut, jMaps, f4, f5, f6, f7, jHeard, jMay, jLift, jMake, jPlain]
  kernel_rfl
theorem named : Try.prog.funcNamed Rows.configHostsRow.func = some 24 := by kernel_rfl
theorem over : Rows.configHostsRow.holds Try.pinned (OpenSpec.ofChange Rows.configHostsSpec) :=
  OpenClaim.holds_of_wide 24 Try.f24 rfl rfl rfl rfl rfl rfl rfl ⟨rfl, rfl, rfl, rfl, rfl⟩ rfl rfl rfl rfl rfl named Try.func24 facts
    (of_decide_eq_true (by kernel_rfl)) (by unfold Func.isWrapper; first | (rw [if_pos (by decide +kernel)]; kernel_rfl) | (rw [if_neg (by decide +kernel)]; exact ⟨rfl, rfl⟩))
    (fun os started H enc _ => lifted os started H enc)
theorem proved : Rows.ConfigHostsSaid := over
end Go.Proofs.Ytgkcackpffimmaa.configHostsDone
