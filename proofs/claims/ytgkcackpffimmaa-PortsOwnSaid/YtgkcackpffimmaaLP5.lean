/- PORTS: what comes for one port turns no other one, nor does a Clear of another partition. It is proved that the statement PortsOwn holds of the given program, for every argument. -/
import Derived.Test.YtgkcackpffimmaaRows
import Derived.WalkKit
import Derived.ProofKit
import Derived.OpenShut
import Derived.ShutString
import Derived.ChangeOld
import Derived.Below
import Derived.Test.YtgkcackpffimmaaP17
import Derived.Test.YtgkcackpffimmaaP15
import Derived.Test.YtgkcackpffimmaaJ0
set_option linter.unusedVariables false
set_option linter.unusedSimpArgs false
set_option maxRecDepth 10000
namespace Go.Proofs.Ytgkcackpffimmaa.portsOwnDone
open Go.TM

theorem calls (tvs : List TV) (h : TyAll (mkTab Try.prog) 6 Try.f18.params.toList tvs) : TCalls Try.prog 18 tvs [] fun tv _ => tv = .bool true := by
  rw [show Try.f18.params.toList = [72] by kernel_rfl] at h
  obtain ⟨a, _, rfl, ha, h⟩ := TyAll_cons h
  obtain rfl := TyAll_nil h
  obtain ⟨l, rfl, hl, hl2⟩ := TyOps ha
  exact own22_walk l hl2 hl

open Go.ChangeShapes Go.WideShapes Go.ChangeAt Go.RowKit
set_option maxRecDepth 100000 in
theorem lifted (os : Os) (started : os.Started) (H : Type) (enc : TypeId × Value → H) :
    ReturnsInHanded {} Try.checked os 18 .any (Rows.portsOwnSpec.pre6 enc Try.prog Try.f18 Rows.portsOwnRow.domain false) (Rows.portsOwnSpec.post enc Try.prog Try.f18 false true false false) := by
  refine returnsInHanded_of_change (C := Try.checked) own started (by kernel_rfl) Try.func18
    (ChangeSpec.witness6 (enc := enc) (C := Try.checked) false ⟨#[], #[.slice none 0 0], []⟩ 8 (by kernel_rfl) (by kernel_rfl) (by kernel_rfl) (by kernel_rfl)) ?_
  intro W base args ds gs before hval hW hcnd _
  exact law_contract (rt := 4) 6 laidOut rfl (by intro ds h; match ds, h with | [_], _ => rfl) (by kernel_rfl) (by kernel_rfl) (by kernel_rfl) (by kernel_rfl) calls W base args ds gs before hval hW
theorem f1 : Rows.portsOwnRow.wf (OpenSpec.ofChange Rows.portsOwnSpec) = true := by kernel_rfl
theorem f4 : (Rows.portsOwnRow.inPlace == Try.prog.inPlace 18) = true := by kernel_rfl
theorem f5 : (Rows.portsOwnRow.unfollowed == Try.prog.unfollowed 18) = true := by kernel_rfl
theorem f6 : (Rows.portsOwnRow.recurses == Try.prog.recurses 18) = true := by kernel_rfl
theorem f7 : (Rows.portsOwnRow.named == Try.prog.varsNamed 18) = true := by kernel_rfl
theorem facts : joinedFacts Try.prog 18 Try.f18 Rows.portsOwnSpec Rows.portsOwnRow = true := by
  unfold joinedFacts
  rw [f1, laidOut, jMaps, f4, f5, f6, f7, jHeard, jMay, jLift, jMake, jPlain]
  kernel_rfl
theorem named : Try.prog.funcNamed Rows.portsOwnRow.func = some 18 := by kernel_rfl
theorem over : Rows.portsOwnRow.holds Try.pinned (OpenSpec.ofChange Rows.portsOwnSpec) :=
  OpenClaim.holds_of_wide 18 Try.f18 rfl rfl rfl rfl rfl rfl rfl ⟨rfl, rfl, rfl, rfl, rfl⟩ rfl rfl rfl rfl rfl named Try.func18 facts
    (of_decide_eq_true (by kernel_rfl)) (by unfold Func.isWrapper; first | (rw [if_pos (by decide +kernel)]; kernel_rfl) | (rw [if_neg (by decide +kernel)]; exact ⟨rfl, rfl⟩))
    (fun os started H enc _ => lifted os started H enc)
theorem proved : Rows.PortsOwnSaid := over
end Go.Proofs.Ytgkcackpffimmaa.portsOwnDone
