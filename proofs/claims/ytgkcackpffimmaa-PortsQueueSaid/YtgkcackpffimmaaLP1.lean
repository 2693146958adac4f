/- PORTS: what comes for a queuing port is read in order, each once, but what is told as lost. It is proved that the statement PortsQueue holds of the given program, for every argument. -/
import Derived.Test.YtgkcackpffimmaaRows
import Derived.WalkKit
import Derived.ProofKit
import Derived.OpenShut
import Derived.ShutString
import Derived.ChangeOld
import Derived.Below
import Derived.Test.YtgkcackpffimmaaP17
import Derived.Test.YtgkcackpffimmaaP14
import Derived.Test.YtgkcackpffimmaaJ0
set_option linter.unusedVariables false
set_option linter.unusedSimpArgs false
set_option maxRecDepth 10000
namespace Go.Proofs.Ytgkcackpffimmaa.portsQueueDone
open Go.TM

theorem calls (tvs : List TV) (h : TyAll (mkTab Try.prog) 6 Try.f14.params.toList tvs) : TCalls Try.prog 14 tvs [] fun tv _ => tv = .bool true := by
  rw [show Try.f14.params.toList = [3, 60, 61] by kernel_rfl] at h
  obtain ⟨a, _, rfl, ha, h⟩ := TyAll_cons h
  obtain ⟨b, _, rfl, hb, h⟩ := TyAll_cons h
  obtain ⟨c, _, rfl, hc, h⟩ := TyAll_cons h
  obtain rfl := TyAll_nil h
  obtain ⟨n, rfl, hn⟩ := TyV_int tab3 rfl ha
  obtain ⟨l, rfl, hl⟩ := TyStrs hb
  obtain ⟨r, rfl, hr⟩ := TyBools hc
  exact queue_walk n hn l r hl hr

open Go.ChangeShapes Go.WideShapes Go.ChangeAt Go.RowKit
set_option maxRecDepth 100000 in
theorem lifted (os : Os) (started : os.Started) (H : Type) (enc : TypeId × Value → H) :
    ReturnsInHanded {} Try.checked os 14 .any (Rows.portsQueueSpec.pre6 enc Try.prog Try.f14 Rows.portsQueueRow.domain false) (Rows.portsQueueSpec.post enc Try.prog Try.f14 false true false false) := by
  refine returnsInHanded_of_change (C := Try.checked) own started (by kernel_rfl) Try.func14
    (ChangeSpec.witness6 (enc := enc) (C := Try.checked) false ⟨#[], #[.int .i64 0, .slice none 0 0, .slice none 0 0], []⟩ 8 (by kernel_rfl) (by kernel_rfl) (by kernel_rfl) (by kernel_rfl)) ?_
  intro W base args ds gs before hval hW hcnd _
  exact law_contract (rt := 4) 6 laidOut rfl (by intro ds h; match ds, h with | [_, _, _], _ => rfl) (by kernel_rfl) (by kernel_rfl) (by kernel_rfl) (by kernel_rfl) calls W base args ds gs before hval hW
theorem f1 : Rows.portsQueueRow.wf (OpenSpec.ofChange Rows.portsQueueSpec) = true := by kernel_rfl
theorem f4 : (Rows.portsQueueRow.inPlace == Try.prog.inPlace 14) = true := by kernel_rfl
theorem f5 : (Rows.portsQueueRow.unfollowed == Try.prog.unfollowed 14) = true := by kernel_rfl
theorem f6 : (Rows.portsQueueRow.recurses == Try.prog.recurses 14) = true := by kernel_rfl
theorem f7 : (Rows.portsQueueRow.named == Try.prog.varsNamed 14) = true := by kernel_rfl
theorem facts : joinedFacts Try.prog 14 Try.f14 Rows.portsQueueSpec Rows.portsQueueRow = true := by
  unfold joinedFacts
  rw [f1, laidOut, jMaps, f4, f5, f6, f7, jHeard, jMay, jLift, jMake, jPlain]
  kernel_rfl
theorem named : Try.prog.funcNamed Rows.portsQueueRow.func = some 14 := by kernel_rfl
theorem over : Rows.portsQueueRow.holds Try.pinned (OpenSpec.ofChange Rows.portsQueueSpec) :=
  OpenClaim.holds_of_wide 14 Try.f14 rfl rfl rfl rfl rfl rfl rfl ⟨rfl, rfl, rfl, rfl, rfl⟩ rfl rfl rfl rfl rfl named Try.func14 facts
    (of_decide_eq_true (by kernel_rfl)) (by unfold Func.isWrapper; first | (rw [if_pos (by decide +kernel)]; kernel_rfl) | (rw [if_neg (by decide +kernel)]; exact ⟨rfl, rfl⟩))
    (fun os started H enc _ => lifted os started H enc)
theorem proved : Rows.PortsQueueSaid := over
end Go.Proofs.Ytgkcackpffimmaa.portsQueueDone
