/- PORTS: a nil room has nothing. It is proved that the statement PortsNil holds of the given program, for every argument. -/
import Derived.Test.YtgkcackpffimmaaRows
import Derived.WalkKit
import Derived.ProofKit
import Derived.OpenShut
import Derived.ShutString
import Derived.ChangeOld
import Derived.Below
import Derived.Test.YtgkcackpffimmaaP17
import Derived.Test.YtgkcackpffimmaaP13
import Derived.Test.YtgkcackpffimmaaJ0
set_option linter.unusedVariables false
set_option linter.unusedSimpArgs false
set_option maxRecDepth 10000
namespace Go.Proofs.Ytgkcackpffimmaa.portsNilDone
open Go.TM

theorem calls (tvs : List TV) (h : TyAll (mkTab Try.prog) 6 Try.f19.params.toList tvs) : TCalls Try.prog 19 tvs [] fun tv _ => tv = .bool true := by
  rw [show Try.f19.params.toList = [3, 3, 9] by kernel_rfl] at h
  obtain ⟨a, _, rfl, ha, h⟩ := TyAll_cons h
  obtain ⟨b, _, rfl, hb, h⟩ := TyAll_cons h
  obtain ⟨c, _, rfl, hc, h⟩ := TyAll_cons h
  obtain rfl := TyAll_nil h
  obtain ⟨n, rfl, hn⟩ := TyV_int tab3 rfl ha
  obtain ⟨m, rfl, hm⟩ := TyV_int tab3 rfl hb
  obtain ⟨s, rfl, hs⟩ := TyV_str tab9 rfl hc
  rw [B_of s]
  exact nil22_walk n m s.data.toList (by rw [← B_size, ← B_of]; exact hs)

open Go.ChangeShapes Go.WideShapes Go.ChangeAt Go.RowKit
set_option maxRecDepth 100000 in
theorem lifted (os : Os) (started : os.Started) (H : Type) (enc : TypeId × Value → H) :
    ReturnsInHanded {} Try.checked os 19 .any (Rows.portsNilSpec.pre6 enc Try.prog Try.f19 Rows.portsNilRow.domain false) (Rows.portsNilSpec.post enc Try.prog Try.f19 false true false false) := by
  refine returnsInHanded_of_change (C := Try.checked) own started (by kernel_rfl) Try.func19
    (ChangeSpec.witness6 (enc := enc) (C := Try.checked) false ⟨#[], #[.int .i64 0, .int .i64 0, .string ⟨#[]⟩], []⟩ 8 (by kernel_rfl) (by kernel_rfl) (by kernel_rfl) (by kernel_rfl)) ?_
  intro W base args ds gs before hval hW hcnd _
  exact law_contract (rt := 4) 6 laidOut rfl (by intro ds h; match ds, h with | [_, _, _], _ => rfl) (by kernel_rfl) (by kernel_rfl) (by kernel_rfl) (by kernel_rfl) calls W base args ds gs before hval hW
theorem f1 : Rows.portsNilRow.wf (OpenSpec.ofChange Rows.portsNilSpec) = true := by kernel_rfl
theorem f4 : (Rows.portsNilRow.inPlace == Try.prog.inPlace 19) = true := by kernel_rfl
theorem f5 : (Rows.portsNilRow.unfollowed == Try.prog.unfollowed 19) = true := by kernel_rfl
theorem f6 : (Rows.portsNilRow.recurses == Try.prog.recurses 19) = true := by kernel_rfl
theorem f7 : (Rows.portsNilRow.named == Try.prog.varsNamed 19) = true := by kernel_rfl
theorem facts : joinedFacts Try.prog 19 Try.f19 Rows.portsNilSpec Rows.portsNilRow = true := by
  unfold joinedFacts
  rw [f1, laidOut, jMaps, f4, f5, f6, f7, jHeard, jMay, jLift, jMake, jPlain]
  kernel_rfl
theorem named : Try.prog.funcNamed Rows.portsNilRow.func = some 19 := by kernel_rfl
theorem over : Rows.portsNilRow.holds Try.pinned (OpenSpec.ofChange Rows.portsNilSpec) :=
  OpenClaim.holds_of_wide 19 Try.f19 rfl rfl rfl rfl rfl rfl rfl ⟨rfl, rfl, rfl, rfl, rfl⟩ rfl rfl rfl rfl rfl named Try.func19 facts
    (of_decide_eq_true (by kernel_rfl)) (by unfold Func.isWrapper; first | (rw [if_pos (by decide +kernel)]; kernel_rfl) | (rw [if_neg (by decide +kernel)]; exact ⟨rfl, rfl⟩))
    (fun os started H enc _ => lifted os started H enc)
theorem proved : Rows.PortsNilSaid := over
end Go.Proofs.Ytgkcackpffimmaa.portsNilDone
