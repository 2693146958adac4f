/- PORTS: what each call answers, and how many messages there are, call by call. It is proved that the statement PortsPlays holds of the given program, for every argument. -/
import Derived.Test.YtgkcackpffimmaaRows
import Derived.WalkKit
import Derived.ProofKit
import Derived.OpenShut
import Derived.ShutString
import Derived.ChangeOld
import Derived.Below
import Derived.Test.YtgkcackpffimmaaP17
import Derived.Test.YtgkcackpffimmaaP12
import Derived.Test.YtgkcackpffimmaaJ0
set_option linter.unusedVariables false
set_option linter.unusedSimpArgs false
set_option maxRecDepth 10000
namespace Go.Proofs.Ytgkcackpffimmaa.portsPlaysDone
open Go.TM

theorem calls (tvs : List TV) (h : TyAll (mkTab Try.prog) 6 Try.f17.params.toList tvs) : TCalls Try.prog 17 tvs [] fun tv _ => tv = .bool true := by
  rw [show Try.f17.params.toList = [27, 3, 72] by kernel_rfl] at h
  obtain ⟨a, _, rfl, ha, h⟩ := TyAll_cons h
  obtain ⟨b, _, rfl, hb, h⟩ := TyAll_cons h
  obtain ⟨c, _, rfl, hc, h⟩ := TyAll_cons h
  obtain rfl := TyAll_nil h
  obtain ⟨c, rfl, hc2⟩ := TyCfgV ha
  obtain ⟨n, rfl, hn⟩ := TyV_int tab3 rfl hb
  obtain ⟨l, rfl, hl, hl2⟩ := TyOps hc
  exact plays_walk c hc2 n hn l hl2 hl

open Go.ChangeShapes Go.WideShapes Go.ChangeAt Go.RowKit
set_option maxRecDepth 100000 in
theorem lifted (os : Os) (started : os.Started) (H : Type) (enc : TypeId × Value → H) :
    ReturnsInHanded {} Try.checked os 17 .any (Rows.portsPlaysSpec.pre6 enc Try.prog Try.f17 Rows.portsPlaysRow.domain false) (Rows.portsPlaysSpec.post enc Try.prog Try.f17 false true false false) := by
  refine returnsInHanded_of_change (C := Try.checked) own started (by kernel_rfl) Try.func17
    (ChangeSpec.witness6 (enc := enc) (C := Try.checked) false ⟨#[], #[.agg #[.int .i64 0, .slice none 0 0, .int .i64 0, .slice none 0 0, .slice none 0 0, .slice none 0 0], .int .i64 0, .slice none 0 0], []⟩ 8 (by kernel_rfl) (by kernel_rfl) (by kernel_rfl) (by kernel_rfl)) ?_
  intro W base args ds gs before hval hW hcnd _
  exact law_contract (rt := 4) 6 laidOut rfl (by intro ds h; match ds, h with | [_, _, _], _ => rfl) (by kernel_rfl) (by kernel_rfl) (by kernel_rfl) (by kernel_rfl) calls W base args ds gs before hval hW
theorem f1 : Rows.portsPlaysRow.wf (OpenSpec.ofChange Rows.portsPlaysSpec) = true := by kernel_rfl
theorem f4 : (Rows.portsPlaysRow.inPlace == Try.prog.inPlace 17) = true := by kernel_rfl
theorem f5 : (Rows.portsPlaysRow.unfollowed == Try.prog.unfollowed 17) = true := by kernel_rfl
theorem f6 : (Rows.portsPlaysRow.recurses == Try.prog.recurses 17) = true := by kernel_rfl
theorem f7 : (Rows.portsPlaysRow.named == Try.prog.varsNamed 17) = true := by kernel_rfl
theorem facts : joinedFacts Try.prog 17 Try.f17 Rows.portsPlaysSpec Rows.portsPlaysRow = true := by
  unfold joinedFacts
  rw [f1, laidOut, jMaps, f4, f5, f6, f7, jHeard, jMay, jLift, jMake, jPlain]
  kernel_rfl
theorem named : Try.prog.funcNamed Rows.portsPlaysRow.func = some 17 := by kernel_rfl
theorem over : Rows.portsPlaysRow.holds Try.pinned (OpenSpec.ofChange Rows.portsPlaysSpec) :=
  OpenClaim.holds_of_wide 17 Try.f17 rfl rfl rfl rfl rfl rfl rfl ⟨rfl, rfl, rfl, rfl, rfl⟩ rfl rfl rfl rfl rfl named Try.func17 facts
    (of_decide_eq_true (by kernel_rfl)) (by unfold Func.isWrapper; first | (rw [if_pos (by decide +kernel)]; kernel_rfl) | (rw [if_neg (by decide +kernel)]; exact ⟨rfl, rfl⟩))
    (fun os started H enc _ => lifted os started H enc)
theorem proved : Rows.PortsPlaysSaid := over
end Go.Proofs.Ytgkcackpffimmaa.portsPlaysDone
