/- PORTS: what is read of a sampling port is the newest one, and is fresh as long as is said. It is proved that the statement PortsSample holds of the given program, for every argument. -/
import Derived.Test.YtgkcackpffimmaaRows
import Derived.WalkKit
import Derived.ProofKit
import Derived.OpenShut
import Derived.ShutString
import Derived.ChangeOld
import Derived.Below
import Derived.Test.YtgkcackpffimmaaP17
import Derived.Test.YtgkcackpffimmaaP16
import Derived.Test.YtgkcackpffimmaaJ0
set_option linter.unusedVariables false
set_option linter.unusedSimpArgs false
set_option maxRecDepth 10000
namespace Go.Proofs.Ytgkcackpffimmaa.portsSampleDone
open Go.TM

theorem calls (tvs : List TV) (h : TyAll (mkTab Try.prog) 6 Try.f15.params.toList tvs) : TCalls Try.prog 15 tvs [] fun tv _ => tv = .bool true := by
  rw [show Try.f15.params.toList = [3, 22, 3] by kernel_rfl] at h
  obtain ⟨a, _, rfl, ha, h⟩ := TyAll_cons h
  obtain ⟨b, _, rfl, hb, h⟩ := TyAll_cons h
  obtain ⟨c, _, rfl, hc, h⟩ := TyAll_cons h
  obtain rfl := TyAll_nil h
  obtain ⟨n, rfl, hn⟩ := TyV_int tab3 rfl ha
  obtain ⟨l, rfl, hl, hl2⟩ := TyInts hb
  obtain ⟨m, rfl, hm⟩ := TyV_int tab3 rfl hc
  exact sample22_walk n hn l hl2 hl m hm

open Go.ChangeShapes Go.WideShapes Go.ChangeAt Go.RowKit
set_option maxRecDepth 100000 in
theorem lifted (os : Os) (started : os.Started) (H : Type) (enc : TypeId × Value → H) :
    ReturnsInHanded {} Try.checked os 15 .any (Rows.portsSampleSpec.pre6 enc Try.prog Try.f15 Rows.portsSampleRow.domain false) (Rows.portsSampleSpec.post enc Try.prog Try.f15 false true false false) := by
  refine returnsInHanded_of_change (C := Try.checked) own started (by kernel_rfl) Try.func15
    (ChangeSpec.witness6 (enc := enc) (C := Try.checked) false ⟨#[], #[.int .i64 0, .slice none 0 0, .int .i64 0], []⟩ 8 (by kernel_rfl) (by kernel_rfl) (by kernel_rfl) (by kernel_rfl)) ?_
  intro W base args ds gs before hval hW hcnd _
  exact law_contract (rt := 4) 6 laidOut rfl (by intro ds h; match ds, h with | [_, _, _], _ => rfl) (by kernel_rfl) (by kernel_rfl) (by kernel_rfl) (by kernel_rfl) calls W base args ds gs before hval hW
theorem f1 : Rows.portsSampleRow.wf (OpenSpec.ofChange Rows.portsSampleSpec) = true := by kernel_rfl
theorem f4 : (Rows.portsSampleRow.inPlace == Try.prog.inPlace 15) = true := by kernel_rfl
theorem f5 : (Rows.portsSampleRow.unfollowed == Try.prog.unfollowed 15) = true := by kernel_rfl
theorem f6 : (Rows.portsSampleRow.recurses == Try.prog.recurses 15) = true := by kernel_rfl
theorem f7 : (Rows.portsSampleRow.named == Try.prog.varsNamed 15) = true := by kernel_rfl
theorem facts : joinedFacts Try.prog 15 Try.f15 Rows.portsSampleSpec Rows.portsSampleRow = true := by
  unfold joinedFacts
  rw [f1, laidOut, jMaps, f4, f5, f6, f7, jHeard, jMay, jLift, jMake, jPlain]
  kernel_rfl
theorem named : Try.prog.funcNamed Rows.portsSampleRow.func = some 15 := by kernel_rfl
theorem over : Rows.portsSampleRow.holds Try.pinned (OpenSpec.ofChange Rows.portsSampleSpec) :=
  OpenClaim.holds_of_wide 15 Try.f15 rfl rfl rfl rfl rfl rfl rfl ⟨rfl, rfl, rfl, rfl, rfl⟩ rfl rfl rfl rfl rfl named Try.func15 facts
    (of_decide_eq_true (by kernel_rfl)) (by unfold Func.isWrapper; first | (rw [if_pos (by decide +kernel)]; kernel_rfl) | (rw [if_neg (by decide +kernel)]; exact ⟨rfl, rfl⟩))
    (fun os started H enc _ => lifted os started H enc)
theorem proved : Rows.PortsSampleSaid := over
end Go.Proofs.Ytgkcackpffimmaa.portsSampleDone
