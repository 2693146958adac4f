/- CONFIG: which links and ports there are, what an end system sends and takes, and how late it may be. It is proved that the statement ConfigFinds holds of the given program, for every argument. -/
import Derived.Test.YtgkcackpffimmaaRows
import Derived.WalkKit
import Derived.ProofKit
import Derived.OpenShut
import Derived.ShutString
import Derived.ChangeOld
import Derived.Below
import Derived.Test.YtgkcackpffimmaaM4
import Derived.Test.YtgkcackpffimmaaJ0
set_option linter.unusedVariables false
set_option linter.unusedSimpArgs false
set_option maxRecDepth 10000
namespace Go.Proofs.Ytgkcackpffimmaa.configFindsDone
open Go.TM

theorem calls (tvs : List TV) (h : TyAll (mkTab Try.prog) 6 Try.f25.params.toList tvs) : TCalls Try.prog 25 tvs [] fun tv _ => tv = .bool true := by
  rw [show Try.f25.params.toList = [27, 3, 3] by kernel_rfl] at h
  obtain ⟨a, _, rfl, ha, h⟩ := TyAll_cons h
  obtain ⟨b, _, rfl, hb, h⟩ := TyAll_cons h
  obtain ⟨d, _, rfl, hd, h⟩ := TyAll_cons h
  obtain rfl := TyAll_nil h
  obtain ⟨c, rfl, hc⟩ := TyCfgV ha
  obtain ⟨n, rfl, hn⟩ := TyV_int tab3 rfl hb
  obtain ⟨m, rfl, hm⟩ := TyV_int tab3 rfl hd
  exact (finds_walk c hc n m []).mono fun tv s q => q.1

open Go.ChangeShapes Go.WideShapes Go.ChangeAt Go.RowKit
set_option maxRecDepth 100000 in
theorem lifted (os : Os) (started : os.Started) (H : Type) (enc : TypeId × Value → H) :
    ReturnsInHanded {} Try.checked os 25 .any (Rows.configFindsSpec.pre6 enc Try.prog Try.f25 Rows.configFindsRow.domain false) (Rows.configFindsSpec.post enc Try.prog Try.f25 false true false false) := by
  refine returnsInHanded_of_change (C := Try.checked) own started (by kernel_rfl) Try.func25
    (ChangeSpec.witness6 (enc := enc) (C := Try.checked) false ⟨#[], #[.agg #[.int .i64 0, .slice none 0 0, .int .i64 0, .slice none 0 0, .slice none 0 0, .slice none 0 0], .int .i64 0, .int .i64 0], []⟩ 8 (by kernel_rfl) (by kernel_rfl) (by kernel_rfl) (by kernel_rfl)) ?_
  intro W base args ds gs before hval hW hcnd _
  exact law_contract (rt := 4) 6 laidOut rfl (by intro ds h; match ds, h with | [_, _, _], _ => rfl) (by kernel_rfl) (by kernel_rfl) (by kernel_rfl) (by kernel_rfl) calls W base args ds gs before hval hW
theorem f1 : Rows.configFindsRow.wf (OpenSpec.ofChange Rows.configFindsSpec) = true := by kernel_rfl
theorem f4 : (Rows.configFindsRow.inPlace == Try.prog.inPlace 25) = true := by kernel_rfl
theorem f5 : (Rows.configFindsRow.unfollowed == Try.prog.unfollowed 25) = true := by kernel_rfl
theorem f6 : (Rows.configFindsRow.recurses == Try.prog.recurses 25) = true := by kernel_rfl
theorem f7 : (Rows.configFindsRow.named == Try.prog.varsNamed 25) = true := by kernel_rfl
theorem facts : joinedFacts Try.prog 25 Try.f25 Rows.configFindsSpec Rows.configFindsRow = true := by
  unfold joinedFacts
  rw [f1, laidOut, jMaps, f4, f5, f6, f7, jHeard, jMay, jLift, jMake, jPlain]
  kernel_rfl
theorem named : Try.prog.funcNamed Rows.configFindsRow.func = some 25 := by kernel_rfl
theorem over : Rows.configFindsRow.holds Try.pinned (OpenSpec.ofChange Rows.configFindsSpec) :=
  OpenClaim.holds_of_wide 25 Try.f25 rfl rfl rfl rfl rfl rfl rfl ⟨rfl, rfl, rfl, rfl, rfl⟩ rfl rfl rfl rfl rfl named Try.func25 facts
    (of_decide_eq_true (by kernel_rfl)) (by unfold Func.isWrapper; first | (rw [if_pos (by decide +kernel)]; kernel_rfl) | (rw [if_neg (by decide +kernel)]; exact ⟨rfl, rfl⟩))
    (fun os started H enc _ => lifted os started H enc)
theorem proved : Rows.ConfigFindsSaid := over
end Go.Proofs.Ytgkcackpffimmaa.configFindsDone
