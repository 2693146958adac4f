/- ENDRX: a nil end system receives nothing. It is proved that the statement EndrxNil holds of the given program, for every argument. -/
import Derived.Test.YtkmcbaihemaoeaaGreatRows
import Derived.WalkKit
import Derived.ProofKit
import Derived.OpenShut
import Derived.ShutString
import Derived.ChangeOld
import Derived.Below
import Derived.Test.YtkmcbaihemaoeaaGreatN3
import Derived.Test.YtkmcbaihemaoeaaGreatJ0
set_option linter.unusedVariables false
set_option linter.unusedSimpArgs false
set_option maxRecDepth 10000
namespace Go.Proofs.YtkmcbaihemaoeaaGreat.endrxNilDone
open Go.TM

theorem calls (tvs : List TV) (h : TyAll (mkTab Tryz.prog) 6 Tryz.f18.params.toList tvs) : TCalls Tryz.prog 18 tvs [] fun tv _ => tv = .bool true := by
  rw [show Tryz.f18.params.toList = [3, 3, 9] by kernel_rfl] at h
  obtain ⟨a, _, rfl, ha, h⟩ := TyAll_cons h
  obtain ⟨b, _, rfl, hb, h⟩ := TyAll_cons h
  obtain ⟨c, _, rfl, hc, h⟩ := TyAll_cons h
  obtain rfl := TyAll_nil h
  obtain ⟨n, rfl, hn⟩ := TyV_int tab3 rfl ha
  obtain ⟨m, rfl, hm⟩ := TyV_int tab3 rfl hb
  obtain ⟨s, rfl, hs⟩ := TyV_str tab9 rfl hc
  rw [B_of s]
  exact (nil21_walk n m s.data.toList (by rw [← B_size, ← B_of]; exact hs)).mono fun tv s q => q.1

open Go.ChangeShapes Go.WideShapes Go.ChangeAt Go.RowKit
set_option maxRecDepth 100000 in
theorem lifted (os : Os) (started : os.Started) (H : Type) (enc : TypeId × Value → H) :
    ReturnsInHanded {} Tryz.checked os 18 .any (Rows.endrxNilSpec.pre6 enc Tryz.prog Tryz.f18 Rows.endrxNilRow.domain false) (Rows.endrxNilSpec.post enc Tryz.prog Tryz.f18 false true false false) := by
  refine returnsInHanded_of_change (C := Tryz.checked) own started (by kernel_rfl) Tryz.func18
    (ChangeSpec.witness6 (enc := enc) (C := Tryz.checked) false ⟨#[], #[.int .i64 0, .int .i64 0, .string ⟨#[]⟩], []⟩ 8 (by kernel_rfl) (by kernel_rfl) (by kernel_rfl) (by kernel_rfl)) ?_
  intro W base args ds gs before hval hW hcnd _
  exact law_contract (rt := 4) 6 laidOut rfl (by intro ds h; match ds, h with | [_, _, _], _ => rfl) (by kernel_rfl) (by kernel_rfl) (by kernel_rfl) (by kernel_rfl) calls W base args ds gs before hval hW
theorem f1 : Rows.endrxNilRow.wf (OpenSpec.ofChange Rows.endrxNilSpec) = true := by kernel_rfl
theorem f4 : (Rows.endrxNilRow.inPlace == Tryz.prog.inPlace 18) = true := by kernel_rfl
theorem f5 : (Rows.endrxNilRow.unfollowed == Tryz.prog.unfollowed 18) = true := by kernel_rfl
theorem f6 : (Rows.endrxNilRow.recurses == Tryz.prog.recurses 18) = true := by kernel_rfl
theorem f7 : (Rows.endrxNilRow.named == Tryz.prog.varsNamed 18) = true := by kernel_rfl
theorem facts : joinedFacts Tryz.prog 18 Tryz.f18 Rows.endrxNilSpec Rows.endrxNilRow = true := by
  unfold joinedFacts
  rw [f1, laidOut, jMaps, f4, f5, f6, f7, jHeard, jMay, jLift, jMake, jPlain]
  kernel_rfl
theorem named : Tryz.prog.funcNamed Rows.endrxNilRow.func = some 18 := by kernel_rfl
theorem over : Rows.endrxNilRow.holds Tryz.pinned (OpenSpec.ofChange Rows.endrxNilSpec) :=
  OpenClaim.holds_of_wide 18 Tryz.f18 rfl rfl rfl rfl rfl rfl rfl ⟨rfl, rfl, rfl, rfl, rfl⟩ rfl rfl rfl rfl rfl named Tryz.func18 facts
    (of_decide_eq_true (by kernel_rfl)) (by unfold Func.isWrapper; first | (rw [if_pos (by decide +kernel)]; kernel_rfl) | (rw [if_neg (by decide +kernel)]; exact ⟨rfl, rfl⟩))
    (fun os started H enc _ => lifted os started H enc)
theorem proved : Rows.EndrxNilSaid := over
end Go.Proofs.YtkmcbaihemaoeaaGreat.endrxNilDone
