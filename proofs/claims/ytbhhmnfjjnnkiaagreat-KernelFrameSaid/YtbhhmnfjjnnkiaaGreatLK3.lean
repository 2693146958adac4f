/- KERNEL: in a frame each partition of a host is active as long as its windows are. It is proved that the statement KernelFrame holds of the given program, for every argument. -/
import Derived.Test.YtbhhmnfjjnnkiaaGreatRows
import Derived.WalkKit
import Derived.ProofKit
import Derived.OpenShut
import Derived.ShutString
import Derived.ChangeOld
import Derived.Below
import Derived.Test.YtbhhmnfjjnnkiaaGreatQ12
import Derived.Test.YtbhhmnfjjnnkiaaGreatJ0
set_option linter.unusedVariables false
set_option linter.unusedSimpArgs false
set_option maxRecDepth 10000
namespace Go.Proofs.YtbhhmnfjjnnkiaaGreat.kernelFrameDone
open Go.TM

theorem calls (tvs : List TV) (h : TyAll (mkTab Tryz.prog) 6 Tryz.f4.params.toList tvs) : TCalls Tryz.prog 4 tvs [] fun tv _ => tv = .bool true := by
  rw [show Tryz.f4.params.toList = [27, 3] by kernel_rfl] at h
  obtain ⟨a, _, rfl, ha, h⟩ := TyAll_cons h
  obtain ⟨b, _, rfl, hb, h⟩ := TyAll_cons h
  obtain rfl := TyAll_nil h
  obtain ⟨c, rfl, hc⟩ := TyCfgV ha
  obtain ⟨n, rfl, hn⟩ := TyV_int tab3 rfl hb
  exact frame_walk c hc n hn

open Go.ChangeShapes Go.WideShapes Go.ChangeAt Go.RowKit
set_option maxRecDepth 100000 in
theorem lifted (os : Os) (started : os.Started) (H : Type) (enc : TypeId × Value → H) :
    ReturnsInHanded {} Tryz.checked os 4 .any (Rows.kernelFrameSpec.pre6 enc Tryz.prog Tryz.f4 Rows.kernelFrameRow.domain false) (Rows.kernelFrameSpec.post enc Tryz.prog Tryz.f4 false true false false) := by
  refine returnsInHanded_of_change (C := Tryz.checked) own started (by kernel_rfl) Tryz.func4
    (ChangeSpec.witness6 (enc := enc) (C := Tryz.checked) false ⟨#[], #[.agg #[.int .i64 0, .slice none 0 0, .int .i64 0, .slice none 0 0, .slice none 0 0, .slice none 0 0], .int .i64 0], []⟩ 8 (by kernel_rfl) (by kernel_rfl) (by kernel_rfl) (by kernel_rfl)) ?_
  intro W base args ds gs before hval hW hcnd _
  exact law_contract (rt := 4) 6 laidOut rfl (by intro ds h; match ds, h with | [_, _], _ => rfl) (by kernel_rfl) (by kernel_rfl) (by kernel_rfl) (by kernel_rfl) calls W base args ds gs before hval hW
theorem f1 : Rows.kernelFrameRow.wf (OpenSpec.ofChange Rows.kernelFrameSpec) = true := by kernel_rfl
theorem f4 : (Rows.kernelFrameRow.inPlace == Tryz.prog.inPlace 4) = true := by kernel_rfl
theorem f5 : (Rows.kernelFrameRow.unfollowed == Tryz.prog.unfollowed 4) = true := by kernel_rfl
theorem f6 : (Rows.kernelFrameRow.recurses == Tryz.prog.recurses 4) = true := by kernel_rfl
theorem f7 : (Rows.kernelFrameRow.named == Tryz.prog.varsNamed 4) = true := by kernel_rfl
theorem facts : joinedFacts Tryz.prog 4 Tryz.f4 Rows.kernelFrameSpec Rows.kernelFrameRow = true := by
  unfold joinedFacts
  rw [f1, laidOut, jMaps, f4, f5, f6, f7, jHeard, jMay, jLift, jMake, jPlain]
  kernel_rfl
theorem named : Tryz.prog.funcNamed Rows.kernelFrameRow.func = some 4 := by kernel_rfl
theorem over : Rows.kernelFrameRow.holds Tryz.pinned (OpenSpec.ofChange Rows.kernelFrameSpec) :=
  OpenClaim.holds_of_wide 4 Tryz.f4 rfl rfl rfl rfl rfl rfl rfl ⟨rfl, rfl, rfl, rfl, rfl⟩ rfl rfl rfl rfl rfl named Tryz.func4 facts
    (of_decide_eq_true (by kernel_rfl)) (by unfold Func.isWrapper; first | (rw [if_pos (by decide +kernel)]; kernel_rfl) | (rw [if_neg (by decide +kernel)]; exact ⟨rfl, rfl⟩))
    (fun os started H enc _ => lifted os started H enc)
theorem proved : Rows.KernelFrameSaid := over
end Go.Proofs.YtbhhmnfjjnnkiaaGreat.kernelFrameDone
