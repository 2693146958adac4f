/- KERNEL: at each tick no more than one partition of a host is active. It is proved that the statement KernelWindows holds of the given program, for every argument. -/
import Derived.Test.YtbhhmnfjjnnkiaaGreatRows
import Derived.WalkKit
import Derived.ProofKit
import Derived.OpenShut
import Derived.ShutString
import Derived.ChangeOld
import Derived.Below
import Derived.Test.YtbhhmnfjjnnkiaaGreatQ11
import Derived.Test.YtbhhmnfjjnnkiaaGreatJ0
set_option linter.unusedVariables false
set_option linter.unusedSimpArgs false
set_option maxRecDepth 10000
namespace Go.Proofs.YtbhhmnfjjnnkiaaGreat.kernelWindowsDone
open Go.TM

theorem calls (tvs : List TV) (h : TyAll (mkTab Tryz.prog) 6 Tryz.f3.params.toList tvs) : TCalls Tryz.prog 3 tvs [] fun tv _ => tv = .bool true := by
  rw [show Tryz.f3.params.toList = [27, 3, 3] by kernel_rfl] at h
  obtain ⟨a, _, rfl, ha, h⟩ := TyAll_cons h
  obtain ⟨b, _, rfl, hb, h⟩ := TyAll_cons h
  obtain ⟨d, _, rfl, hd, h⟩ := TyAll_cons h
  obtain rfl := TyAll_nil h
  obtain ⟨c, rfl, hc⟩ := TyCfgV ha
  obtain ⟨n, rfl, hn⟩ := TyV_int tab3 rfl hb
  obtain ⟨m, rfl, hm⟩ := TyV_int tab3 rfl hd
  exact windows_walk c hc n m hn hm

open Go.ChangeShapes Go.WideShapes Go.ChangeAt Go.RowKit
set_option maxRecDepth 100000 in
theorem lifted (os : Os) (started : os.Started) (H : Type) (enc : TypeId × Value → H) :
    ReturnsInHanded {} Tryz.checked os 3 .any (Rows.kernelWindowsSpec.pre6 enc Tryz.prog Tryz.f3 Rows.kernelWindowsRow.domain false) (Rows.kernelWindowsSpec.post enc Tryz.prog Tryz.f3 false true false false) := by
  refine returnsInHanded_of_change (C := Tryz.checked) own started (by kernel_rfl) Tryz.func3
    (ChangeSpec.witness6 (enc := enc) (C := Tryz.checked) false ⟨#[], #[.agg #[.int .i64 0, .slice none 0 0, .int .i64 0, .slice none 0 0, .slice none 0 0, .slice none 0 0], .int .i64 0, .int .i64 0], []⟩ 8 (by kernel_rfl) (by kernel_rfl) (by kernel_rfl) (by kernel_rfl)) ?_
  intro W base args ds gs before hval hW hcnd _
  exact law_contract (rt := 4) 6 laidOut rfl (by intro ds h; match ds, h with | [_, _, _], _ => rfl) (by kernel_rfl) (by kernel_rfl) (by kernel_rfl) (by kernel_rfl) calls W base args ds gs before hval hW
theorem f1 : Rows.kernelWindowsRow.wf (OpenSpec.ofChange Rows.kernelWindowsSpec) = true := by kernel_rfl
theorem f4 : (Rows.kernelWindowsRow.inPlace == Tryz.prog.inPlace 3) = true := by kernel_rfl
theorem f5 : (Rows.kernelWindowsRow.unfollowed == Tryz.prog.unfollowed 3) = true := by kernel_rfl
theorem f6 : (Rows.kernelWindowsRow.recurses == Tryz.prog.recurses 3) = true := by kernel_rfl
theorem f7 : (Rows.kernelWindowsRow.named == Tryz.prog.varsNamed 3) = true := by kernel_rfl
theorem facts : joinedFacts Tryz.prog 3 Tryz.f3 Rows.kernelWindowsSpec Rows.kernelWindowsRow = true := by
  unfold joinedFacts
  rw [f1, laidOut, jMaps, f4, f5, f6, f7, jHeard, jMay, jLift, jMake, jPlain]
  kernel_rfl
theorem named : Tryz.prog.funcNamed Rows.kernelWindowsRow.func = some 3 := by kernel_rfl
theorem over : Rows.kernelWindowsRow.holds Tryz.pinned (OpenSpec.ofChange Rows.kernelWindowsSpec) :=
  OpenClaim.holds_of_wide 3 Tryz.f3 rfl rfl rfl rfl rfl rfl rfl ⟨rfl, rfl, rfl, rfl, rfl⟩ rfl rfl rfl rfl rfl named Tryz.func3 facts
    (of_decide_eq_true (by kernel_rfl)) (by unfold Func.isWrapper; first | (rw [if_pos (by decide +kernel)]; kernel_rfl) | (rw [if_neg (by decide +kernel)]; exact ⟨rfl, rfl⟩))
    (fun os started H enc _ => lifted os started H enc)
theorem proved : Rows.KernelWindowsSaid := over
end Go.Proofs.YtbhhmnfjjnnkiaaGreat.kernelWindowsDone
