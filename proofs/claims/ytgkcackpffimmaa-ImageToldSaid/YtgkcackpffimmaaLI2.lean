/- IMAGE: an image of which one byte is another one is told. It is proved that the statement ImageTold holds of the given program, for every argument. -/
import Derived.Test.YtgkcackpffimmaaRows
import Derived.WalkKit
import Derived.ProofKit
import Derived.OpenShut
import Derived.ShutString
import Derived.ChangeOld
import Derived.Below
import Derived.Test.YtgkcackpffimmaaI7
import Derived.Test.YtgkcackpffimmaaJ0
set_option linter.unusedVariables false
set_option linter.unusedSimpArgs false
set_option maxRecDepth 10000
namespace Go.Proofs.Ytgkcackpffimmaa.imageToldDone
open Go.TM

theorem calls (tvs : List TV) (h : TyAll (mkTab Try.prog) 6 Try.f23.params.toList tvs) : TCalls Try.prog 23 tvs [] fun tv _ => tv = .bool true := by
  rw [show Try.f23.params.toList = [27, 3, 5] by kernel_rfl] at h
  obtain ⟨a, _, rfl, ha, h⟩ := TyAll_cons h
  obtain ⟨b, _, rfl, hb, h⟩ := TyAll_cons h
  obtain ⟨d, _, rfl, hd, h⟩ := TyAll_cons h
  obtain rfl := TyAll_nil h
  obtain ⟨c, rfl, hc⟩ := TyCfgV ha
  obtain ⟨n, rfl, hn⟩ := TyV_int tab3 rfl hb
  obtain ⟨u, rfl, h0, h1⟩ := TyV_int tab5 rfl hd
  have h0 : 0 ≤ u := h0
  have h1 : u ≤ 255 := h1
  have hu : u = ((b8 u).toNat : Int) := by rw [b8_toNat]; omega
  rw [hu]
  exact (told11_walk c hc n (b8 u) hn).mono fun tv s q => q.1

open Go.ChangeShapes Go.WideShapes Go.ChangeAt Go.RowKit
set_option maxRecDepth 100000 in
theorem lifted (os : Os) (started : os.Started) (H : Type) (enc : TypeId × Value → H) :
    ReturnsInHanded {} Try.checked os 23 .any (Rows.imageToldSpec.pre6 enc Try.prog Try.f23 Rows.imageToldRow.domain false) (Rows.imageToldSpec.post enc Try.prog Try.f23 false true false false) := by
  refine returnsInHanded_of_change (C := Try.checked) own started (by kernel_rfl) Try.func23
    (ChangeSpec.witness6 (enc := enc) (C := Try.checked) false ⟨#[], #[.agg #[.int .i64 0, .slice none 0 0, .int .i64 0, .slice none 0 0, .slice none 0 0, .slice none 0 0], .int .i64 0, .int .u8 0], []⟩ 8 (by kernel_rfl) (by kernel_rfl) (by kernel_rfl) (by kernel_rfl)) ?_
  intro W base args ds gs before hval hW hcnd _
  exact law_contract (rt := 4) 6 laidOut rfl (by intro ds h; match ds, h with | [_, _, _], _ => rfl) (by kernel_rfl) (by kernel_rfl) (by kernel_rfl) (by kernel_rfl) calls W base args ds gs before hval hW
theorem f1 : Rows.imageToldRow.wf (OpenSpec.ofChange Rows.imageToldSpec) = true := by kernel_rfl
theorem f4 : (Rows.imageToldRow.inPlace == Try.prog.inPlace 23) = true := by kernel_rfl
theorem f5 : (Rows.imageToldRow.unfollowed == Try.prog.unfollowed 23) = true := by kernel_rfl
theorem f6 : (Rows.imageToldRow.recurses == Try.prog.recurses 23) = true := by kernel_rfl
theorem f7 : (Rows.imageToldRow.named == Try.prog.varsNamed 23) = true := by kernel_rfl
theorem facts : joinedFacts Try.prog 23 Try.f23 Rows.imageToldSpec Rows.imageToldRow = true := by
  unfold joinedFacts
  rw [f1, laidOut, jMaps, f4, f5, f6, f7, jHeard, jMay, jLift, jMake, jPlain]
  kernel_rfl
theorem named : Try.prog.funcNamed Rows.imageToldRow.func = some 23 := by kernel_rfl
theorem over : Rows.imageToldRow.holds Try.pinned (OpenSpec.ofChange Rows.imageToldSpec) :=
  OpenClaim.holds_of_wide 23 Try.f23 rfl rfl rfl rfl rfl rfl rfl ⟨rfl, rfl, rfl, rfl, rfl⟩ rfl rfl rfl rfl rfl named Try.func23 facts
    (of_decide_eq_true (by kernel_rfl)) (by unfold Func.isWrapper; first | (rw [if_pos (by decide +kernel)]; kernel_rfl) | (rw [if_neg (by decide +kernel)]; exact ⟨rfl, rfl⟩))
    (fun os started H enc _ => lifted os started H enc)
theorem proved : Rows.ImageToldSaid := over
end Go.Proofs.Ytgkcackpffimmaa.imageToldDone
