/- PORTS: no port has more messages than may wait there, and what is refused turns nothing. It is proved that the statement PortsRoom holds of the given program, for every argument. -/
import Derived.Test.YtgkcackpffimmaaRows
import Derived.WalkKit
import Derived.ProofKit
import Derived.OpenShut
import Derived.ShutString
import Derived.ChangeOld
import Derived.Below
import Derived.Test.YtgkcackpffimmaaP17
import Derived.Test.YtgkcackpffimmaaP13
import Derived.Test.YtgkcackpffimmaaJ0
set_option linter.unusedVariables false
set_option linter.unusedSimpArgs false
set_option maxRecDepth 10000
namespace Go.Proofs.Ytgkcackpffimmaa.portsRoomDone
open Go.TM

theorem calls (tvs : List TV) (h : TyAll (mkTab Try.prog) 6 Try.f16.params.toList tvs) : TCalls Try.prog 16 tvs [] fun tv _ => tv = .bool true := by
  rw [show Try.f16.params.toList = [27, 3, 72] by kernel_rfl] at h
  obtain ⟨a, _, rfl, ha, h⟩ := TyAll_cons h
  obtain ⟨b, _, rfl, hb, h⟩ := TyAll_cons h
  obtain ⟨c, _, rfl, hc, h⟩ := TyAll_cons h
  obtain rfl := TyAll_nil h
  obtain ⟨c, rfl, hc2⟩ := TyCfgV ha
  obtain ⟨n, rfl, hn⟩ := TyV_int tab3 rfl hb
  obtain ⟨l, rfl, hl, hl2⟩ := TyOps hc
  exact room_walk c hc2 n hn l hl2 hl

open Go.ChangeShapes Go.WideShapes Go.ChangeAt Go.RowKit
set_option maxRecDepth 100000 in
theorem lifted (os : Os) (started : os.Started) (H : Type) (enc : TypeId × Value → H) :
    ReturnsInHanded {} Try.checked os 16 .any (Rows.portsRoomSpec.pre6 enc Try.prog Try.f16 Rows.portsRoomRow.domain false) (Rows.portsRoomSpec.post enc Try.prog Try.f16 false true false false) := by
  refine returnsInHanded_of_change (C := Try.checked) own started (by kernel_rfl) Try.func16
    (ChangeSpec.witness6 (enc := enc) (C := Try.checked) false ⟨#[], #[.agg #[.int .i64 0, .slice none 0 0, .int .i64 0, .slice none 0 0, .slice none 0 0, .slice none 0 0], .int .i64 0, .slice none 0 0], []⟩ 8 (by kernel_rfl) (by kernel_rfl) (by kernel_rfl) (by kernel_rfl)) ?_
  intro W base args ds gs before hval hW hcnd _
  exact law_contract (rt := 4) 6 laidOut rfl (by intro ds h; match ds, h with | [_, _, _], _ => rfl) (by kernel_rfl) (by kernel_rfl) (by kernel_rfl) (by kernel_rfl) calls W base args ds gs before hval hW
theorem f1 : Rows.portsRoomRow.wf (OpenSpec.ofChange Rows.portsRoomSpec) = true := by kernel_rfl
theorem f4 : (Rows.portsRoomRow.inPlace == Try.prog.inPlace 16) = true := by kernel_rfl
theorem f5 : (Rows.portsRoomRow.unfollowed == Try.prog.unfollowed 16) = true := by kernel_rfl
theorem f6 : (Rows.portsRoomRow.recurses == Try.prog.recurses 16) = true := by kernel_rfl
theorem f7 : (Rows.portsRoomRow.named == Try.prog.varsNamed 16) = true := by kernel_rfl
theorem facts : joinedFacts Try.prog 16 Try.f16 Rows.portsRoomSpec Rows.portsRoomRow = true := by
  unfold joinedFacts
  rw [f1, laidOut, jMaps, f4, f5, f6, f7, jHeard, jMay, jLift, jMake, jPlain]
  kernel_rfl
theorem named : Try.prog.funcNamed Rows.portsRoomRow.func = some 16 := by kernel_rfl
theorem over : Rows.portsRoomRow.holds Try.pinned (OpenSpec.ofChange Rows.portsRoomSpec) :=
  OpenClaim.holds_of_wide 16 Try.f16 rfl rfl rfl rfl rfl rfl rfl ⟨rfl, rfl, rfl, rfl, rfl⟩ rfl rfl rfl rfl rfl named Try.func16 facts
    (of_decide_eq_true (by kernel_rfl)) (by unfold Func.isWrapper; first | (rw [if_pos (by decide +kernel)]; kernel_rfl) | (rw [if_neg (by decide +kernel)]; exact ⟨rfl, rfl⟩))
    (fun os started H enc _ => lifted os started H enc)
theorem proved : Rows.PortsRoomSaid := over
end Go.Proofs.Ytgkcackpffimmaa.portsRoomDone
