/- ETHER: a frame of which one byte is another one is ErrSum. It is proved that the statement EtherTold holds of the given program, for every argument. -/
import Derived.Test.YtgkcackpffimmaaRows
import Derived.WalkKit
import Derived.ProofKit
import Derived.OpenShut
import Derived.ShutString
import Derived.ChangeOld
import Derived.Below
import Derived.Test.YtgkcackpffimmaaH13
import Derived.Test.YtgkcackpffimmaaT28
import Derived.Test.YtgkcackpffimmaaJ0
set_option linter.unusedVariables false
set_option linter.unusedSimpArgs false
set_option maxRecDepth 10000
namespace Go.Proofs.Ytgkcackpffimmaa.etherToldDone
open Go.TM

theorem frm_reach {f : Frm} {tvs : List TV} {ts : List TypeId} (h : Reached Try.prog (48 :: ts) (.agg (frC f) :: tvs)) : f.data.length ≤ 140737488351232 := by
  obtain ⟨info, d, k1, k2, k3, k4, k5, k6, k7⟩ := mkTab_sound tab48
  obtain ⟨fields, rfl, hfs, _⟩ := TK.of_struct k3.symm
  obtain ⟨info2, d2, l1, l2, l3, l4, l5, l6, l7⟩ := mkTab_sound tab9
  have hd2 : d2 = .string := by
    cases d2 <;> simp only [TK.of] at l3 <;> first | rfl | (cases l3; done)
  subst hd2
  have h4 : (fields.toList.map fun f => (f.type, f.offset))[4]? = some (9, 4) := by rw [← hfs]; rfl
  rw [List.getElem?_map] at h4
  cases hf : fields.toList[4]? with
  | none => rw [hf] at h4; cases h4
  | some fd =>
    rw [hf] at h4
    simp only [Option.map_some, Option.some.injEq, Prod.mk.injEq] at h4
    have := h 0 48 (.agg (frC f)) fields 4 fd (B f.data) rfl rfl k2 hf (by rw [h4.1]; exact l2) (by rw [h4.1, cellsOf_tab tab9]) rfl (by rw [h4.2]; rfl)
    rw [B_size] at this
    exact this

theorem calls (tvs : List TV) (h : TyAll (mkTab Try.prog) 6 Try.f10.params.toList tvs) (hr : Reached Try.prog Try.f10.params.toList tvs) : TCalls Try.prog 10 tvs [] fun tv _ => tv = .bool true := by
  have hp : Try.f10.params.toList = [48, 3, 5] := by kernel_rfl
  rw [hp] at h hr
  obtain ⟨a, _, rfl, ha, h⟩ := TyAll_cons h
  obtain ⟨b, _, rfl, hb, h⟩ := TyAll_cons h
  obtain ⟨c, _, rfl, hc, h⟩ := TyAll_cons h
  obtain rfl := TyAll_nil h
  obtain ⟨f, rfl, hf, hl⟩ := TyFrm ha
  obtain ⟨n, rfl, hn⟩ := TyV_int tab3 rfl hb
  obtain ⟨u, rfl, h0, h1⟩ := TyV_int tab5 rfl hc
  have h0 : 0 ≤ u := h0
  have h1 : u ≤ 255 := h1
  have hu : u = ((b8 u).toNat : Int) := by rw [b8_toNat]; omega
  rw [hu]
  exact (told_walk f n (b8 u) hf hn (frm_reach hr)).mono fun tv s q => q.1

open Go.ChangeShapes Go.WideShapes Go.ChangeAt Go.RowKit
set_option maxRecDepth 100000 in
theorem lifted (os : Os) (started : os.Started) (H : Type) (enc : TypeId × Value → H) :
    ReturnsInHanded {} Try.checked os 10 .any (Rows.etherToldSpec.pre6 enc Try.prog Try.f10 Rows.etherToldRow.domain false) (Rows.etherToldSpec.post enc Try.prog Try.f10 false true false false) := by
  refine returnsInHanded_of_change_sized (C := Try.checked) own started (by kernel_rfl) Try.func10
    (ChangeSpec.witness6 (enc := enc) (C := Try.checked) false ⟨#[], #[.agg #[.int .i64 0, .int .i64 0, .int .i64 0, .int .i64 0, .string ⟨#[]⟩], .int .i64 0, .int .u8 0], []⟩ 8 (by kernel_rfl) (by kernel_rfl) (by kernel_rfl) (by kernel_rfl)) ?_
  intro W base args ds gs before hval hW hcnd hwt _
  exact law_contract_sized (rt := 4) 6 laidOut rfl (by rfl) (by intro ds h; match ds, h with | [_, _, _], _ => rfl) (by kernel_rfl) (by kernel_rfl) (by kernel_rfl) (by kernel_rfl) calls W base args ds gs before hval hW hwt
theorem f1 : Rows.etherToldRow.wf (OpenSpec.ofChange Rows.etherToldSpec) = true := by kernel_rfl
theorem f4 : (Rows.etherToldRow.inPlace == Try.prog.inPlace 10) = true := by kernel_rfl
theorem f5 : (Rows.etherToldRow.unfollowed == Try.prog.unfollowed 10) = true := by kernel_rfl
theorem f6 : (Rows.etherToldRow.recurses == Try.prog.recurses 10) = true := by kernel_rfl
theorem f7 : (Rows.etherToldRow.named == Try.prog.varsNamed 10) = true := by kernel_rfl
theorem facts : joinedFacts Try.prog 10 Try.f10 Rows.etherToldSpec Rows.etherToldRow = true := by
  unfold joinedFacts
  rw [f1, laidOut, jMaps, f4, f5, f6, f7, jHeard, jMay, jLift, jMake, jPlain]
  kernel_rfl
theorem named : Try.prog.funcNamed Rows.etherToldRow.func = some 10 := by kernel_rfl
theorem over : Rows.etherToldRow.holds Try.pinned (OpenSpec.ofChange Rows.etherToldSpec) :=
  OpenClaim.holds_of_wide 10 Try.f10 rfl rfl rfl rfl rfl rfl rfl ⟨rfl, rfl, rfl, rfl, rfl⟩ rfl rfl rfl rfl rfl named Try.func10 facts
    (of_decide_eq_true (by kernel_rfl)) (by unfold Func.isWrapper; first | (rw [if_pos (by decide +kernel)]; kernel_rfl) | (rw [if_neg (by decide +kernel)]; exact ⟨rfl, rfl⟩))
    (fun os started H enc _ => lifted os started H enc)
theorem proved : Rows.EtherToldSaid := over
end Go.Proofs.Ytgkcackpffimmaa.etherToldDone
