/- KERNEL: a call at a tick that is ahead of one that was is ErrTime, and turns no mode. It is proved that the statement KernelTime holds of the given program, for every argument. -/
import Derived.Test.YtbhhmnfjjnnkiaaGreatRows
import Derived.WalkKit
import Derived.ProofKit
import Derived.OpenShut
import Derived.ShutString
import Derived.ChangeOld
import Derived.Below
import Derived.Test.YtbhhmnfjjnnkiaaGreatQ14
import Derived.Test.YtbhhmnfjjnnkiaaGreatJ0
set_option linter.unusedVariables false
set_option linter.unusedSimpArgs false
set_option maxRecDepth 10000
namespace Go.Proofs.YtbhhmnfjjnnkiaaGreat.kernelTimeDone
open Go.TM

theorem TyFour {d : Nat} {a : TV} (h : TyV (mkTab Tryz.prog) (d + 2) 63 a) : ∃ x0 x1 x2 x3 : Int, a = .agg [.int .i64 x0, .int .i64 x1, .int .i64 x2, .int .i64 x3] ∧ I64 x0 ∧ I64 x1 ∧ I64 x2 ∧ I64 x3 := by
  have h1 := h.1
  have ha := h.2 _ tab63
  simp only [Ty, tab63] at h1
  rw [show mkTab Tryz.prog 3 = _ from tab3] at h1
  obtain ⟨hl, hq⟩ := h1
  have hc : ∃ cs, a = .agg cs := by cases a <;> first | (cases ha; done) | exact ⟨_, rfl⟩
  obtain ⟨cs, rfl⟩ := hc
  simp only [TV.cells] at hl hq
  match cs, hl with
  | [a0, a1, a2, a3], _ =>
    have q0 := hq 0 (by omega)
    have q1 := hq 1 (by omega)
    have q2 := hq 2 (by omega)
    have q3 := hq 3 (by omega)
    obtain ⟨x0, e0, b0⟩ := TyInt (d := d) q0
    obtain ⟨x1, e1, b1⟩ := TyInt (d := d) q1
    obtain ⟨x2, e2, b2⟩ := TyInt (d := d) q2
    obtain ⟨x3, e3, b3⟩ := TyInt (d := d) q3
    simp at e0 e1 e2 e3
    subst e0 e1 e2 e3
    exact ⟨x0, x1, x2, x3, rfl, b0, b1, b2, b3⟩
theorem TyStrK {d : Nat} {cs : List TV} (h : Ty (mkTab Tryz.prog) (d + 1) 9 cs) : ∃ l : List UInt8, cs = [.str (B l)] ∧ l.length ≤ 9223372036854775807 := by
  simp only [Ty, tab9] at h
  obtain ⟨s, hs, hz⟩ := h
  exact ⟨s.data.toList, by rw [hs]; try rfl, by rw [← B_size, ← B_of]; exact hz⟩
theorem TyCall {d : Nat} {a : TV} (h : TyV (mkTab Tryz.prog) (d + 2) 48 a) : ∃ (x0 x1 x3 : Int) (s : List UInt8), a = .agg [.int .i64 x0, .int .i64 x1, .str (B s), .int .i64 x3] ∧ s.length ≤ 9223372036854775807 := by
  have h1 := h.1
  have ha := h.2 _ tab48
  have hc : ∃ cs, a = .agg cs := by cases a <;> first | (cases ha; done) | exact ⟨_, rfl⟩
  obtain ⟨cs, rfl⟩ := hc
  simp only [TV.cells] at h1
  have h2 := Ty_struct tab48 rfl h1
  simp only [List.mem_cons, List.not_mem_nil, or_false, forall_eq_or_imp, forall_eq, tab3, tab9] at h2
  obtain ⟨hl, h0, h1, h2, h3⟩ := h2
  match cs, hl with
  | [a0, a1, a2, a3], _ =>
    simp only [List.drop_zero, List.drop_succ_cons, List.take_succ_cons, List.take_zero] at h0 h1 h2 h3
    obtain ⟨x0, e0, _⟩ := TyInt h0; cases e0
    obtain ⟨x1, e1, _⟩ := TyInt h1; cases e1
    obtain ⟨s, e2, hs⟩ := TyStrK h2; cases e2
    obtain ⟨x3, e3, _⟩ := TyInt h3; cases e3
    exact ⟨x0, x1, x3, s, rfl, hs⟩
theorem calls (tvs : List TV) (h : TyAll (mkTab Tryz.prog) 6 Tryz.f7.params.toList tvs) : TCalls Tryz.prog 7 tvs [] fun tv _ => tv = .bool true := by
  rw [show Tryz.f7.params.toList = [27, 63, 48] by kernel_rfl] at h
  obtain ⟨a, _, rfl, ha, h⟩ := TyAll_cons h
  obtain ⟨b, _, rfl, hb, h⟩ := TyAll_cons h
  obtain ⟨d, _, rfl, hd, h⟩ := TyAll_cons h
  obtain rfl := TyAll_nil h
  obtain ⟨c, rfl, hc⟩ := TyCfgV ha
  obtain ⟨x0, x1, x2, x3, rfl, b0, b1, b2, b3⟩ := TyFour hb
  obtain ⟨y0, y1, y3, s, rfl, hs⟩ := TyCall hd
  exact time_walk c hc x0 x1 x2 x3 y0 y1 y3 s hs b0 b1 b2 b3

open Go.ChangeShapes Go.WideShapes Go.ChangeAt Go.RowKit
set_option maxRecDepth 100000 in
theorem lifted (os : Os) (started : os.Started) (H : Type) (enc : TypeId × Value → H) :
    ReturnsInHanded {} Tryz.checked os 7 .any (Rows.kernelTimeSpec.pre6 enc Tryz.prog Tryz.f7 Rows.kernelTimeRow.domain false) (Rows.kernelTimeSpec.post enc Tryz.prog Tryz.f7 false true false false) := by
  refine returnsInHanded_of_change (C := Tryz.checked) own started (by kernel_rfl) Tryz.func7
    (ChangeSpec.witness6 (enc := enc) (C := Tryz.checked) false ⟨#[], #[.agg #[.int .i64 0, .slice none 0 0, .int .i64 0, .slice none 0 0, .slice none 0 0, .slice none 0 0], .agg #[.int .i64 0, .int .i64 0, .int .i64 0, .int .i64 0], .agg #[.int .i64 0, .int .i64 0, .string ⟨#[]⟩, .int .i64 0]], []⟩ 8 (by kernel_rfl) (by kernel_rfl) (by kernel_rfl) (by kernel_rfl)) ?_
  intro W base args ds gs before hval hW hcnd _
  exact law_contract (rt := 4) 6 laidOut rfl (by intro ds h; match ds, h with | [_, _, _], _ => rfl) (by kernel_rfl) (by kernel_rfl) (by kernel_rfl) (by kernel_rfl) calls W base args ds gs before hval hW
theorem f1 : Rows.kernelTimeRow.wf (OpenSpec.ofChange Rows.kernelTimeSpec) = true := by kernel_rfl
theorem f4 : (Rows.kernelTimeRow.inPlace == Tryz.prog.inPlace 7) = true := by kernel_rfl
theorem f5 : (Rows.kernelTimeRow.unfollowed == Tryz.prog.unfollowed 7) = true := by kernel_rfl
theorem f6 : (Rows.kernelTimeRow.recurses == Tryz.prog.recurses 7) = true := by kernel_rfl
theorem f7 : (Rows.kernelTimeRow.named == Tryz.prog.varsNamed 7) = true := by kernel_rfl
theorem facts : joinedFacts Tryz.prog 7 Tryz.f7 Rows.kernelTimeSpec Rows.kernelTimeRow = true := by
  unfold joinedFacts
  rw [f1, laidOut, jMaps, f4, f5, f6, f7, jHeard, jMay, jLift, jMake, jPlain]
  kernel_rfl
theorem named : Tryz.prog.funcNamed Rows.kernelTimeRow.func = some 7 := by kernel_rfl
theorem over : Rows.kernelTimeRow.holds Tryz.pinned (OpenSpec.ofChange Rows.kernelTimeSpec) :=
  OpenClaim.holds_of_wide 7 Tryz.f7 rfl rfl rfl rfl rfl rfl rfl ⟨rfl, rfl, rfl, rfl, rfl⟩ rfl rfl rfl rfl rfl named Tryz.func7 facts
    (of_decide_eq_true (by kernel_rfl)) (by unfold Func.isWrapper; first | (rw [if_pos (by decide +kernel)]; kernel_rfl) | (rw [if_neg (by decide +kernel)]; exact ⟨rfl, rfl⟩))
    (fun os started H enc _ => lifted os started H enc)
theorem proved : Rows.KernelTimeSaid := over
end Go.Proofs.YtbhhmnfjjnnkiaaGreat.kernelTimeDone
