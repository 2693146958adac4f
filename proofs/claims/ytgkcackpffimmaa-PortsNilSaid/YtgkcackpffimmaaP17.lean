/- What the arguments of the ports' statements are. -/
import Derived.Test.YtgkcackpffimmaaP10
set_option linter.unusedVariables false
set_option linter.unusedSimpArgs false
set_option maxRecDepth 10000
set_option maxHeartbeats 4000000
namespace Go.Proofs.Ytgkcackpffimmaa
open Go.TM

theorem TyStr' {d : Nat} {cs : List TV} (h : Ty (mkTab Try.prog) (d + 1) 9 cs) : ∃ l : List UInt8, cs = [.str (B l)] ∧ l.length ≤ 9223372036854775807 := by
  simp only [Ty, tab9] at h
  obtain ⟨s, hs, hz⟩ := h
  exact ⟨s.data.toList, by rw [hs]; try rfl, by rw [← B_size, ← B_of]; exact hz⟩
theorem TyStrs {d : Nat} {a : TV} (h : TyV (mkTab Try.prog) (d + 2) 60 a) : ∃ r : Row (List UInt8), a = rowTV strC r ∧ r.l.length ≤ 9223372036854775807 := by
  obtain ⟨r, h1, h2, _⟩ := TyRow (d := d + 1) (α := List UInt8) (f := strC) (p := fun _ => True) tab60 rfl tab9 (fun _ => rfl) (fun cs hc _ => by
    obtain ⟨l, h1, _⟩ := TyStr' hc
    exact ⟨l, h1, trivial⟩) h
  exact ⟨r, h1, h2⟩
theorem TyBools {d : Nat} {a : TV} (h : TyV (mkTab Try.prog) (d + 2) 61 a) : ∃ r : Row Bool, a = rowTV (fun b => [.bool b]) r ∧ r.l.length ≤ 9223372036854775807 := by
  obtain ⟨r, h1, h2, _⟩ := TyRow (d := d + 1) (α := Bool) (f := fun b => [.bool b]) (p := fun _ => True) tab61 rfl tab4 (fun _ => rfl) (fun cs hc _ => by
    obtain ⟨b, h1⟩ := TyBool hc
    exact ⟨b, h1, trivial⟩) h
  exact ⟨r, h1, h2⟩
theorem TyInts {d : Nat} {a : TV} (h : TyV (mkTab Try.prog) (d + 2) 22 a) : ∃ r : Row Int, a = rowTV intC r ∧ r.l.length ≤ 9223372036854775807 ∧ ∀ x ∈ r.l, I64 x :=
  TyRow (d := d + 1) (α := Int) (f := intC) (p := I64) tab22 rfl tab3 (fun _ => rfl) (fun cs hc _ => TyInt hc) h
theorem TyOps {d : Nat} {a : TV} (h : TyV (mkTab Try.prog) (d + 3) 72 a) : ∃ r : Row Opn, a = rowTV opC r ∧ r.l.length ≤ 9223372036854775807 ∧ ∀ o ∈ r.l, o.data.length ≤ 9223372036854775807 :=
  TyRow (d := d + 2) (α := Opn) (f := opC) (p := fun o => o.data.length ≤ 9223372036854775807) tab72 rfl tab74 (fun _ => rfl) (fun cs hc hl => by
    have h := Ty_struct tab74 rfl hc
    simp only [List.mem_cons, List.not_mem_nil, or_false, forall_eq_or_imp, forall_eq, tab3, tab9] at h
    obtain ⟨h, h0, h1, h2, h3⟩ := h
    obtain ⟨a0, a1, a2, a3, e⟩ : ∃ a0 a1 a2 a3, cs = [a0, a1, a2, a3] := by
      match cs, h with
      | [a0, a1, a2, a3], _ => exact ⟨a0, a1, a2, a3, rfl⟩
    rw [e] at h0 h1 h2 h3
    simp only [List.drop_zero, List.drop_succ_cons, List.take_succ_cons, List.take_zero] at h0 h1 h2 h3
    obtain ⟨x0, e0, q0⟩ := TyInt h0; cases e0
    obtain ⟨x1, e1, q1⟩ := TyInt h1; cases e1
    obtain ⟨x2, e2, q2⟩ := TyInt h2; cases e2
    obtain ⟨x3, e3, q3⟩ := TyStr' h3; cases e3
    exact ⟨⟨x0, x1, x2, x3⟩, e, q3⟩) h
end Go.Proofs.Ytgkcackpffimmaa
