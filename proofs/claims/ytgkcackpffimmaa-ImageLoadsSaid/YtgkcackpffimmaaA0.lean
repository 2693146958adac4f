/- Lists that grow by append, where the right stands anywhere behind. -/
import Derived.Test.YtgkcackpffimmaaI10
set_option linter.unusedVariables false
set_option linter.unusedSimpArgs false
set_option maxRecDepth 10000
namespace Go.Proofs.Ytgkcackpffimmaa
open Go.TM

/-- A list that grows: nil, or a slice with the right to append, whose token stands behind n things. -/
def Acc {α : Type} (n sz : Nat) (f : α → List TV) (acc : List α) (lv : TV) (ρ : TS) : Prop :=
  (acc = [] ∧ lv = .nils) ∨ (acc ≠ [] ∧ ∃ j, lv = .sl (some (n + j, acc.length)) acc.length (acc.flatMap f) ∧ ρ[j]? = some (.right acc.length sz))
theorem Acc.nil {α : Type} {n sz : Nat} {f : α → List TV} {ρ : TS} : Acc n sz f [] .nils ρ := .inl ⟨rfl, rfl⟩
theorem Acc.one {α : Type} {n sz : Nat} {f : α → List TV} {acc : List α} {lv : TV} {ρ : TS} (h : Acc n sz f acc lv ρ) : lv.one = true := by
  rcases h with ⟨_, rfl⟩ | ⟨_, j, rfl, _⟩ <;> rfl
theorem Acc.cells {α : Type} {n sz : Nat} {f : α → List TV} {acc : List α} {lv : TV} {ρ : TS} (h : Acc n sz f acc lv ρ) : lv.cells = [lv] := by
  rcases h with ⟨_, rfl⟩ | ⟨_, j, rfl, _⟩ <;> rfl
theorem Acc.letgo {α : Type} {n sz : Nat} {f : α → List TV} {acc : List α} {lv : TV} {ρ : TS} (h : Acc n sz f acc lv ρ) : lv.letgo = rowTV f (rowOf acc) := by
  rcases h with ⟨rfl, rfl⟩ | ⟨h1, j, rfl, _⟩
  · rfl
  · rw [rowOf_some f h1]; rfl
theorem Acc.more {α : Type} {n sz : Nat} {f : α → List TV} {acc : List α} {lv : TV} {ρ : TS} (h : Acc n sz f acc lv ρ) (τ : TS) : Acc n sz f acc lv (ρ ++ τ) := by
  rcases h with h | ⟨h1, j, h2, h3⟩
  · exact .inl h
  · exact .inr ⟨h1, j, h2, by rw [List.getElem?_append_left (List.getElem?_eq_some_iff.1 h3).1]; exact h3⟩
theorem acc_step {α : Type} {f : α → List TV} {sz : Nat} {t : TypeId} {π ρ : TS} {acc : List α} {lv : TV} {v : α} {n : Nat}
    (h0 : ∀ {σ : TS} {x : α}, tappend (mkTab Try.prog) true σ t t .nils (.sl none 1 (f x)) = some (.sl (some (σ.length, 1)) 1 (f x), σ ++ [.right 1 sz]))
    (h1 : ∀ {σ : TS} {w : Bool} {tk n : Nat} {cs : List TV} {x : α}, σ[tk]? = some (.right n sz) → cs.length = n * sz → n ≤ 1000000 →
      tappend (mkTab Try.prog) w σ t t (.sl (some (tk, n)) n cs) (.sl none 1 (f x)) = some (.sl (some (tk, n + 1)) (n + 1) (cs ++ f x), σ.set tk (.right (n + 1) sz)))
    (hf : ∀ x, (f x).length = sz) (ha : Acc n sz f acc lv ρ) (hl : acc.length ≤ 1000000) (hn : π.length = n) :
    ∃ lv' ρ', tappend (mkTab Try.prog) true (π ++ ρ) t t lv (.sl none 1 (f v)) = some (lv', π ++ ρ') ∧ Acc n sz f (acc ++ [v]) lv' ρ' := by
  subst hn
  rcases ha with ⟨rfl, rfl⟩ | ⟨h2, j, rfl, h3⟩
  · refine ⟨.sl (some (π.length + ρ.length, 1)) 1 (f v), ρ ++ [.right 1 sz], ?_, .inr ⟨by simp, ρ.length, by simp, by simp⟩⟩
    rw [h0, List.length_append, List.append_assoc]
  · have hj := (List.getElem?_eq_some_iff.1 h3).1
    refine ⟨.sl (some (π.length + j, acc.length + 1)) (acc.length + 1) (acc.flatMap f ++ f v), ρ.set j (.right (acc.length + 1) sz), ?_, .inr ⟨by simp, j, ?_, ?_⟩⟩
    · rw [h1 (by rw [get_app]; exact h3) (flat_lenT hf acc) hl, set_app]
    · rw [List.length_append, List.length_singleton, List.flatMap_append]; simp
    · rw [List.getElem?_set_self hj, List.length_append, List.length_singleton]

end Go.Proofs.Ytgkcackpffimmaa
