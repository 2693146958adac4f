/- Rows as data that were made by appends. -/
import Derived.Test.YtbhhmnfjjnnkiaaGreatD0
set_option linter.unusedVariables false
set_option linter.unusedSimpArgs false
set_option maxRecDepth 10000
namespace Go.Proofs.YtbhhmnfjjnnkiaaGreat
open Go.TM

def rowOf {α : Type} (l : List α) : Row α := ⟨l.isEmpty, l, fun h => by simpa using h⟩
theorem rowOf_nil {α : Type} (f : α → List TV) : rowTV f (rowOf []) = .nils := rfl
theorem rowOf_some {α : Type} (f : α → List TV) {l : List α} (h : l ≠ []) : rowTV f (rowOf l) = .sl none l.length (l.flatMap f) := by
  unfold rowTV rowOf
  rw [if_neg (by simpa using h)]
theorem flat_lenT {α : Type} {f : α → List TV} {k : Nat} (hf : ∀ x, (f x).length = k) : ∀ l : List α, (l.flatMap f).length = l.length * k
  | [] => by simp
  | x :: l => by rw [List.flatMap_cons, List.length_append, hf, flat_lenT hf l, List.length_cons, Nat.add_mul]; omega
/- I -/
section
variable {σ : TS} {w : Bool} {tk n : Nat} {cs : List TV} {x : Int}
theorem app0I : tappend (mkTab Tryz.prog) true σ 22 22 .nils (.sl none 1 [.int .i64 x]) = some (.sl (some (σ.length, 1)) 1 [.int .i64 x], σ ++ [.right 1 1]) :=
  app_nil tab22 rfl tab3 rfl rfl (src_sl (σ := σ) (own := none) (cs := [.int .i64 x]) (n := 1) (sz := 1) tab22 rfl rfl) rfl rfl (by decide) (by decide) (by decide)
theorem app1I (hr : σ[tk]? = some (.right n 1)) (hn : cs.length = n * 1) (hb : n ≤ 1000000) :
    tappend (mkTab Tryz.prog) w σ 22 22 (.sl (some (tk, n)) n cs) (.sl none 1 [.int .i64 x]) = some (.sl (some (tk, n + 1)) (n + 1) (cs ++ [.int .i64 x]), σ.set tk (.right (n + 1) 1)) :=
  app_own (w := w) tab22 rfl tab3 rfl rfl (src_sl (σ := σ) (own := none) (cs := [.int .i64 x]) (n := 1) (sz := 1) tab22 rfl rfl) rfl rfl hr hn (by show (n + 1) * 8 ≤ _; omega) (by omega)
end
@[go_sem] theorem flatFitsI (n : Nat) (m : List Int) : TV.fitsL n (m.flatMap intC) = true := by
  have := rowTV_fits (n := n) (f := intC) (r := Row.some m) (fun _ => rfl)
  simpa [rowTV, Row.some, TV.fits] using this
end Go.Proofs.YtbhhmnfjjnnkiaaGreat
