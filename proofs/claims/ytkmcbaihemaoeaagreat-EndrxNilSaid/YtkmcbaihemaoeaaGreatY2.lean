/- The closed runs with frames that are remembered: copied and passed are known. -/
import Derived.Test.YtkmcbaihemaoeaaGreatS1
import Derived.Test.YtkmcbaihemaoeaaGreatY1
set_option linter.unusedVariables false
set_option linter.unusedSimpArgs false
set_option maxRecDepth 10000
namespace Go.Proofs.YtkmcbaihemaoeaaGreat
open Go.TM

def unfr : List TV → Option (List Fr)
  | [] => some []
  | .int .i64 a :: .int .i64 b :: .int .u64 c :: l => match unfr l with
    | some fs => some (⟨a, b, c⟩ :: fs)
    | none => none
  | _ => none
theorem unfr_is : ∀ (cs : List TV) {fs : List Fr}, unfr cs = some fs → cs = fs.flatMap frmC
  | [], fs, h => by simp only [unfr] at h; cases h; rfl
  | x :: cs, fs, h => by
    unfold unfr at h
    split at h
    · rename_i e; cases e
    · rename_i a b c l e
      split at h
      · rename_i gs hg
        cases h
        rw [e, unfr_is l hg]; rfl
      · cases h
    · cases h
/-- The frames that a filter remembers: the cells ahead of them, and they. -/
def filF (σ : TS) (x : Nat) : Option (Nat × List Fr × List Fr) := match σ[x]? with
  | some (.cells [v, _, _, _, _, _]) => match v with
    | .nils => some (0, [], [])
    | .rs l o n 3 => match σ[l]? with
      | some (.row cs) => match unfr (cs.take o), unfr (cs.drop o) with
        | some ps, some fs => if fs.length = n ∧ n ≤ 1000 ∧ (cs.take o).length = o then some (l, ps, fs) else none
        | _, _ => none
      | _ => none
    | _ => none
  | _ => none
theorem filF_is {σ : TS} {x l : Nat} {ps fs : List Fr} (h : filF σ x = some (l, ps, fs)) : ∃ v a b c d e, σ[x]? = some (.cells [v, a, b, c, d, e]) ∧ FilR σ v l (ps.flatMap frmC).length (ps.flatMap frmC) fs ∧ fs.length ≤ 1000 := by
  unfold filF at h
  split at h
  · rename_i v a b c d e hx
    refine ⟨v, a, b, c, d, e, hx, ?_⟩
    split at h
    · cases h; exact ⟨.inl ⟨rfl, rfl⟩, by simp⟩
    · rename_i l' o n
      split at h
      · rename_i cs hl
        split at h
        · rename_i ps' fs' h1 h2
          split at h
          · rename_i hc
            cases h
            obtain ⟨rfl, hn, ho⟩ := hc
            have e1 := unfr_is _ h1
            have e2 := unfr_is _ h2
            refine ⟨.inr ⟨by rw [← e1, ho], ?_, by rw [← e1], fun n => frmC_fits n ps⟩, hn⟩
            rw [← e1, ← e2, List.take_append_drop]; exact hl
          · cases h
        · cases h
      · cases h
    · cases h
  · cases h
def knownR (f : FuncId) (args : List TV) (σ : TS) : Option (TV × TS) := match args with
  | [.ptr x 0, .int .i64 net, .int .i64 seq] => if f = 353 then (if 0 ≤ net ∧ net ≤ 1 then match filF σ x with
      | some (l, ps, fs) => match copyIx net seq fs with
        | none => some (.int .i64 (if hasSeq seq fs then 25 else 0), σ)
        | some i => some (.int .i64 21, σ.set l (.row (ps.flatMap frmC ++ (fs.set i { nth fs i with nets := 3 }).flatMap frmC)))
      | none => none else none) else none
  | [.ptr x 0, .int .i64 seq] => if f = 354 then match filF σ x with
      | some (_, _, fs) => some (.bool (fs.any (isPast seq)), σ)
      | none => none else none
  | _ => none
theorem knownR_ok {f : FuncId} {args : List TV} {v : TV} {σ τ : TS} (h : knownR f args σ = some (v, τ)) : TDoes Tryz.prog f args σ v τ := by
  unfold knownR at h
  split at h
  · rename_i x net seq
    split at h
    · rename_i hf
      subst hf
      split at h
      · rename_i hnet
        split at h
        · rename_i l ps fs hF
          obtain ⟨w, a, b, c, d, e, h1, h2, h3⟩ := filF_is hF
          have hc := copied_walk h1 h2 (by omega) net seq hnet
          split at h
          · rename_i hi
            cases h
            refine TCalls.mono hc ?_
            rintro u s (⟨_, rfl, rfl⟩ | ⟨i, q, _⟩)
            · exact ⟨rfl, rfl⟩
            · rw [hi] at q; cases q
          · rename_i i hi
            cases h
            refine TCalls.mono hc ?_
            rintro u s (⟨q, _⟩ | ⟨j, q, rfl, rfl⟩)
            · rw [hi] at q; cases q
            · rw [hi] at q; cases q
              exact ⟨rfl, rfl⟩
        · cases h
      · cases h
    · cases h
  · rename_i x seq
    split at h
    · rename_i hf
      subst hf
      split at h
      · rename_i l ps fs hF
        obtain ⟨w, a, b, c, d, e, h1, h2, h3⟩ := filF_is hF
        cases h
        exact (passed_walk h1 h2 (by omega) seq).does
      · cases h
    · cases h
  · cases h
noncomputable def wayR : XWay where
  how f := ⟨match Tryz.prog.funcs[f]? with | some fn => List.range fn.ntmps | none => [], if f = 314 then (match Tryz.prog.funcs[f]? with | some fn => List.range fn.ntmps | none => []) else [], fun _ _ => none⟩
  known f a σ := match knownR f a σ with
    | some r => some r
    | none => wayS.known f a σ
  trim _ := some true
theorem wayR_ok : WayOk Tryz.prog wayR where
  meth f t name k h := by cases h
  names := by kernel_rfl
  known f args v σ τ h := by
    change (match knownR f args σ with | some r => some r | none => wayS.known f args σ) = some (v, τ) at h
    split at h
    · rename_i r hr
      cases h
      exact knownR_ok hr
    · exact wayS_ok.known f args v σ τ h
end Go.Proofs.YtkmcbaihemaoeaaGreat
