/- The closed runs: how the program's functions are run, and which are known already. -/
import Derived.Test.YtkmcbaihemaoeaaGreatT40
import Derived.Test.YtkmcbaihemaoeaaGreatH4r
import Derived.Test.YtkmcbaihemaoeaaGreatH0
set_option linter.unusedVariables false
set_option linter.unusedSimpArgs false
set_option maxRecDepth 10000
namespace Go.Proofs.YtkmcbaihemaoeaaGreat
open Go.TM

noncomputable def knownS (f : FuncId) (args : List TV) : Option TV := match args with
  | [.str s] => if s.data.toList.length ≤ 100000 then (if f = 186 then some (.str (B (sealL s.data.toList))) else if f = 103 then some (.tup [.str (B (openL s.data.toList).1), .int .i64 (openL s.data.toList).2]) else none) else none
  | [.str s, .int .i64 n] => if f = 183 then (match s.data.toList, n with
    | [b], .ofNat m => if m ≤ 1000000 then some (.str (B (List.replicate m b))) else none
    | _, _ => none) else none
  | _ => none
noncomputable def wayS : XWay where
  how f := ⟨match Tryz.prog.funcs[f]? with | some fn => List.range fn.ntmps | none => [], [], fun _ _ => none⟩
  known f a σ := (knownS f a).map fun v => (v, σ)
  trim _ := some true
theorem B_data (s : ByteArray) : B s.data.toList = s := by
  obtain ⟨⟨l⟩⟩ := s; rfl
theorem wayS_ok : WayOk Tryz.prog wayS where
  meth f t name k h := by cases h
  names := by kernel_rfl
  known f args v σ τ h := by
    change (knownS f args).map (fun v => (v, σ)) = some (v, τ) at h
    suffices TPure Tryz.prog f args σ v ∧ τ = σ by rw [this.2]; exact this.1
    cases hk : knownS f args with
    | none => rw [hk] at h; cases h
    | some u =>
    rw [hk] at h
    cases h
    refine ⟨?_, rfl⟩
    replace h := hk
    unfold knownS at h
    split at h
    · rename_i s
      split at h
      · rename_i hs
        split at h
        · rename_i hf
          cases h
          subst hf
          have := seal_pure s.data.toList σ hs
          rwa [B_data] at this
        · split at h
          · rename_i hf
            cases h
            subst hf
            have := open_pure s.data.toList σ hs
            rwa [B_data] at this
          · cases h
      · cases h
    · rename_i s n
      split at h
      · rename_i hf
        subst hf
        split at h
        · rename_i b m hs
          split at h
          · rename_i hm
            cases h
            have := repeat_walk b m σ hm
            rw [← hs, B_data] at this
            exact this
          · cases h
        · cases h
      · cases h
    · cases h
end Go.Proofs.YtkmcbaihemaoeaaGreat
