/- The image: which network an image is of: the walk. -/
import Derived.Test.YtgkcackpffimmaaI25
import Derived.Test.YtgkcackpffimmaaI22
import Derived.Test.YtgkcackpffimmaaI4a
set_option linter.unusedVariables false
set_option linter.unusedSimpArgs false
set_option maxRecDepth 10000
set_option maxHeartbeats 4000000
namespace Go.Proofs.Ytgkcackpffimmaa
open Go.TM

structure SmallC (c : Cfg) : Prop where
  parts : c.parts.l.length ≤ 1000000
  wins : c.wins.l.length ≤ 1000000
  vls : c.vls.l.length ≤ 1000000
  ports : c.ports.l.length ≤ 1000000
  to : ∀ v ∈ c.vls.l, v.to.l.length ≤ 1000000
theorem netC_small (s : RSt) : SmallC (netC11 s) where
  parts := by have := tk_count (f := intR) (rS 2 s); show (netParts s).1.length ≤ _; unfold netParts; omega
  wins := by have := tk_count (f := winR) (rS 4 (netParts s).2); show (netWins s).1.length ≤ _; unfold netWins; omega
  vls := by have := tk_count (f := linkR) (netWins s).2; show (netLinks s).1.length ≤ _; unfold netLinks; omega
  ports := by have := tk_count (f := portR) (netLinks s).2; show (netPorts s).1.length ≤ _; unfold netPorts; omega
  to := by
    intro v hv
    obtain ⟨s', rfl⟩ := tk_mem (f := linkR) hv
    have := tk_count (f := intR) (rS 4 (rS 2 (rS 1 (rS 2 (rS 2 s')))))
    show (tk intR (rS 4 (rS 2 (rS 1 (rS 2 (rS 2 s')))))).1.length ≤ _
    omega
theorem noC_small : SmallC noC := ⟨by simp [Row.none], by simp [Row.none], by simp [Row.none], by simp [Row.none], by simp [Row.none]⟩
theorem load_small (s : List UInt8) : SmallC (loadL s).1 := by
  have hN : ∀ x, SmallC (loadN x).1 := fun x => by
    unfold loadN
    split
    · exact noC_small
    · split
      · exact noC_small
      · split
        · exact noC_small
        · split
          · exact noC_small
          · exact netC_small x
  unfold loadL
  split
  · exact noC_small
  · unfold loadT
    split
    · exact noC_small
    · split
      · exact noC_small
      · exact hN _
theorem same_refl (c : Cfg) : SameC c c := ⟨rfl, rfl, rfl, rfl, rfl, rfl, fun k _ => ⟨(nth c.vls.l k).to, rfl, rfl⟩⟩

theorem loads11_walk (s : List UInt8) : TPure Try.prog 20 [.str (B s)] [] (.bool true) := by
  have haw := awake11_walk
  by_cases hs : s.length > 5000
  · refine pure_of [] [.tmp 2] Try.func20 (by kernel_rfl) rfl (by kernel_rfl) fun X hR hN => ?_
    show Tw _ _ _ _ ([some _] ++ List.replicate 31 none) _
    simp only [List.replicate, List.cons_append, List.nil_append]
    have FK := zdum; have FD := zdum; have FL := @be_len; have cA := @haw
    refine walk ?_
    (repeat' first | exact Lv.nil | apply Lv.cons) <;> (intros; clear cA FL FD FK)
    all_goals trace_state
  · have hload := load_walk s (by omega)
    have href := refload_walk s (by omega)
    have hsm := load_small s
    have hsame := same_walk _ _ (same_refl (loadL s).1) hsm.parts hsm.wins hsm.vls hsm.ports hsm.to
    clear hsm
    generalize (loadL s).1 = c at *
    generalize (loadL s).2 = n at *
    refine pure_of [] [.tmp 2] Try.func20 (by kernel_rfl) rfl (by kernel_rfl) fun X hR hN => ?_
    show Tw _ _ _ _ ([some _] ++ List.replicate 31 none) _
    simp only [List.replicate, List.cons_append, List.nil_append]
    have FK := zdum; have FD := zdum; have FL := @be_len; have cA := @hload; have cB := @href; have cC := @hsame; have cD := @haw
    refine walk ?_
    (repeat' first | exact Lv.nil | apply Lv.cons) <;> (intros; clear cD cC cB cA FL FD FK)
    all_goals trace_state
end Go.Proofs.Ytgkcackpffimmaa
