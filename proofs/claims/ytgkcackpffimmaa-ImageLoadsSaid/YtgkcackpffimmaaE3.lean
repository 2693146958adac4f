/- The reference's port. -/
import Derived.Test.YtgkcackpffimmaaE3a
import Derived.Test.YtgkcackpffimmaaE3b
set_option linter.unusedVariables false
set_option linter.unusedSimpArgs false
set_option maxRecDepth 10000
set_option maxHeartbeats 2000000
namespace Go.Proofs.Ytgkcackpffimmaa
open Go.TM

theorem refport_walk (c : Cfg) (i : Nat) (σ : TS) (hc : c.ok) (hi : i < c.ports.l.length) (hi2 : i ≤ 9223372036854775000) (hvl : c.vls.l.length ≤ 9223372036854775806) (hs : ∀ v ∈ c.vls.l, 0 ≤ v.smax ∧ v.smax ≤ 10000 ∧ v.to.l.length ≤ 9223372036854775806) :
    TPure Try.prog 83 [cfgTV c, .int .i64 i] σ (.int .i64 (portS c i)) := by
  cases hv : findL c.vls.l (nth c.ports.l i).vl with
  | none =>
    have hpred : ((i : Int) - 1).toNat = i - 1 := by omega
    have hcall : ∀ σ, TPure Try.prog 60 [cfgTV c, .int .i64 (nth c.ports.l i).vl] σ (.tup [linkTV ⟨0, 0, 0, 0, false, 0, 0, Row.none⟩, .bool false]) := fun σ => by
      have := refVL_walk c (nth c.ports.l i).vl σ hvl
      rw [hv] at this
      exact this
    refine pure_of [] [.tmp 4] Try.func83 (by kernel_rfl) rfl (by kernel_rfl) fun X hR hN => ?_
    show Tw _ _ _ _ ([some _, some _] ++ List.replicate 227 none) _
    simp only [List.replicate, List.cons_append, List.nil_append]
    have FK := @hpred; have FD := zdum; have FL := zdum; have cA := @refpart_walk; have cB := @hcall
    refine walk ?_
    (repeat' first | exact Lv.nil | apply Lv.cons) <;> (intros; clear cB cA FL FD FK)
    all_goals first | rw [portS_off (by omega)] | rw [portS_order (by omega) ⟨by omega, by assumption⟩] | rw [portS_nolink (by omega) (by omega) hv]
  | some v =>
    cases ho : (nth c.ports.l i).out with
    | false => exact refport_in c i σ hc hi hi2 hvl hs v hv ho
    | true => exact refport_out c i σ hc hi hi2 hvl hs v hv ho

end Go.Proofs.Ytgkcackpffimmaa
