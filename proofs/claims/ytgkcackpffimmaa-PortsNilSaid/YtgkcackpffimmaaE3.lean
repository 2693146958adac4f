/- The reference's port. -/
import Derived.Test.YtgkcackpffimmaaE3a
import Derived.Test.YtgkcackpffimmaaE3b
set_option linter.unusedVariables false
set_option linter.unusedSimpArgs false
set_option maxRecDepth 10000
set_option maxHeartbeats 2000000
namespace Go.Proofs.Ytgkcackpffimmaa
open Go.TM

theorem refport_walk (c : Cfg) (i : Nat) (σ : TS) (hc : c.ok) (hi : i < c.ports.l.length) (hi2 : i ≤ 9223372036854775000) (hvl : c.vls.l.length ≤ 9223372036854775806) (hs : ∀ v ∈ c.vls.l, 0 ≤ v.smax ∧ v.smax ≤ 10000 ∧ v.to.l.length ≤ 9223372036854775806) :
    TPure Try.prog 83 [cfgTV c, .int .i64 i] σ (.int .i64 (portS c i)) := by
  cases hv : findL c.vls.l (nth c.ports.l i).vl with
  | none =>
    have hpred : ((i : Int) - 1).toNat = i - 1 := by omega
    have hcall : ∀ σ, TPure Try.prog 60 [cfgTV c, .int .i64 (nth c.ports.l i).vl] σ (.tup [linkTV ⟨0, 0, 0, 0, false, 0, 0, Row.none⟩, .bool false]) := fun σ => by
      have := refVL_walk c (nth c.ports.l i).vl σ hvl
      rw [hv] at this
      exact this
    refine pure_of [] [.tmp 4] Try.func83 (by kernel_rfl) rfl (by kernel_rfl) fun X hR hN => ?_
    show Tw _ _ _ _ ([some _, some _] ++ List.replicate 227 none) _
    simp only [List.replicate, List.cons_append, List.nil_append]
    repeat' (first
      | ((first | (with_reducible refine WL_do fun Cw cw => ?_) | ((with_reducible apply WP_do); intro Cw cw)); (focus (first | ((with_reducible first | apply O_move | apply O_assign | apply O_pickV | apply O_extract); (repeat rfl); (first | (with_reducible exact cw) | ((with_reducible apply cw); (focus ((try simp only [zp]); exact rfl)); clear cw Cw))) | ((with_reducible first | apply O_load | apply O_fieldAddr | apply O_bin | apply O_indexAddr | apply O_un | apply O_store | apply O_alloc | apply O_box); (repeat rfl); simp (disch := omega) only [go_sem, hpred]; (first | (with_reducible exact cw) | ((with_reducible apply cw); (focus ((try simp only [zp]); exact rfl)); clear cw Cw))) | ((with_reducible first | apply O_callF | apply O_call); (repeat rfl); (try simp only [za]); (refine TPure.go (by (first | apply refpart_walk | apply hcall) <;> first | assumption | omega | exact Eq.trans (get_old (by assumption)) (by assumption)) ?_); (first | (with_reducible exact cw) | ((with_reducible apply cw); (focus ((try simp only [zp]); exact rfl)); clear cw Cw))))); (try ((with_reducible apply eq_id); (focus ((try simp only [zp]); exact rfl)))))
      | ((first | ((with_reducible first | apply WL_if | apply WP_if); (focus rfl)) | ((with_reducible first | apply WL_un | apply WP_un); (focus rfl))); (focus ((try simp only [zp]); exact rfl)))
      | ((with_reducible first | refine WL_nil (hK _ _ ?_) | refine WP_nil (hK _ _ ?_)); clear hK K)
      | ((with_reducible apply WP_pick); (focus rfl); (focus rfl); (focus rfl); (focus ((try simp only [zp]); exact rfl)); (focus ((try simp only [zp]); exact rfl)))
      | ((with_reducible first | refine T_reg_seq fun K hK => ?_ | refine T_reg_end fun K hK => ?_); simp only [zl])
      | ((with_reducible first | refine T_pure_seq ?_ ?_ (fun K hK => ?_) | refine T_pure_end ?_ ?_ (fun K hK => ?_)); (focus kernel_rfl); (focus kernel_rfl); simp only [zl])
      | ((with_reducible first | apply T_cond_seq | apply T_cond); (focus rfl))
      | (intro hg; (first | (simp only [zb] at hg; done) | ((try simp only [zb, eq_self] at hg); (have hh : True := hg); clear hh hg) | ((try simp only [zb] at hg); (try (have hh := hg; simp only [hh]; clear hh)); (try simp only [zg, zq, ne_eq, gt_iff_lt, ge_iff_le] at hg); (try (exfalso; omega)))))
      | with_reducible first | refine T_seq_assoc ?_ | refine T_skip_seq ?_ | refine T_ret_seq ?_ | refine T_exit_seq ?_ | refine T_ret ?_ | refine T_skip ?_ | refine T_exit ?_ | refine T_block_seq fun Kb hKb => ?_ | refine T_block ?_
      | (simp only [TX.inBlock, TX.then, zi, Nat.reduceEqDiff])
      | ((with_reducible first | refine hR _ _ (fun C cc => ?_) | refine hN _ _ (fun C cc => ?_)); simp (disch := omega) only [go_sem, hpred]; (with_reducible apply cc); clear cc C; (first | refine Ends.more rfl ?_ | refine Ends.same rfl ?_ | refine Ends.more (by simp only [go_sem, Bool.and_self]) ?_ | refine Ends.same (by simp only [go_sem, Bool.and_self]) ?_); (try simp only [go_sem, Bool.and_self]))
      | (with_reducible apply_assumption -exfalso -symm only [*]))
    all_goals first | rw [portS_off (by omega)] | rw [portS_order (by omega) ⟨by omega, by assumption⟩] | rw [portS_nolink (by omega) (by omega) hv]
  | some v =>
    cases ho : (nth c.ports.l i).out with
    | false => exact refport_in c i σ hc hi hi2 hvl hs v hv ho
    | true => exact refport_out c i σ hc hi hi2 hvl hs v hv ho

end Go.Proofs.Ytgkcackpffimmaa
