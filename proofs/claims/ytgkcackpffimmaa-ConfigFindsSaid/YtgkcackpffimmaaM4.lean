/- CONFIG: what is found in a network. -/
import Derived.Test.YtgkcackpffimmaaM3
import Derived.Test.YtgkcackpffimmaaG1
import Derived.Test.YtgkcackpffimmaaG0
set_option linter.unusedVariables false
set_option linter.unusedSimpArgs false
set_option maxRecDepth 10000
set_option maxHeartbeats 4000000
namespace Go.Proofs.Ytgkcackpffimmaa
open Go.TM

theorem portF_neq (cst : Bool) (a b c d : Int) (e : Bool) (f g h i j k : Int) : tbin (mkTab Try.prog) cst .neq 38 (.agg [.int .i64 a, .int .i64 b, .int .i64 c, .int .i64 d, .bool e, .int .i64 f, .int .i64 g, .int .i64 h, .int .i64 i, .int .i64 j, .int .i64 k]) (.agg [.int .i64 a, .int .i64 b, .int .i64 c, .int .i64 d, .bool e, .int .i64 f, .int .i64 g, .int .i64 h, .int .i64 i, .int .i64 j, .int .i64 k]) = some (.bool false) := by
  simp only [tbin, TV.isInt, TV.isStr, Bool.and_self, Bool.or_self, Bool.false_eq_true, if_false, teqIn, tab38, tab3, tab4, if_true, tall, tpart, Nat.mul_one, List.length_cons, List.length_nil, teq1, TK.isAgg, List.getElem?_cons_zero, List.getElem?_cons_succ, List.drop_zero, List.drop_succ_cons, List.take_succ_cons, List.take_zero]
  simp

theorem finds_walk (c : Cfg) (hc : c.ok) (id host : Int) (σ : TS) : TPure Try.prog 25 [cfgTV c, .int .i64 id, .int .i64 host] σ (.bool true) := by
  have hfew := few_walk c hc
  by_cases hF : FewP c
  · rw [decide_eq_true hF] at hfew
    obtain ⟨f1, f2, f3, f4, f5⟩ := hF
    have hl4 : c.ports.l.length ≤ 9223372036854775806 := by omega
    have hv1 := fun τ => ownVL_walk c id τ (by omega) fun v hv => Nat.le_trans (f5 v hv) (by decide)
    have hv2 := fun τ => refVL_walk c id τ (by omega)
    obtain ⟨v, b, hv3, hv4, hvl⟩ : ∃ v b, (∀ τ, TPure Try.prog 30 [cfgTV c, .int .i64 id] τ (.tup [linkTV v, .bool b])) ∧ (∀ τ, TPure Try.prog 60 [cfgTV c, .int .i64 id] τ (.tup [linkTV v, .bool b])) ∧ v.to.l.length ≤ 9223372036854775806 := by
      cases hw : findL c.vls.l id with
      | some w =>
        simp only [hw] at hv1 hv2
        exact ⟨_, _, hv1, hv2, Nat.le_trans (f5 w (List.mem_of_find?_eq_some hw)) (by decide)⟩
      | none =>
        simp only [hw] at hv1 hv2
        exact ⟨_, _, hv1, hv2, Nat.zero_le _⟩
    clear hv1 hv2
    obtain ⟨q, b2, eq⟩ : ∃ q b2, findQTV c id = .tup [.agg (portC q), .bool b2] := by
      unfold findQTV
      split
      · exact ⟨_, _, rfl⟩
      · exact ⟨_, _, rfl⟩
    have hp1 := fun τ => ownPort_walk c id τ hl4
    have hp2 := fun τ => refPort_walk c id τ hl4
    rw [eq] at hp1 hp2
    clear eq
    have hi1 := ints10_walk v.to v.to rfl hvl
    have hneq := portF_neq
    have hs1 := fun τ => sends_walk c host τ (by omega)
    have hs2 := fun τ => refsends_walk c host τ (by omega)
    have ht1 := fun τ => takes_walk c host τ (by omega) fun v hv => Nat.le_trans (f5 v hv) (by decide)
    have ht2 := fun τ => reftakes_walk c host τ (by omega) fun v hv => Nat.le_trans (f5 v hv) (by decide)
    have hi2 := fun r : Row Int => ints10_walk r r rfl
    have r1 : (rowOf (riseS (someS c fun v => v.host == host))).l.length ≤ 9223372036854775806 := by
      show (riseS _).length ≤ _
      rw [← foldS_all c _ (Nat.le_refl _)]
      have := (foldS_len c (fun v => v.host == host) c.vls.l.length (Nat.le_refl _)).1; omega
    have r2 : (rowOf (riseS (someS c fun v => v.to.l.contains host))).l.length ≤ 9223372036854775806 := by
      show (riseS _).length ≤ _
      rw [← foldS_all c _ (Nat.le_refl _)]
      have := (foldS_len c (fun v => v.to.l.contains host) c.vls.l.length (Nat.le_refl _)).1; omega
    generalize rowOf (riseS (someS c fun v => v.host == host)) = rs1 at *
    generalize rowOf (riseS (someS c fun v => v.to.l.contains host)) = rs2 at *
    refine pure_of [] [.tmp 6] Try.func25 (by kernel_rfl) rfl (by kernel_rfl) fun X hR hN => ?_
    show Tw _ _ _ _ ([some _, some _, some _] ++ List.replicate 135 none) _
    simp only [List.replicate, List.cons_append, List.nil_append]
    repeat' (first
      | ((first | (with_reducible refine WL_do fun Cw cw => ?_) | ((with_reducible apply WP_do); intro Cw cw)); (focus (first | ((with_reducible first | apply O_move | apply O_assign | apply O_pickV | apply O_extract); (repeat rfl)) | ((with_reducible first | apply O_load | apply O_fieldAddr | apply O_bin | apply O_indexAddr | apply O_len | apply O_un | apply O_store | apply O_alloc | apply O_box); (repeat rfl); simp (disch := omega) only [go_sem]) | ((with_reducible first | apply O_callF | apply O_call); (repeat rfl); (try simp only [za]); (refine TPure.go (by (apply hfew) <;> first | assumption | omega | exact Eq.trans (get_old (by assumption)) (by assumption)) ?_))); (first | (with_reducible exact cw) | ((with_reducible apply cw); (focus ((try simp only [zp]); exact rfl)); clear cw Cw))); (try ((with_reducible apply eq_id); (focus ((try simp only [zp]); exact rfl)))))
      | ((first | ((with_reducible first | apply WL_if | apply WP_if); (focus rfl)) | ((with_reducible first | apply WL_un | apply WP_un); (focus rfl))); (focus ((try simp only [zp]); exact rfl)))
      | ((with_reducible first | refine WL_nil (hK _ _ ?_) | refine WP_nil (hK _ _ ?_)); clear hK K)
      | ((with_reducible apply WP_pick); (focus rfl); (focus rfl); (focus rfl); (focus ((try simp only [zp]); exact rfl)); (focus ((try simp only [zp]); exact rfl)))
      | ((with_reducible first | refine T_reg_seq fun K hK => ?_ | refine T_reg_end fun K hK => ?_); simp only [zl])
      | ((with_reducible first | refine T_pure_seq ?_ ?_ (fun K hK => ?_) | refine T_pure_end ?_ ?_ (fun K hK => ?_)); (focus kernel_rfl); (focus kernel_rfl); simp only [zl])
      | ((with_reducible first | apply T_cond_seq | apply T_cond); (focus rfl))
      | (intro hg; (first | (simp only [zb] at hg; done) | ((try simp only [zb, eq_self] at hg); (have hh : True := hg); clear hh hg) | ((try simp only [zb] at hg); (try (have hh := hg; simp only [hh]; clear hh)); (try simp only [zg, zq, ne_eq, gt_iff_lt, ge_iff_le] at hg); (try (exfalso; omega)))))
      | with_reducible first | apply T_seq_assoc | apply T_skip_seq | apply T_ret_seq | apply T_exit_seq | apply T_ret | apply T_skip | apply T_exit | refine T_block_seq fun Kb hKb => ?_ | apply T_block
      | (simp only [TX.inBlock, TX.then, zi, Nat.reduceEqDiff])
      | ((with_reducible first | refine hR _ _ (fun C cc => ?_) | refine hN _ _ (fun C cc => ?_)); simp (disch := omega) only [go_sem]; (with_reducible apply cc); clear cc C; (first | refine Ends.more (by first | rfl | simp only [go_sem, Bool.and_self]) ?_ | refine Ends.same (by first | rfl | simp only [go_sem, Bool.and_self]) ?_); (try simp only [go_sem, Bool.and_self]))
      | (with_reducible apply_assumption -exfalso -symm only [*]))
    refine T_each (α := Nat) (fun i => [none, some (some (.int .i64 id)), some (some (.int .i64 host)), some (some (.ptr σ.length 0)), none, none, none, some (some (.int .i64 i)), none, none, none, none, none, none, none, none, none, none, none, none, none, none, none, none, none, none, none, none, none, none, none, none, none, none, none, none, none, none, none, none, none, none, none, none, none, none, none, none, none, none, none, none, none, none, none, none, none, none, none, none, none, none, none, none, none, none, none, none, none, none, none, none, none, none, none, none, none, none, none, none, none, none, none, none, none, none, none, none, none, none, none, none, none, none, none, none, none, none, none, none, none, none, none, none, none, none, none, none, none, none, none, none, none, none, none, none, none, none, none, none, none, none, none, none, none, none, none, none, none, none, none, none, none, none, none, none, none, none]) (fun i => i ≤ c.vls.l.length ∧ ∀ k, k < i → 0 ≤ (nth c.vls.l k).smax ∧ (nth c.vls.l k).smax ≤ 10000) (fun i => c.vls.l.length - i) (fun i => σ ++ [.cells (cfgC c)]) ?_ ?_
    · refine ⟨(0), ⟨rfl, rfl, rfl, rfl, trivial⟩, ?_, rfl⟩
      exact ⟨by omega, fun k hk => by omega⟩
    · rintro i q ⟨hi, hno⟩
      show Tw _ _ _ _ ([q 0, some (.int .i64 id), some (.int .i64 host), some (.ptr σ.length 0), q 4, q 5, q 6, some (.int .i64 i), q 8, q 9, q 10, q 11, q 12, q 13, q 14, q 15, q 16, q 17, q 18, q 19, q 20, q 21, q 22, q 23, q 24, q 25, q 26, q 27, q 28, q 29, q 30, q 31, q 32, q 33, q 34, q 35, q 36, q 37, q 38, q 39, q 40, q 41, q 42, q 43, q 44, q 45, q 46, q 47, q 48, q 49, q 50, q 51, q 52, q 53, q 54, q 55, q 56, q 57, q 58, q 59, q 60, q 61, q 62, q 63, q 64, q 65, q 66, q 67, q 68, q 69, q 70, q 71, q 72, q 73, q 74, q 75, q 76, q 77, q 78, q 79, q 80, q 81, q 82, q 83, q 84, q 85, q 86, q 87, q 88, q 89, q 90, q 91, q 92, q 93, q 94, q 95, q 96, q 97, q 98, q 99, q 100, q 101, q 102, q 103, q 104, q 105, q 106, q 107, q 108, q 109, q 110, q 111, q 112, q 113, q 114, q 115, q 116, q 117, q 118, q 119, q 120, q 121, q 122, q 123, q 124, q 125, q 126, q 127, q 128, q 129, q 130, q 131, q 132, q 133, q 134, q 135, q 136, q 137]) (σ ++ [.cells (cfgC c)])
      rcases Nat.lt_or_ge i c.vls.l.length with hlt | hge
      · repeat' (first
          | ((first | (with_reducible refine WL_do fun Cw cw => ?_) | ((with_reducible apply WP_do); intro Cw cw)); (focus (first | ((with_reducible first | apply O_move | apply O_assign | apply O_pickV | apply O_extract); (repeat rfl)) | ((with_reducible first | apply O_load | apply O_fieldAddr | apply O_bin | apply O_indexAddr | apply O_len | apply O_un | apply O_store | apply O_alloc | apply O_box); (repeat rfl); simp (disch := omega) only [go_sem]) | ((with_reducible first | apply O_callF | apply O_call); (repeat rfl); (try simp only [za]); (refine TPure.go (by (apply awake10_walk) <;> first | assumption | omega | exact Eq.trans (get_old (by assumption)) (by assumption)) ?_))); (first | (with_reducible exact cw) | ((with_reducible apply cw); (focus ((try simp only [zp]); exact rfl)); clear cw Cw))); (try ((with_reducible apply eq_id); (focus ((try simp only [zp]); exact rfl)))))
          | ((first | ((with_reducible first | apply WL_if | apply WP_if); (focus rfl)) | ((with_reducible first | apply WL_un | apply WP_un); (focus rfl))); (focus ((try simp only [zp]); exact rfl)))
          | ((with_reducible first | refine WL_nil (hK _ _ ?_) | refine WP_nil (hK _ _ ?_)); clear hK K)
          | ((with_reducible apply WP_pick); (focus rfl); (focus rfl); (focus rfl); (focus ((try simp only [zp]); exact rfl)); (focus ((try simp only [zp]); exact rfl)))
          | ((with_reducible first | refine T_reg_seq fun K hK => ?_ | refine T_reg_end fun K hK => ?_); simp only [zl])
          | ((with_reducible first | refine T_pure_seq ?_ ?_ (fun K hK => ?_) | refine T_pure_end ?_ ?_ (fun K hK => ?_)); (focus kernel_rfl); (focus kernel_rfl); simp only [zl])
          | ((with_reducible first | apply T_cond_seq | apply T_cond); (focus rfl))
          | (intro hg; (first | (simp only [zb] at hg; done) | ((try simp only [zb, eq_self] at hg); (have hh : True := hg); clear hh hg) | ((try simp only [zb] at hg); (try (have hh := hg; simp only [hh]; clear hh)); (try simp only [zg, zq, ne_eq, gt_iff_lt, ge_iff_le] at hg); (try (exfalso; omega)))))
          | with_reducible first | apply T_seq_assoc | apply T_skip_seq | apply T_ret_seq | apply T_exit_seq | apply T_ret | apply T_skip | apply T_exit | refine T_block_seq fun Kb hKb => ?_ | apply T_block
          | (simp only [TX.inBlock, TX.then, zi, Nat.reduceEqDiff])
          | ((with_reducible first | refine hR _ _ (fun C cc => ?_) | refine hN _ _ (fun C cc => ?_)); simp (disch := omega) only [go_sem]; (with_reducible apply cc); clear cc C; (first | refine Ends.more (by first | rfl | simp only [go_sem, Bool.and_self]) ?_ | refine Ends.same (by first | rfl | simp only [go_sem, Bool.and_self]) ?_); (try simp only [go_sem, Bool.and_self]))
          | (with_reducible apply_assumption -exfalso -symm only [*]))
        · refine ⟨(i + 1), ?_, ⟨rfl, rfl, rfl, rfl, trivial⟩, ?_, (by first | rfl | trivial)⟩
          all_goals (try dsimp only)
          · omega
          · exact ⟨by omega, upto hno (by omega)⟩
      · have hsm : ∀ v ∈ c.vls.l, 0 ≤ v.smax ∧ v.smax ≤ 10000 := fun v hv => by
          obtain ⟨k, hk, rfl⟩ := List.getElem_of_mem hv
          rw [← nth_eq hk]
          exact hno k (by omega)
        have hj1 := fun τ => jitter_walk c host τ (by omega) hsm
        have hj2 := fun τ => refjitter_walk c host τ (by omega) hsm
        clear hno
        repeat' (first
          | ((first | (with_reducible refine WL_do fun Cw cw => ?_) | ((with_reducible apply WP_do); intro Cw cw)); (focus (first | ((with_reducible first | apply O_move | apply O_assign | apply O_pickV | apply O_extract); (repeat rfl)) | ((with_reducible first | apply O_load | apply O_fieldAddr | apply O_bin | apply O_indexAddr | apply O_len | apply O_un | apply O_store | apply O_alloc | apply O_box); (repeat rfl); simp (disch := omega) only [go_sem, ↓hneq]) | ((with_reducible first | apply O_callF | apply O_call); (repeat rfl); (try simp only [za]); (refine TPure.go (by (first | apply awake10_walk | apply hv3 | apply hv4 | apply hp1 | apply hp2 | apply hi1 | apply hi2 | apply hs1 | apply hs2 | apply ht1 | apply ht2 | apply hj1 | apply hj2) <;> first | assumption | omega | exact Eq.trans (get_old (by assumption)) (by assumption)) ?_))); (first | (with_reducible exact cw) | ((with_reducible apply cw); (focus ((try simp only [zp]); exact rfl)); clear cw Cw))); (try ((with_reducible apply eq_id); (focus ((try simp only [zp]); exact rfl)))))
          | ((first | ((with_reducible first | apply WL_if | apply WP_if); (focus rfl)) | ((with_reducible first | apply WL_un | apply WP_un); (focus rfl))); (focus ((try simp only [zp]); exact rfl)))
          | ((with_reducible first | refine WL_nil (hK _ _ ?_) | refine WP_nil (hK _ _ ?_)); clear hK K)
          | ((with_reducible apply WP_pick); (focus rfl); (focus rfl); (focus rfl); (focus ((try simp only [zp]); exact rfl)); (focus ((try simp only [zp]); exact rfl)))
          | ((with_reducible first | refine T_reg_seq fun K hK => ?_ | refine T_reg_end fun K hK => ?_); simp only [zl])
          | ((with_reducible first | refine T_pure_seq ?_ ?_ (fun K hK => ?_) | refine T_pure_end ?_ ?_ (fun K hK => ?_)); (focus kernel_rfl); (focus kernel_rfl); simp only [zl])
          | ((with_reducible first | apply T_cond_seq | apply T_cond); (focus rfl))
          | (intro hg; (first | (simp only [zb] at hg; done) | ((try simp only [zb, eq_self] at hg); (have hh : True := hg); clear hh hg) | ((try simp only [zb] at hg); (try (have hh := hg; simp only [hh]; clear hh)); (try simp only [zg, zq, ne_eq, gt_iff_lt, ge_iff_le] at hg); (try (exfalso; omega)))))
          | with_reducible first | apply T_seq_assoc | apply T_skip_seq | apply T_ret_seq | apply T_exit_seq | apply T_ret | apply T_skip | apply T_exit | refine T_block_seq fun Kb hKb => ?_ | apply T_block
          | (simp only [TX.inBlock, TX.then, zi, Nat.reduceEqDiff])
          | ((with_reducible first | refine hR _ _ (fun C cc => ?_) | refine hN _ _ (fun C cc => ?_)); simp (disch := omega) only [go_sem, ↓hneq]; (with_reducible apply cc); clear cc C; (first | refine Ends.more (by first | rfl | simp only [go_sem, Bool.and_self]) ?_ | refine Ends.same (by first | rfl | simp only [go_sem, Bool.and_self]) ?_); (try simp only [go_sem, Bool.and_self]))
          | (with_reducible apply_assumption -exfalso -symm only [*]))
        all_goals trace_state
  · rw [decide_eq_false hF] at hfew
    refine pure_of [] [.tmp 6] Try.func25 (by kernel_rfl) rfl (by kernel_rfl) fun X hR hN => ?_
    show Tw _ _ _ _ ([some _, some _, some _] ++ List.replicate 135 none) _
    simp only [List.replicate, List.cons_append, List.nil_append]
    repeat' (first
      | ((first | (with_reducible refine WL_do fun Cw cw => ?_) | ((with_reducible apply WP_do); intro Cw cw)); (focus (first | ((with_reducible first | apply O_move | apply O_assign | apply O_pickV | apply O_extract); (repeat rfl)) | ((with_reducible first | apply O_load | apply O_fieldAddr | apply O_bin | apply O_indexAddr | apply O_len | apply O_un | apply O_store | apply O_alloc | apply O_box); (repeat rfl); simp (disch := omega) only [go_sem]) | ((with_reducible first | apply O_callF | apply O_call); (repeat rfl); (try simp only [za]); (refine TPure.go (by (first | apply hfew | apply awake10_walk) <;> first | assumption | omega | exact Eq.trans (get_old (by assumption)) (by assumption)) ?_))); (first | (with_reducible exact cw) | ((with_reducible apply cw); (focus ((try simp only [zp]); exact rfl)); clear cw Cw))); (try ((with_reducible apply eq_id); (focus ((try simp only [zp]); exact rfl)))))
      | ((first | ((with_reducible first | apply WL_if | apply WP_if); (focus rfl)) | ((with_reducible first | apply WL_un | apply WP_un); (focus rfl))); (focus ((try simp only [zp]); exact rfl)))
      | ((with_reducible first | refine WL_nil (hK _ _ ?_) | refine WP_nil (hK _ _ ?_)); clear hK K)
      | ((with_reducible apply WP_pick); (focus rfl); (focus rfl); (focus rfl); (focus ((try simp only [zp]); exact rfl)); (focus ((try simp only [zp]); exact rfl)))
      | ((with_reducible first | refine T_reg_seq fun K hK => ?_ | refine T_reg_end fun K hK => ?_); simp only [zl])
      | ((with_reducible first | refine T_pure_seq ?_ ?_ (fun K hK => ?_) | refine T_pure_end ?_ ?_ (fun K hK => ?_)); (focus kernel_rfl); (focus kernel_rfl); simp only [zl])
      | ((with_reducible first | apply T_cond_seq | apply T_cond); (focus rfl))
      | (intro hg; (first | (simp only [zb] at hg; done) | ((try simp only [zb, eq_self] at hg); (have hh : True := hg); clear hh hg) | ((try simp only [zb] at hg); (try (have hh := hg; simp only [hh]; clear hh)); (try simp only [zg, zq, ne_eq, gt_iff_lt, ge_iff_le] at hg); (try (exfalso; omega)))))
      | with_reducible first | apply T_seq_assoc | apply T_skip_seq | apply T_ret_seq | apply T_exit_seq | apply T_ret | apply T_skip | apply T_exit | refine T_block_seq fun Kb hKb => ?_ | apply T_block
      | (simp only [TX.inBlock, TX.then, zi, Nat.reduceEqDiff])
      | ((with_reducible first | refine hR _ _ (fun C cc => ?_) | refine hN _ _ (fun C cc => ?_)); simp (disch := omega) only [go_sem]; (with_reducible apply cc); clear cc C; (first | refine Ends.more (by first | rfl | simp only [go_sem, Bool.and_self]) ?_ | refine Ends.same (by first | rfl | simp only [go_sem, Bool.and_self]) ?_); (try simp only [go_sem, Bool.and_self]))
      | (with_reducible apply_assumption -exfalso -symm only [*]))
end Go.Proofs.Ytgkcackpffimmaa
