/- ConfigLess and ConfigFirst walked. -/
import Derived.Test.YtgkcackpffimmaaG1
import Derived.Test.YtgkcackpffimmaaG2
set_option linter.unusedVariables false
set_option linter.unusedSimpArgs false
set_option maxRecDepth 10000
set_option maxHeartbeats 4000000
namespace Go.Proofs.Ytgkcackpffimmaa
open Go.TM

theorem FewC.of {c d : Cfg} (h : FewC c) (h0 : d.hosts = c.hosts) (h1 : d.parts = c.parts) (h2 : d.major = c.major) (hw : ∃ n, n ≤ c.wins.l.length ∧ d.wins.l = c.wins.l.take n) (hv : ∃ n, n ≤ c.vls.l.length ∧ d.vls.l = c.vls.l.take n)
    (hq : ∃ n, n ≤ c.ports.l.length ∧ d.ports.l = c.ports.l.take n) : FewC d := by
  obtain ⟨hok, lp, lw, lv, lo, lt⟩ := h
  obtain ⟨n1, q1, e1⟩ := hw
  obtain ⟨n2, q2, e2⟩ := hv
  obtain ⟨n3, q3, e3⟩ := hq
  refine ⟨⟨by rw [h0]; exact hok.hosts, by rw [h2]; exact hok.major, by rw [h1]; exact hok.lparts, ?_, ?_, ?_, by rw [h1]; exact hok.parts, ?_, ?_, ?_⟩, by rw [h1]; exact lp, ?_, ?_, ?_, ?_⟩
  · rw [e1, List.length_take]; have := hok.lwins; omega
  · rw [e2, List.length_take]; have := hok.lvls; omega
  · rw [e3, List.length_take]; have := hok.lports; omega
  · intro w hw; rw [e1] at hw; exact hok.wins _ (List.mem_of_mem_take hw)
  · intro w hw; rw [e2] at hw; exact hok.vls _ (List.mem_of_mem_take hw)
  · intro w hw; rw [e3] at hw; exact hok.ports _ (List.mem_of_mem_take hw)
  · rw [e1, List.length_take]; omega
  · rw [e2, List.length_take]; omega
  · rw [e3, List.length_take]; omega
  · intro v hv; rw [e2] at hv; exact lt _ (List.mem_of_mem_take hv)

theorem all_of {α : Type} (l : List α) : ∃ n, n ≤ l.length ∧ l = l.take n := ⟨l.length, Nat.le_refl _, List.take_length.symm⟩
theorem cut_of {α : Type} (r : Row α) {n : Nat} (h : n ≤ r.l.length) : ∃ m, m ≤ r.l.length ∧ (r.cut 0 n).l = r.l.take m := ⟨n, h, by simp [Row.cut]⟩
theorem none_of {α : Type} (l : List α) : ∃ n, n ≤ l.length ∧ (Row.none : Row α).l = l.take n := ⟨0, Nat.zero_le _, by simp [Row.none]⟩

theorem less_walk (c : Cfg) (hc : c.ok) : TPure Try.prog 4 [cfgTV c] [] (.bool true) := by
  have l2 := hc.lwins
  have l3 := hc.lvls
  have l4 := hc.lports
  by_cases h : FewP c
  · have hfew : ∀ σ, TPure Try.prog 26 [cfgTV c] σ (.bool true) := fun σ => by
      have := few_walk c hc σ
      rwa [decide_eq_true h] at this
    have hown := check_walk c (h.few hc)
    by_cases he : (checkS c).2.2 = 0
    · have hok := okC_of he
      have hown0 : ∀ σ, TPure Try.prog 28 [cfgTV c] σ (.tup [.agg [.int .i64 0, .int .i64 0], .int .i64 0]) := fun σ => by
        have := hown σ
        rwa [hok.check] at this
      have hp1 : ((c.ports.l.length : Int) - 1).toNat = c.ports.l.length - 1 := by omega
      have hp2 : ((c.wins.l.length : Int) - 1).toNat = c.wins.l.length - 1 := by omega
      have hp3 : ((c.vls.l.length : Int) - 1).toNat = c.vls.l.length - 1 := by omega
      have ho1 : ∀ σ, TPure Try.prog 28 [cfgTV { c with ports := c.ports.cut 0 (c.ports.l.length - 1) }] σ (.tup [.agg [.int .i64 0, .int .i64 0], .int .i64 0]) := fun σ => by
        have := check_walk { c with ports := c.ports.cut 0 (c.ports.l.length - 1) } ((h.few hc).of rfl rfl rfl (all_of _) (all_of _) (cut_of c.ports (n := c.ports.l.length - 1) (Nat.sub_le _ _))) σ
        rwa [(less_ports hok (Nat.sub_le _ 1)).check] at this
      have ho2 : ∀ σ, TPure Try.prog 28 [cfgTV { c with wins := c.wins.cut 0 (c.wins.l.length - 1) }] σ (.tup [.agg [.int .i64 0, .int .i64 0], .int .i64 0]) := fun σ => by
        have := check_walk { c with wins := c.wins.cut 0 (c.wins.l.length - 1) } ((h.few hc).of rfl rfl rfl (cut_of c.wins (n := c.wins.l.length - 1) (Nat.sub_le _ _)) (all_of _) (all_of _)) σ
        rwa [(less_wins hok (Nat.sub_le _ 1)).check] at this
      have ho3 : ∀ σ, TPure Try.prog 28 [cfgTV { c with vls := c.vls.cut 0 (c.vls.l.length - 1), ports := Row.none }] σ (.tup [.agg [.int .i64 0, .int .i64 0], .int .i64 0]) := fun σ => by
        have := check_walk { c with vls := c.vls.cut 0 (c.vls.l.length - 1), ports := Row.none } ((h.few hc).of rfl rfl rfl (all_of _) (cut_of c.vls (n := c.vls.l.length - 1) (Nat.sub_le _ _)) (none_of _)) σ
        rwa [(less_links hok (Nat.sub_le _ 1)).check] at this
      refine pure_of [] [.tmp 2] Try.func4 (by kernel_rfl) rfl (by kernel_rfl) fun X hR hN => ?_
      show Tw _ _ _ _ ([some _] ++ List.replicate 87 none) _
      simp only [List.replicate, List.cons_append, List.nil_append]
      repeat' (first
        | ((with_reducible refine WL_do fun Cw cw => ?_); (first | ((with_reducible first | apply O_move | apply O_assign | apply O_extract); (repeat rfl); (with_reducible apply cw); (focus ((try simp only [tput, List.set_cons_zero, List.set_cons_succ]); exact rfl))) | ((with_reducible first | apply O_load | apply O_fieldAddr | apply O_bin | apply O_len | apply O_un | apply O_store | apply O_alloc | apply O_box); (repeat rfl); simp (disch := omega) only [go_sem, hp1, hp2, hp3]; (with_reducible apply cw); (focus ((try simp only [tput, List.set_cons_zero, List.set_cons_succ]); exact rfl))) | ((with_reducible apply O_sliceR); (focus rfl); intro Cs cs; (try simp (disch := omega) only [evB, ev, constV, const1, Int.reduceLE, Int.natCast_nonneg, Int.toNat_natCast, Int.reduceToNat, if_true, if_pos, List.getElem?_cons_zero, List.getElem?_cons_succ, Option.bind_some, Option.bind_none]); simp (disch := omega) only [go_sem, hp1, hp2, hp3]; (with_reducible apply cs); clear cs Cs; (with_reducible apply cw); (focus ((try simp only [tput, List.set_cons_zero, List.set_cons_succ]); exact rfl))) | ((with_reducible first | apply O_callF | apply O_call); (repeat rfl); (try simp only [List.nil_append, List.append_nil, List.cons_append]); (refine TPure.go (by (first | apply hfew | apply awake10_walk | apply hown0 | apply ho1 | apply ho2 | apply ho3) <;> first | assumption | omega | exact Eq.trans (get_old (by assumption)) (by assumption)) ?_); (with_reducible apply cw); (focus ((try simp only [tput, List.set_cons_zero, List.set_cons_succ]); exact rfl)))); clear cw Cw)
        | ((with_reducible refine WL_nil (hK _ _ ?_)); clear hK K)
        | ((with_reducible first | refine T_reg_seq fun K hK => ?_ | refine T_reg_end fun K hK => ?_); simp only [List.toList_toArray, List.append_eq, List.cons_append, List.nil_append])
        | ((with_reducible first | apply T_cond_seq | apply T_cond); (focus rfl))
        | (intro hg; (first | (simp only [Bool.not_true, Bool.not_false, Bool.true_eq_false, Bool.false_eq_true] at hg; done) | ((try simp only [Bool.not_true, Bool.not_false, eq_self] at hg); (have hh : True := hg); clear hh hg) | ((try simp only [Bool.not_true, Bool.not_false] at hg); (try (have hh := hg; simp only [hh]; clear hh)); (try simp only [decide_eq_true_eq, decide_eq_false_iff_not, Bool.not_true, Bool.not_false, Bool.not_eq_true', Bool.not_eq_false', Bool.and_eq_true, Bool.or_eq_true, beq_iff_eq, bne_iff_ne, beq_eq_false_iff_ne, bne_eq_false_iff_eq, ne_eq, Decidable.not_not, Bool.or_eq_false_iff, Bool.and_eq_false_iff, gt_iff_lt, ge_iff_le, Int.not_lt, Int.not_le, Nat.not_lt, Nat.not_le] at hg); (try (exfalso; omega)))))
        | with_reducible first | refine T_seq_assoc ?_ | refine T_skip_seq ?_ | refine T_ret_seq ?_ | refine T_exit_seq ?_ | refine T_ret ?_ | refine T_skip ?_ | refine T_exit ?_ | refine T_block_seq fun Kb hKb => ?_ | refine T_block ?_
        | (simp only [TX.inBlock, TX.then, if_true, if_false, Nat.reduceEqDiff, ite_true, ite_false])
        | ((with_reducible first | refine hR _ _ (fun C cc => ?_) | refine hN _ _ (fun C cc => ?_)); simp (disch := omega) only [go_sem, hp1, hp2, hp3]; (with_reducible apply cc); clear cc C; (first | refine Ends.more rfl ?_ | refine Ends.same rfl ?_ | refine Ends.more (by simp only [go_sem, Bool.and_self]) ?_ | refine Ends.same (by simp only [go_sem, Bool.and_self]) ?_); (try simp only [go_sem, Bool.and_self]))
        | (with_reducible apply_assumption -exfalso -symm only [*]))
    · refine pure_of [] [.tmp 2] Try.func4 (by kernel_rfl) rfl (by kernel_rfl) fun X hR hN => ?_
      show Tw _ _ _ _ ([some _] ++ List.replicate 87 none) _
      simp only [List.replicate, List.cons_append, List.nil_append]
      repeat' (first
        | ((with_reducible refine WL_do fun Cw cw => ?_); (first | ((with_reducible first | apply O_move | apply O_assign | apply O_extract); (repeat rfl); (with_reducible apply cw); (focus ((try simp only [tput, List.set_cons_zero, List.set_cons_succ]); exact rfl))) | ((with_reducible first | apply O_load | apply O_fieldAddr | apply O_bin | apply O_len | apply O_un | apply O_store | apply O_alloc | apply O_box); (repeat rfl); simp (disch := omega) only [go_sem]; (with_reducible apply cw); (focus ((try simp only [tput, List.set_cons_zero, List.set_cons_succ]); exact rfl))) | ((with_reducible apply O_sliceR); (focus rfl); intro Cs cs; (try simp (disch := omega) only [evB, ev, constV, const1, Int.reduceLE, Int.natCast_nonneg, Int.toNat_natCast, Int.reduceToNat, if_true, if_pos, List.getElem?_cons_zero, List.getElem?_cons_succ, Option.bind_some, Option.bind_none]); simp (disch := omega) only [go_sem]; (with_reducible apply cs); clear cs Cs; (with_reducible apply cw); (focus ((try simp only [tput, List.set_cons_zero, List.set_cons_succ]); exact rfl))) | ((with_reducible first | apply O_callF | apply O_call); (repeat rfl); (try simp only [List.nil_append, List.append_nil, List.cons_append]); (refine TPure.go (by (first | apply hfew | apply awake10_walk | apply hown) <;> first | assumption | omega | exact Eq.trans (get_old (by assumption)) (by assumption)) ?_); (with_reducible apply cw); (focus ((try simp only [tput, List.set_cons_zero, List.set_cons_succ]); exact rfl)))); clear cw Cw)
        | ((with_reducible refine WL_nil (hK _ _ ?_)); clear hK K)
        | ((with_reducible first | refine T_reg_seq fun K hK => ?_ | refine T_reg_end fun K hK => ?_); simp only [List.toList_toArray, List.append_eq, List.cons_append, List.nil_append])
        | ((with_reducible first | apply T_cond_seq | apply T_cond); (focus rfl))
        | (intro hg; (first | (simp only [Bool.not_true, Bool.not_false, Bool.true_eq_false, Bool.false_eq_true] at hg; done) | ((try simp only [Bool.not_true, Bool.not_false, eq_self] at hg); (have hh : True := hg); clear hh hg) | ((try simp only [Bool.not_true, Bool.not_false] at hg); (try (have hh := hg; simp only [hh]; clear hh)); (try simp only [decide_eq_true_eq, decide_eq_false_iff_not, Bool.not_true, Bool.not_false, Bool.not_eq_true', Bool.not_eq_false', Bool.and_eq_true, Bool.or_eq_true, beq_iff_eq, bne_iff_ne, beq_eq_false_iff_ne, bne_eq_false_iff_eq, ne_eq, Decidable.not_not, Bool.or_eq_false_iff, Bool.and_eq_false_iff, gt_iff_lt, ge_iff_le, Int.not_lt, Int.not_le, Nat.not_lt, Nat.not_le] at hg); (try (exfalso; omega)))))
        | with_reducible first | refine T_seq_assoc ?_ | refine T_skip_seq ?_ | refine T_ret_seq ?_ | refine T_exit_seq ?_ | refine T_ret ?_ | refine T_skip ?_ | refine T_exit ?_ | refine T_block_seq fun Kb hKb => ?_ | refine T_block ?_
        | (simp only [TX.inBlock, TX.then, if_true, if_false, Nat.reduceEqDiff, ite_true, ite_false])
        | ((with_reducible first | refine hR _ _ (fun C cc => ?_) | refine hN _ _ (fun C cc => ?_)); simp (disch := omega) only [go_sem]; (with_reducible apply cc); clear cc C; (first | refine Ends.more rfl ?_ | refine Ends.same rfl ?_ | refine Ends.more (by simp only [go_sem, Bool.and_self]) ?_ | refine Ends.same (by simp only [go_sem, Bool.and_self]) ?_); (try simp only [go_sem, Bool.and_self]))
        | (with_reducible apply_assumption -exfalso -symm only [*]))
  · have hfew : ∀ σ, TPure Try.prog 26 [cfgTV c] σ (.bool false) := fun σ => by
      have := few_walk c hc σ
      rwa [decide_eq_false h] at this
    refine pure_of [] [.tmp 2] Try.func4 (by kernel_rfl) rfl (by kernel_rfl) fun X hR hN => ?_
    show Tw _ _ _ _ ([some _] ++ List.replicate 87 none) _
    simp only [List.replicate, List.cons_append, List.nil_append]
    repeat' (first
      | ((with_reducible refine WL_do fun Cw cw => ?_); (first | ((with_reducible first | apply O_move | apply O_assign | apply O_extract); (repeat rfl); (with_reducible apply cw); (focus ((try simp only [tput, List.set_cons_zero, List.set_cons_succ]); exact rfl))) | ((with_reducible first | apply O_load | apply O_fieldAddr | apply O_bin | apply O_len | apply O_un | apply O_store | apply O_alloc | apply O_box); (repeat rfl); simp (disch := omega) only [go_sem]; (with_reducible apply cw); (focus ((try simp only [tput, List.set_cons_zero, List.set_cons_succ]); exact rfl))) | ((with_reducible apply O_sliceR); (focus rfl); intro Cs cs; (try simp (disch := omega) only [evB, ev, constV, const1, Int.reduceLE, Int.natCast_nonneg, Int.toNat_natCast, Int.reduceToNat, if_true, if_pos, List.getElem?_cons_zero, List.getElem?_cons_succ, Option.bind_some, Option.bind_none]); simp (disch := omega) only [go_sem]; (with_reducible apply cs); clear cs Cs; (with_reducible apply cw); (focus ((try simp only [tput, List.set_cons_zero, List.set_cons_succ]); exact rfl))) | ((with_reducible first | apply O_callF | apply O_call); (repeat rfl); (try simp only [List.nil_append, List.append_nil, List.cons_append]); (refine TPure.go (by (first | apply hfew | apply awake10_walk) <;> first | assumption | omega | exact Eq.trans (get_old (by assumption)) (by assumption)) ?_); (with_reducible apply cw); (focus ((try simp only [tput, List.set_cons_zero, List.set_cons_succ]); exact rfl)))); clear cw Cw)
      | ((with_reducible refine WL_nil (hK _ _ ?_)); clear hK K)
      | ((with_reducible first | refine T_reg_seq fun K hK => ?_ | refine T_reg_end fun K hK => ?_); simp only [List.toList_toArray, List.append_eq, List.cons_append, List.nil_append])
      | ((with_reducible first | apply T_cond_seq | apply T_cond); (focus rfl))
      | (intro hg; (first | (simp only [Bool.not_true, Bool.not_false, Bool.true_eq_false, Bool.false_eq_true] at hg; done) | ((try simp only [Bool.not_true, Bool.not_false, eq_self] at hg); (have hh : True := hg); clear hh hg) | ((try simp only [Bool.not_true, Bool.not_false] at hg); (try (have hh := hg; simp only [hh]; clear hh)); (try simp only [decide_eq_true_eq, decide_eq_false_iff_not, Bool.not_true, Bool.not_false, Bool.not_eq_true', Bool.not_eq_false', Bool.and_eq_true, Bool.or_eq_true, beq_iff_eq, bne_iff_ne, beq_eq_false_iff_ne, bne_eq_false_iff_eq, ne_eq, Decidable.not_not, Bool.or_eq_false_iff, Bool.and_eq_false_iff, gt_iff_lt, ge_iff_le, Int.not_lt, Int.not_le, Nat.not_lt, Nat.not_le] at hg); (try (exfalso; omega)))))
      | with_reducible first | refine T_seq_assoc ?_ | refine T_skip_seq ?_ | refine T_ret_seq ?_ | refine T_exit_seq ?_ | refine T_ret ?_ | refine T_skip ?_ | refine T_exit ?_ | refine T_block_seq fun Kb hKb => ?_ | refine T_block ?_
      | (simp only [TX.inBlock, TX.then, if_true, if_false, Nat.reduceEqDiff, ite_true, ite_false])
      | ((with_reducible first | refine hR _ _ (fun C cc => ?_) | refine hN _ _ (fun C cc => ?_)); simp (disch := omega) only [go_sem]; (with_reducible apply cc); clear cc C; (first | refine Ends.more rfl ?_ | refine Ends.same rfl ?_ | refine Ends.more (by simp only [go_sem, Bool.and_self]) ?_ | refine Ends.same (by simp only [go_sem, Bool.and_self]) ?_); (try simp only [go_sem, Bool.and_self]))
      | (with_reducible apply_assumption -exfalso -symm only [*]))

/-- What may be wrong first. -/
inductive Wrong (c : Cfg) : Prop where
  | hosts (h : c.hosts < 1 ∨ c.hosts > 64) (e : checkS c = (1, 0, 1))
  | parts (h : ¬ (c.hosts < 1 ∨ c.hosts > 64)) (i : Nat) (hi : i < c.parts.l.length) (h1 : ∀ k, k < i → partS c k = 0) (h2 : partS c i ≠ 0) (e : checkS c = (2, (i : Int), 1))
  | frame (h : ¬ (c.hosts < 1 ∨ c.hosts > 64)) (hp : ∀ k, k < c.parts.l.length → partS c k = 0) (hm : c.major < 1 ∨ c.major > 1073741824) (e : checkS c = (3, 0, 1))
  | wins (h : ¬ (c.hosts < 1 ∨ c.hosts > 64)) (hp : ∀ k, k < c.parts.l.length → partS c k = 0) (hm : ¬ (c.major < 1 ∨ c.major > 1073741824)) (i : Nat) (hi : i < c.wins.l.length) (h1 : ∀ k, k < i → winS c k = 0) (h2 : winS c i ≠ 0) (e : checkS c = (4, (i : Int), winS c i))
  | links (h : ¬ (c.hosts < 1 ∨ c.hosts > 64)) (hp : ∀ k, k < c.parts.l.length → partS c k = 0) (hm : ¬ (c.major < 1 ∨ c.major > 1073741824)) (hw : ∀ k, k < c.wins.l.length → winS c k = 0) (i : Nat) (hi : i < c.vls.l.length) (h1 : ∀ k, k < i → linkS c k = 0) (h2 : linkS c i ≠ 0)
    (e : checkS c = (5, (i : Int), linkS c i))
  | ports (h : ¬ (c.hosts < 1 ∨ c.hosts > 64)) (hp : ∀ k, k < c.parts.l.length → partS c k = 0) (hm : ¬ (c.major < 1 ∨ c.major > 1073741824)) (hw : ∀ k, k < c.wins.l.length → winS c k = 0) (hl : ∀ k, k < c.vls.l.length → linkS c k = 0) (i : Nat) (hi : i < c.ports.l.length)
    (h1 : ∀ k, k < i → portS c k = 0) (h2 : portS c i ≠ 0) (e : checkS c = (6, (i : Int), portS c i))
  | late (i : Nat) (e : checkS c = (7, (i : Int), 26))
  | none (h : OkC c)

theorem wrong_of (c : Cfg) : Wrong c := by
  by_cases h1 : c.hosts < 1 ∨ c.hosts > 64
  · exact .hosts h1 (check_hosts h1)
  cases hA : firstBad c.parts.l.length (partS c) with
  | some x =>
    have q := firstBad_some.1 hA
    have h2 : partS c x.1 ≠ 0 := by rw [q.2.1]; exact q.2.2.1
    exact .parts h1 x.1 q.1 q.2.2.2 h2 (check_parts h1 q.1 q.2.2.2 h2)
  | none =>
    have hp := firstBad_none.1 hA
    by_cases h2 : c.major < 1 ∨ c.major > 1073741824
    · exact .frame h1 hp h2 (check_frame h1 hp h2)
    cases hB : firstBad c.wins.l.length (winS c) with
    | some x =>
      have q := firstBad_some.1 hB
      have h3 : winS c x.1 ≠ 0 := by rw [q.2.1]; exact q.2.2.1
      exact .wins h1 hp h2 x.1 q.1 q.2.2.2 h3 (check_wins h1 hp h2 q.1 q.2.2.2 h3)
    | none =>
      have hw := firstBad_none.1 hB
      cases hC : firstBad c.vls.l.length (linkS c) with
      | some x =>
        have q := firstBad_some.1 hC
        have h3 : linkS c x.1 ≠ 0 := by rw [q.2.1]; exact q.2.2.1
        exact .links h1 hp h2 hw x.1 q.1 q.2.2.2 h3 (check_links h1 hp h2 hw q.1 q.2.2.2 h3)
      | none =>
        have hl := firstBad_none.1 hC
        cases hD : firstBad c.ports.l.length (portS c) with
        | some x =>
          have q := firstBad_some.1 hD
          have h3 : portS c x.1 ≠ 0 := by rw [q.2.1]; exact q.2.2.1
          exact .ports h1 hp h2 hw hl x.1 q.1 q.2.2.2 h3 (check_ports h1 hp h2 hw hl q.1 q.2.2.2 h3)
        | none =>
          have hq := firstBad_none.1 hD
          cases hE : firstBad c.hosts.toNat (lateS c) with
          | some x =>
            have q := firstBad_some.1 hE
            have h3 : lateS c x.1 ≠ 0 := by rw [q.2.1]; exact q.2.2.1
            exact .late x.1 (check_late h1 hp h2 hw hl hq q.1 q.2.2.2 h3)
          | none => exact .none ⟨h1, hp, h2, hw, hl, hq, firstBad_none.1 hE⟩

theorem first_walk10 (c : Cfg) (hc : c.ok) : TPure Try.prog 5 [cfgTV c] [] (.bool true) := by
  have l2 := hc.lwins
  have l3 := hc.lvls
  have l4 := hc.lports
  by_cases h : FewP c
  · have hfew : ∀ σ, TPure Try.prog 26 [cfgTV c] σ (.bool true) := fun σ => by
      have := few_walk c hc σ
      rwa [decide_eq_true h] at this
    have hF := h.few hc
    have hown := check_walk c hF
    have hfar : ∀ n : Nat, ((n : Int) + 1).toNat = n + 1 := fun n => by omega
    cases wrong_of c with
    | hosts q e =>
      have hd := check_walk { c with wins := Row.none, vls := Row.none, ports := Row.none } (hF.of rfl rfl rfl (none_of _) (none_of _) (none_of _))
      rw [check_hosts (c := { c with wins := Row.none, vls := Row.none, ports := Row.none }) q] at hd
      rw [e] at hown
      refine pure_of [] [.tmp 2] Try.func5 (by kernel_rfl) rfl (by kernel_rfl) fun X hR hN => ?_
      show Tw _ _ _ _ ([some _] ++ List.replicate 113 none) _
      simp only [List.replicate, List.cons_append, List.nil_append]
      repeat' (first
        | ((with_reducible refine WL_do fun Cw cw => ?_); (first | ((with_reducible first | apply O_move | apply O_assign | apply O_pickV | apply O_extract); (repeat rfl); (with_reducible apply cw); (focus ((try simp only [tput, List.set_cons_zero, List.set_cons_succ]); exact rfl))) | ((with_reducible first | apply O_load | apply O_fieldAddr | apply O_bin | apply O_len | apply O_un | apply O_store | apply O_alloc | apply O_box | apply O_build); (repeat rfl); simp (disch := omega) only [go_sem]; (with_reducible apply cw); (focus ((try simp only [tput, List.set_cons_zero, List.set_cons_succ]); exact rfl))) | ((with_reducible apply O_sliceR); (focus rfl); intro Cs cs; (try simp (disch := omega) only [evB, ev, constV, const1, Int.reduceLE, Int.natCast_nonneg, Int.toNat_natCast, Int.reduceToNat, if_true, if_pos, List.getElem?_cons_zero, List.getElem?_cons_succ, Option.bind_some, Option.bind_none]); simp (disch := omega) only [go_sem]; (with_reducible apply cs); clear cs Cs; (with_reducible apply cw); (focus ((try simp only [tput, List.set_cons_zero, List.set_cons_succ]); exact rfl))) | ((with_reducible first | apply O_callF | apply O_call); (repeat rfl); (try simp only [List.nil_append, List.append_nil, List.cons_append]); (refine TPure.go (by (first | apply hfew | apply awake10_walk | apply hown | apply hd) <;> first | assumption | omega | exact Eq.trans (get_old (by assumption)) (by assumption)) ?_); (with_reducible apply cw); (focus ((try simp only [tput, List.set_cons_zero, List.set_cons_succ]); exact rfl)))); clear cw Cw)
        | ((with_reducible apply WL_if); (focus rfl); (focus ((try simp only [tput, List.set_cons_zero, List.set_cons_succ]); exact rfl)))
        | ((with_reducible apply WL_un); (focus rfl); (focus ((try simp only [tput, List.set_cons_zero, List.set_cons_succ]); exact rfl)))
        | ((with_reducible refine WL_nil (hK _ _ ?_)); clear hK K)
        | ((with_reducible first | refine T_reg_seq fun K hK => ?_ | refine T_reg_end fun K hK => ?_); simp only [List.toList_toArray, List.append_eq, List.cons_append, List.nil_append])
        | ((with_reducible first | apply T_cond_seq | apply T_cond); (focus rfl))
        | (intro hg; (first | (simp only [Bool.not_true, Bool.not_false, Bool.true_eq_false, Bool.false_eq_true] at hg; done) | ((try simp only [Bool.not_true, Bool.not_false, eq_self] at hg); (have hh : True := hg); clear hh hg) | ((try simp only [Bool.not_true, Bool.not_false] at hg); (try (have hh := hg; simp only [hh]; clear hh)); (try simp only [decide_eq_true_eq, decide_eq_false_iff_not, Bool.not_true, Bool.not_false, Bool.not_eq_true', Bool.not_eq_false', Bool.and_eq_true, Bool.or_eq_true, beq_iff_eq, bne_iff_ne, beq_eq_false_iff_ne, bne_eq_false_iff_eq, ne_eq, Decidable.not_not, Bool.or_eq_false_iff, Bool.and_eq_false_iff, gt_iff_lt, ge_iff_le, Int.not_lt, Int.not_le, Nat.not_lt, Nat.not_le] at hg); (try (exfalso; omega)))))
        | with_reducible first | refine T_seq_assoc ?_ | refine T_skip_seq ?_ | refine T_ret_seq ?_ | refine T_exit_seq ?_ | refine T_ret ?_ | refine T_skip ?_ | refine T_exit ?_ | refine T_block_seq fun Kb hKb => ?_ | refine T_block ?_
        | (simp only [TX.inBlock, TX.then, if_true, if_false, Nat.reduceEqDiff, ite_true, ite_false])
        | ((with_reducible first | refine hR _ _ (fun C cc => ?_) | refine hN _ _ (fun C cc => ?_)); simp (disch := omega) only [go_sem]; (with_reducible apply cc); clear cc C; (first | refine Ends.more rfl ?_ | refine Ends.same rfl ?_ | refine Ends.more (by simp only [go_sem, Bool.and_self]) ?_ | refine Ends.same (by simp only [go_sem, Bool.and_self]) ?_); (try simp only [go_sem, Bool.and_self]))
        | (with_reducible apply_assumption -exfalso -symm only [*]))
    | parts h1 i hi q1 q2 e =>
      have hd := check_walk { c with wins := Row.none, vls := Row.none, ports := Row.none } (hF.of rfl rfl rfl (none_of _) (none_of _) (none_of _))
      rw [check_parts (c := { c with wins := Row.none, vls := Row.none, ports := Row.none }) h1 hi (fun k hk => (partS_congr (c := c) rfl rfl k).trans (q1 k hk)) (by rw [partS_congr (c := c) (d := { c with wins := Row.none, vls := Row.none, ports := Row.none }) rfl rfl]; exact q2)] at hd
      rw [e] at hown
      refine pure_of [] [.tmp 2] Try.func5 (by kernel_rfl) rfl (by kernel_rfl) fun X hR hN => ?_
      show Tw _ _ _ _ ([some _] ++ List.replicate 113 none) _
      simp only [List.replicate, List.cons_append, List.nil_append]
      repeat' (first
        | ((with_reducible refine WL_do fun Cw cw => ?_); (first | ((with_reducible first | apply O_move | apply O_assign | apply O_pickV | apply O_extract); (repeat rfl); (with_reducible apply cw); (focus ((try simp only [tput, List.set_cons_zero, List.set_cons_succ]); exact rfl))) | ((with_reducible first | apply O_load | apply O_fieldAddr | apply O_bin | apply O_len | apply O_un | apply O_store | apply O_alloc | apply O_box | apply O_build); (repeat rfl); simp (disch := omega) only [go_sem]; (with_reducible apply cw); (focus ((try simp only [tput, List.set_cons_zero, List.set_cons_succ]); exact rfl))) | ((with_reducible apply O_sliceR); (focus rfl); intro Cs cs; (try simp (disch := omega) only [evB, ev, constV, const1, Int.reduceLE, Int.natCast_nonneg, Int.toNat_natCast, Int.reduceToNat, if_true, if_pos, List.getElem?_cons_zero, List.getElem?_cons_succ, Option.bind_some, Option.bind_none]); simp (disch := omega) only [go_sem]; (with_reducible apply cs); clear cs Cs; (with_reducible apply cw); (focus ((try simp only [tput, List.set_cons_zero, List.set_cons_succ]); exact rfl))) | ((with_reducible first | apply O_callF | apply O_call); (repeat rfl); (try simp only [List.nil_append, List.append_nil, List.cons_append]); (refine TPure.go (by (first | apply hfew | apply awake10_walk | apply hown | apply hd) <;> first | assumption | omega | exact Eq.trans (get_old (by assumption)) (by assumption)) ?_); (with_reducible apply cw); (focus ((try simp only [tput, List.set_cons_zero, List.set_cons_succ]); exact rfl)))); clear cw Cw)
        | ((with_reducible apply WL_if); (focus rfl); (focus ((try simp only [tput, List.set_cons_zero, List.set_cons_succ]); exact rfl)))
        | ((with_reducible apply WL_un); (focus rfl); (focus ((try simp only [tput, List.set_cons_zero, List.set_cons_succ]); exact rfl)))
        | ((with_reducible refine WL_nil (hK _ _ ?_)); clear hK K)
        | ((with_reducible first | refine T_reg_seq fun K hK => ?_ | refine T_reg_end fun K hK => ?_); simp only [List.toList_toArray, List.append_eq, List.cons_append, List.nil_append])
        | ((with_reducible first | apply T_cond_seq | apply T_cond); (focus rfl))
        | (intro hg; (first | (simp only [Bool.not_true, Bool.not_false, Bool.true_eq_false, Bool.false_eq_true] at hg; done) | ((try simp only [Bool.not_true, Bool.not_false, eq_self] at hg); (have hh : True := hg); clear hh hg) | ((try simp only [Bool.not_true, Bool.not_false] at hg); (try (have hh := hg; simp only [hh]; clear hh)); (try simp only [decide_eq_true_eq, decide_eq_false_iff_not, Bool.not_true, Bool.not_false, Bool.not_eq_true', Bool.not_eq_false', Bool.and_eq_true, Bool.or_eq_true, beq_iff_eq, bne_iff_ne, beq_eq_false_iff_ne, bne_eq_false_iff_eq, ne_eq, Decidable.not_not, Bool.or_eq_false_iff, Bool.and_eq_false_iff, gt_iff_lt, ge_iff_le, Int.not_lt, Int.not_le, Nat.not_lt, Nat.not_le] at hg); (try (exfalso; omega)))))
        | with_reducible first | refine T_seq_assoc ?_ | refine T_skip_seq ?_ | refine T_ret_seq ?_ | refine T_exit_seq ?_ | refine T_ret ?_ | refine T_skip ?_ | refine T_exit ?_ | refine T_block_seq fun Kb hKb => ?_ | refine T_block ?_
        | (simp only [TX.inBlock, TX.then, if_true, if_false, Nat.reduceEqDiff, ite_true, ite_false])
        | ((with_reducible first | refine hR _ _ (fun C cc => ?_) | refine hN _ _ (fun C cc => ?_)); simp (disch := omega) only [go_sem]; (with_reducible apply cc); clear cc C; (first | refine Ends.more rfl ?_ | refine Ends.same rfl ?_ | refine Ends.more (by simp only [go_sem, Bool.and_self]) ?_ | refine Ends.same (by simp only [go_sem, Bool.and_self]) ?_); (try simp only [go_sem, Bool.and_self]))
        | (with_reducible apply_assumption -exfalso -symm only [*]))
    | frame h1 hp hm e =>
      have hd := check_walk { c with wins := Row.none, vls := Row.none, ports := Row.none } (hF.of rfl rfl rfl (none_of _) (none_of _) (none_of _))
      rw [check_frame (c := { c with wins := Row.none, vls := Row.none, ports := Row.none }) h1 (fun k hk => (partS_congr (c := c) rfl rfl k).trans (hp k hk)) hm] at hd
      rw [e] at hown
      refine pure_of [] [.tmp 2] Try.func5 (by kernel_rfl) rfl (by kernel_rfl) fun X hR hN => ?_
      show Tw _ _ _ _ ([some _] ++ List.replicate 113 none) _
      simp only [List.replicate, List.cons_append, List.nil_append]
      repeat' (first
        | ((with_reducible refine WL_do fun Cw cw => ?_); (first | ((with_reducible first | apply O_move | apply O_assign | apply O_pickV | apply O_extract); (repeat rfl); (with_reducible apply cw); (focus ((try simp only [tput, List.set_cons_zero, List.set_cons_succ]); exact rfl))) | ((with_reducible first | apply O_load | apply O_fieldAddr | apply O_bin | apply O_len | apply O_un | apply O_store | apply O_alloc | apply O_box | apply O_build); (repeat rfl); simp (disch := omega) only [go_sem]; (with_reducible apply cw); (focus ((try simp only [tput, List.set_cons_zero, List.set_cons_succ]); exact rfl))) | ((with_reducible apply O_sliceR); (focus rfl); intro Cs cs; (try simp (disch := omega) only [evB, ev, constV, const1, Int.reduceLE, Int.natCast_nonneg, Int.toNat_natCast, Int.reduceToNat, if_true, if_pos, List.getElem?_cons_zero, List.getElem?_cons_succ, Option.bind_some, Option.bind_none]); simp (disch := omega) only [go_sem]; (with_reducible apply cs); clear cs Cs; (with_reducible apply cw); (focus ((try simp only [tput, List.set_cons_zero, List.set_cons_succ]); exact rfl))) | ((with_reducible first | apply O_callF | apply O_call); (repeat rfl); (try simp only [List.nil_append, List.append_nil, List.cons_append]); (refine TPure.go (by (first | apply hfew | apply awake10_walk | apply hown | apply hd) <;> first | assumption | omega | exact Eq.trans (get_old (by assumption)) (by assumption)) ?_); (with_reducible apply cw); (focus ((try simp only [tput, List.set_cons_zero, List.set_cons_succ]); exact rfl)))); clear cw Cw)
        | ((with_reducible apply WL_if); (focus rfl); (focus ((try simp only [tput, List.set_cons_zero, List.set_cons_succ]); exact rfl)))
        | ((with_reducible apply WL_un); (focus rfl); (focus ((try simp only [tput, List.set_cons_zero, List.set_cons_succ]); exact rfl)))
        | ((with_reducible refine WL_nil (hK _ _ ?_)); clear hK K)
        | ((with_reducible first | refine T_reg_seq fun K hK => ?_ | refine T_reg_end fun K hK => ?_); simp only [List.toList_toArray, List.append_eq, List.cons_append, List.nil_append])
        | ((with_reducible first | apply T_cond_seq | apply T_cond); (focus rfl))
        | (intro hg; (first | (simp only [Bool.not_true, Bool.not_false, Bool.true_eq_false, Bool.false_eq_true] at hg; done) | ((try simp only [Bool.not_true, Bool.not_false, eq_self] at hg); (have hh : True := hg); clear hh hg) | ((try simp only [Bool.not_true, Bool.not_false] at hg); (try (have hh := hg; simp only [hh]; clear hh)); (try simp only [decide_eq_true_eq, decide_eq_false_iff_not, Bool.not_true, Bool.not_false, Bool.not_eq_true', Bool.not_eq_false', Bool.and_eq_true, Bool.or_eq_true, beq_iff_eq, bne_iff_ne, beq_eq_false_iff_ne, bne_eq_false_iff_eq, ne_eq, Decidable.not_not, Bool.or_eq_false_iff, Bool.and_eq_false_iff, gt_iff_lt, ge_iff_le, Int.not_lt, Int.not_le, Nat.not_lt, Nat.not_le] at hg); (try (exfalso; omega)))))
        | with_reducible first | refine T_seq_assoc ?_ | refine T_skip_seq ?_ | refine T_ret_seq ?_ | refine T_exit_seq ?_ | refine T_ret ?_ | refine T_skip ?_ | refine T_exit ?_ | refine T_block_seq fun Kb hKb => ?_ | refine T_block ?_
        | (simp only [TX.inBlock, TX.then, if_true, if_false, Nat.reduceEqDiff, ite_true, ite_false])
        | ((with_reducible first | refine hR _ _ (fun C cc => ?_) | refine hN _ _ (fun C cc => ?_)); simp (disch := omega) only [go_sem]; (with_reducible apply cc); clear cc C; (first | refine Ends.more rfl ?_ | refine Ends.same rfl ?_ | refine Ends.more (by simp only [go_sem, Bool.and_self]) ?_ | refine Ends.same (by simp only [go_sem, Bool.and_self]) ?_); (try simp only [go_sem, Bool.and_self]))
        | (with_reducible apply_assumption -exfalso -symm only [*]))
    | wins h1 hp hm i hi q1 q2 e =>
      have hw : ∀ k, k < i + 1 → winS { c with wins := c.wins.cut 0 (i + 1), vls := Row.none, ports := Row.none } k = winS c k := fun k hk => winS_congr (c := c) (d := { c with wins := c.wins.cut 0 (i + 1), vls := Row.none, ports := Row.none }) rfl rfl fun j hj => nth_cut (by omega)
      have hd := check_walk { c with wins := c.wins.cut 0 (i + 1), vls := Row.none, ports := Row.none } (hF.of rfl rfl rfl (cut_of c.wins (n := i + 1) (by omega)) (none_of _) (none_of _))
      rw [check_wins (c := { c with wins := c.wins.cut 0 (i + 1), vls := Row.none, ports := Row.none }) h1 (fun k hk => (partS_congr (c := c) rfl rfl k).trans (hp k hk)) hm (i := i) (by rw [cut_len (by omega)]; omega) (fun k hk => (hw k (by omega)).trans (q1 k hk)) (by rw [hw i (by omega)]; exact q2), hw i (by omega)] at hd
      rw [e] at hown
      refine pure_of [] [.tmp 2] Try.func5 (by kernel_rfl) rfl (by kernel_rfl) fun X hR hN => ?_
      show Tw _ _ _ _ ([some _] ++ List.replicate 113 none) _
      simp only [List.replicate, List.cons_append, List.nil_append]
      repeat' (first
        | ((with_reducible refine WL_do fun Cw cw => ?_); (first | ((with_reducible first | apply O_move | apply O_assign | apply O_pickV | apply O_extract); (repeat rfl); (with_reducible apply cw); (focus ((try simp only [tput, List.set_cons_zero, List.set_cons_succ]); exact rfl))) | ((with_reducible first | apply O_load | apply O_fieldAddr | apply O_bin | apply O_len | apply O_un | apply O_store | apply O_alloc | apply O_box | apply O_build); (repeat rfl); simp (disch := omega) only [go_sem, hfar]; (with_reducible apply cw); (focus ((try simp only [tput, List.set_cons_zero, List.set_cons_succ]); exact rfl))) | ((with_reducible apply O_sliceR); (focus rfl); intro Cs cs; (try simp (disch := omega) only [evB, ev, constV, const1, Int.reduceLE, Int.natCast_nonneg, Int.toNat_natCast, Int.reduceToNat, if_true, if_pos, List.getElem?_cons_zero, List.getElem?_cons_succ, Option.bind_some, Option.bind_none]); simp (disch := omega) only [go_sem, hfar]; (with_reducible apply cs); clear cs Cs; (with_reducible apply cw); (focus ((try simp only [tput, List.set_cons_zero, List.set_cons_succ]); exact rfl))) | ((with_reducible first | apply O_callF | apply O_call); (repeat rfl); (try simp only [List.nil_append, List.append_nil, List.cons_append]); (refine TPure.go (by (first | apply hfew | apply awake10_walk | apply hown | apply hd) <;> first | assumption | omega | exact Eq.trans (get_old (by assumption)) (by assumption)) ?_); (with_reducible apply cw); (focus ((try simp only [tput, List.set_cons_zero, List.set_cons_succ]); exact rfl)))); clear cw Cw)
        | ((with_reducible apply WL_if); (focus rfl); (focus ((try simp only [tput, List.set_cons_zero, List.set_cons_succ]); exact rfl)))
        | ((with_reducible apply WL_un); (focus rfl); (focus ((try simp only [tput, List.set_cons_zero, List.set_cons_succ]); exact rfl)))
        | ((with_reducible refine WL_nil (hK _ _ ?_)); clear hK K)
        | ((with_reducible first | refine T_reg_seq fun K hK => ?_ | refine T_reg_end fun K hK => ?_); simp only [List.toList_toArray, List.append_eq, List.cons_append, List.nil_append])
        | ((with_reducible first | apply T_cond_seq | apply T_cond); (focus rfl))
        | (intro hg; (first | (simp only [Bool.not_true, Bool.not_false, Bool.true_eq_false, Bool.false_eq_true] at hg; done) | ((try simp only [Bool.not_true, Bool.not_false, eq_self] at hg); (have hh : True := hg); clear hh hg) | ((try simp only [Bool.not_true, Bool.not_false] at hg); (try (have hh := hg; simp only [hh]; clear hh)); (try simp only [decide_eq_true_eq, decide_eq_false_iff_not, Bool.not_true, Bool.not_false, Bool.not_eq_true', Bool.not_eq_false', Bool.and_eq_true, Bool.or_eq_true, beq_iff_eq, bne_iff_ne, beq_eq_false_iff_ne, bne_eq_false_iff_eq, ne_eq, Decidable.not_not, Bool.or_eq_false_iff, Bool.and_eq_false_iff, gt_iff_lt, ge_iff_le, Int.not_lt, Int.not_le, Nat.not_lt, Nat.not_le] at hg); (try (exfalso; omega)))))
        | with_reducible first | refine T_seq_assoc ?_ | refine T_skip_seq ?_ | refine T_ret_seq ?_ | refine T_exit_seq ?_ | refine T_ret ?_ | refine T_skip ?_ | refine T_exit ?_ | refine T_block_seq fun Kb hKb => ?_ | refine T_block ?_
        | (simp only [TX.inBlock, TX.then, if_true, if_false, Nat.reduceEqDiff, ite_true, ite_false])
        | ((with_reducible first | refine hR _ _ (fun C cc => ?_) | refine hN _ _ (fun C cc => ?_)); simp (disch := omega) only [go_sem, hfar]; (with_reducible apply cc); clear cc C; (first | refine Ends.more rfl ?_ | refine Ends.same rfl ?_ | refine Ends.more (by simp only [go_sem, Bool.and_self]) ?_ | refine Ends.same (by simp only [go_sem, Bool.and_self]) ?_); (try simp only [go_sem, Bool.and_self]))
        | (with_reducible apply_assumption -exfalso -symm only [*]))
    | links h1 hp hm hw i hi q1 q2 e =>
      have hl : ∀ k, k < i + 1 → linkS { c with vls := c.vls.cut 0 (i + 1), ports := Row.none } k = linkS c k := fun k hk => linkS_congr (c := c) (d := { c with vls := c.vls.cut 0 (i + 1), ports := Row.none }) rfl fun j hj => nth_cut (by omega)
      have hd := check_walk { c with vls := c.vls.cut 0 (i + 1), ports := Row.none } (hF.of rfl rfl rfl (all_of _) (cut_of c.vls (n := i + 1) (by omega)) (none_of _))
      rw [check_links (c := { c with vls := c.vls.cut 0 (i + 1), ports := Row.none }) h1 (fun k hk => (partS_congr (c := c) rfl rfl k).trans (hp k hk)) hm (fun k hk => (winS_congr (c := c) (d := { c with vls := c.vls.cut 0 (i + 1), ports := Row.none }) rfl rfl fun _ _ => rfl).trans (hw k hk)) (i := i) (by rw [cut_len (by omega)]; omega) (fun k hk => (hl k (by omega)).trans (q1 k hk)) (by rw [hl i (by omega)]; exact q2), hl i (by omega)] at hd
      rw [e] at hown
      refine pure_of [] [.tmp 2] Try.func5 (by kernel_rfl) rfl (by kernel_rfl) fun X hR hN => ?_
      show Tw _ _ _ _ ([some _] ++ List.replicate 113 none) _
      simp only [List.replicate, List.cons_append, List.nil_append]
      repeat' (first
        | ((with_reducible refine WL_do fun Cw cw => ?_); (first | ((with_reducible first | apply O_move | apply O_assign | apply O_pickV | apply O_extract); (repeat rfl); (with_reducible apply cw); (focus ((try simp only [tput, List.set_cons_zero, List.set_cons_succ]); exact rfl))) | ((with_reducible first | apply O_load | apply O_fieldAddr | apply O_bin | apply O_len | apply O_un | apply O_store | apply O_alloc | apply O_box | apply O_build); (repeat rfl); simp (disch := omega) only [go_sem, hfar]; (with_reducible apply cw); (focus ((try simp only [tput, List.set_cons_zero, List.set_cons_succ]); exact rfl))) | ((with_reducible apply O_sliceR); (focus rfl); intro Cs cs; (try simp (disch := omega) only [evB, ev, constV, const1, Int.reduceLE, Int.natCast_nonneg, Int.toNat_natCast, Int.reduceToNat, if_true, if_pos, List.getElem?_cons_zero, List.getElem?_cons_succ, Option.bind_some, Option.bind_none]); simp (disch := omega) only [go_sem, hfar]; (with_reducible apply cs); clear cs Cs; (with_reducible apply cw); (focus ((try simp only [tput, List.set_cons_zero, List.set_cons_succ]); exact rfl))) | ((with_reducible first | apply O_callF | apply O_call); (repeat rfl); (try simp only [List.nil_append, List.append_nil, List.cons_append]); (refine TPure.go (by (first | apply hfew | apply awake10_walk | apply hown | apply hd) <;> first | assumption | omega | exact Eq.trans (get_old (by assumption)) (by assumption)) ?_); (with_reducible apply cw); (focus ((try simp only [tput, List.set_cons_zero, List.set_cons_succ]); exact rfl)))); clear cw Cw)
        | ((with_reducible apply WL_if); (focus rfl); (focus ((try simp only [tput, List.set_cons_zero, List.set_cons_succ]); exact rfl)))
        | ((with_reducible apply WL_un); (focus rfl); (focus ((try simp only [tput, List.set_cons_zero, List.set_cons_succ]); exact rfl)))
        | ((with_reducible refine WL_nil (hK _ _ ?_)); clear hK K)
        | ((with_reducible first | refine T_reg_seq fun K hK => ?_ | refine T_reg_end fun K hK => ?_); simp only [List.toList_toArray, List.append_eq, List.cons_append, List.nil_append])
        | ((with_reducible first | apply T_cond_seq | apply T_cond); (focus rfl))
        | (intro hg; (first | (simp only [Bool.not_true, Bool.not_false, Bool.true_eq_false, Bool.false_eq_true] at hg; done) | ((try simp only [Bool.not_true, Bool.not_false, eq_self] at hg); (have hh : True := hg); clear hh hg) | ((try simp only [Bool.not_true, Bool.not_false] at hg); (try (have hh := hg; simp only [hh]; clear hh)); (try simp only [decide_eq_true_eq, decide_eq_false_iff_not, Bool.not_true, Bool.not_false, Bool.not_eq_true', Bool.not_eq_false', Bool.and_eq_true, Bool.or_eq_true, beq_iff_eq, bne_iff_ne, beq_eq_false_iff_ne, bne_eq_false_iff_eq, ne_eq, Decidable.not_not, Bool.or_eq_false_iff, Bool.and_eq_false_iff, gt_iff_lt, ge_iff_le, Int.not_lt, Int.not_le, Nat.not_lt, Nat.not_le] at hg); (try (exfalso; omega)))))
        | with_reducible first | refine T_seq_assoc ?_ | refine T_skip_seq ?_ | refine T_ret_seq ?_ | refine T_exit_seq ?_ | refine T_ret ?_ | refine T_skip ?_ | refine T_exit ?_ | refine T_block_seq fun Kb hKb => ?_ | refine T_block ?_
        | (simp only [TX.inBlock, TX.then, if_true, if_false, Nat.reduceEqDiff, ite_true, ite_false])
        | ((with_reducible first | refine hR _ _ (fun C cc => ?_) | refine hN _ _ (fun C cc => ?_)); simp (disch := omega) only [go_sem, hfar]; (with_reducible apply cc); clear cc C; (first | refine Ends.more rfl ?_ | refine Ends.same rfl ?_ | refine Ends.more (by simp only [go_sem, Bool.and_self]) ?_ | refine Ends.same (by simp only [go_sem, Bool.and_self]) ?_); (try simp only [go_sem, Bool.and_self]))
        | (with_reducible apply_assumption -exfalso -symm only [*]))
    | ports h1 hp hm hw hl i hi q1 q2 e =>
      have hq : ∀ k, k < i + 1 → portS { c with ports := c.ports.cut 0 (i + 1) } k = portS c k := fun k hk => portS_congr (c := c) (d := { c with ports := c.ports.cut 0 (i + 1) }) rfl rfl fun j hj => nth_cut (by omega)
      have hd := check_walk { c with ports := c.ports.cut 0 (i + 1) } (hF.of rfl rfl rfl (all_of _) (all_of _) (cut_of c.ports (n := i + 1) (by omega)))
      rw [check_ports (c := { c with ports := c.ports.cut 0 (i + 1) }) h1 (fun k hk => (partS_congr (c := c) rfl rfl k).trans (hp k hk)) hm (fun k hk => (winS_congr (c := c) (d := { c with ports := c.ports.cut 0 (i + 1) }) rfl rfl fun _ _ => rfl).trans (hw k hk))
        (fun k hk => (linkS_congr (c := c) (d := { c with ports := c.ports.cut 0 (i + 1) }) rfl fun _ _ => rfl).trans (hl k hk)) (i := i) (by rw [cut_len (by omega)]; omega) (fun k hk => (hq k (by omega)).trans (q1 k hk)) (by rw [hq i (by omega)]; exact q2), hq i (by omega)] at hd
      rw [e] at hown
      refine pure_of [] [.tmp 2] Try.func5 (by kernel_rfl) rfl (by kernel_rfl) fun X hR hN => ?_
      show Tw _ _ _ _ ([some _] ++ List.replicate 113 none) _
      simp only [List.replicate, List.cons_append, List.nil_append]
      repeat' (first
        | ((with_reducible refine WL_do fun Cw cw => ?_); (first | ((with_reducible first | apply O_move | apply O_assign | apply O_pickV | apply O_extract); (repeat rfl); (with_reducible apply cw); (focus ((try simp only [tput, List.set_cons_zero, List.set_cons_succ]); exact rfl))) | ((with_reducible first | apply O_load | apply O_fieldAddr | apply O_bin | apply O_len | apply O_un | apply O_store | apply O_alloc | apply O_box | apply O_build); (repeat rfl); simp (disch := omega) only [go_sem, hfar]; (with_reducible apply cw); (focus ((try simp only [tput, List.set_cons_zero, List.set_cons_succ]); exact rfl))) | ((with_reducible apply O_sliceR); (focus rfl); intro Cs cs; (try simp (disch := omega) only [evB, ev, constV, const1, Int.reduceLE, Int.natCast_nonneg, Int.toNat_natCast, Int.reduceToNat, if_true, if_pos, List.getElem?_cons_zero, List.getElem?_cons_succ, Option.bind_some, Option.bind_none]); simp (disch := omega) only [go_sem, hfar]; (with_reducible apply cs); clear cs Cs; (with_reducible apply cw); (focus ((try simp only [tput, List.set_cons_zero, List.set_cons_succ]); exact rfl))) | ((with_reducible first | apply O_callF | apply O_call); (repeat rfl); (try simp only [List.nil_append, List.append_nil, List.cons_append]); (refine TPure.go (by (first | apply hfew | apply awake10_walk | apply hown | apply hd) <;> first | assumption | omega | exact Eq.trans (get_old (by assumption)) (by assumption)) ?_); (with_reducible apply cw); (focus ((try simp only [tput, List.set_cons_zero, List.set_cons_succ]); exact rfl)))); clear cw Cw)
        | ((with_reducible apply WL_if); (focus rfl); (focus ((try simp only [tput, List.set_cons_zero, List.set_cons_succ]); exact rfl)))
        | ((with_reducible apply WL_un); (focus rfl); (focus ((try simp only [tput, List.set_cons_zero, List.set_cons_succ]); exact rfl)))
        | ((with_reducible refine WL_nil (hK _ _ ?_)); clear hK K)
        | ((with_reducible first | refine T_reg_seq fun K hK => ?_ | refine T_reg_end fun K hK => ?_); simp only [List.toList_toArray, List.append_eq, List.cons_append, List.nil_append])
        | ((with_reducible first | apply T_cond_seq | apply T_cond); (focus rfl))
        | (intro hg; (first | (simp only [Bool.not_true, Bool.not_false, Bool.true_eq_false, Bool.false_eq_true] at hg; done) | ((try simp only [Bool.not_true, Bool.not_false, eq_self] at hg); (have hh : True := hg); clear hh hg) | ((try simp only [Bool.not_true, Bool.not_false] at hg); (try (have hh := hg; simp only [hh]; clear hh)); (try simp only [decide_eq_true_eq, decide_eq_false_iff_not, Bool.not_true, Bool.not_false, Bool.not_eq_true', Bool.not_eq_false', Bool.and_eq_true, Bool.or_eq_true, beq_iff_eq, bne_iff_ne, beq_eq_false_iff_ne, bne_eq_false_iff_eq, ne_eq, Decidable.not_not, Bool.or_eq_false_iff, Bool.and_eq_false_iff, gt_iff_lt, ge_iff_le, Int.not_lt, Int.not_le, Nat.not_lt, Nat.not_le] at hg); (try (exfalso; omega)))))
        | with_reducible first | refine T_seq_assoc ?_ | refine T_skip_seq ?_ | refine T_ret_seq ?_ | refine T_exit_seq ?_ | refine T_ret ?_ | refine T_skip ?_ | refine T_exit ?_ | refine T_block_seq fun Kb hKb => ?_ | refine T_block ?_
        | (simp only [TX.inBlock, TX.then, if_true, if_false, Nat.reduceEqDiff, ite_true, ite_false])
        | ((with_reducible first | refine hR _ _ (fun C cc => ?_) | refine hN _ _ (fun C cc => ?_)); simp (disch := omega) only [go_sem, hfar]; (with_reducible apply cc); clear cc C; (first | refine Ends.more rfl ?_ | refine Ends.same rfl ?_ | refine Ends.more (by simp only [go_sem, Bool.and_self]) ?_ | refine Ends.same (by simp only [go_sem, Bool.and_self]) ?_); (try simp only [go_sem, Bool.and_self]))
        | (with_reducible apply_assumption -exfalso -symm only [*]))
    | late i e =>
      rw [e] at hown
      refine pure_of [] [.tmp 2] Try.func5 (by kernel_rfl) rfl (by kernel_rfl) fun X hR hN => ?_
      show Tw _ _ _ _ ([some _] ++ List.replicate 113 none) _
      simp only [List.replicate, List.cons_append, List.nil_append]
      repeat' (first
        | ((with_reducible refine WL_do fun Cw cw => ?_); (first | ((with_reducible first | apply O_move | apply O_assign | apply O_pickV | apply O_extract); (repeat rfl); (with_reducible apply cw); (focus ((try simp only [tput, List.set_cons_zero, List.set_cons_succ]); exact rfl))) | ((with_reducible first | apply O_load | apply O_fieldAddr | apply O_bin | apply O_len | apply O_un | apply O_store | apply O_alloc | apply O_box | apply O_build); (repeat rfl); simp (disch := omega) only [go_sem]; (with_reducible apply cw); (focus ((try simp only [tput, List.set_cons_zero, List.set_cons_succ]); exact rfl))) | ((with_reducible apply O_sliceR); (focus rfl); intro Cs cs; (try simp (disch := omega) only [evB, ev, constV, const1, Int.reduceLE, Int.natCast_nonneg, Int.toNat_natCast, Int.reduceToNat, if_true, if_pos, List.getElem?_cons_zero, List.getElem?_cons_succ, Option.bind_some, Option.bind_none]); simp (disch := omega) only [go_sem]; (with_reducible apply cs); clear cs Cs; (with_reducible apply cw); (focus ((try simp only [tput, List.set_cons_zero, List.set_cons_succ]); exact rfl))) | ((with_reducible first | apply O_callF | apply O_call); (repeat rfl); (try simp only [List.nil_append, List.append_nil, List.cons_append]); (refine TPure.go (by (first | apply hfew | apply awake10_walk | apply hown) <;> first | assumption | omega | exact Eq.trans (get_old (by assumption)) (by assumption)) ?_); (with_reducible apply cw); (focus ((try simp only [tput, List.set_cons_zero, List.set_cons_succ]); exact rfl)))); clear cw Cw)
        | ((with_reducible apply WL_if); (focus rfl); (focus ((try simp only [tput, List.set_cons_zero, List.set_cons_succ]); exact rfl)))
        | ((with_reducible apply WL_un); (focus rfl); (focus ((try simp only [tput, List.set_cons_zero, List.set_cons_succ]); exact rfl)))
        | ((with_reducible refine WL_nil (hK _ _ ?_)); clear hK K)
        | ((with_reducible first | refine T_reg_seq fun K hK => ?_ | refine T_reg_end fun K hK => ?_); simp only [List.toList_toArray, List.append_eq, List.cons_append, List.nil_append])
        | ((with_reducible first | apply T_cond_seq | apply T_cond); (focus rfl))
        | (intro hg; (first | (simp only [Bool.not_true, Bool.not_false, Bool.true_eq_false, Bool.false_eq_true] at hg; done) | ((try simp only [Bool.not_true, Bool.not_false, eq_self] at hg); (have hh : True := hg); clear hh hg) | ((try simp only [Bool.not_true, Bool.not_false] at hg); (try (have hh := hg; simp only [hh]; clear hh)); (try simp only [decide_eq_true_eq, decide_eq_false_iff_not, Bool.not_true, Bool.not_false, Bool.not_eq_true', Bool.not_eq_false', Bool.and_eq_true, Bool.or_eq_true, beq_iff_eq, bne_iff_ne, beq_eq_false_iff_ne, bne_eq_false_iff_eq, ne_eq, Decidable.not_not, Bool.or_eq_false_iff, Bool.and_eq_false_iff, gt_iff_lt, ge_iff_le, Int.not_lt, Int.not_le, Nat.not_lt, Nat.not_le] at hg); (try (exfalso; omega)))))
        | with_reducible first | refine T_seq_assoc ?_ | refine T_skip_seq ?_ | refine T_ret_seq ?_ | refine T_exit_seq ?_ | refine T_ret ?_ | refine T_skip ?_ | refine T_exit ?_ | refine T_block_seq fun Kb hKb => ?_ | refine T_block ?_
        | (simp only [TX.inBlock, TX.then, if_true, if_false, Nat.reduceEqDiff, ite_true, ite_false])
        | ((with_reducible first | refine hR _ _ (fun C cc => ?_) | refine hN _ _ (fun C cc => ?_)); simp (disch := omega) only [go_sem]; (with_reducible apply cc); clear cc C; (first | refine Ends.more rfl ?_ | refine Ends.same rfl ?_ | refine Ends.more (by simp only [go_sem, Bool.and_self]) ?_ | refine Ends.same (by simp only [go_sem, Bool.and_self]) ?_); (try simp only [go_sem, Bool.and_self]))
        | (with_reducible apply_assumption -exfalso -symm only [*]))
    | none q =>
      rw [q.check] at hown
      refine pure_of [] [.tmp 2] Try.func5 (by kernel_rfl) rfl (by kernel_rfl) fun X hR hN => ?_
      show Tw _ _ _ _ ([some _] ++ List.replicate 113 none) _
      simp only [List.replicate, List.cons_append, List.nil_append]
      repeat' (first
        | ((with_reducible refine WL_do fun Cw cw => ?_); (first | ((with_reducible first | apply O_move | apply O_assign | apply O_pickV | apply O_extract); (repeat rfl); (with_reducible apply cw); (focus ((try simp only [tput, List.set_cons_zero, List.set_cons_succ]); exact rfl))) | ((with_reducible first | apply O_load | apply O_fieldAddr | apply O_bin | apply O_len | apply O_un | apply O_store | apply O_alloc | apply O_box | apply O_build); (repeat rfl); simp (disch := omega) only [go_sem]; (with_reducible apply cw); (focus ((try simp only [tput, List.set_cons_zero, List.set_cons_succ]); exact rfl))) | ((with_reducible apply O_sliceR); (focus rfl); intro Cs cs; (try simp (disch := omega) only [evB, ev, constV, const1, Int.reduceLE, Int.natCast_nonneg, Int.toNat_natCast, Int.reduceToNat, if_true, if_pos, List.getElem?_cons_zero, List.getElem?_cons_succ, Option.bind_some, Option.bind_none]); simp (disch := omega) only [go_sem]; (with_reducible apply cs); clear cs Cs; (with_reducible apply cw); (focus ((try simp only [tput, List.set_cons_zero, List.set_cons_succ]); exact rfl))) | ((with_reducible first | apply O_callF | apply O_call); (repeat rfl); (try simp only [List.nil_append, List.append_nil, List.cons_append]); (refine TPure.go (by (first | apply hfew | apply awake10_walk | apply hown) <;> first | assumption | omega | exact Eq.trans (get_old (by assumption)) (by assumption)) ?_); (with_reducible apply cw); (focus ((try simp only [tput, List.set_cons_zero, List.set_cons_succ]); exact rfl)))); clear cw Cw)
        | ((with_reducible apply WL_if); (focus rfl); (focus ((try simp only [tput, List.set_cons_zero, List.set_cons_succ]); exact rfl)))
        | ((with_reducible apply WL_un); (focus rfl); (focus ((try simp only [tput, List.set_cons_zero, List.set_cons_succ]); exact rfl)))
        | ((with_reducible refine WL_nil (hK _ _ ?_)); clear hK K)
        | ((with_reducible first | refine T_reg_seq fun K hK => ?_ | refine T_reg_end fun K hK => ?_); simp only [List.toList_toArray, List.append_eq, List.cons_append, List.nil_append])
        | ((with_reducible first | apply T_cond_seq | apply T_cond); (focus rfl))
        | (intro hg; (first | (simp only [Bool.not_true, Bool.not_false, Bool.true_eq_false, Bool.false_eq_true] at hg; done) | ((try simp only [Bool.not_true, Bool.not_false, eq_self] at hg); (have hh : True := hg); clear hh hg) | ((try simp only [Bool.not_true, Bool.not_false] at hg); (try (have hh := hg; simp only [hh]; clear hh)); (try simp only [decide_eq_true_eq, decide_eq_false_iff_not, Bool.not_true, Bool.not_false, Bool.not_eq_true', Bool.not_eq_false', Bool.and_eq_true, Bool.or_eq_true, beq_iff_eq, bne_iff_ne, beq_eq_false_iff_ne, bne_eq_false_iff_eq, ne_eq, Decidable.not_not, Bool.or_eq_false_iff, Bool.and_eq_false_iff, gt_iff_lt, ge_iff_le, Int.not_lt, Int.not_le, Nat.not_lt, Nat.not_le] at hg); (try (exfalso; omega)))))
        | with_reducible first | refine T_seq_assoc ?_ | refine T_skip_seq ?_ | refine T_ret_seq ?_ | refine T_exit_seq ?_ | refine T_ret ?_ | refine T_skip ?_ | refine T_exit ?_ | refine T_block_seq fun Kb hKb => ?_ | refine T_block ?_
        | (simp only [TX.inBlock, TX.then, if_true, if_false, Nat.reduceEqDiff, ite_true, ite_false])
        | ((with_reducible first | refine hR _ _ (fun C cc => ?_) | refine hN _ _ (fun C cc => ?_)); simp (disch := omega) only [go_sem]; (with_reducible apply cc); clear cc C; (first | refine Ends.more rfl ?_ | refine Ends.same rfl ?_ | refine Ends.more (by simp only [go_sem, Bool.and_self]) ?_ | refine Ends.same (by simp only [go_sem, Bool.and_self]) ?_); (try simp only [go_sem, Bool.and_self]))
        | (with_reducible apply_assumption -exfalso -symm only [*]))
  · have hfew : ∀ σ, TPure Try.prog 26 [cfgTV c] σ (.bool false) := fun σ => by
      have := few_walk c hc σ
      rwa [decide_eq_false h] at this
    refine pure_of [] [.tmp 2] Try.func5 (by kernel_rfl) rfl (by kernel_rfl) fun X hR hN => ?_
    show Tw _ _ _ _ ([some _] ++ List.replicate 113 none) _
    simp only [List.replicate, List.cons_append, List.nil_append]
    repeat' (first
      | ((with_reducible refine WL_do fun Cw cw => ?_); (first | ((with_reducible first | apply O_move | apply O_assign | apply O_pickV | apply O_extract); (repeat rfl); (with_reducible apply cw); (focus ((try simp only [tput, List.set_cons_zero, List.set_cons_succ]); exact rfl))) | ((with_reducible first | apply O_load | apply O_fieldAddr | apply O_bin | apply O_len | apply O_un | apply O_store | apply O_alloc | apply O_box | apply O_build); (repeat rfl); simp (disch := omega) only [go_sem]; (with_reducible apply cw); (focus ((try simp only [tput, List.set_cons_zero, List.set_cons_succ]); exact rfl))) | ((with_reducible apply O_sliceR); (focus rfl); intro Cs cs; (try simp (disch := omega) only [evB, ev, constV, const1, Int.reduceLE, Int.natCast_nonneg, Int.toNat_natCast, Int.reduceToNat, if_true, if_pos, List.getElem?_cons_zero, List.getElem?_cons_succ, Option.bind_some, Option.bind_none]); simp (disch := omega) only [go_sem]; (with_reducible apply cs); clear cs Cs; (with_reducible apply cw); (focus ((try simp only [tput, List.set_cons_zero, List.set_cons_succ]); exact rfl))) | ((with_reducible first | apply O_callF | apply O_call); (repeat rfl); (try simp only [List.nil_append, List.append_nil, List.cons_append]); (refine TPure.go (by (first | apply hfew | apply awake10_walk) <;> first | assumption | omega | exact Eq.trans (get_old (by assumption)) (by assumption)) ?_); (with_reducible apply cw); (focus ((try simp only [tput, List.set_cons_zero, List.set_cons_succ]); exact rfl)))); clear cw Cw)
      | ((with_reducible apply WL_if); (focus rfl); (focus ((try simp only [tput, List.set_cons_zero, List.set_cons_succ]); exact rfl)))
      | ((with_reducible apply WL_un); (focus rfl); (focus ((try simp only [tput, List.set_cons_zero, List.set_cons_succ]); exact rfl)))
      | ((with_reducible refine WL_nil (hK _ _ ?_)); clear hK K)
      | ((with_reducible first | refine T_reg_seq fun K hK => ?_ | refine T_reg_end fun K hK => ?_); simp only [List.toList_toArray, List.append_eq, List.cons_append, List.nil_append])
      | ((with_reducible first | apply T_cond_seq | apply T_cond); (focus rfl))
      | (intro hg; (first | (simp only [Bool.not_true, Bool.not_false, Bool.true_eq_false, Bool.false_eq_true] at hg; done) | ((try simp only [Bool.not_true, Bool.not_false, eq_self] at hg); (have hh : True := hg); clear hh hg) | ((try simp only [Bool.not_true, Bool.not_false] at hg); (try (have hh := hg; simp only [hh]; clear hh)); (try simp only [decide_eq_true_eq, decide_eq_false_iff_not, Bool.not_true, Bool.not_false, Bool.not_eq_true', Bool.not_eq_false', Bool.and_eq_true, Bool.or_eq_true, beq_iff_eq, bne_iff_ne, beq_eq_false_iff_ne, bne_eq_false_iff_eq, ne_eq, Decidable.not_not, Bool.or_eq_false_iff, Bool.and_eq_false_iff, gt_iff_lt, ge_iff_le, Int.not_lt, Int.not_le, Nat.not_lt, Nat.not_le] at hg); (try (exfalso; omega)))))
      | with_reducible first | refine T_seq_assoc ?_ | refine T_skip_seq ?_ | refine T_ret_seq ?_ | refine T_exit_seq ?_ | refine T_ret ?_ | refine T_skip ?_ | refine T_exit ?_ | refine T_block_seq fun Kb hKb => ?_ | refine T_block ?_
      | (simp only [TX.inBlock, TX.then, if_true, if_false, Nat.reduceEqDiff, ite_true, ite_false])
      | ((with_reducible first | refine hR _ _ (fun C cc => ?_) | refine hN _ _ (fun C cc => ?_)); simp (disch := omega) only [go_sem]; (with_reducible apply cc); clear cc C; (first | refine Ends.more rfl ?_ | refine Ends.same rfl ?_ | refine Ends.more (by simp only [go_sem, Bool.and_self]) ?_ | refine Ends.same (by simp only [go_sem, Bool.and_self]) ?_); (try simp only [go_sem, Bool.and_self]))
      | (with_reducible apply_assumption -exfalso -symm only [*]))

end Go.Proofs.Ytgkcackpffimmaa
