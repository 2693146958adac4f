/- The laws EtherSides and EtherTold, walked. -/
import Derived.Test.YtgkcackpffimmaaH12
set_option linter.unusedVariables false
set_option linter.unusedSimpArgs false
set_option maxRecDepth 10000
set_option maxHeartbeats 4000000
namespace Go.Proofs.Ytgkcackpffimmaa
open Go.TM

theorem sides_walk (f : Frm) (hs : I64 f.seq) (hd : f.data.length ≤ 140737488351232) : TPure Try.prog 11 [.agg (frC f)] [] (.bool true) := by
  have haw := awake04_walk
  have h0 : ∀ τ, TPure Try.prog 35 [.agg [.int .i64 f.vl, .int .i64 f.from_, .int .i64 0, .int .i64 f.seq, .str (B f.data)]] τ (.tup [.str (B (encL (onNet f 0)).1), .int .i64 (encL (onNet f 0)).2]) := fun τ => encode_walk (onNet f 0) τ hd hs
  have h1 : ∀ τ, TPure Try.prog 35 [.agg [.int .i64 f.vl, .int .i64 f.from_, .int .i64 1, .int .i64 f.seq, .str (B f.data)]] τ (.tup [.str (B (encL (onNet f 1)).1), .int .i64 (encL (onNet f 1)).2]) := fun τ => encode_walk (onNet f 1) τ hd hs
  have hse := sides_err f
  by_cases he : (encL (onNet f 0)).2 = 0
  · obtain ⟨q1, q2, q3, q4, q5, q6, q7, q8⟩ := sides_ok he
    rw [he] at h0
    rw [← hse, he] at h1
    generalize (encL (onNet f 0)).1 = s at *
    generalize (encL (onNet f 1)).1 = t at *
    have e1 : ((s.length : Int) - 4).toNat = s.length - 4 := by omega
    have e2 : (0 : Int) ≤ (s.length : Int) - 4 := by omega
    have d1 : decide (s.take 11 = t.take 11) = true := decide_eq_true q4
    have d2 : decide ((s.take (s.length - 4)).drop 12 = (t.take (s.length - 4)).drop 12) = true := decide_eq_true q5
    have d3 : decide (s.drop (s.length - 4) = t.drop (s.length - 4)) = false := decide_eq_false q8
    have z32 : ((32 : UInt8).toNat : Int) = 32 := rfl
    have z64 : ((64 : UInt8).toNat : Int) = 64 := rfl
    refine pure_of [] [.tmp 2] Try.func11 (by kernel_rfl) rfl (by kernel_rfl) fun X hR hN => ?_
    show Tw _ _ _ _ ([some _] ++ List.replicate 81 none) _
    simp only [List.replicate, List.cons_append, List.nil_append]
    repeat' (first
      | ((with_reducible refine WL_do fun Cw cw => ?_); (first | ((with_reducible first | apply O_move | apply O_assign | apply O_pickV | apply O_extract); (repeat rfl); (with_reducible apply cw); (focus ((try simp only [tput, List.set_cons_zero, List.set_cons_succ]); exact rfl))) | ((with_reducible first | apply O_load | apply O_fieldAddr | apply O_bin | apply O_len | apply O_store | apply O_box | apply O_index); (repeat rfl); simp (disch := ((try simp only [List.length_append, List.length_cons, List.length_nil, List.length_replicate, List.length_take, List.length_drop, be_len]); omega)) only [go_sem, e1, e2, d1, d2, d3, q6, q7, z32, z64]; (with_reducible apply cw); (focus ((try simp only [tput, List.set_cons_zero, List.set_cons_succ]); exact rfl))) | ((with_reducible apply O_sliceR); (focus rfl); intro Cs cs; (try simp (disch := omega) only [evB, ev, constV, const1, Int.reduceLE, Int.natCast_nonneg, Int.toNat_natCast, Int.reduceToNat, if_true, if_pos, List.getElem?_cons_zero, List.getElem?_cons_succ, Option.bind_some, Option.bind_none]); simp (disch := ((try simp only [List.length_append, List.length_cons, List.length_nil, List.length_replicate, List.length_take, List.length_drop, be_len]); omega)) only [go_sem, e1, e2, d1, d2, d3, q6, q7, z32, z64]; (with_reducible apply cs); clear cs Cs; (with_reducible apply cw); (focus ((try simp only [tput, List.set_cons_zero, List.set_cons_succ]); exact rfl))) | ((with_reducible first | apply O_callF | apply O_call); (repeat rfl); (try simp only [List.nil_append, List.append_nil, List.cons_append]); (refine TPure.go (by (first | apply haw | apply h0 | apply h1) <;> first | assumption | omega | exact Eq.trans (get_old (by assumption)) (by assumption)) ?_); (with_reducible apply cw); (focus ((try simp only [tput, List.set_cons_zero, List.set_cons_succ]); exact rfl)))); clear cw Cw)
      | ((with_reducible apply WP_do); (focus (intro Kw kw; (first | ((with_reducible first | apply O_move | apply O_assign | apply O_pickV | apply O_extract); (repeat rfl); exact kw) | ((with_reducible first | apply O_load | apply O_fieldAddr | apply O_bin | apply O_len | apply O_store | apply O_box | apply O_index); (repeat rfl); simp (disch := ((try simp only [List.length_append, List.length_cons, List.length_nil, List.length_replicate, List.length_take, List.length_drop, be_len]); omega)) only [go_sem, e1, e2, d1, d2, d3, q6, q7, z32, z64]; exact kw) | ((with_reducible apply O_sliceR); (focus rfl); intro Cs cs; (try simp (disch := omega) only [evB, ev, constV, const1, Int.reduceLE, Int.natCast_nonneg, Int.toNat_natCast, Int.reduceToNat, if_true, if_pos, List.getElem?_cons_zero, List.getElem?_cons_succ, Option.bind_some, Option.bind_none]); simp (disch := ((try simp only [List.length_append, List.length_cons, List.length_nil, List.length_replicate, List.length_take, List.length_drop, be_len]); omega)) only [go_sem, e1, e2, d1, d2, d3, q6, q7, z32, z64]; (with_reducible apply cs); clear cs Cs; exact kw) | ((with_reducible first | apply O_callF | apply O_call); (repeat rfl); (try simp only [List.nil_append, List.append_nil, List.cons_append]); (refine TPure.go (by (first | apply haw | apply h0 | apply h1) <;> first | assumption | omega | exact Eq.trans (get_old (by assumption)) (by assumption)) ?_); exact kw)))); (focus ((try simp only [tput, List.set_cons_zero, List.set_cons_succ]); exact rfl)))
      | ((with_reducible apply WL_if); (focus rfl); (focus ((try simp only [tput, List.set_cons_zero, List.set_cons_succ]); exact rfl)))
      | ((with_reducible apply WL_un); (focus rfl); (focus ((try simp only [tput, List.set_cons_zero, List.set_cons_succ]); exact rfl)))
      | ((with_reducible refine WL_nil (hK _ _ ?_)); clear hK K)
      | ((with_reducible apply WP_if); (focus rfl); (focus ((try simp only [tput, List.set_cons_zero, List.set_cons_succ]); exact rfl)))
      | ((with_reducible apply WP_un); (focus rfl); (focus ((try simp only [tput, List.set_cons_zero, List.set_cons_succ]); exact rfl)))
      | ((with_reducible apply WP_pick); (focus rfl); (focus rfl); (focus rfl); (focus ((try simp only [tput, List.set_cons_zero, List.set_cons_succ]); exact rfl)); (focus ((try simp only [tput, List.set_cons_zero, List.set_cons_succ]); exact rfl)))
      | ((with_reducible refine WP_nil (hK _ _ ?_)); clear hK K)
      | ((with_reducible first | refine T_reg_seq fun K hK => ?_ | refine T_reg_end fun K hK => ?_); simp only [List.toList_toArray, List.append_eq, List.cons_append, List.nil_append])
      | ((with_reducible first | refine T_pure_seq ?_ ?_ (fun K hK => ?_) | refine T_pure_end ?_ ?_ (fun K hK => ?_)); (focus kernel_rfl); (focus kernel_rfl); simp only [List.toList_toArray, List.append_eq, List.cons_append, List.nil_append])
      | ((with_reducible first | apply T_cond_seq | apply T_cond); (focus rfl))
      | (intro hg; (first | (simp only [Bool.not_true, Bool.not_false, Bool.true_eq_false, Bool.false_eq_true] at hg; done) | ((try simp only [Bool.not_true, Bool.not_false, eq_self] at hg); (have hh : True := hg); clear hh hg) | ((try simp only [Bool.not_true, Bool.not_false] at hg); (try (have hh := hg; simp only [hh]; clear hh)); (try simp only [decide_eq_true_eq, decide_eq_false_iff_not, Bool.not_true, Bool.not_false, Bool.not_eq_true', Bool.not_eq_false', Bool.and_eq_true, Bool.or_eq_true, beq_iff_eq, bne_iff_ne, beq_eq_false_iff_ne, bne_eq_false_iff_eq, ne_eq, Decidable.not_not, Bool.or_eq_false_iff, Bool.and_eq_false_iff, gt_iff_lt, ge_iff_le, Int.not_lt, Int.not_le, Nat.not_lt, Nat.not_le] at hg); (try (exfalso; omega)))))
      | with_reducible first | refine T_seq_assoc ?_ | refine T_skip_seq ?_ | refine T_ret_seq ?_ | refine T_exit_seq ?_ | refine T_ret ?_ | refine T_skip ?_ | refine T_exit ?_ | refine T_block_seq fun Kb hKb => ?_ | refine T_block ?_
      | (simp only [TX.inBlock, TX.then, if_true, if_false, Nat.reduceEqDiff, ite_true, ite_false])
      | ((with_reducible first | refine hR _ _ (fun C cc => ?_) | refine hN _ _ (fun C cc => ?_)); simp (disch := ((try simp only [List.length_append, List.length_cons, List.length_nil, List.length_replicate, List.length_take, List.length_drop, be_len]); omega)) only [go_sem, e1, e2, d1, d2, d3, q6, q7, z32, z64]; (with_reducible apply cc); clear cc C; (first | refine Ends.more rfl ?_ | refine Ends.same rfl ?_ | refine Ends.more (by simp only [go_sem, Bool.and_self]) ?_ | refine Ends.same (by simp only [go_sem, Bool.and_self]) ?_); (try simp only [go_sem, Bool.and_self]))
      | (with_reducible apply_assumption -exfalso -symm only [*]))
    all_goals trace_state
  · rw [← hse] at h1
    generalize (encL (onNet f 0)).2 = n at h0 h1 he
    generalize (encL (onNet f 0)).1 = s at *
    generalize (encL (onNet f 1)).1 = t at *
    refine pure_of [] [.tmp 2] Try.func11 (by kernel_rfl) rfl (by kernel_rfl) fun X hR hN => ?_
    show Tw _ _ _ _ ([some _] ++ List.replicate 81 none) _
    simp only [List.replicate, List.cons_append, List.nil_append]
    repeat' (first
      | ((with_reducible refine WL_do fun Cw cw => ?_); (first | ((with_reducible first | apply O_move | apply O_assign | apply O_pickV | apply O_extract); (repeat rfl); (with_reducible apply cw); (focus ((try simp only [tput, List.set_cons_zero, List.set_cons_succ]); exact rfl))) | ((with_reducible first | apply O_load | apply O_fieldAddr | apply O_bin | apply O_len | apply O_store | apply O_box | apply O_index); (repeat rfl); simp (disch := omega) only [go_sem]; (with_reducible apply cw); (focus ((try simp only [tput, List.set_cons_zero, List.set_cons_succ]); exact rfl))) | ((with_reducible apply O_sliceR); (focus rfl); intro Cs cs; (try simp (disch := omega) only [evB, ev, constV, const1, Int.reduceLE, Int.natCast_nonneg, Int.toNat_natCast, Int.reduceToNat, if_true, if_pos, List.getElem?_cons_zero, List.getElem?_cons_succ, Option.bind_some, Option.bind_none]); simp (disch := omega) only [go_sem]; (with_reducible apply cs); clear cs Cs; (with_reducible apply cw); (focus ((try simp only [tput, List.set_cons_zero, List.set_cons_succ]); exact rfl))) | ((with_reducible first | apply O_callF | apply O_call); (repeat rfl); (try simp only [List.nil_append, List.append_nil, List.cons_append]); (refine TPure.go (by (first | apply haw | apply h0 | apply h1) <;> first | assumption | omega | exact Eq.trans (get_old (by assumption)) (by assumption)) ?_); (with_reducible apply cw); (focus ((try simp only [tput, List.set_cons_zero, List.set_cons_succ]); exact rfl)))); clear cw Cw)
      | ((with_reducible apply WP_do); (focus (intro Kw kw; (first | ((with_reducible first | apply O_move | apply O_assign | apply O_pickV | apply O_extract); (repeat rfl); exact kw) | ((with_reducible first | apply O_load | apply O_fieldAddr | apply O_bin | apply O_len | apply O_store | apply O_box | apply O_index); (repeat rfl); simp (disch := omega) only [go_sem]; exact kw) | ((with_reducible apply O_sliceR); (focus rfl); intro Cs cs; (try simp (disch := omega) only [evB, ev, constV, const1, Int.reduceLE, Int.natCast_nonneg, Int.toNat_natCast, Int.reduceToNat, if_true, if_pos, List.getElem?_cons_zero, List.getElem?_cons_succ, Option.bind_some, Option.bind_none]); simp (disch := omega) only [go_sem]; (with_reducible apply cs); clear cs Cs; exact kw) | ((with_reducible first | apply O_callF | apply O_call); (repeat rfl); (try simp only [List.nil_append, List.append_nil, List.cons_append]); (refine TPure.go (by (first | apply haw | apply h0 | apply h1) <;> first | assumption | omega | exact Eq.trans (get_old (by assumption)) (by assumption)) ?_); exact kw)))); (focus ((try simp only [tput, List.set_cons_zero, List.set_cons_succ]); exact rfl)))
      | ((with_reducible apply WL_if); (focus rfl); (focus ((try simp only [tput, List.set_cons_zero, List.set_cons_succ]); exact rfl)))
      | ((with_reducible apply WL_un); (focus rfl); (focus ((try simp only [tput, List.set_cons_zero, List.set_cons_succ]); exact rfl)))
      | ((with_reducible refine WL_nil (hK _ _ ?_)); clear hK K)
      | ((with_reducible apply WP_if); (focus rfl); (focus ((try simp only [tput, List.set_cons_zero, List.set_cons_succ]); exact rfl)))
      | ((with_reducible apply WP_un); (focus rfl); (focus ((try simp only [tput, List.set_cons_zero, List.set_cons_succ]); exact rfl)))
      | ((with_reducible apply WP_pick); (focus rfl); (focus rfl); (focus rfl); (focus ((try simp only [tput, List.set_cons_zero, List.set_cons_succ]); exact rfl)); (focus ((try simp only [tput, List.set_cons_zero, List.set_cons_succ]); exact rfl)))
      | ((with_reducible refine WP_nil (hK _ _ ?_)); clear hK K)
      | ((with_reducible first | refine T_reg_seq fun K hK => ?_ | refine T_reg_end fun K hK => ?_); simp only [List.toList_toArray, List.append_eq, List.cons_append, List.nil_append])
      | ((with_reducible first | refine T_pure_seq ?_ ?_ (fun K hK => ?_) | refine T_pure_end ?_ ?_ (fun K hK => ?_)); (focus kernel_rfl); (focus kernel_rfl); simp only [List.toList_toArray, List.append_eq, List.cons_append, List.nil_append])
      | ((with_reducible first | apply T_cond_seq | apply T_cond); (focus rfl))
      | (intro hg; (first | (simp only [Bool.not_true, Bool.not_false, Bool.true_eq_false, Bool.false_eq_true] at hg; done) | ((try simp only [Bool.not_true, Bool.not_false, eq_self] at hg); (have hh : True := hg); clear hh hg) | ((try simp only [Bool.not_true, Bool.not_false] at hg); (try (have hh := hg; simp only [hh]; clear hh)); (try simp only [decide_eq_true_eq, decide_eq_false_iff_not, Bool.not_true, Bool.not_false, Bool.not_eq_true', Bool.not_eq_false', Bool.and_eq_true, Bool.or_eq_true, beq_iff_eq, bne_iff_ne, beq_eq_false_iff_ne, bne_eq_false_iff_eq, ne_eq, Decidable.not_not, Bool.or_eq_false_iff, Bool.and_eq_false_iff, gt_iff_lt, ge_iff_le, Int.not_lt, Int.not_le, Nat.not_lt, Nat.not_le] at hg); (try (exfalso; omega)))))
      | with_reducible first | refine T_seq_assoc ?_ | refine T_skip_seq ?_ | refine T_ret_seq ?_ | refine T_exit_seq ?_ | refine T_ret ?_ | refine T_skip ?_ | refine T_exit ?_ | refine T_block_seq fun Kb hKb => ?_ | refine T_block ?_
      | (simp only [TX.inBlock, TX.then, if_true, if_false, Nat.reduceEqDiff, ite_true, ite_false])
      | ((with_reducible first | refine hR _ _ (fun C cc => ?_) | refine hN _ _ (fun C cc => ?_)); simp (disch := omega) only [go_sem]; (with_reducible apply cc); clear cc C; (first | refine Ends.more rfl ?_ | refine Ends.same rfl ?_ | refine Ends.more (by simp only [go_sem, Bool.and_self]) ?_ | refine Ends.same (by simp only [go_sem, Bool.and_self]) ?_); (try simp only [go_sem, Bool.and_self]))
      | (with_reducible apply_assumption -exfalso -symm only [*]))
    all_goals trace_state

theorem told_walk (f : Frm) (at' : Int) (tu : UInt8) (hs : I64 f.seq) (ha : I64 at') (hd : f.data.length ≤ 140737488351232) : TPure Try.prog 10 [.agg (frC f), .int .i64 at', .int .u8 tu.toNat] [] (.bool true) := by
  have haw := awake04_walk
  have h0 := fun τ => encode_walk f τ hd hs
  by_cases hA : (encL f).2 = 0
  · by_cases hB : at' < 0 ∨ at' ≥ (encL f).1.length ∨ tu = 0
    · rw [hA] at h0
      generalize (encL f).1 = s at h0 hB
      rcases hB with hB | hB | hB
      · refine pure_of [1000035] [.tmp 6] Try.func10 (by kernel_rfl) rfl (by kernel_rfl) fun X hR hN => ?_
        show Tw _ _ _ _ ([some _, some _, some _] ++ List.replicate 58 none) _
        simp only [List.replicate, List.cons_append, List.nil_append]
        repeat' (first
          | ((with_reducible refine WL_do fun Cw cw => ?_); (first | ((with_reducible first | apply O_move | apply O_assign | apply O_pickV | apply O_extract); (repeat rfl); (with_reducible apply cw); (focus ((try simp only [tput, List.set_cons_zero, List.set_cons_succ]); exact rfl))) | ((with_reducible first | apply O_load | apply O_bin | apply O_indexAddr | apply O_len | apply O_store | apply O_alloc | apply O_box | apply O_build); (repeat rfl); simp (disch := omega) only [go_sem, hB]; (with_reducible apply cw); (focus ((try simp only [tput, List.set_cons_zero, List.set_cons_succ]); exact rfl))) | ((with_reducible apply O_convert); (repeat rfl); (try simp only [List.contains_nil, List.contains_cons, Nat.reduceBEq, Bool.or_false, Bool.false_or, Bool.or_self, Bool.or_true, Bool.true_or]); simp (disch := omega) only [go_sem, hB]; (with_reducible apply cw); (focus ((try simp only [tput, List.set_cons_zero, List.set_cons_succ]); exact rfl))) | ((with_reducible first | apply O_callF | apply O_call); (repeat rfl); (try simp only [List.nil_append, List.append_nil, List.cons_append]); (refine TPure.go (by (first | apply haw | apply h0) <;> first | assumption | omega | exact Eq.trans (get_old (by assumption)) (by assumption)) ?_); (with_reducible apply cw); (focus ((try simp only [tput, List.set_cons_zero, List.set_cons_succ]); exact rfl)))); clear cw Cw)
          | ((with_reducible apply WL_if); (focus rfl); (focus ((try simp only [tput, List.set_cons_zero, List.set_cons_succ]); exact rfl)))
          | ((with_reducible apply WL_un); (focus rfl); (focus ((try simp only [tput, List.set_cons_zero, List.set_cons_succ]); exact rfl)))
          | ((with_reducible refine WL_nil (hK _ _ ?_)); clear hK K)
          | ((with_reducible first | refine T_reg_seq fun K hK => ?_ | refine T_reg_end fun K hK => ?_); simp only [List.toList_toArray, List.append_eq, List.cons_append, List.nil_append])
          | ((with_reducible first | apply T_cond_seq | apply T_cond); (focus rfl))
          | (intro hg; (first | (simp only [Bool.not_true, Bool.not_false, Bool.true_eq_false, Bool.false_eq_true] at hg; done) | ((try simp only [Bool.not_true, Bool.not_false, eq_self] at hg); (have hh : True := hg); clear hh hg) | ((try simp only [Bool.not_true, Bool.not_false] at hg); (try (have hh := hg; simp only [hh]; clear hh)); (try simp only [decide_eq_true_eq, decide_eq_false_iff_not, Bool.not_true, Bool.not_false, Bool.not_eq_true', Bool.not_eq_false', Bool.and_eq_true, Bool.or_eq_true, beq_iff_eq, bne_iff_ne, beq_eq_false_iff_ne, bne_eq_false_iff_eq, ne_eq, Decidable.not_not, Bool.or_eq_false_iff, Bool.and_eq_false_iff, gt_iff_lt, ge_iff_le, Int.not_lt, Int.not_le, Nat.not_lt, Nat.not_le] at hg); (try (exfalso; omega)))))
          | with_reducible first | refine T_seq_assoc ?_ | refine T_skip_seq ?_ | refine T_ret_seq ?_ | refine T_exit_seq ?_ | refine T_ret ?_ | refine T_skip ?_ | refine T_exit ?_ | refine T_block_seq fun Kb hKb => ?_ | refine T_block ?_
          | (simp only [TX.inBlock, TX.then, if_true, if_false, Nat.reduceEqDiff, ite_true, ite_false])
          | ((with_reducible first | refine hR _ _ (fun C cc => ?_) | refine hN _ _ (fun C cc => ?_)); simp (disch := omega) only [go_sem, hB]; (with_reducible apply cc); clear cc C; (first | refine Ends.more rfl ?_ | refine Ends.same rfl ?_ | refine Ends.more (by simp only [go_sem, Bool.and_self]) ?_ | refine Ends.same (by simp only [go_sem, Bool.and_self]) ?_); (try simp only [go_sem, Bool.and_self]))
          | (with_reducible apply_assumption -exfalso -symm only [*]))
        all_goals trace_state
      · refine pure_of [1000035] [.tmp 6] Try.func10 (by kernel_rfl) rfl (by kernel_rfl) fun X hR hN => ?_
        show Tw _ _ _ _ ([some _, some _, some _] ++ List.replicate 58 none) _
        simp only [List.replicate, List.cons_append, List.nil_append]
        repeat' (first
          | ((with_reducible refine WL_do fun Cw cw => ?_); (first | ((with_reducible first | apply O_move | apply O_assign | apply O_pickV | apply O_extract); (repeat rfl); (with_reducible apply cw); (focus ((try simp only [tput, List.set_cons_zero, List.set_cons_succ]); exact rfl))) | ((with_reducible first | apply O_load | apply O_bin | apply O_indexAddr | apply O_len | apply O_store | apply O_alloc | apply O_box | apply O_build); (repeat rfl); simp (disch := omega) only [go_sem, hB]; (with_reducible apply cw); (focus ((try simp only [tput, List.set_cons_zero, List.set_cons_succ]); exact rfl))) | ((with_reducible apply O_convert); (repeat rfl); (try simp only [List.contains_nil, List.contains_cons, Nat.reduceBEq, Bool.or_false, Bool.false_or, Bool.or_self, Bool.or_true, Bool.true_or]); simp (disch := omega) only [go_sem, hB]; (with_reducible apply cw); (focus ((try simp only [tput, List.set_cons_zero, List.set_cons_succ]); exact rfl))) | ((with_reducible first | apply O_callF | apply O_call); (repeat rfl); (try simp only [List.nil_append, List.append_nil, List.cons_append]); (refine TPure.go (by (first | apply haw | apply h0) <;> first | assumption | omega | exact Eq.trans (get_old (by assumption)) (by assumption)) ?_); (with_reducible apply cw); (focus ((try simp only [tput, List.set_cons_zero, List.set_cons_succ]); exact rfl)))); clear cw Cw)
          | ((with_reducible apply WL_if); (focus rfl); (focus ((try simp only [tput, List.set_cons_zero, List.set_cons_succ]); exact rfl)))
          | ((with_reducible apply WL_un); (focus rfl); (focus ((try simp only [tput, List.set_cons_zero, List.set_cons_succ]); exact rfl)))
          | ((with_reducible refine WL_nil (hK _ _ ?_)); clear hK K)
          | ((with_reducible first | refine T_reg_seq fun K hK => ?_ | refine T_reg_end fun K hK => ?_); simp only [List.toList_toArray, List.append_eq, List.cons_append, List.nil_append])
          | ((with_reducible first | apply T_cond_seq | apply T_cond); (focus rfl))
          | (intro hg; (first | (simp only [Bool.not_true, Bool.not_false, Bool.true_eq_false, Bool.false_eq_true] at hg; done) | ((try simp only [Bool.not_true, Bool.not_false, eq_self] at hg); (have hh : True := hg); clear hh hg) | ((try simp only [Bool.not_true, Bool.not_false] at hg); (try (have hh := hg; simp only [hh]; clear hh)); (try simp only [decide_eq_true_eq, decide_eq_false_iff_not, Bool.not_true, Bool.not_false, Bool.not_eq_true', Bool.not_eq_false', Bool.and_eq_true, Bool.or_eq_true, beq_iff_eq, bne_iff_ne, beq_eq_false_iff_ne, bne_eq_false_iff_eq, ne_eq, Decidable.not_not, Bool.or_eq_false_iff, Bool.and_eq_false_iff, gt_iff_lt, ge_iff_le, Int.not_lt, Int.not_le, Nat.not_lt, Nat.not_le] at hg); (try (exfalso; omega)))))
          | with_reducible first | refine T_seq_assoc ?_ | refine T_skip_seq ?_ | refine T_ret_seq ?_ | refine T_exit_seq ?_ | refine T_ret ?_ | refine T_skip ?_ | refine T_exit ?_ | refine T_block_seq fun Kb hKb => ?_ | refine T_block ?_
          | (simp only [TX.inBlock, TX.then, if_true, if_false, Nat.reduceEqDiff, ite_true, ite_false])
          | ((with_reducible first | refine hR _ _ (fun C cc => ?_) | refine hN _ _ (fun C cc => ?_)); simp (disch := omega) only [go_sem, hB]; (with_reducible apply cc); clear cc C; (first | refine Ends.more rfl ?_ | refine Ends.same rfl ?_ | refine Ends.more (by simp only [go_sem, Bool.and_self]) ?_ | refine Ends.same (by simp only [go_sem, Bool.and_self]) ?_); (try simp only [go_sem, Bool.and_self]))
          | (with_reducible apply_assumption -exfalso -symm only [*]))
        all_goals trace_state
      · subst hB
        have hz : ((0 : UInt8).toNat : Int) = 0 := rfl
        refine pure_of [1000035] [.tmp 6] Try.func10 (by kernel_rfl) rfl (by kernel_rfl) fun X hR hN => ?_
        show Tw _ _ _ _ ([some _, some _, some _] ++ List.replicate 58 none) _
        simp only [List.replicate, List.cons_append, List.nil_append]
        repeat' (first
          | ((with_reducible refine WL_do fun Cw cw => ?_); (first | ((with_reducible first | apply O_move | apply O_assign | apply O_pickV | apply O_extract); (repeat rfl); (with_reducible apply cw); (focus ((try simp only [tput, List.set_cons_zero, List.set_cons_succ]); exact rfl))) | ((with_reducible first | apply O_load | apply O_bin | apply O_indexAddr | apply O_len | apply O_store | apply O_alloc | apply O_box | apply O_build); (repeat rfl); simp (disch := omega) only [go_sem, hz]; (with_reducible apply cw); (focus ((try simp only [tput, List.set_cons_zero, List.set_cons_succ]); exact rfl))) | ((with_reducible apply O_convert); (repeat rfl); (try simp only [List.contains_nil, List.contains_cons, Nat.reduceBEq, Bool.or_false, Bool.false_or, Bool.or_self, Bool.or_true, Bool.true_or]); simp (disch := omega) only [go_sem, hz]; (with_reducible apply cw); (focus ((try simp only [tput, List.set_cons_zero, List.set_cons_succ]); exact rfl))) | ((with_reducible first | apply O_callF | apply O_call); (repeat rfl); (try simp only [List.nil_append, List.append_nil, List.cons_append]); (refine TPure.go (by (first | apply haw | apply h0) <;> first | assumption | omega | exact Eq.trans (get_old (by assumption)) (by assumption)) ?_); (with_reducible apply cw); (focus ((try simp only [tput, List.set_cons_zero, List.set_cons_succ]); exact rfl)))); clear cw Cw)
          | ((with_reducible apply WL_if); (focus rfl); (focus ((try simp only [tput, List.set_cons_zero, List.set_cons_succ]); exact rfl)))
          | ((with_reducible apply WL_un); (focus rfl); (focus ((try simp only [tput, List.set_cons_zero, List.set_cons_succ]); exact rfl)))
          | ((with_reducible refine WL_nil (hK _ _ ?_)); clear hK K)
          | ((with_reducible first | refine T_reg_seq fun K hK => ?_ | refine T_reg_end fun K hK => ?_); simp only [List.toList_toArray, List.append_eq, List.cons_append, List.nil_append])
          | ((with_reducible first | apply T_cond_seq | apply T_cond); (focus rfl))
          | (intro hg; (first | (simp only [Bool.not_true, Bool.not_false, Bool.true_eq_false, Bool.false_eq_true] at hg; done) | ((try simp only [Bool.not_true, Bool.not_false, eq_self] at hg); (have hh : True := hg); clear hh hg) | ((try simp only [Bool.not_true, Bool.not_false] at hg); (try (have hh := hg; simp only [hh]; clear hh)); (try simp only [decide_eq_true_eq, decide_eq_false_iff_not, Bool.not_true, Bool.not_false, Bool.not_eq_true', Bool.not_eq_false', Bool.and_eq_true, Bool.or_eq_true, beq_iff_eq, bne_iff_ne, beq_eq_false_iff_ne, bne_eq_false_iff_eq, ne_eq, Decidable.not_not, Bool.or_eq_false_iff, Bool.and_eq_false_iff, gt_iff_lt, ge_iff_le, Int.not_lt, Int.not_le, Nat.not_lt, Nat.not_le] at hg); (try (exfalso; omega)))))
          | with_reducible first | refine T_seq_assoc ?_ | refine T_skip_seq ?_ | refine T_ret_seq ?_ | refine T_exit_seq ?_ | refine T_ret ?_ | refine T_skip ?_ | refine T_exit ?_ | refine T_block_seq fun Kb hKb => ?_ | refine T_block ?_
          | (simp only [TX.inBlock, TX.then, if_true, if_false, Nat.reduceEqDiff, ite_true, ite_false])
          | ((with_reducible first | refine hR _ _ (fun C cc => ?_) | refine hN _ _ (fun C cc => ?_)); simp (disch := omega) only [go_sem, hz]; (with_reducible apply cc); clear cc C; (first | refine Ends.more rfl ?_ | refine Ends.same rfl ?_ | refine Ends.more (by simp only [go_sem, Bool.and_self]) ?_ | refine Ends.same (by simp only [go_sem, Bool.and_self]) ?_); (try simp only [go_sem, Bool.and_self]))
          | (with_reducible apply_assumption -exfalso -symm only [*]))
        all_goals (first | (exfalso; omega) | trace_state)
    · obtain ⟨i, rfl⟩ : ∃ i : Nat, at' = i := ⟨at'.toNat, by omega⟩
      have hi : i < (encL f).1.length := by omega
      have hl := encL_len hA
      have htu : ¬ (tu.toNat : Int) = 0 := fun e => hB (.inr (.inr (UInt8.toNat_inj.1 (by show tu.toNat = 0; omega))))
      have hx : ixor .u8 ((nth (encL f).1 i).toNat : Int) (tu.toNat : Int) = ((nth (encL f).1 i ^^^ tu).toNat : Int) := ixor_u8_bits (nth (encL f).1 i).toBitVec tu.toBitVec
      have hne : (encL f).1[i]? ≠ some (nth (encL f).1 i ^^^ tu) := by
        rw [nth_get hi]
        intro he
        apply htu
        have h2 := congrArg UInt8.toBitVec (Option.some.inj he)
        have h3 : (nth (encL f).1 i).toBitVec ^^^ (nth (encL f).1 i).toBitVec = (nth (encL f).1 i).toBitVec ^^^ ((nth (encL f).1 i).toBitVec ^^^ tu.toBitVec) := congrArg _ h2
        rw [← BitVec.xor_assoc, BitVec.xor_self, BitVec.zero_xor] at h3
        have : tu.toNat = 0 := congrArg BitVec.toNat h3.symm
        omega
      have hdec := decL_told hA hi hne
      have h1 : ∀ τ, TPure Try.prog 39 [.str (B ((encL f).1.set i (nth (encL f).1 i ^^^ tu)))] τ (.tup [.agg (frC ⟨0, 0, 0, 0, []⟩), .int .i64 12]) := fun τ => by
        have := decode_walk ((encL f).1.set i (nth (encL f).1 i ^^^ tu)) τ (by rw [List.length_set]; omega)
        rw [hdec] at this
        exact this
      rw [hA] at h0
      generalize (encL f).1 = s at *
      have hb1 : ((bvL s).drop i)[0]? = some (bv (nth s i)) := by rw [List.getElem?_drop, Nat.add_zero, bvL, List.getElem?_map, nth_get hi]; rfl
      have hb2 : i < (bvL s).length := by rw [bvL_len]; exact hi
      have hb3 : i + 1 ≤ (bvL s).length := hb2
      have hdr : (bvL s)[i]? = some (bv (nth s i)) := by rw [bvL, List.getElem?_map, nth_get hi]; rfl
      have hset : ∀ b, splice (bvL s) i [bv b] = bvL (s.set i b) := fun b => by
        unfold splice bvL
        rw [List.map_set, List.set_eq_take_append_cons_drop, if_pos (by rw [List.length_map]; exact hi)]
        simp
      have hset2 : ∀ b : UInt8, List.take i (bvL s) ++ TV.int .u8 b.toNat :: List.drop (i + 1) (bvL s) = bvL (s.set i b) := fun b => by
        have := hset b
        unfold splice at this
        rw [← this]; simp
      have hcv : ∀ (b : UInt8) (w mu : Bool) (C : TObj), tconv (mkTab Try.prog) w mu [C, .cells (bvL (s.set i b))] 55 9 (.msl 1 0 s.toArray.size) = some (.str (B (s.set i b)), [C, .cells (bvL (s.set i b))]) := fun b w mu C =>
        convMB rfl rfl (by rw [List.length_set, List.size_toArray])
      have hbl := bvL_len s
      refine pure_of [1000035] [.tmp 6] Try.func10 (by kernel_rfl) rfl (by kernel_rfl) fun X hR hN => ?_
      show Tw _ _ _ _ ([some _, some _, some _] ++ List.replicate 58 none) _
      simp only [List.replicate, List.cons_append, List.nil_append]
      repeat' (first
        | ((with_reducible refine WL_do fun Cw cw => ?_); (first | ((with_reducible first | apply O_move | apply O_assign | apply O_pickV | apply O_extract); (repeat rfl); (with_reducible apply cw); (focus ((try simp only [tput, List.set_cons_zero, List.set_cons_succ]); exact rfl))) | ((with_reducible first | apply O_load | apply O_bin | apply O_indexAddr | apply O_len | apply O_store | apply O_alloc | apply O_box | apply O_build); (repeat rfl); simp (disch := ((try simp only [List.length_append, List.length_cons, List.length_nil, List.length_replicate, List.length_take, List.length_drop, be_len]); omega)) only [go_sem, htu, hx, hdr, hb1, hb2, hb3, byteTVs_B, hbl, ↓hset2, ↓hcv, mkB, ↓frm_eq]; (with_reducible apply cw); (focus ((try simp only [tput, List.set_cons_zero, List.set_cons_succ]); exact rfl))) | ((with_reducible apply O_convert); (repeat rfl); (try simp only [List.contains_nil, List.contains_cons, Nat.reduceBEq, Bool.or_false, Bool.false_or, Bool.or_self, Bool.or_true, Bool.true_or]); simp (disch := ((try simp only [List.length_append, List.length_cons, List.length_nil, List.length_replicate, List.length_take, List.length_drop, be_len]); omega)) only [go_sem, htu, hx, hdr, hb1, hb2, hb3, byteTVs_B, hbl, ↓hset2, ↓hcv, mkB, ↓frm_eq]; (with_reducible apply cw); (focus ((try simp only [tput, List.set_cons_zero, List.set_cons_succ]); exact rfl))) | ((with_reducible first | apply O_callF | apply O_call); (repeat rfl); (try simp only [List.nil_append, List.append_nil, List.cons_append]); (refine TPure.go (by (first | apply haw | apply h0 | apply h1) <;> first | assumption | omega | exact Eq.trans (get_old (by assumption)) (by assumption)) ?_); (with_reducible apply cw); (focus ((try simp only [tput, List.set_cons_zero, List.set_cons_succ]); exact rfl)))); clear cw Cw)
        | ((with_reducible apply WL_if); (focus rfl); (focus ((try simp only [tput, List.set_cons_zero, List.set_cons_succ]); exact rfl)))
        | ((with_reducible apply WL_un); (focus rfl); (focus ((try simp only [tput, List.set_cons_zero, List.set_cons_succ]); exact rfl)))
        | ((with_reducible refine WL_nil (hK _ _ ?_)); clear hK K)
        | ((with_reducible first | refine T_reg_seq fun K hK => ?_ | refine T_reg_end fun K hK => ?_); simp only [List.toList_toArray, List.append_eq, List.cons_append, List.nil_append])
        | ((with_reducible first | apply T_cond_seq | apply T_cond); (focus rfl))
        | (intro hg; (first | (simp only [Bool.not_true, Bool.not_false, Bool.true_eq_false, Bool.false_eq_true] at hg; done) | ((try simp only [Bool.not_true, Bool.not_false, eq_self] at hg); (have hh : True := hg); clear hh hg) | ((try simp only [Bool.not_true, Bool.not_false] at hg); (try (have hh := hg; simp only [hh]; clear hh)); (try simp only [decide_eq_true_eq, decide_eq_false_iff_not, Bool.not_true, Bool.not_false, Bool.not_eq_true', Bool.not_eq_false', Bool.and_eq_true, Bool.or_eq_true, beq_iff_eq, bne_iff_ne, beq_eq_false_iff_ne, bne_eq_false_iff_eq, ne_eq, Decidable.not_not, Bool.or_eq_false_iff, Bool.and_eq_false_iff, gt_iff_lt, ge_iff_le, Int.not_lt, Int.not_le, Nat.not_lt, Nat.not_le] at hg); (try (exfalso; omega)))))
        | with_reducible first | refine T_seq_assoc ?_ | refine T_skip_seq ?_ | refine T_ret_seq ?_ | refine T_exit_seq ?_ | refine T_ret ?_ | refine T_skip ?_ | refine T_exit ?_ | refine T_block_seq fun Kb hKb => ?_ | refine T_block ?_
        | (simp only [TX.inBlock, TX.then, if_true, if_false, Nat.reduceEqDiff, ite_true, ite_false])
        | ((with_reducible first | refine hR _ _ (fun C cc => ?_) | refine hN _ _ (fun C cc => ?_)); simp (disch := ((try simp only [List.length_append, List.length_cons, List.length_nil, List.length_replicate, List.length_take, List.length_drop, be_len]); omega)) only [go_sem, htu, hx, hdr, hb1, hb2, hb3, byteTVs_B, hbl, ↓hset2, ↓hcv, mkB, ↓frm_eq]; (with_reducible apply cc); clear cc C; (first | refine Ends.more rfl ?_ | refine Ends.same rfl ?_ | refine Ends.more (by simp only [go_sem, Bool.and_self]) ?_ | refine Ends.same (by simp only [go_sem, Bool.and_self]) ?_); (try simp only [go_sem, Bool.and_self]))
        | (with_reducible apply_assumption -exfalso -symm only [*]))
      all_goals trace_state
  · generalize (encL f).1 = s at h0
    generalize (encL f).2 = n at h0 hA
    refine pure_of [1000035] [.tmp 6] Try.func10 (by kernel_rfl) rfl (by kernel_rfl) fun X hR hN => ?_
    show Tw _ _ _ _ ([some _, some _, some _] ++ List.replicate 58 none) _
    simp only [List.replicate, List.cons_append, List.nil_append]
    repeat' (first
      | ((with_reducible refine WL_do fun Cw cw => ?_); (first | ((with_reducible first | apply O_move | apply O_assign | apply O_pickV | apply O_extract); (repeat rfl); (with_reducible apply cw); (focus ((try simp only [tput, List.set_cons_zero, List.set_cons_succ]); exact rfl))) | ((with_reducible first | apply O_load | apply O_bin | apply O_indexAddr | apply O_len | apply O_store | apply O_alloc | apply O_box | apply O_build); (repeat rfl); simp (disch := omega) only [go_sem]; (with_reducible apply cw); (focus ((try simp only [tput, List.set_cons_zero, List.set_cons_succ]); exact rfl))) | ((with_reducible apply O_convert); (repeat rfl); (try simp only [List.contains_nil, List.contains_cons, Nat.reduceBEq, Bool.or_false, Bool.false_or, Bool.or_self, Bool.or_true, Bool.true_or]); simp (disch := omega) only [go_sem]; (with_reducible apply cw); (focus ((try simp only [tput, List.set_cons_zero, List.set_cons_succ]); exact rfl))) | ((with_reducible first | apply O_callF | apply O_call); (repeat rfl); (try simp only [List.nil_append, List.append_nil, List.cons_append]); (refine TPure.go (by (first | apply haw | apply h0) <;> first | assumption | omega | exact Eq.trans (get_old (by assumption)) (by assumption)) ?_); (with_reducible apply cw); (focus ((try simp only [tput, List.set_cons_zero, List.set_cons_succ]); exact rfl)))); clear cw Cw)
      | ((with_reducible apply WL_if); (focus rfl); (focus ((try simp only [tput, List.set_cons_zero, List.set_cons_succ]); exact rfl)))
      | ((with_reducible apply WL_un); (focus rfl); (focus ((try simp only [tput, List.set_cons_zero, List.set_cons_succ]); exact rfl)))
      | ((with_reducible refine WL_nil (hK _ _ ?_)); clear hK K)
      | ((with_reducible first | refine T_reg_seq fun K hK => ?_ | refine T_reg_end fun K hK => ?_); simp only [List.toList_toArray, List.append_eq, List.cons_append, List.nil_append])
      | ((with_reducible first | apply T_cond_seq | apply T_cond); (focus rfl))
      | (intro hg; (first | (simp only [Bool.not_true, Bool.not_false, Bool.true_eq_false, Bool.false_eq_true] at hg; done) | ((try simp only [Bool.not_true, Bool.not_false, eq_self] at hg); (have hh : True := hg); clear hh hg) | ((try simp only [Bool.not_true, Bool.not_false] at hg); (try (have hh := hg; simp only [hh]; clear hh)); (try simp only [decide_eq_true_eq, decide_eq_false_iff_not, Bool.not_true, Bool.not_false, Bool.not_eq_true', Bool.not_eq_false', Bool.and_eq_true, Bool.or_eq_true, beq_iff_eq, bne_iff_ne, beq_eq_false_iff_ne, bne_eq_false_iff_eq, ne_eq, Decidable.not_not, Bool.or_eq_false_iff, Bool.and_eq_false_iff, gt_iff_lt, ge_iff_le, Int.not_lt, Int.not_le, Nat.not_lt, Nat.not_le] at hg); (try (exfalso; omega)))))
      | with_reducible first | refine T_seq_assoc ?_ | refine T_skip_seq ?_ | refine T_ret_seq ?_ | refine T_exit_seq ?_ | refine T_ret ?_ | refine T_skip ?_ | refine T_exit ?_ | refine T_block_seq fun Kb hKb => ?_ | refine T_block ?_
      | (simp only [TX.inBlock, TX.then, if_true, if_false, Nat.reduceEqDiff, ite_true, ite_false])
      | ((with_reducible first | refine hR _ _ (fun C cc => ?_) | refine hN _ _ (fun C cc => ?_)); simp (disch := omega) only [go_sem]; (with_reducible apply cc); clear cc C; (first | refine Ends.more rfl ?_ | refine Ends.same rfl ?_ | refine Ends.more (by simp only [go_sem, Bool.and_self]) ?_ | refine Ends.same (by simp only [go_sem, Bool.and_self]) ?_); (try simp only [go_sem, Bool.and_self]))
      | (with_reducible apply_assumption -exfalso -symm only [*]))
    all_goals trace_state
end Go.Proofs.Ytgkcackpffimmaa
