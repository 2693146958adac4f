/- ConfigHolds: the theorem of the stage. -/
import Derived.Test.YtgkcackpffimmaaG3
set_option linter.unusedVariables false
set_option linter.unusedSimpArgs false
set_option maxRecDepth 10000
set_option maxHeartbeats 4000000
namespace Go.Proofs.Ytgkcackpffimmaa
open Go.TM

theorem intC_one (l : List Int) : (l.flatMap intC).all TV.one = true := flat_one (fun _ => rfl) l
theorem intC_len (l : List Int) : (l.flatMap intC).length = l.length := by rw [flat_length (k := 1) (fun _ => rfl)]; omega

/-- Numbers are appended where there is a right to. -/
theorem append_ints (w : Bool) {σ : TS} {tk n : Nat} {cs : List TV} (l : List Int) (hr : σ[tk]? = some (.right n 1)) (hc : cs.length = n) (hb : n + l.length ≤ 1000000000) :
    tappend (mkTab Try.prog) w σ 22 22 (.sl (some (tk, n)) n cs) (.sl none l.length (l.flatMap intC)) = some (.sl (some (tk, n + l.length)) (n + l.length) (cs ++ l.flatMap intC), σ.set tk (.right (n + l.length) 1)) := by
  exact app_own tab22 rfl tab3 rfl rfl (src_sl tab22 rfl (by rw [intC_len, Nat.mul_one])) (intC_one l) (by rw [intC_len]; exact (Nat.mul_one _).symm) hr (by rw [hc]; exact (Nat.mul_one _).symm) (by show (n + l.length) * 8 ≤ _; omega) (by omega)

@[go_sem] theorem fits_ints {n : Nat} (l : List Int) : TV.fitsL n (l.flatMap intC) = true := by
  induction l with
  | nil => rfl
  | cons x l ih => rw [List.flatMap_cons]; simp only [List.cons_append, List.nil_append, TV.fitsL, TV.fits, ih, Bool.and_self]

theorem clone_walk (r : Row Int) (σ : TS) (hl : r.l.length ≤ 1000000) : TPure Try.prog 84 [rowTV intC r] σ (rowTV intC r) := by
  cases hn : r.nil with
  | true =>
    rw [rowTV_nil hn]
    refine pure_of [] [.tmp 2] Try.func84 (by kernel_rfl) rfl (by kernel_rfl) fun X hR hN => ?_
    show Tw _ _ _ _ ([some _] ++ List.replicate 7 none) _
    simp only [List.replicate, List.cons_append, List.nil_append]
    repeat' (first
      | ((with_reducible refine WL_do fun Cw cw => ?_); (first | ((with_reducible first | apply O_move | apply O_assign); (repeat rfl); (with_reducible apply cw); (focus ((try simp only [tput, List.set_cons_zero, List.set_cons_succ]); exact rfl))) | ((with_reducible apply O_bin); (repeat rfl); simp (disch := omega) only [go_sem]; (with_reducible apply cw); (focus ((try simp only [tput, List.set_cons_zero, List.set_cons_succ]); exact rfl))) | ((with_reducible first | apply O_buildSlice | apply O_append); (repeat rfl); (try simp only [List.contains_nil, List.contains_cons, Nat.reduceBEq, Bool.or_false, Bool.false_or, Bool.or_self, Bool.or_true, Bool.true_or]); simp (disch := omega) only [go_sem]; (with_reducible apply cw); (focus ((try simp only [tput, List.set_cons_zero, List.set_cons_succ]); exact rfl)))); clear cw Cw)
      | ((with_reducible refine WL_nil (hK _ _ ?_)); clear hK K)
      | ((with_reducible first | refine T_reg_seq fun K hK => ?_ | refine T_reg_end fun K hK => ?_); simp only [List.toList_toArray, List.append_eq, List.cons_append, List.nil_append])
      | ((with_reducible first | apply T_cond_seq | apply T_cond); (focus rfl))
      | (intro hg; (first | (simp only [Bool.not_true, Bool.not_false, Bool.true_eq_false, Bool.false_eq_true] at hg; done) | ((try simp only [Bool.not_true, Bool.not_false, eq_self] at hg); (have hh : True := hg); clear hh hg) | ((try simp only [Bool.not_true, Bool.not_false] at hg); (try (have hh := hg; simp only [hh]; clear hh)); (try simp only [decide_eq_true_eq, decide_eq_false_iff_not, Bool.not_true, Bool.not_false, Bool.not_eq_true', Bool.not_eq_false', Bool.and_eq_true, Bool.or_eq_true, beq_iff_eq, bne_iff_ne, beq_eq_false_iff_ne, bne_eq_false_iff_eq, ne_eq, Decidable.not_not, Bool.or_eq_false_iff, Bool.and_eq_false_iff, gt_iff_lt, ge_iff_le, Int.not_lt, Int.not_le, Nat.not_lt, Nat.not_le] at hg); (try (exfalso; omega)))))
      | with_reducible first | refine T_seq_assoc ?_ | refine T_skip_seq ?_ | refine T_ret_seq ?_ | refine T_exit_seq ?_ | refine T_ret ?_ | refine T_skip ?_ | refine T_exit ?_ | refine T_block_seq fun Kb hKb => ?_ | refine T_block ?_
      | (simp only [TX.inBlock, TX.then, if_true, if_false, Nat.reduceEqDiff, ite_true, ite_false])
      | ((with_reducible first | refine hR _ _ (fun C cc => ?_) | refine hN _ _ (fun C cc => ?_)); simp (disch := omega) only [go_sem]; (with_reducible apply cc); clear cc C; (first | refine Ends.more rfl ?_ | refine Ends.same rfl ?_ | refine Ends.more (by simp only [go_sem, Bool.and_self]) ?_ | refine Ends.same (by simp only [go_sem, Bool.and_self]) ?_); (try simp only [go_sem, Bool.and_self]))
      | (with_reducible apply_assumption -exfalso -symm only [*]))
  | false =>
    rw [rowTV_some hn]
    have hone := intC_one r.l
    have hlen := intC_len r.l
    rcases Nat.eq_zero_or_pos r.l.length with h0 | h0
    · have hl0 : r.l = [] := List.eq_nil_of_length_eq_zero h0
      rw [hl0]
      refine pure_of [5] [.tmp 2] Try.func84 (by kernel_rfl) rfl (by kernel_rfl) fun X hR hN => ?_
      show Tw _ _ _ _ ([some _] ++ List.replicate 7 none) _
      simp only [List.replicate, List.cons_append, List.nil_append]
      repeat' (first
        | ((with_reducible refine WL_do fun Cw cw => ?_); (first | ((with_reducible first | apply O_move | apply O_assign); (repeat rfl); (with_reducible apply cw); (focus ((try simp only [tput, List.set_cons_zero, List.set_cons_succ]); exact rfl))) | ((with_reducible apply O_bin); (repeat rfl); simp (disch := omega) only [go_sem]; (with_reducible apply cw); (focus ((try simp only [tput, List.set_cons_zero, List.set_cons_succ]); exact rfl))) | ((with_reducible first | apply O_buildSlice | apply O_append); (repeat rfl); (try simp only [List.contains_nil, List.contains_cons, Nat.reduceBEq, Bool.or_false, Bool.false_or, Bool.or_self, Bool.or_true, Bool.true_or]); simp (disch := omega) only [go_sem]; (with_reducible apply cw); (focus ((try simp only [tput, List.set_cons_zero, List.set_cons_succ]); exact rfl)))); clear cw Cw)
        | ((with_reducible refine WL_nil (hK _ _ ?_)); clear hK K)
        | ((with_reducible first | refine T_reg_seq fun K hK => ?_ | refine T_reg_end fun K hK => ?_); simp only [List.toList_toArray, List.append_eq, List.cons_append, List.nil_append])
        | ((with_reducible first | apply T_cond_seq | apply T_cond); (focus rfl))
        | (intro hg; (first | (simp only [Bool.not_true, Bool.not_false, Bool.true_eq_false, Bool.false_eq_true] at hg; done) | ((try simp only [Bool.not_true, Bool.not_false, eq_self] at hg); (have hh : True := hg); clear hh hg) | ((try simp only [Bool.not_true, Bool.not_false] at hg); (try (have hh := hg; simp only [hh]; clear hh)); (try simp only [decide_eq_true_eq, decide_eq_false_iff_not, Bool.not_true, Bool.not_false, Bool.not_eq_true', Bool.not_eq_false', Bool.and_eq_true, Bool.or_eq_true, beq_iff_eq, bne_iff_ne, beq_eq_false_iff_ne, bne_eq_false_iff_eq, ne_eq, Decidable.not_not, Bool.or_eq_false_iff, Bool.and_eq_false_iff, gt_iff_lt, ge_iff_le, Int.not_lt, Int.not_le, Nat.not_lt, Nat.not_le] at hg); (try (exfalso; omega)))))
        | with_reducible first | refine T_seq_assoc ?_ | refine T_skip_seq ?_ | refine T_ret_seq ?_ | refine T_exit_seq ?_ | refine T_ret ?_ | refine T_skip ?_ | refine T_exit ?_ | refine T_block_seq fun Kb hKb => ?_ | refine T_block ?_
        | (simp only [TX.inBlock, TX.then, if_true, if_false, Nat.reduceEqDiff, ite_true, ite_false])
        | ((with_reducible first | refine hR _ _ (fun C cc => ?_) | refine hN _ _ (fun C cc => ?_)); simp (disch := omega) only [go_sem]; (with_reducible apply cc); clear cc C; (first | refine Ends.more rfl ?_ | refine Ends.same rfl ?_ | refine Ends.more (by simp only [go_sem, Bool.and_self]) ?_ | refine Ends.same (by simp only [go_sem, Bool.and_self]) ?_); (try simp only [go_sem, Bool.and_self]))
        | (with_reducible apply_assumption -exfalso -symm only [*]))
      all_goals rfl
    · have hne : ¬ (r.l.length = 0) := by omega
      refine pure_of [5] [.tmp 2] Try.func84 (by kernel_rfl) rfl (by kernel_rfl) fun X hR hN => ?_
      show Tw _ _ _ _ ([some _] ++ List.replicate 7 none) _
      simp only [List.replicate, List.cons_append, List.nil_append]
      have happ : ∀ w, tappend (mkTab Try.prog) w (σ ++ [.right 0 1]) 22 22 (.sl (some (σ.length, 0)) 0 []) (.sl none r.l.length (r.l.flatMap intC)) = some (.sl (some (σ.length, r.l.length)) r.l.length (r.l.flatMap intC), σ ++ [.right r.l.length 1]) := fun w => by
        have := append_ints w (σ := σ ++ [.right 0 1]) (tk := σ.length) (n := 0) (cs := []) r.l (by simp) rfl (by omega)
        rw [set_app0, Nat.zero_add] at this
        exact this
      repeat' (first
        | ((with_reducible refine WL_do fun Cw cw => ?_); (first | ((with_reducible first | apply O_move | apply O_assign); (repeat rfl); (with_reducible apply cw); (focus ((try simp only [tput, List.set_cons_zero, List.set_cons_succ]); exact rfl))) | ((with_reducible apply O_bin); (repeat rfl); simp (disch := omega) only [go_sem, ↓happ]; (with_reducible apply cw); (focus ((try simp only [tput, List.set_cons_zero, List.set_cons_succ]); exact rfl))) | ((with_reducible first | apply O_buildSlice | apply O_append); (repeat rfl); (try simp only [List.contains_nil, List.contains_cons, Nat.reduceBEq, Bool.or_false, Bool.false_or, Bool.or_self, Bool.or_true, Bool.true_or]); simp (disch := omega) only [go_sem, ↓happ]; (with_reducible apply cw); (focus ((try simp only [tput, List.set_cons_zero, List.set_cons_succ]); exact rfl)))); clear cw Cw)
        | ((with_reducible refine WL_nil (hK _ _ ?_)); clear hK K)
        | ((with_reducible first | refine T_reg_seq fun K hK => ?_ | refine T_reg_end fun K hK => ?_); simp only [List.toList_toArray, List.append_eq, List.cons_append, List.nil_append])
        | ((with_reducible first | apply T_cond_seq | apply T_cond); (focus rfl))
        | (intro hg; (first | (simp only [Bool.not_true, Bool.not_false, Bool.true_eq_false, Bool.false_eq_true] at hg; done) | ((try simp only [Bool.not_true, Bool.not_false, eq_self] at hg); (have hh : True := hg); clear hh hg) | ((try simp only [Bool.not_true, Bool.not_false] at hg); (try (have hh := hg; simp only [hh]; clear hh)); (try simp only [decide_eq_true_eq, decide_eq_false_iff_not, Bool.not_true, Bool.not_false, Bool.not_eq_true', Bool.not_eq_false', Bool.and_eq_true, Bool.or_eq_true, beq_iff_eq, bne_iff_ne, beq_eq_false_iff_ne, bne_eq_false_iff_eq, ne_eq, Decidable.not_not, Bool.or_eq_false_iff, Bool.and_eq_false_iff, gt_iff_lt, ge_iff_le, Int.not_lt, Int.not_le, Nat.not_lt, Nat.not_le] at hg); (try (exfalso; omega)))))
        | with_reducible first | refine T_seq_assoc ?_ | refine T_skip_seq ?_ | refine T_ret_seq ?_ | refine T_exit_seq ?_ | refine T_ret ?_ | refine T_skip ?_ | refine T_exit ?_ | refine T_block_seq fun Kb hKb => ?_ | refine T_block ?_
        | (simp only [TX.inBlock, TX.then, if_true, if_false, Nat.reduceEqDiff, ite_true, ite_false])
        | ((with_reducible first | refine hR _ _ (fun C cc => ?_) | refine hN _ _ (fun C cc => ?_)); simp (disch := omega) only [go_sem, ↓happ]; (with_reducible apply cc); clear cc C; (first | refine Ends.more rfl ?_ | refine Ends.same rfl ?_ | refine Ends.more (by simp only [go_sem, Bool.and_self]) ?_ | refine Ends.same (by simp only [go_sem, Bool.and_self]) ?_); (try simp only [go_sem, Bool.and_self]))
        | (with_reducible apply_assumption -exfalso -symm only [*]))

theorem ownVL_walk (c : Cfg) (id : Int) (σ : TS) (hl : c.vls.l.length ≤ 9223372036854775806) (hto : ∀ v ∈ c.vls.l, v.to.l.length ≤ 1000000) : TPure Try.prog 30 [cfgTV c, .int .i64 id] σ
    (match findL c.vls.l id with | some v => .tup [linkTV v, .bool true] | none => .tup [linkTV ⟨0, 0, 0, 0, false, 0, 0, Row.none⟩, .bool false]) := by
  refine pure_of [] [.cell 4 40, .tmp 5] Try.func30 (by kernel_rfl) rfl (by kernel_rfl) fun X hR hN => ?_
  show Tw _ _ _ _ ([some _, some _] ++ List.replicate 24 none) _
  simp only [List.replicate, List.cons_append, List.nil_append]
  repeat' (first
    | ((with_reducible refine WL_do fun Cw cw => ?_); (first | ((with_reducible first | apply O_move | apply O_assign); (repeat rfl); (with_reducible apply cw); (focus ((try simp only [tput, List.set_cons_zero, List.set_cons_succ]); exact rfl))) | ((with_reducible first | apply O_load | apply O_fieldAddr | apply O_bin | apply O_indexAddr | apply O_len | apply O_store | apply O_alloc | apply O_box | apply O_build); (repeat rfl); simp (disch := omega) only [go_sem]; (with_reducible apply cw); (focus ((try simp only [tput, List.set_cons_zero, List.set_cons_succ]); exact rfl)))); clear cw Cw)
    | ((with_reducible refine WL_nil (hK _ _ ?_)); clear hK K)
    | ((with_reducible first | refine T_reg_seq fun K hK => ?_ | refine T_reg_end fun K hK => ?_); simp only [List.toList_toArray, List.append_eq, List.cons_append, List.nil_append])
    | ((with_reducible first | apply T_cond_seq | apply T_cond); (focus rfl))
    | (intro hg; (first | (simp only [Bool.not_true, Bool.not_false, Bool.true_eq_false, Bool.false_eq_true] at hg; done) | ((try simp only [Bool.not_true, Bool.not_false, eq_self] at hg); (have hh : True := hg); clear hh hg) | ((try simp only [Bool.not_true, Bool.not_false] at hg); (try (have hh := hg; simp only [hh]; clear hh)); (try simp only [decide_eq_true_eq, decide_eq_false_iff_not, Bool.not_true, Bool.not_false, Bool.not_eq_true', Bool.not_eq_false', Bool.and_eq_true, Bool.or_eq_true, beq_iff_eq, bne_iff_ne, beq_eq_false_iff_ne, bne_eq_false_iff_eq, ne_eq, Decidable.not_not, Bool.or_eq_false_iff, Bool.and_eq_false_iff, gt_iff_lt, ge_iff_le, Int.not_lt, Int.not_le, Nat.not_lt, Nat.not_le] at hg); (try (exfalso; omega)))))
    | with_reducible first | refine T_seq_assoc ?_ | refine T_skip_seq ?_ | refine T_ret_seq ?_ | refine T_exit_seq ?_ | refine T_ret ?_ | refine T_skip ?_ | refine T_exit ?_ | refine T_block_seq fun Kb hKb => ?_ | refine T_block ?_
    | (simp only [TX.inBlock, TX.then, if_true, if_false, Nat.reduceEqDiff, ite_true, ite_false])
    | ((with_reducible first | refine hR _ _ (fun C cc => ?_) | refine hN _ _ (fun C cc => ?_)); simp (disch := omega) only [go_sem]; (with_reducible apply cc); clear cc C; (first | refine Ends.more rfl ?_ | refine Ends.same rfl ?_ | refine Ends.more (by simp only [go_sem, Bool.and_self]) ?_ | refine Ends.same (by simp only [go_sem, Bool.and_self]) ?_); (try simp only [go_sem, Bool.and_self]))
    | (with_reducible apply_assumption -exfalso -symm only [*]))
  refine T_each (α := Nat × TS) (fun (i, τ) => [none, some (some (.int .i64 id)), none, none, some (some (.ptr (σ.length + 1) 0)), none, none, none, none, some (some (rowTV linkC c.vls)), some (some (.int .i64 c.vls.l.length)), some (some (.int .i64 i)), none, none, none, none, none, none, none, none, none, none, none, none, none, none]) (fun (i, τ) => i ≤ c.vls.l.length ∧ ∀ k, k < i → (nth c.vls.l k).id ≠ id) (fun (i, τ) => c.vls.l.length - i) (fun (i, τ) => σ ++ (.cells (cfgC c) :: .cells (linkC ⟨0, 0, 0, 0, false, 0, 0, Row.none⟩) :: τ)) ?_ ?_
  · refine ⟨(0, []), ⟨rfl, rfl, rfl, rfl, rfl, trivial⟩, ?_, rfl⟩
    exact ⟨by omega, fun k hk => by omega⟩
  · rintro ⟨i, τ⟩ q ⟨hi, hno⟩
    show Tw _ _ _ _ ([q 0, some (.int .i64 id), q 2, q 3, some (.ptr (σ.length + 1) 0), q 5, q 6, q 7, q 8, some (rowTV linkC c.vls), some (.int .i64 c.vls.l.length), some (.int .i64 i), q 12, q 13, q 14, q 15, q 16, q 17, q 18, q 19, q 20, q 21, q 22, q 23, q 24, q 25]) (σ ++ (.cells (cfgC c) :: .cells (linkC ⟨0, 0, 0, 0, false, 0, 0, Row.none⟩) :: τ))
    have ht : i < c.vls.l.length → (nth c.vls.l i).to.l.length ≤ 1000000 := fun h => hto _ (nth_mem h)
    repeat' (first
      | ((with_reducible refine WL_do fun Cw cw => ?_); (first | ((with_reducible first | apply O_move | apply O_assign); (repeat rfl); (with_reducible apply cw); (focus ((try simp only [tput, List.set_cons_zero, List.set_cons_succ]); exact rfl))) | ((with_reducible first | apply O_load | apply O_fieldAddr | apply O_bin | apply O_indexAddr | apply O_len | apply O_store | apply O_alloc | apply O_box | apply O_build); (repeat rfl); simp (disch := omega) only [go_sem]; (with_reducible apply cw); (focus ((try simp only [tput, List.set_cons_zero, List.set_cons_succ]); exact rfl))) | ((with_reducible first | apply O_callF | apply O_call); (repeat rfl); (try simp only [List.nil_append, List.append_nil, List.cons_append]); (refine TPure.go (by (apply clone_walk) <;> first | assumption | omega | exact Eq.trans (get_old (by assumption)) (by assumption)) ?_); (with_reducible apply cw); (focus ((try simp only [tput, List.set_cons_zero, List.set_cons_succ]); exact rfl)))); clear cw Cw)
      | ((with_reducible refine WL_nil (hK _ _ ?_)); clear hK K)
      | ((with_reducible first | refine T_reg_seq fun K hK => ?_ | refine T_reg_end fun K hK => ?_); simp only [List.toList_toArray, List.append_eq, List.cons_append, List.nil_append])
      | ((with_reducible first | apply T_cond_seq | apply T_cond); (focus rfl))
      | (intro hg; (first | (simp only [Bool.not_true, Bool.not_false, Bool.true_eq_false, Bool.false_eq_true] at hg; done) | ((try simp only [Bool.not_true, Bool.not_false, eq_self] at hg); (have hh : True := hg); clear hh hg) | ((try simp only [Bool.not_true, Bool.not_false] at hg); (try (have hh := hg; simp only [hh]; clear hh)); (try simp only [decide_eq_true_eq, decide_eq_false_iff_not, Bool.not_true, Bool.not_false, Bool.not_eq_true', Bool.not_eq_false', Bool.and_eq_true, Bool.or_eq_true, beq_iff_eq, bne_iff_ne, beq_eq_false_iff_ne, bne_eq_false_iff_eq, ne_eq, Decidable.not_not, Bool.or_eq_false_iff, Bool.and_eq_false_iff, gt_iff_lt, ge_iff_le, Int.not_lt, Int.not_le, Nat.not_lt, Nat.not_le] at hg); (try (exfalso; omega)))))
      | with_reducible first | refine T_seq_assoc ?_ | refine T_skip_seq ?_ | refine T_ret_seq ?_ | refine T_exit_seq ?_ | refine T_ret ?_ | refine T_skip ?_ | refine T_exit ?_ | refine T_block_seq fun Kb hKb => ?_ | refine T_block ?_
      | (simp only [TX.inBlock, TX.then, if_true, if_false, Nat.reduceEqDiff, ite_true, ite_false])
      | ((with_reducible first | refine hR _ _ (fun C cc => ?_) | refine hN _ _ (fun C cc => ?_)); simp (disch := omega) only [go_sem]; (with_reducible apply cc); clear cc C; (first | refine Ends.more rfl ?_ | refine Ends.same rfl ?_ | refine Ends.more (by simp only [go_sem, Bool.and_self]) ?_ | refine Ends.same (by simp only [go_sem, Bool.and_self]) ?_); (try simp only [go_sem, Bool.and_self]))
      | (with_reducible apply_assumption -exfalso -symm only [*]))
    · rw [findL_some (by assumption) hno (by assumption)]
    · refine ⟨(i + 1, τ ++ [_]), ?_, ⟨rfl, rfl, rfl, rfl, rfl, trivial⟩, ⟨?_, upto hno (by assumption)⟩, rfl⟩ <;> (try dsimp only) <;> omega
    · rw [findL_none fun k hk => hno k (by omega)]; rfl

theorem portV_facts {p : Port} {v : Link} (h : portV p v = 0) : (p.out = true → v.host = p.host) ∧ (p.out = false → v.to.l.contains p.host = true) ∧ (p.kind = 1 → p.size ≤ v.smax - 47) := by
  unfold portV at h
  split at h
  · cases h
  rename_i h1
  split at h
  · cases h
  split at h
  · cases h
  split at h
  · cases h
  split at h
  · cases h
  rename_i h5
  refine ⟨fun ho => ?_, fun ho => ?_, fun hk => by omega⟩
  · by_cases h6 : v.host = p.host
    · exact h6
    · exact absurd (.inl ⟨ho, h6⟩) h1
  · cases hc : v.to.l.contains p.host with
    | true => rfl
    | false => exact absurd (.inr ⟨ho, hc⟩) h1

theorem holds_walk (c : Cfg) (hc : c.ok) (σ : TS) : TPure Try.prog 6 [cfgTV c] σ (.bool true) := by
  have l1 := hc.lparts
  have l2 := hc.lwins
  have l4 := hc.lports
  by_cases h : FewP c
  · have hfew : ∀ σ, TPure Try.prog 26 [cfgTV c] σ (.bool true) := fun σ => by
      have := few_walk c hc σ
      rwa [decide_eq_true h] at this
    have hown := check_walk c (h.few hc)
    by_cases he : (checkS c).2.2 = 0
    · have hok := okC_of he
      rw [hok.check] at hown
      have hto : ∀ v ∈ c.vls.l, v.to.l.length ≤ 1000000 := fun v hv => by have := h.2.2.2.2 v hv; omega
      refine pure_of [] [.tmp 2] Try.func6 (by kernel_rfl) rfl (by kernel_rfl) fun X hR hN => ?_
      show Tw _ _ _ _ ([some _] ++ List.replicate 200 none) _
      simp only [List.replicate, List.cons_append, List.nil_append]
      repeat' (first
        | ((with_reducible refine WL_do fun Cw cw => ?_); (first | ((with_reducible first | apply O_move | apply O_assign | apply O_pickV | apply O_extract); (repeat rfl); (with_reducible apply cw); (focus ((try simp only [tput, List.set_cons_zero, List.set_cons_succ]); exact rfl))) | ((with_reducible first | apply O_load | apply O_fieldAddr | apply O_bin | apply O_indexAddr | apply O_len | apply O_un | apply O_store | apply O_alloc | apply O_box); (repeat rfl); simp (disch := omega) only [go_sem]; (with_reducible apply cw); (focus ((try simp only [tput, List.set_cons_zero, List.set_cons_succ]); exact rfl))) | ((with_reducible first | apply O_callF | apply O_call); (repeat rfl); (try simp only [List.nil_append, List.append_nil, List.cons_append]); (refine TPure.go (by (first | apply hfew | apply hown) <;> first | assumption | omega | exact Eq.trans (get_old (by assumption)) (by assumption)) ?_); (with_reducible apply cw); (focus ((try simp only [tput, List.set_cons_zero, List.set_cons_succ]); exact rfl)))); clear cw Cw)
        | ((with_reducible apply WP_do); (focus (intro Kw kw; (first | ((with_reducible first | apply O_move | apply O_assign | apply O_pickV | apply O_extract); (repeat rfl); exact kw) | ((with_reducible first | apply O_load | apply O_fieldAddr | apply O_bin | apply O_indexAddr | apply O_len | apply O_un | apply O_store | apply O_alloc | apply O_box); (repeat rfl); simp (disch := omega) only [go_sem]; exact kw) | ((with_reducible first | apply O_callF | apply O_call); (repeat rfl); (try simp only [List.nil_append, List.append_nil, List.cons_append]); (refine TPure.go (by (first | apply hfew | apply hown) <;> first | assumption | omega | exact Eq.trans (get_old (by assumption)) (by assumption)) ?_); exact kw)))); (focus ((try simp only [tput, List.set_cons_zero, List.set_cons_succ]); exact rfl)))
        | ((with_reducible apply WL_if); (focus rfl); (focus ((try simp only [tput, List.set_cons_zero, List.set_cons_succ]); exact rfl)))
        | ((with_reducible apply WL_un); (focus rfl); (focus ((try simp only [tput, List.set_cons_zero, List.set_cons_succ]); exact rfl)))
        | ((with_reducible refine WL_nil (hK _ _ ?_)); clear hK K)
        | ((with_reducible apply WP_if); (focus rfl); (focus ((try simp only [tput, List.set_cons_zero, List.set_cons_succ]); exact rfl)))
        | ((with_reducible apply WP_un); (focus rfl); (focus ((try simp only [tput, List.set_cons_zero, List.set_cons_succ]); exact rfl)))
        | ((with_reducible apply WP_pick); (focus rfl); (focus rfl); (focus rfl); (focus ((try simp only [tput, List.set_cons_zero, List.set_cons_succ]); exact rfl)); (focus ((try simp only [tput, List.set_cons_zero, List.set_cons_succ]); exact rfl)))
        | ((with_reducible refine WP_nil (hK _ _ ?_)); clear hK K)
        | ((with_reducible first | refine T_reg_seq fun K hK => ?_ | refine T_reg_end fun K hK => ?_); simp only [List.toList_toArray, List.append_eq, List.cons_append, List.nil_append])
        | ((with_reducible first | refine T_pure_seq ?_ ?_ (fun K hK => ?_) | refine T_pure_end ?_ ?_ (fun K hK => ?_)); (focus kernel_rfl); (focus kernel_rfl); simp only [List.toList_toArray, List.append_eq, List.cons_append, List.nil_append])
        | ((with_reducible first | apply T_cond_seq | apply T_cond); (focus rfl))
        | (intro hg; (first | (simp only [Bool.not_true, Bool.not_false, Bool.true_eq_false, Bool.false_eq_true] at hg; done) | ((try simp only [Bool.not_true, Bool.not_false, eq_self] at hg); (have hh : True := hg); clear hh hg) | ((try simp only [Bool.not_true, Bool.not_false] at hg); (try (have hh := hg; simp only [hh]; clear hh)); (try simp only [decide_eq_true_eq, decide_eq_false_iff_not, Bool.not_true, Bool.not_false, Bool.not_eq_true', Bool.not_eq_false', Bool.and_eq_true, Bool.or_eq_true, beq_iff_eq, bne_iff_ne, beq_eq_false_iff_ne, bne_eq_false_iff_eq, ne_eq, Decidable.not_not, Bool.or_eq_false_iff, Bool.and_eq_false_iff, gt_iff_lt, ge_iff_le, Int.not_lt, Int.not_le, Nat.not_lt, Nat.not_le] at hg); (try (exfalso; omega)))))
        | with_reducible first | refine T_seq_assoc ?_ | refine T_skip_seq ?_ | refine T_ret_seq ?_ | refine T_exit_seq ?_ | refine T_ret ?_ | refine T_skip ?_ | refine T_exit ?_ | refine T_block_seq fun Kb hKb => ?_ | refine T_block ?_
        | (simp only [TX.inBlock, TX.then, if_true, if_false, Nat.reduceEqDiff, ite_true, ite_false])
        | ((with_reducible first | refine hR _ _ (fun C cc => ?_) | refine hN _ _ (fun C cc => ?_)); simp (disch := omega) only [go_sem]; (with_reducible apply cc); clear cc C; (first | refine Ends.more rfl ?_ | refine Ends.same rfl ?_ | refine Ends.more (by simp only [go_sem, Bool.and_self]) ?_ | refine Ends.same (by simp only [go_sem, Bool.and_self]) ?_); (try simp only [go_sem, Bool.and_self]))
        | (with_reducible apply_assumption -exfalso -symm only [*]))
      refine T_each (α := Nat × TS) (fun (i, τ) => [none, some (some (.ptr σ.length 0)), none, none, none, some (some (.int .i64 i)), none, none, none, none, none, none, none, none, none, none, none, none, none, none, none, none, none, none, none, none, none, none, none, none, none, none, none, none, none, none, none, none, none, none, none, none, none, none, none, none, none, none, none, none, none, none, none, none, none, none, none, none, none, none, none, none, none, none, none, none, none, none, none, none, none, none, none, none, none, none, none, none, none, none, none, none, none, none, none, none, none, none, none, none, none, none, none, none, none, none, none, none, none, none, none, none, none, none, none, none, none, none, none, none, none, none, none, none, none, none, none, none, none, none, none, none, none, none, none, none, none, none, none, none, none, none, none, none, none, none, none, none, none, none, none, none, none, none, none, none, none, none, none, none, none, none, none, none, none, none, none, none, none, none, none, none, none, none, none, none, none, none, none, none, none, none, none, none, none, none, none, none, none, none, none, none, none, none, none, none, none, none, none, none, none, none, none, none, none, none, none, none, none, none, none]) (fun (i, τ) => i ≤ c.ports.l.length) (fun (i, τ) => c.ports.l.length - i) (fun (i, τ) => σ ++ (.cells (cfgC c) :: τ)) ?_ ?_
      · refine ⟨(0, [_]), ⟨rfl, rfl, trivial⟩, ?_, rfl⟩
        omega
      rintro ⟨i, τ⟩ q hi
      show Tw _ _ _ _ ([q 0, some (.ptr σ.length 0), q 2, q 3, q 4, some (.int .i64 i), q 6, q 7, q 8, q 9, q 10, q 11, q 12, q 13, q 14, q 15, q 16, q 17, q 18, q 19, q 20, q 21, q 22, q 23, q 24, q 25, q 26, q 27, q 28, q 29, q 30, q 31, q 32, q 33, q 34, q 35, q 36, q 37, q 38, q 39, q 40, q 41, q 42, q 43, q 44, q 45, q 46, q 47, q 48, q 49, q 50, q 51, q 52, q 53, q 54, q 55, q 56, q 57, q 58, q 59, q 60, q 61, q 62, q 63, q 64, q 65, q 66, q 67, q 68, q 69, q 70, q 71, q 72, q 73, q 74, q 75, q 76, q 77, q 78, q 79, q 80, q 81, q 82, q 83, q 84, q 85, q 86, q 87, q 88, q 89, q 90, q 91, q 92, q 93, q 94, q 95, q 96, q 97, q 98, q 99, q 100, q 101, q 102, q 103, q 104, q 105, q 106, q 107, q 108, q 109, q 110, q 111, q 112, q 113, q 114, q 115, q 116, q 117, q 118, q 119, q 120, q 121, q 122, q 123, q 124, q 125, q 126, q 127, q 128, q 129, q 130, q 131, q 132, q 133, q 134, q 135, q 136, q 137, q 138, q 139, q 140, q 141, q 142, q 143, q 144, q 145, q 146, q 147, q 148, q 149, q 150, q 151, q 152, q 153, q 154, q 155, q 156, q 157, q 158, q 159, q 160, q 161, q 162, q 163, q 164, q 165, q 166, q 167, q 168, q 169, q 170, q 171, q 172, q 173, q 174, q 175, q 176, q 177, q 178, q 179, q 180, q 181, q 182, q 183, q 184, q 185, q 186, q 187, q 188, q 189, q 190, q 191, q 192, q 193, q 194, q 195, q 196, q 197, q 198, q 199, q 200]) (σ ++ (.cells (cfgC c) :: τ))
      rcases Nat.lt_or_ge i c.ports.l.length with hlt | hge
      · obtain ⟨_, hpo, _, v, hv, hhost, hpv, _⟩ := portS_zero (hok.ports i hlt)
        obtain ⟨f1, f2, f3⟩ := portV_facts hpv
        have hpi : IsPart c (nth c.ports.l i).part := by omega
        have hvz : ¬ LinkOff c v := by
          obtain ⟨k, hk, rfl⟩ := List.getElem_of_mem (List.mem_of_find?_eq_some hv)
          have := (linkS_zero (hok.links k hk)).2.1
          rwa [nth_eq hk] at this
        have hvt := hto v (List.mem_of_find?_eq_some hv)
        have hvl : ∀ σ, TPure Try.prog 30 [cfgTV c, .int .i64 (nth c.ports.l i).vl] σ (.tup [linkTV v, .bool true]) := fun σ => by
          have := ownVL_walk c (nth c.ports.l i).vl σ (by omega) hto
          rwa [hv] at this
        repeat' (first
          | ((with_reducible refine WL_do fun Cw cw => ?_); (first | ((with_reducible first | apply O_move | apply O_assign | apply O_pickV | apply O_extract); (repeat rfl); (with_reducible apply cw); (focus ((try simp only [tput, List.set_cons_zero, List.set_cons_succ]); exact rfl))) | ((with_reducible first | apply O_load | apply O_fieldAddr | apply O_bin | apply O_indexAddr | apply O_len | apply O_un | apply O_store | apply O_alloc | apply O_box); (repeat rfl); simp (disch := omega) only [go_sem]; (with_reducible apply cw); (focus ((try simp only [tput, List.set_cons_zero, List.set_cons_succ]); exact rfl))) | ((with_reducible first | apply O_callF | apply O_call); (repeat rfl); (try simp only [List.nil_append, List.append_nil, List.cons_append]); (refine TPure.go (by (apply hvl) <;> first | assumption | omega | exact Eq.trans (get_old (by assumption)) (by assumption)) ?_); (with_reducible apply cw); (focus ((try simp only [tput, List.set_cons_zero, List.set_cons_succ]); exact rfl)))); clear cw Cw)
          | ((with_reducible apply WP_do); (focus (intro Kw kw; (first | ((with_reducible first | apply O_move | apply O_assign | apply O_pickV | apply O_extract); (repeat rfl); exact kw) | ((with_reducible first | apply O_load | apply O_fieldAddr | apply O_bin | apply O_indexAddr | apply O_len | apply O_un | apply O_store | apply O_alloc | apply O_box); (repeat rfl); simp (disch := omega) only [go_sem]; exact kw) | ((with_reducible first | apply O_callF | apply O_call); (repeat rfl); (try simp only [List.nil_append, List.append_nil, List.cons_append]); (refine TPure.go (by (apply hvl) <;> first | assumption | omega | exact Eq.trans (get_old (by assumption)) (by assumption)) ?_); exact kw)))); (focus ((try simp only [tput, List.set_cons_zero, List.set_cons_succ]); exact rfl)))
          | ((with_reducible apply WL_if); (focus rfl); (focus ((try simp only [tput, List.set_cons_zero, List.set_cons_succ]); exact rfl)))
          | ((with_reducible apply WL_un); (focus rfl); (focus ((try simp only [tput, List.set_cons_zero, List.set_cons_succ]); exact rfl)))
          | ((with_reducible refine WL_nil (hK _ _ ?_)); clear hK K)
          | ((with_reducible apply WP_if); (focus rfl); (focus ((try simp only [tput, List.set_cons_zero, List.set_cons_succ]); exact rfl)))
          | ((with_reducible apply WP_un); (focus rfl); (focus ((try simp only [tput, List.set_cons_zero, List.set_cons_succ]); exact rfl)))
          | ((with_reducible apply WP_pick); (focus rfl); (focus rfl); (focus rfl); (focus ((try simp only [tput, List.set_cons_zero, List.set_cons_succ]); exact rfl)); (focus ((try simp only [tput, List.set_cons_zero, List.set_cons_succ]); exact rfl)))
          | ((with_reducible refine WP_nil (hK _ _ ?_)); clear hK K)
          | ((with_reducible first | refine T_reg_seq fun K hK => ?_ | refine T_reg_end fun K hK => ?_); simp only [List.toList_toArray, List.append_eq, List.cons_append, List.nil_append])
          | ((with_reducible first | refine T_pure_seq ?_ ?_ (fun K hK => ?_) | refine T_pure_end ?_ ?_ (fun K hK => ?_)); (focus kernel_rfl); (focus kernel_rfl); simp only [List.toList_toArray, List.append_eq, List.cons_append, List.nil_append])
          | ((with_reducible first | apply T_cond_seq | apply T_cond); (focus rfl))
          | (intro hg; (first | (simp only [Bool.not_true, Bool.not_false, Bool.true_eq_false, Bool.false_eq_true] at hg; done) | ((try simp only [Bool.not_true, Bool.not_false, eq_self] at hg); (have hh : True := hg); clear hh hg) | ((try simp only [Bool.not_true, Bool.not_false] at hg); (try (have hh := hg; simp only [hh]; clear hh)); (try simp only [decide_eq_true_eq, decide_eq_false_iff_not, Bool.not_true, Bool.not_false, Bool.not_eq_true', Bool.not_eq_false', Bool.and_eq_true, Bool.or_eq_true, beq_iff_eq, bne_iff_ne, beq_eq_false_iff_ne, bne_eq_false_iff_eq, ne_eq, Decidable.not_not, Bool.or_eq_false_iff, Bool.and_eq_false_iff, gt_iff_lt, ge_iff_le, Int.not_lt, Int.not_le, Nat.not_lt, Nat.not_le] at hg); (try (exfalso; omega)))))
          | with_reducible first | refine T_seq_assoc ?_ | refine T_skip_seq ?_ | refine T_ret_seq ?_ | refine T_exit_seq ?_ | refine T_ret ?_ | refine T_skip ?_ | refine T_exit ?_ | refine T_block_seq fun Kb hKb => ?_ | refine T_block ?_
          | (simp only [TX.inBlock, TX.then, if_true, if_false, Nat.reduceEqDiff, ite_true, ite_false])
          | ((with_reducible first | refine hR _ _ (fun C cc => ?_) | refine hN _ _ (fun C cc => ?_)); simp (disch := omega) only [go_sem]; (with_reducible apply cc); clear cc C; (first | refine Ends.more rfl ?_ | refine Ends.same rfl ?_ | refine Ends.more (by simp only [go_sem, Bool.and_self]) ?_ | refine Ends.same (by simp only [go_sem, Bool.and_self]) ?_); (try simp only [go_sem, Bool.and_self]))
          | (with_reducible apply_assumption -exfalso -symm only [*]))
        refine T_each (α := Nat × Bool) (fun (k, b) => [none, some (some (.ptr σ.length 0)), none, none, none, some (some (.int .i64 i)), some (some (.ptr (σ.length + (τ.length + 1)) 0)), some (some (.ptr (σ.length + (τ.length + 2)) 0)), none, some (some (.bool b)), some (some (.int .i64 k)), none, none, none, none, none, none, none, none, none, none, none, none, none, none, none, none, none, none, none, none, none, none, none, none, none, none, none, none, none, none, none, none, none, none, none, none, none, none, none, none, none, none, none, none, none, none, none, none, none, none, none, none, none, none, none, none, none, none, none, none, none, none, none, none, none, none, none, none, none, none, none, none, none, none, none, none, none, none, none, none, none, none, none, none, none, none, none, none, none, none, none, none, none, none, none, none, none, none, none, none, none, none, none, none, none, none, none, none, none, none, none, none, none, none, none, none, none, none, none, none, none, none, none, none, none, none, none, none, none, none, none, none, none, none, none, none, none, none, none, none, none, none, none, none, none, none, none, none, none, none, none, none, none, none, none, none, none, none, none, none, none, none, none, none, none, none, none, none, none, none, none, none, none, none, none, none, none, none, none, none, none, none, none, none, none, none, none, none, none, none]) (fun (k, b) => k ≤ v.to.l.length ∧ (b = true ↔ ∃ j, j < k ∧ nth v.to.l j = (nth c.ports.l i).host)) (fun (k, b) => v.to.l.length - k) (fun (k, b) => σ ++ (.cells (cfgC c) :: (τ ++ [.cells (portC (nth c.ports.l i)), .cells (linkC v)]))) ?_ ?_
        · refine ⟨(0, false), ⟨rfl, rfl, rfl, rfl, rfl, rfl, trivial⟩, ?_, rfl⟩
          exact ⟨by omega, by simp⟩
        rintro ⟨k, b⟩ q ⟨hk, hb⟩
        show Tw _ _ _ _ ([q 0, some (.ptr σ.length 0), q 2, q 3, q 4, some (.int .i64 i), some (.ptr (σ.length + (τ.length + 1)) 0), some (.ptr (σ.length + (τ.length + 2)) 0), q 8, some (.bool b), some (.int .i64 k), q 11, q 12, q 13, q 14, q 15, q 16, q 17, q 18, q 19, q 20, q 21, q 22, q 23, q 24, q 25, q 26, q 27, q 28, q 29, q 30, q 31, q 32, q 33, q 34, q 35, q 36, q 37, q 38, q 39, q 40, q 41, q 42, q 43, q 44, q 45, q 46, q 47, q 48, q 49, q 50, q 51, q 52, q 53, q 54, q 55, q 56, q 57, q 58, q 59, q 60, q 61, q 62, q 63, q 64, q 65, q 66, q 67, q 68, q 69, q 70, q 71, q 72, q 73, q 74, q 75, q 76, q 77, q 78, q 79, q 80, q 81, q 82, q 83, q 84, q 85, q 86, q 87, q 88, q 89, q 90, q 91, q 92, q 93, q 94, q 95, q 96, q 97, q 98, q 99, q 100, q 101, q 102, q 103, q 104, q 105, q 106, q 107, q 108, q 109, q 110, q 111, q 112, q 113, q 114, q 115, q 116, q 117, q 118, q 119, q 120, q 121, q 122, q 123, q 124, q 125, q 126, q 127, q 128, q 129, q 130, q 131, q 132, q 133, q 134, q 135, q 136, q 137, q 138, q 139, q 140, q 141, q 142, q 143, q 144, q 145, q 146, q 147, q 148, q 149, q 150, q 151, q 152, q 153, q 154, q 155, q 156, q 157, q 158, q 159, q 160, q 161, q 162, q 163, q 164, q 165, q 166, q 167, q 168, q 169, q 170, q 171, q 172, q 173, q 174, q 175, q 176, q 177, q 178, q 179, q 180, q 181, q 182, q 183, q 184, q 185, q 186, q 187, q 188, q 189, q 190, q 191, q 192, q 193, q 194, q 195, q 196, q 197, q 198, q 199, q 200]) (σ ++ (.cells (cfgC c) :: (τ ++ [.cells (portC (nth c.ports.l i)), .cells (linkC v)])))
        rcases Nat.lt_or_ge k v.to.l.length with hkl | hkg
        · repeat' (first
            | ((with_reducible refine WL_do fun Cw cw => ?_); (first | ((with_reducible first | apply O_move | apply O_assign | apply O_pickV | apply O_extract); (repeat rfl); (with_reducible apply cw); (focus ((try simp only [tput, List.set_cons_zero, List.set_cons_succ]); exact rfl))) | ((with_reducible first | apply O_load | apply O_fieldAddr | apply O_bin | apply O_indexAddr | apply O_len | apply O_un | apply O_store | apply O_alloc | apply O_box); (repeat rfl); simp (disch := omega) only [go_sem]; (with_reducible apply cw); (focus ((try simp only [tput, List.set_cons_zero, List.set_cons_succ]); exact rfl)))); clear cw Cw)
            | ((with_reducible apply WP_do); (focus (intro Kw kw; (first | ((with_reducible first | apply O_move | apply O_assign | apply O_pickV | apply O_extract); (repeat rfl); exact kw) | ((with_reducible first | apply O_load | apply O_fieldAddr | apply O_bin | apply O_indexAddr | apply O_len | apply O_un | apply O_store | apply O_alloc | apply O_box); (repeat rfl); simp (disch := omega) only [go_sem]; exact kw)))); (focus ((try simp only [tput, List.set_cons_zero, List.set_cons_succ]); exact rfl)))
            | ((with_reducible apply WL_if); (focus rfl); (focus ((try simp only [tput, List.set_cons_zero, List.set_cons_succ]); exact rfl)))
            | ((with_reducible apply WL_un); (focus rfl); (focus ((try simp only [tput, List.set_cons_zero, List.set_cons_succ]); exact rfl)))
            | ((with_reducible refine WL_nil (hK _ _ ?_)); clear hK K)
            | ((with_reducible apply WP_if); (focus rfl); (focus ((try simp only [tput, List.set_cons_zero, List.set_cons_succ]); exact rfl)))
            | ((with_reducible apply WP_un); (focus rfl); (focus ((try simp only [tput, List.set_cons_zero, List.set_cons_succ]); exact rfl)))
            | ((with_reducible apply WP_pick); (focus rfl); (focus rfl); (focus rfl); (focus ((try simp only [tput, List.set_cons_zero, List.set_cons_succ]); exact rfl)); (focus ((try simp only [tput, List.set_cons_zero, List.set_cons_succ]); exact rfl)))
            | ((with_reducible refine WP_nil (hK _ _ ?_)); clear hK K)
            | ((with_reducible first | refine T_reg_seq fun K hK => ?_ | refine T_reg_end fun K hK => ?_); simp only [List.toList_toArray, List.append_eq, List.cons_append, List.nil_append])
            | ((with_reducible first | refine T_pure_seq ?_ ?_ (fun K hK => ?_) | refine T_pure_end ?_ ?_ (fun K hK => ?_)); (focus kernel_rfl); (focus kernel_rfl); simp only [List.toList_toArray, List.append_eq, List.cons_append, List.nil_append])
            | ((with_reducible first | apply T_cond_seq | apply T_cond); (focus rfl))
            | (intro hg; (first | (simp only [Bool.not_true, Bool.not_false, Bool.true_eq_false, Bool.false_eq_true] at hg; done) | ((try simp only [Bool.not_true, Bool.not_false, eq_self] at hg); (have hh : True := hg); clear hh hg) | ((try simp only [Bool.not_true, Bool.not_false] at hg); (try (have hh := hg; simp only [hh]; clear hh)); (try simp only [decide_eq_true_eq, decide_eq_false_iff_not, Bool.not_true, Bool.not_false, Bool.not_eq_true', Bool.not_eq_false', Bool.and_eq_true, Bool.or_eq_true, beq_iff_eq, bne_iff_ne, beq_eq_false_iff_ne, bne_eq_false_iff_eq, ne_eq, Decidable.not_not, Bool.or_eq_false_iff, Bool.and_eq_false_iff, gt_iff_lt, ge_iff_le, Int.not_lt, Int.not_le, Nat.not_lt, Nat.not_le] at hg); (try (exfalso; omega)))))
            | with_reducible first | refine T_seq_assoc ?_ | refine T_skip_seq ?_ | refine T_ret_seq ?_ | refine T_exit_seq ?_ | refine T_ret ?_ | refine T_skip ?_ | refine T_exit ?_ | refine T_block_seq fun Kb hKb => ?_ | refine T_block ?_
            | (simp only [TX.inBlock, TX.then, if_true, if_false, Nat.reduceEqDiff, ite_true, ite_false])
            | ((with_reducible first | refine hR _ _ (fun C cc => ?_) | refine hN _ _ (fun C cc => ?_)); simp (disch := omega) only [go_sem]; (with_reducible apply cc); clear cc C; (first | refine Ends.more rfl ?_ | refine Ends.same rfl ?_ | refine Ends.more (by simp only [go_sem, Bool.and_self]) ?_ | refine Ends.same (by simp only [go_sem, Bool.and_self]) ?_); (try simp only [go_sem, Bool.and_self]))
            | (with_reducible apply_assumption -exfalso -symm only [*]))
          · refine ⟨(k + 1, (nth v.to.l k == (nth c.ports.l i).host)), ?_, ⟨rfl, rfl, rfl, rfl, rfl, rfl, trivial⟩, ⟨?_, ?_⟩, (by first | rfl | trivial)⟩
            · dsimp only; omega
            · omega
            · have hbf : b = false := by assumption
              subst hbf
              simp only [Bool.false_eq_true, false_iff, not_exists, not_and] at hb
              dsimp only
              constructor
              · intro h; exact ⟨k, by omega, by simpa using h⟩
              · rintro ⟨j, hj, e⟩
                rcases Nat.lt_or_ge j k with h1 | h1
                · exact absurd e (hb j h1)
                · obtain rfl : j = k := by omega
                  simpa using e
          · refine ⟨(k + 1, true), ?_, ⟨rfl, rfl, rfl, rfl, rfl, rfl, trivial⟩, ⟨?_, ?_⟩, (by first | rfl | trivial)⟩
            · dsimp only; omega
            · omega
            · obtain ⟨j, hj, e⟩ := hb.1 (by assumption)
              exact ⟨fun _ => ⟨j, by dsimp only; omega, e⟩, fun _ => rfl⟩
        · have hbc : b = v.to.l.contains (nth c.ports.l i).host := by
            rw [Bool.eq_iff_iff, hb, List.contains_iff_mem]
            constructor
            · rintro ⟨j, hj, e⟩; rw [← e]; exact nth_mem (by omega)
            · intro hm
              obtain ⟨j, hj, e⟩ := List.getElem_of_mem hm
              exact ⟨j, by omega, by rw [nth_eq hj]; exact e⟩
          obtain ⟨⟨q1, q2⟩, _, _⟩ := And.intro (hc.ports _ (nth_mem hlt)).2.2.2.2.2.2.2.1 (And.intro trivial trivial)
          cases ho : (nth c.ports.l i).out with
          | true =>
            have hvh := f1 ho
            repeat' (first
              | ((with_reducible refine WL_do fun Cw cw => ?_); (first | ((with_reducible first | apply O_move | apply O_assign | apply O_pickV | apply O_extract); (repeat rfl); (with_reducible apply cw); (focus ((try simp only [tput, List.set_cons_zero, List.set_cons_succ]); exact rfl))) | ((with_reducible first | apply O_load | apply O_fieldAddr | apply O_bin | apply O_indexAddr | apply O_len | apply O_un | apply O_store | apply O_alloc | apply O_box); (repeat rfl); simp (disch := omega) only [go_sem, ho, hvh]; (with_reducible apply cw); (focus ((try simp only [tput, List.set_cons_zero, List.set_cons_succ]); exact rfl)))); clear cw Cw)
              | ((with_reducible apply WP_do); (focus (intro Kw kw; (first | ((with_reducible first | apply O_move | apply O_assign | apply O_pickV | apply O_extract); (repeat rfl); exact kw) | ((with_reducible first | apply O_load | apply O_fieldAddr | apply O_bin | apply O_indexAddr | apply O_len | apply O_un | apply O_store | apply O_alloc | apply O_box); (repeat rfl); simp (disch := omega) only [go_sem, ho, hvh]; exact kw)))); (focus ((try simp only [tput, List.set_cons_zero, List.set_cons_succ]); exact rfl)))
              | ((with_reducible apply WL_if); (focus rfl); (focus ((try simp only [tput, List.set_cons_zero, List.set_cons_succ]); exact rfl)))
              | ((with_reducible apply WL_un); (focus rfl); (focus ((try simp only [tput, List.set_cons_zero, List.set_cons_succ]); exact rfl)))
              | ((with_reducible refine WL_nil (hK _ _ ?_)); clear hK K)
              | ((with_reducible apply WP_if); (focus rfl); (focus ((try simp only [tput, List.set_cons_zero, List.set_cons_succ]); exact rfl)))
              | ((with_reducible apply WP_un); (focus rfl); (focus ((try simp only [tput, List.set_cons_zero, List.set_cons_succ]); exact rfl)))
              | ((with_reducible apply WP_pick); (focus rfl); (focus rfl); (focus rfl); (focus ((try simp only [tput, List.set_cons_zero, List.set_cons_succ]); exact rfl)); (focus ((try simp only [tput, List.set_cons_zero, List.set_cons_succ]); exact rfl)))
              | ((with_reducible refine WP_nil (hK _ _ ?_)); clear hK K)
              | ((with_reducible first | refine T_reg_seq fun K hK => ?_ | refine T_reg_end fun K hK => ?_); simp only [List.toList_toArray, List.append_eq, List.cons_append, List.nil_append])
              | ((with_reducible first | refine T_pure_seq ?_ ?_ (fun K hK => ?_) | refine T_pure_end ?_ ?_ (fun K hK => ?_)); (focus kernel_rfl); (focus kernel_rfl); simp only [List.toList_toArray, List.append_eq, List.cons_append, List.nil_append])
              | ((with_reducible first | apply T_cond_seq | apply T_cond); (focus rfl))
              | (intro hg; (first | (simp only [Bool.not_true, Bool.not_false, Bool.true_eq_false, Bool.false_eq_true] at hg; done) | ((try simp only [Bool.not_true, Bool.not_false, eq_self] at hg); (have hh : True := hg); clear hh hg) | ((try simp only [Bool.not_true, Bool.not_false] at hg); (try (have hh := hg; simp only [hh]; clear hh)); (try simp only [decide_eq_true_eq, decide_eq_false_iff_not, Bool.not_true, Bool.not_false, Bool.not_eq_true', Bool.not_eq_false', Bool.and_eq_true, Bool.or_eq_true, beq_iff_eq, bne_iff_ne, beq_eq_false_iff_ne, bne_eq_false_iff_eq, ne_eq, Decidable.not_not, Bool.or_eq_false_iff, Bool.and_eq_false_iff, gt_iff_lt, ge_iff_le, Int.not_lt, Int.not_le, Nat.not_lt, Nat.not_le] at hg); (try (exfalso; omega)))))
              | with_reducible first | refine T_seq_assoc ?_ | refine T_skip_seq ?_ | refine T_ret_seq ?_ | refine T_exit_seq ?_ | refine T_ret ?_ | refine T_skip ?_ | refine T_exit ?_ | refine T_block_seq fun Kb hKb => ?_ | refine T_block ?_
              | (simp only [TX.inBlock, TX.then, if_true, if_false, Nat.reduceEqDiff, ite_true, ite_false])
              | ((with_reducible first | refine hR _ _ (fun C cc => ?_) | refine hN _ _ (fun C cc => ?_)); simp (disch := omega) only [go_sem, ho, hvh]; (with_reducible apply cc); clear cc C; (first | refine Ends.more rfl ?_ | refine Ends.same rfl ?_ | refine Ends.more (by simp only [go_sem, Bool.and_self]) ?_ | refine Ends.same (by simp only [go_sem, Bool.and_self]) ?_); (try simp only [go_sem, Bool.and_self]))
              | (with_reducible apply_assumption -exfalso -symm only [*]))
            all_goals (refine ⟨(i + 1, τ ++ [_, _]), ?_, ⟨rfl, rfl, trivial⟩, ?_, rfl⟩ <;> (try dsimp only) <;> omega)
          | false =>
            have hbt : b = true := hbc.trans (f2 ho)
            subst hbt
            repeat' (first
              | ((with_reducible refine WL_do fun Cw cw => ?_); (first | ((with_reducible first | apply O_move | apply O_assign | apply O_pickV | apply O_extract); (repeat rfl); (with_reducible apply cw); (focus ((try simp only [tput, List.set_cons_zero, List.set_cons_succ]); exact rfl))) | ((with_reducible first | apply O_load | apply O_fieldAddr | apply O_bin | apply O_indexAddr | apply O_len | apply O_un | apply O_store | apply O_alloc | apply O_box); (repeat rfl); simp (disch := omega) only [go_sem, ho]; (with_reducible apply cw); (focus ((try simp only [tput, List.set_cons_zero, List.set_cons_succ]); exact rfl)))); clear cw Cw)
              | ((with_reducible apply WP_do); (focus (intro Kw kw; (first | ((with_reducible first | apply O_move | apply O_assign | apply O_pickV | apply O_extract); (repeat rfl); exact kw) | ((with_reducible first | apply O_load | apply O_fieldAddr | apply O_bin | apply O_indexAddr | apply O_len | apply O_un | apply O_store | apply O_alloc | apply O_box); (repeat rfl); simp (disch := omega) only [go_sem, ho]; exact kw)))); (focus ((try simp only [tput, List.set_cons_zero, List.set_cons_succ]); exact rfl)))
              | ((with_reducible apply WL_if); (focus rfl); (focus ((try simp only [tput, List.set_cons_zero, List.set_cons_succ]); exact rfl)))
              | ((with_reducible apply WL_un); (focus rfl); (focus ((try simp only [tput, List.set_cons_zero, List.set_cons_succ]); exact rfl)))
              | ((with_reducible refine WL_nil (hK _ _ ?_)); clear hK K)
              | ((with_reducible apply WP_if); (focus rfl); (focus ((try simp only [tput, List.set_cons_zero, List.set_cons_succ]); exact rfl)))
              | ((with_reducible apply WP_un); (focus rfl); (focus ((try simp only [tput, List.set_cons_zero, List.set_cons_succ]); exact rfl)))
              | ((with_reducible apply WP_pick); (focus rfl); (focus rfl); (focus rfl); (focus ((try simp only [tput, List.set_cons_zero, List.set_cons_succ]); exact rfl)); (focus ((try simp only [tput, List.set_cons_zero, List.set_cons_succ]); exact rfl)))
              | ((with_reducible refine WP_nil (hK _ _ ?_)); clear hK K)
              | ((with_reducible first | refine T_reg_seq fun K hK => ?_ | refine T_reg_end fun K hK => ?_); simp only [List.toList_toArray, List.append_eq, List.cons_append, List.nil_append])
              | ((with_reducible first | refine T_pure_seq ?_ ?_ (fun K hK => ?_) | refine T_pure_end ?_ ?_ (fun K hK => ?_)); (focus kernel_rfl); (focus kernel_rfl); simp only [List.toList_toArray, List.append_eq, List.cons_append, List.nil_append])
              | ((with_reducible first | apply T_cond_seq | apply T_cond); (focus rfl))
              | (intro hg; (first | (simp only [Bool.not_true, Bool.not_false, Bool.true_eq_false, Bool.false_eq_true] at hg; done) | ((try simp only [Bool.not_true, Bool.not_false, eq_self] at hg); (have hh : True := hg); clear hh hg) | ((try simp only [Bool.not_true, Bool.not_false] at hg); (try (have hh := hg; simp only [hh]; clear hh)); (try simp only [decide_eq_true_eq, decide_eq_false_iff_not, Bool.not_true, Bool.not_false, Bool.not_eq_true', Bool.not_eq_false', Bool.and_eq_true, Bool.or_eq_true, beq_iff_eq, bne_iff_ne, beq_eq_false_iff_ne, bne_eq_false_iff_eq, ne_eq, Decidable.not_not, Bool.or_eq_false_iff, Bool.and_eq_false_iff, gt_iff_lt, ge_iff_le, Int.not_lt, Int.not_le, Nat.not_lt, Nat.not_le] at hg); (try (exfalso; omega)))))
              | with_reducible first | refine T_seq_assoc ?_ | refine T_skip_seq ?_ | refine T_ret_seq ?_ | refine T_exit_seq ?_ | refine T_ret ?_ | refine T_skip ?_ | refine T_exit ?_ | refine T_block_seq fun Kb hKb => ?_ | refine T_block ?_
              | (simp only [TX.inBlock, TX.then, if_true, if_false, Nat.reduceEqDiff, ite_true, ite_false])
              | ((with_reducible first | refine hR _ _ (fun C cc => ?_) | refine hN _ _ (fun C cc => ?_)); simp (disch := omega) only [go_sem, ho]; (with_reducible apply cc); clear cc C; (first | refine Ends.more rfl ?_ | refine Ends.same rfl ?_ | refine Ends.more (by simp only [go_sem, Bool.and_self]) ?_ | refine Ends.same (by simp only [go_sem, Bool.and_self]) ?_); (try simp only [go_sem, Bool.and_self]))
              | (with_reducible apply_assumption -exfalso -symm only [*]))
            all_goals (refine ⟨(i + 1, τ ++ [_, _]), ?_, ⟨rfl, rfl, trivial⟩, ?_, rfl⟩ <;> (try dsimp only) <;> omega)
      · obtain rfl : i = c.ports.l.length := by omega
        repeat' (first
          | ((with_reducible refine WL_do fun Cw cw => ?_); (first | ((with_reducible first | apply O_move | apply O_assign | apply O_pickV | apply O_extract); (repeat rfl); (with_reducible apply cw); (focus ((try simp only [tput, List.set_cons_zero, List.set_cons_succ]); exact rfl))) | ((with_reducible first | apply O_load | apply O_fieldAddr | apply O_bin | apply O_indexAddr | apply O_len | apply O_un | apply O_store | apply O_alloc | apply O_box); (repeat rfl); simp (disch := omega) only [go_sem]; (with_reducible apply cw); (focus ((try simp only [tput, List.set_cons_zero, List.set_cons_succ]); exact rfl)))); clear cw Cw)
          | ((with_reducible apply WP_do); (focus (intro Kw kw; (first | ((with_reducible first | apply O_move | apply O_assign | apply O_pickV | apply O_extract); (repeat rfl); exact kw) | ((with_reducible first | apply O_load | apply O_fieldAddr | apply O_bin | apply O_indexAddr | apply O_len | apply O_un | apply O_store | apply O_alloc | apply O_box); (repeat rfl); simp (disch := omega) only [go_sem]; exact kw)))); (focus ((try simp only [tput, List.set_cons_zero, List.set_cons_succ]); exact rfl)))
          | ((with_reducible apply WL_if); (focus rfl); (focus ((try simp only [tput, List.set_cons_zero, List.set_cons_succ]); exact rfl)))
          | ((with_reducible apply WL_un); (focus rfl); (focus ((try simp only [tput, List.set_cons_zero, List.set_cons_succ]); exact rfl)))
          | ((with_reducible refine WL_nil (hK _ _ ?_)); clear hK K)
          | ((with_reducible apply WP_if); (focus rfl); (focus ((try simp only [tput, List.set_cons_zero, List.set_cons_succ]); exact rfl)))
          | ((with_reducible apply WP_un); (focus rfl); (focus ((try simp only [tput, List.set_cons_zero, List.set_cons_succ]); exact rfl)))
          | ((with_reducible apply WP_pick); (focus rfl); (focus rfl); (focus rfl); (focus ((try simp only [tput, List.set_cons_zero, List.set_cons_succ]); exact rfl)); (focus ((try simp only [tput, List.set_cons_zero, List.set_cons_succ]); exact rfl)))
          | ((with_reducible refine WP_nil (hK _ _ ?_)); clear hK K)
          | ((with_reducible first | refine T_reg_seq fun K hK => ?_ | refine T_reg_end fun K hK => ?_); simp only [List.toList_toArray, List.append_eq, List.cons_append, List.nil_append])
          | ((with_reducible first | refine T_pure_seq ?_ ?_ (fun K hK => ?_) | refine T_pure_end ?_ ?_ (fun K hK => ?_)); (focus kernel_rfl); (focus kernel_rfl); simp only [List.toList_toArray, List.append_eq, List.cons_append, List.nil_append])
          | ((with_reducible first | apply T_cond_seq | apply T_cond); (focus rfl))
          | (intro hg; (first | (simp only [Bool.not_true, Bool.not_false, Bool.true_eq_false, Bool.false_eq_true] at hg; done) | ((try simp only [Bool.not_true, Bool.not_false, eq_self] at hg); (have hh : True := hg); clear hh hg) | ((try simp only [Bool.not_true, Bool.not_false] at hg); (try (have hh := hg; simp only [hh]; clear hh)); (try simp only [decide_eq_true_eq, decide_eq_false_iff_not, Bool.not_true, Bool.not_false, Bool.not_eq_true', Bool.not_eq_false', Bool.and_eq_true, Bool.or_eq_true, beq_iff_eq, bne_iff_ne, beq_eq_false_iff_ne, bne_eq_false_iff_eq, ne_eq, Decidable.not_not, Bool.or_eq_false_iff, Bool.and_eq_false_iff, gt_iff_lt, ge_iff_le, Int.not_lt, Int.not_le, Nat.not_lt, Nat.not_le] at hg); (try (exfalso; omega)))))
          | with_reducible first | refine T_seq_assoc ?_ | refine T_skip_seq ?_ | refine T_ret_seq ?_ | refine T_exit_seq ?_ | refine T_ret ?_ | refine T_skip ?_ | refine T_exit ?_ | refine T_block_seq fun Kb hKb => ?_ | refine T_block ?_
          | (simp only [TX.inBlock, TX.then, if_true, if_false, Nat.reduceEqDiff, ite_true, ite_false])
          | ((with_reducible first | refine hR _ _ (fun C cc => ?_) | refine hN _ _ (fun C cc => ?_)); simp (disch := omega) only [go_sem]; (with_reducible apply cc); clear cc C; (first | refine Ends.more rfl ?_ | refine Ends.same rfl ?_ | refine Ends.more (by simp only [go_sem, Bool.and_self]) ?_ | refine Ends.same (by simp only [go_sem, Bool.and_self]) ?_); (try simp only [go_sem, Bool.and_self]))
          | (with_reducible apply_assumption -exfalso -symm only [*]))
        refine T_each (α := Nat × TS) (fun (i, τ) => [none, some (some (.ptr σ.length 0)), none, none, none, none, none, none, none, none, none, some (some (.int .i64 i)), none, none, none, none, none, none, none, none, none, none, none, none, none, none, none, none, none, none, none, none, none, none, none, none, none, none, none, none, none, none, none, none, none, none, none, none, none, none, none, none, none, none, none, none, none, none, none, none, none, none, none, none, none, none, none, none, none, none, none, none, none, none, none, none, none, none, none, none, none, none, none, none, none, none, none, none, none, none, none, none, none, none, none, none, none, none, none, none, none, none, none, none, none, none, none, none, none, none, none, none, none, none, none, none, none, none, none, none, none, none, none, none, none, none, none, none, none, none, none, none, none, none, none, none, none, none, none, none, none, none, none, none, none, none, none, none, none, none, none, none, none, none, none, none, none, none, none, none, none, none, none, none, none, none, none, none, none, none, none, none, none, none, none, none, none, none, none, none, none, none, none, none, none, none, none, none, none, none, none, none, none, none, none, none, none, none, none, none, none]) (fun (i, τ) => i ≤ c.wins.l.length) (fun (i, τ) => c.wins.l.length - i) (fun (i, τ) => σ ++ (.cells (cfgC c) :: τ)) ?_ ?_
        · refine ⟨(0, τ), ⟨rfl, rfl, trivial⟩, ?_, rfl⟩
          omega
        rintro ⟨i, τ⟩ q hwi
        show Tw _ _ _ _ ([q 0, some (.ptr σ.length 0), q 2, q 3, q 4, q 5, q 6, q 7, q 8, q 9, q 10, some (.int .i64 i), q 12, q 13, q 14, q 15, q 16, q 17, q 18, q 19, q 20, q 21, q 22, q 23, q 24, q 25, q 26, q 27, q 28, q 29, q 30, q 31, q 32, q 33, q 34, q 35, q 36, q 37, q 38, q 39, q 40, q 41, q 42, q 43, q 44, q 45, q 46, q 47, q 48, q 49, q 50, q 51, q 52, q 53, q 54, q 55, q 56, q 57, q 58, q 59, q 60, q 61, q 62, q 63, q 64, q 65, q 66, q 67, q 68, q 69, q 70, q 71, q 72, q 73, q 74, q 75, q 76, q 77, q 78, q 79, q 80, q 81, q 82, q 83, q 84, q 85, q 86, q 87, q 88, q 89, q 90, q 91, q 92, q 93, q 94, q 95, q 96, q 97, q 98, q 99, q 100, q 101, q 102, q 103, q 104, q 105, q 106, q 107, q 108, q 109, q 110, q 111, q 112, q 113, q 114, q 115, q 116, q 117, q 118, q 119, q 120, q 121, q 122, q 123, q 124, q 125, q 126, q 127, q 128, q 129, q 130, q 131, q 132, q 133, q 134, q 135, q 136, q 137, q 138, q 139, q 140, q 141, q 142, q 143, q 144, q 145, q 146, q 147, q 148, q 149, q 150, q 151, q 152, q 153, q 154, q 155, q 156, q 157, q 158, q 159, q 160, q 161, q 162, q 163, q 164, q 165, q 166, q 167, q 168, q 169, q 170, q 171, q 172, q 173, q 174, q 175, q 176, q 177, q 178, q 179, q 180, q 181, q 182, q 183, q 184, q 185, q 186, q 187, q 188, q 189, q 190, q 191, q 192, q 193, q 194, q 195, q 196, q 197, q 198, q 199, q 200]) (σ ++ (.cells (cfgC c) :: τ))
        rcases Nat.lt_or_ge i c.wins.l.length with hil | hig
        · repeat' (first
            | ((with_reducible refine WL_do fun Cw cw => ?_); (first | ((with_reducible first | apply O_move | apply O_assign | apply O_pickV | apply O_extract); (repeat rfl); (with_reducible apply cw); (focus ((try simp only [tput, List.set_cons_zero, List.set_cons_succ]); exact rfl))) | ((with_reducible first | apply O_load | apply O_fieldAddr | apply O_bin | apply O_indexAddr | apply O_len | apply O_un | apply O_store | apply O_alloc | apply O_box); (repeat rfl); simp (disch := omega) only [go_sem]; (with_reducible apply cw); (focus ((try simp only [tput, List.set_cons_zero, List.set_cons_succ]); exact rfl)))); clear cw Cw)
            | ((with_reducible apply WP_do); (focus (intro Kw kw; (first | ((with_reducible first | apply O_move | apply O_assign | apply O_pickV | apply O_extract); (repeat rfl); exact kw) | ((with_reducible first | apply O_load | apply O_fieldAddr | apply O_bin | apply O_indexAddr | apply O_len | apply O_un | apply O_store | apply O_alloc | apply O_box); (repeat rfl); simp (disch := omega) only [go_sem]; exact kw)))); (focus ((try simp only [tput, List.set_cons_zero, List.set_cons_succ]); exact rfl)))
            | ((with_reducible apply WL_if); (focus rfl); (focus ((try simp only [tput, List.set_cons_zero, List.set_cons_succ]); exact rfl)))
            | ((with_reducible apply WL_un); (focus rfl); (focus ((try simp only [tput, List.set_cons_zero, List.set_cons_succ]); exact rfl)))
            | ((with_reducible refine WL_nil (hK _ _ ?_)); clear hK K)
            | ((with_reducible apply WP_if); (focus rfl); (focus ((try simp only [tput, List.set_cons_zero, List.set_cons_succ]); exact rfl)))
            | ((with_reducible apply WP_un); (focus rfl); (focus ((try simp only [tput, List.set_cons_zero, List.set_cons_succ]); exact rfl)))
            | ((with_reducible apply WP_pick); (focus rfl); (focus rfl); (focus rfl); (focus ((try simp only [tput, List.set_cons_zero, List.set_cons_succ]); exact rfl)); (focus ((try simp only [tput, List.set_cons_zero, List.set_cons_succ]); exact rfl)))
            | ((with_reducible refine WP_nil (hK _ _ ?_)); clear hK K)
            | ((with_reducible first | refine T_reg_seq fun K hK => ?_ | refine T_reg_end fun K hK => ?_); simp only [List.toList_toArray, List.append_eq, List.cons_append, List.nil_append])
            | ((with_reducible first | refine T_pure_seq ?_ ?_ (fun K hK => ?_) | refine T_pure_end ?_ ?_ (fun K hK => ?_)); (focus kernel_rfl); (focus kernel_rfl); simp only [List.toList_toArray, List.append_eq, List.cons_append, List.nil_append])
            | ((with_reducible first | apply T_cond_seq | apply T_cond); (focus rfl))
            | (intro hg; (first | (simp only [Bool.not_true, Bool.not_false, Bool.true_eq_false, Bool.false_eq_true] at hg; done) | ((try simp only [Bool.not_true, Bool.not_false, eq_self] at hg); (have hh : True := hg); clear hh hg) | ((try simp only [Bool.not_true, Bool.not_false] at hg); (try (have hh := hg; simp only [hh]; clear hh)); (try simp only [decide_eq_true_eq, decide_eq_false_iff_not, Bool.not_true, Bool.not_false, Bool.not_eq_true', Bool.not_eq_false', Bool.and_eq_true, Bool.or_eq_true, beq_iff_eq, bne_iff_ne, beq_eq_false_iff_ne, bne_eq_false_iff_eq, ne_eq, Decidable.not_not, Bool.or_eq_false_iff, Bool.and_eq_false_iff, gt_iff_lt, ge_iff_le, Int.not_lt, Int.not_le, Nat.not_lt, Nat.not_le] at hg); (try (exfalso; omega)))))
            | with_reducible first | refine T_seq_assoc ?_ | refine T_skip_seq ?_ | refine T_ret_seq ?_ | refine T_exit_seq ?_ | refine T_ret ?_ | refine T_skip ?_ | refine T_exit ?_ | refine T_block_seq fun Kb hKb => ?_ | refine T_block ?_
            | (simp only [TX.inBlock, TX.then, if_true, if_false, Nat.reduceEqDiff, ite_true, ite_false])
            | ((with_reducible first | refine hR _ _ (fun C cc => ?_) | refine hN _ _ (fun C cc => ?_)); simp (disch := omega) only [go_sem]; (with_reducible apply cc); clear cc C; (first | refine Ends.more rfl ?_ | refine Ends.same rfl ?_ | refine Ends.more (by simp only [go_sem, Bool.and_self]) ?_ | refine Ends.same (by simp only [go_sem, Bool.and_self]) ?_); (try simp only [go_sem, Bool.and_self]))
            | (with_reducible apply_assumption -exfalso -symm only [*]))
          refine T_each (α := Nat × TS) (fun (k, τ) => [none, some (some (.ptr σ.length 0)), none, none, none, none, none, none, none, none, none, some (some (.int .i64 i)), some (some (.int .i64 k)), none, none, none, none, none, none, none, none, none, none, none, none, none, none, none, none, none, none, none, none, none, none, none, none, none, none, none, none, none, none, none, none, none, none, none, none, none, none, none, none, none, none, none, none, none, none, none, none, none, none, none, none, none, none, none, none, none, none, none, none, none, none, none, none, none, none, none, none, none, none, none, none, none, none, none, none, none, none, none, none, none, none, none, none, none, none, none, none, none, none, none, none, none, none, none, none, none, none, none, none, none, none, none, none, none, none, none, none, none, none, none, none, none, none, none, none, none, none, none, none, none, none, none, none, none, none, none, none, none, none, none, none, none, none, none, none, none, none, none, none, none, none, none, none, none, none, none, none, none, none, none, none, none, none, none, none, none, none, none, none, none, none, none, none, none, none, none, none, none, none, none, none, none, none, none, none, none, none, none, none, none, none, none, none, none, none, none, none]) (fun (k, τ) => k ≤ i) (fun (k, τ) => i - k) (fun (k, τ) => σ ++ (.cells (cfgC c) :: τ)) ?_ ?_
          · refine ⟨(0, τ), ⟨rfl, rfl, rfl, trivial⟩, ?_, rfl⟩
            omega
          rintro ⟨k, τ⟩ q hki
          show Tw _ _ _ _ ([q 0, some (.ptr σ.length 0), q 2, q 3, q 4, q 5, q 6, q 7, q 8, q 9, q 10, some (.int .i64 i), some (.int .i64 k), q 13, q 14, q 15, q 16, q 17, q 18, q 19, q 20, q 21, q 22, q 23, q 24, q 25, q 26, q 27, q 28, q 29, q 30, q 31, q 32, q 33, q 34, q 35, q 36, q 37, q 38, q 39, q 40, q 41, q 42, q 43, q 44, q 45, q 46, q 47, q 48, q 49, q 50, q 51, q 52, q 53, q 54, q 55, q 56, q 57, q 58, q 59, q 60, q 61, q 62, q 63, q 64, q 65, q 66, q 67, q 68, q 69, q 70, q 71, q 72, q 73, q 74, q 75, q 76, q 77, q 78, q 79, q 80, q 81, q 82, q 83, q 84, q 85, q 86, q 87, q 88, q 89, q 90, q 91, q 92, q 93, q 94, q 95, q 96, q 97, q 98, q 99, q 100, q 101, q 102, q 103, q 104, q 105, q 106, q 107, q 108, q 109, q 110, q 111, q 112, q 113, q 114, q 115, q 116, q 117, q 118, q 119, q 120, q 121, q 122, q 123, q 124, q 125, q 126, q 127, q 128, q 129, q 130, q 131, q 132, q 133, q 134, q 135, q 136, q 137, q 138, q 139, q 140, q 141, q 142, q 143, q 144, q 145, q 146, q 147, q 148, q 149, q 150, q 151, q 152, q 153, q 154, q 155, q 156, q 157, q 158, q 159, q 160, q 161, q 162, q 163, q 164, q 165, q 166, q 167, q 168, q 169, q 170, q 171, q 172, q 173, q 174, q 175, q 176, q 177, q 178, q 179, q 180, q 181, q 182, q 183, q 184, q 185, q 186, q 187, q 188, q 189, q 190, q 191, q 192, q 193, q 194, q 195, q 196, q 197, q 198, q 199, q 200]) (σ ++ (.cells (cfgC c) :: τ))
          rcases Nat.lt_or_ge k i with hkl | hkg
          · obtain ⟨_, a1, a2, a3, a4, a5, _⟩ := winS_zero (hok.wins k (by omega))
            obtain ⟨_, b1, b2, b3, b4, b5, b6⟩ := winS_zero (hok.wins i hil)
            have hM := hok.major
            have hap : nth c.parts.l (nth c.wins.l k).part.toNat = nth c.parts.l (nth c.wins.l i).part.toNat → (nth c.wins.l k).begin_ + (nth c.wins.l k).long ≤ (nth c.wins.l i).begin_ := fun e => by
              have := wins_apart (nth c.parts.l (nth c.wins.l i).part.toNat) i (fun k hk => hok.wins k (by omega)) k hkl e
              omega
            repeat' (first
              | ((with_reducible refine WL_do fun Cw cw => ?_); (first | ((with_reducible first | apply O_move | apply O_assign | apply O_pickV | apply O_extract); (repeat rfl); (with_reducible apply cw); (focus ((try simp only [tput, List.set_cons_zero, List.set_cons_succ]); exact rfl))) | ((with_reducible first | apply O_load | apply O_fieldAddr | apply O_bin | apply O_indexAddr | apply O_len | apply O_un | apply O_store | apply O_alloc | apply O_box); (repeat rfl); simp (disch := omega) only [go_sem]; (with_reducible apply cw); (focus ((try simp only [tput, List.set_cons_zero, List.set_cons_succ]); exact rfl)))); clear cw Cw)
              | ((with_reducible apply WP_do); (focus (intro Kw kw; (first | ((with_reducible first | apply O_move | apply O_assign | apply O_pickV | apply O_extract); (repeat rfl); exact kw) | ((with_reducible first | apply O_load | apply O_fieldAddr | apply O_bin | apply O_indexAddr | apply O_len | apply O_un | apply O_store | apply O_alloc | apply O_box); (repeat rfl); simp (disch := omega) only [go_sem]; exact kw)))); (focus ((try simp only [tput, List.set_cons_zero, List.set_cons_succ]); exact rfl)))
              | ((with_reducible apply WL_if); (focus rfl); (focus ((try simp only [tput, List.set_cons_zero, List.set_cons_succ]); exact rfl)))
              | ((with_reducible apply WL_un); (focus rfl); (focus ((try simp only [tput, List.set_cons_zero, List.set_cons_succ]); exact rfl)))
              | ((with_reducible refine WL_nil (hK _ _ ?_)); clear hK K)
              | ((with_reducible apply WP_if); (focus rfl); (focus ((try simp only [tput, List.set_cons_zero, List.set_cons_succ]); exact rfl)))
              | ((with_reducible apply WP_un); (focus rfl); (focus ((try simp only [tput, List.set_cons_zero, List.set_cons_succ]); exact rfl)))
              | ((with_reducible apply WP_pick); (focus rfl); (focus rfl); (focus rfl); (focus ((try simp only [tput, List.set_cons_zero, List.set_cons_succ]); exact rfl)); (focus ((try simp only [tput, List.set_cons_zero, List.set_cons_succ]); exact rfl)))
              | ((with_reducible refine WP_nil (hK _ _ ?_)); clear hK K)
              | ((with_reducible first | refine T_reg_seq fun K hK => ?_ | refine T_reg_end fun K hK => ?_); simp only [List.toList_toArray, List.append_eq, List.cons_append, List.nil_append])
              | ((with_reducible first | refine T_pure_seq ?_ ?_ (fun K hK => ?_) | refine T_pure_end ?_ ?_ (fun K hK => ?_)); (focus kernel_rfl); (focus kernel_rfl); simp only [List.toList_toArray, List.append_eq, List.cons_append, List.nil_append])
              | ((with_reducible first | apply T_cond_seq | apply T_cond); (focus rfl))
              | (intro hg; (first | (simp only [Bool.not_true, Bool.not_false, Bool.true_eq_false, Bool.false_eq_true] at hg; done) | ((try simp only [Bool.not_true, Bool.not_false, eq_self] at hg); (have hh : True := hg); clear hh hg) | ((try simp only [Bool.not_true, Bool.not_false] at hg); (try (have hh := hg; simp only [hh]; clear hh)); (try simp only [decide_eq_true_eq, decide_eq_false_iff_not, Bool.not_true, Bool.not_false, Bool.not_eq_true', Bool.not_eq_false', Bool.and_eq_true, Bool.or_eq_true, beq_iff_eq, bne_iff_ne, beq_eq_false_iff_ne, bne_eq_false_iff_eq, ne_eq, Decidable.not_not, Bool.or_eq_false_iff, Bool.and_eq_false_iff, gt_iff_lt, ge_iff_le, Int.not_lt, Int.not_le, Nat.not_lt, Nat.not_le] at hg); (try (exfalso; omega)))))
              | with_reducible first | refine T_seq_assoc ?_ | refine T_skip_seq ?_ | refine T_ret_seq ?_ | refine T_exit_seq ?_ | refine T_ret ?_ | refine T_skip ?_ | refine T_exit ?_ | refine T_block_seq fun Kb hKb => ?_ | refine T_block ?_
              | (simp only [TX.inBlock, TX.then, if_true, if_false, Nat.reduceEqDiff, ite_true, ite_false])
              | ((with_reducible first | refine hR _ _ (fun C cc => ?_) | refine hN _ _ (fun C cc => ?_)); simp (disch := omega) only [go_sem]; (with_reducible apply cc); clear cc C; (first | refine Ends.more rfl ?_ | refine Ends.same rfl ?_ | refine Ends.more (by simp only [go_sem, Bool.and_self]) ?_ | refine Ends.same (by simp only [go_sem, Bool.and_self]) ?_); (try simp only [go_sem, Bool.and_self]))
              | (with_reducible apply_assumption -exfalso -symm only [*]))
            all_goals (refine ⟨(k + 1, τ ++ [_, _]), ?_, ⟨rfl, rfl, rfl, trivial⟩, ?_, rfl⟩ <;> (try dsimp only) <;> omega)
          · obtain rfl : k = i := by omega
            repeat' (first
              | ((with_reducible refine WL_do fun Cw cw => ?_); (first | ((with_reducible first | apply O_move | apply O_assign | apply O_pickV | apply O_extract); (repeat rfl); (with_reducible apply cw); (focus ((try simp only [tput, List.set_cons_zero, List.set_cons_succ]); exact rfl))) | ((with_reducible first | apply O_load | apply O_fieldAddr | apply O_bin | apply O_indexAddr | apply O_len | apply O_un | apply O_store | apply O_alloc | apply O_box); (repeat rfl); simp (disch := omega) only [go_sem]; (with_reducible apply cw); (focus ((try simp only [tput, List.set_cons_zero, List.set_cons_succ]); exact rfl)))); clear cw Cw)
              | ((with_reducible apply WP_do); (focus (intro Kw kw; (first | ((with_reducible first | apply O_move | apply O_assign | apply O_pickV | apply O_extract); (repeat rfl); exact kw) | ((with_reducible first | apply O_load | apply O_fieldAddr | apply O_bin | apply O_indexAddr | apply O_len | apply O_un | apply O_store | apply O_alloc | apply O_box); (repeat rfl); simp (disch := omega) only [go_sem]; exact kw)))); (focus ((try simp only [tput, List.set_cons_zero, List.set_cons_succ]); exact rfl)))
              | ((with_reducible apply WL_if); (focus rfl); (focus ((try simp only [tput, List.set_cons_zero, List.set_cons_succ]); exact rfl)))
              | ((with_reducible apply WL_un); (focus rfl); (focus ((try simp only [tput, List.set_cons_zero, List.set_cons_succ]); exact rfl)))
              | ((with_reducible refine WL_nil (hK _ _ ?_)); clear hK K)
              | ((with_reducible apply WP_if); (focus rfl); (focus ((try simp only [tput, List.set_cons_zero, List.set_cons_succ]); exact rfl)))
              | ((with_reducible apply WP_un); (focus rfl); (focus ((try simp only [tput, List.set_cons_zero, List.set_cons_succ]); exact rfl)))
              | ((with_reducible apply WP_pick); (focus rfl); (focus rfl); (focus rfl); (focus ((try simp only [tput, List.set_cons_zero, List.set_cons_succ]); exact rfl)); (focus ((try simp only [tput, List.set_cons_zero, List.set_cons_succ]); exact rfl)))
              | ((with_reducible refine WP_nil (hK _ _ ?_)); clear hK K)
              | ((with_reducible first | refine T_reg_seq fun K hK => ?_ | refine T_reg_end fun K hK => ?_); simp only [List.toList_toArray, List.append_eq, List.cons_append, List.nil_append])
              | ((with_reducible first | refine T_pure_seq ?_ ?_ (fun K hK => ?_) | refine T_pure_end ?_ ?_ (fun K hK => ?_)); (focus kernel_rfl); (focus kernel_rfl); simp only [List.toList_toArray, List.append_eq, List.cons_append, List.nil_append])
              | ((with_reducible first | apply T_cond_seq | apply T_cond); (focus rfl))
              | (intro hg; (first | (simp only [Bool.not_true, Bool.not_false, Bool.true_eq_false, Bool.false_eq_true] at hg; done) | ((try simp only [Bool.not_true, Bool.not_false, eq_self] at hg); (have hh : True := hg); clear hh hg) | ((try simp only [Bool.not_true, Bool.not_false] at hg); (try (have hh := hg; simp only [hh]; clear hh)); (try simp only [decide_eq_true_eq, decide_eq_false_iff_not, Bool.not_true, Bool.not_false, Bool.not_eq_true', Bool.not_eq_false', Bool.and_eq_true, Bool.or_eq_true, beq_iff_eq, bne_iff_ne, beq_eq_false_iff_ne, bne_eq_false_iff_eq, ne_eq, Decidable.not_not, Bool.or_eq_false_iff, Bool.and_eq_false_iff, gt_iff_lt, ge_iff_le, Int.not_lt, Int.not_le, Nat.not_lt, Nat.not_le] at hg); (try (exfalso; omega)))))
              | with_reducible first | refine T_seq_assoc ?_ | refine T_skip_seq ?_ | refine T_ret_seq ?_ | refine T_exit_seq ?_ | refine T_ret ?_ | refine T_skip ?_ | refine T_exit ?_ | refine T_block_seq fun Kb hKb => ?_ | refine T_block ?_
              | (simp only [TX.inBlock, TX.then, if_true, if_false, Nat.reduceEqDiff, ite_true, ite_false])
              | ((with_reducible first | refine hR _ _ (fun C cc => ?_) | refine hN _ _ (fun C cc => ?_)); simp (disch := omega) only [go_sem]; (with_reducible apply cc); clear cc C; (first | refine Ends.more rfl ?_ | refine Ends.same rfl ?_ | refine Ends.more (by simp only [go_sem, Bool.and_self]) ?_ | refine Ends.same (by simp only [go_sem, Bool.and_self]) ?_); (try simp only [go_sem, Bool.and_self]))
              | (with_reducible apply_assumption -exfalso -symm only [*]))
            · refine ⟨(k + 1, τ), ?_, ⟨rfl, rfl, trivial⟩, ?_, rfl⟩ <;> (try dsimp only) <;> omega
        · repeat' (first
            | ((with_reducible refine WL_do fun Cw cw => ?_); (first | ((with_reducible first | apply O_move | apply O_assign | apply O_pickV | apply O_extract); (repeat rfl); (with_reducible apply cw); (focus ((try simp only [tput, List.set_cons_zero, List.set_cons_succ]); exact rfl))) | ((with_reducible first | apply O_load | apply O_fieldAddr | apply O_bin | apply O_indexAddr | apply O_len | apply O_un | apply O_store | apply O_alloc | apply O_box); (repeat rfl); simp (disch := omega) only [go_sem]; (with_reducible apply cw); (focus ((try simp only [tput, List.set_cons_zero, List.set_cons_succ]); exact rfl))) | ((with_reducible first | apply O_callF | apply O_call); (repeat rfl); (try simp only [List.nil_append, List.append_nil, List.cons_append]); (refine TPure.go (by (apply awake10_walk) <;> first | assumption | omega | exact Eq.trans (get_old (by assumption)) (by assumption)) ?_); (with_reducible apply cw); (focus ((try simp only [tput, List.set_cons_zero, List.set_cons_succ]); exact rfl)))); clear cw Cw)
            | ((with_reducible apply WP_do); (focus (intro Kw kw; (first | ((with_reducible first | apply O_move | apply O_assign | apply O_pickV | apply O_extract); (repeat rfl); exact kw) | ((with_reducible first | apply O_load | apply O_fieldAddr | apply O_bin | apply O_indexAddr | apply O_len | apply O_un | apply O_store | apply O_alloc | apply O_box); (repeat rfl); simp (disch := omega) only [go_sem]; exact kw) | ((with_reducible first | apply O_callF | apply O_call); (repeat rfl); (try simp only [List.nil_append, List.append_nil, List.cons_append]); (refine TPure.go (by (apply awake10_walk) <;> first | assumption | omega | exact Eq.trans (get_old (by assumption)) (by assumption)) ?_); exact kw)))); (focus ((try simp only [tput, List.set_cons_zero, List.set_cons_succ]); exact rfl)))
            | ((with_reducible apply WL_if); (focus rfl); (focus ((try simp only [tput, List.set_cons_zero, List.set_cons_succ]); exact rfl)))
            | ((with_reducible apply WL_un); (focus rfl); (focus ((try simp only [tput, List.set_cons_zero, List.set_cons_succ]); exact rfl)))
            | ((with_reducible refine WL_nil (hK _ _ ?_)); clear hK K)
            | ((with_reducible apply WP_if); (focus rfl); (focus ((try simp only [tput, List.set_cons_zero, List.set_cons_succ]); exact rfl)))
            | ((with_reducible apply WP_un); (focus rfl); (focus ((try simp only [tput, List.set_cons_zero, List.set_cons_succ]); exact rfl)))
            | ((with_reducible apply WP_pick); (focus rfl); (focus rfl); (focus rfl); (focus ((try simp only [tput, List.set_cons_zero, List.set_cons_succ]); exact rfl)); (focus ((try simp only [tput, List.set_cons_zero, List.set_cons_succ]); exact rfl)))
            | ((with_reducible refine WP_nil (hK _ _ ?_)); clear hK K)
            | ((with_reducible first | refine T_reg_seq fun K hK => ?_ | refine T_reg_end fun K hK => ?_); simp only [List.toList_toArray, List.append_eq, List.cons_append, List.nil_append])
            | ((with_reducible first | refine T_pure_seq ?_ ?_ (fun K hK => ?_) | refine T_pure_end ?_ ?_ (fun K hK => ?_)); (focus kernel_rfl); (focus kernel_rfl); simp only [List.toList_toArray, List.append_eq, List.cons_append, List.nil_append])
            | ((with_reducible first | apply T_cond_seq | apply T_cond); (focus rfl))
            | (intro hg; (first | (simp only [Bool.not_true, Bool.not_false, Bool.true_eq_false, Bool.false_eq_true] at hg; done) | ((try simp only [Bool.not_true, Bool.not_false, eq_self] at hg); (have hh : True := hg); clear hh hg) | ((try simp only [Bool.not_true, Bool.not_false] at hg); (try (have hh := hg; simp only [hh]; clear hh)); (try simp only [decide_eq_true_eq, decide_eq_false_iff_not, Bool.not_true, Bool.not_false, Bool.not_eq_true', Bool.not_eq_false', Bool.and_eq_true, Bool.or_eq_true, beq_iff_eq, bne_iff_ne, beq_eq_false_iff_ne, bne_eq_false_iff_eq, ne_eq, Decidable.not_not, Bool.or_eq_false_iff, Bool.and_eq_false_iff, gt_iff_lt, ge_iff_le, Int.not_lt, Int.not_le, Nat.not_lt, Nat.not_le] at hg); (try (exfalso; omega)))))
            | with_reducible first | refine T_seq_assoc ?_ | refine T_skip_seq ?_ | refine T_ret_seq ?_ | refine T_exit_seq ?_ | refine T_ret ?_ | refine T_skip ?_ | refine T_exit ?_ | refine T_block_seq fun Kb hKb => ?_ | refine T_block ?_
            | (simp only [TX.inBlock, TX.then, if_true, if_false, Nat.reduceEqDiff, ite_true, ite_false])
            | ((with_reducible first | refine hR _ _ (fun C cc => ?_) | refine hN _ _ (fun C cc => ?_)); simp (disch := omega) only [go_sem]; (with_reducible apply cc); clear cc C; (first | refine Ends.more rfl ?_ | refine Ends.same rfl ?_ | refine Ends.more (by simp only [go_sem, Bool.and_self]) ?_ | refine Ends.same (by simp only [go_sem, Bool.and_self]) ?_); (try simp only [go_sem, Bool.and_self]))
            | (with_reducible apply_assumption -exfalso -symm only [*]))
    · refine pure_of [] [.tmp 2] Try.func6 (by kernel_rfl) rfl (by kernel_rfl) fun X hR hN => ?_
      show Tw _ _ _ _ ([some _] ++ List.replicate 200 none) _
      simp only [List.replicate, List.cons_append, List.nil_append]
      repeat' (first
        | ((with_reducible refine WL_do fun Cw cw => ?_); (first | ((with_reducible first | apply O_move | apply O_assign | apply O_pickV | apply O_extract); (repeat rfl); (with_reducible apply cw); (focus ((try simp only [tput, List.set_cons_zero, List.set_cons_succ]); exact rfl))) | ((with_reducible first | apply O_load | apply O_fieldAddr | apply O_bin | apply O_indexAddr | apply O_len | apply O_un | apply O_store | apply O_alloc | apply O_box); (repeat rfl); simp (disch := omega) only [go_sem]; (with_reducible apply cw); (focus ((try simp only [tput, List.set_cons_zero, List.set_cons_succ]); exact rfl))) | ((with_reducible first | apply O_callF | apply O_call); (repeat rfl); (try simp only [List.nil_append, List.append_nil, List.cons_append]); (refine TPure.go (by (first | apply hfew | apply awake10_walk | apply hown) <;> first | assumption | omega | exact Eq.trans (get_old (by assumption)) (by assumption)) ?_); (with_reducible apply cw); (focus ((try simp only [tput, List.set_cons_zero, List.set_cons_succ]); exact rfl)))); clear cw Cw)
        | ((with_reducible apply WP_do); (focus (intro Kw kw; (first | ((with_reducible first | apply O_move | apply O_assign | apply O_pickV | apply O_extract); (repeat rfl); exact kw) | ((with_reducible first | apply O_load | apply O_fieldAddr | apply O_bin | apply O_indexAddr | apply O_len | apply O_un | apply O_store | apply O_alloc | apply O_box); (repeat rfl); simp (disch := omega) only [go_sem]; exact kw) | ((with_reducible first | apply O_callF | apply O_call); (repeat rfl); (try simp only [List.nil_append, List.append_nil, List.cons_append]); (refine TPure.go (by (first | apply hfew | apply awake10_walk | apply hown) <;> first | assumption | omega | exact Eq.trans (get_old (by assumption)) (by assumption)) ?_); exact kw)))); (focus ((try simp only [tput, List.set_cons_zero, List.set_cons_succ]); exact rfl)))
        | ((with_reducible apply WL_if); (focus rfl); (focus ((try simp only [tput, List.set_cons_zero, List.set_cons_succ]); exact rfl)))
        | ((with_reducible apply WL_un); (focus rfl); (focus ((try simp only [tput, List.set_cons_zero, List.set_cons_succ]); exact rfl)))
        | ((with_reducible refine WL_nil (hK _ _ ?_)); clear hK K)
        | ((with_reducible apply WP_if); (focus rfl); (focus ((try simp only [tput, List.set_cons_zero, List.set_cons_succ]); exact rfl)))
        | ((with_reducible apply WP_un); (focus rfl); (focus ((try simp only [tput, List.set_cons_zero, List.set_cons_succ]); exact rfl)))
        | ((with_reducible apply WP_pick); (focus rfl); (focus rfl); (focus rfl); (focus ((try simp only [tput, List.set_cons_zero, List.set_cons_succ]); exact rfl)); (focus ((try simp only [tput, List.set_cons_zero, List.set_cons_succ]); exact rfl)))
        | ((with_reducible refine WP_nil (hK _ _ ?_)); clear hK K)
        | ((with_reducible first | refine T_reg_seq fun K hK => ?_ | refine T_reg_end fun K hK => ?_); simp only [List.toList_toArray, List.append_eq, List.cons_append, List.nil_append])
        | ((with_reducible first | refine T_pure_seq ?_ ?_ (fun K hK => ?_) | refine T_pure_end ?_ ?_ (fun K hK => ?_)); (focus kernel_rfl); (focus kernel_rfl); simp only [List.toList_toArray, List.append_eq, List.cons_append, List.nil_append])
        | ((with_reducible first | apply T_cond_seq | apply T_cond); (focus rfl))
        | (intro hg; (first | (simp only [Bool.not_true, Bool.not_false, Bool.true_eq_false, Bool.false_eq_true] at hg; done) | ((try simp only [Bool.not_true, Bool.not_false, eq_self] at hg); (have hh : True := hg); clear hh hg) | ((try simp only [Bool.not_true, Bool.not_false] at hg); (try (have hh := hg; simp only [hh]; clear hh)); (try simp only [decide_eq_true_eq, decide_eq_false_iff_not, Bool.not_true, Bool.not_false, Bool.not_eq_true', Bool.not_eq_false', Bool.and_eq_true, Bool.or_eq_true, beq_iff_eq, bne_iff_ne, beq_eq_false_iff_ne, bne_eq_false_iff_eq, ne_eq, Decidable.not_not, Bool.or_eq_false_iff, Bool.and_eq_false_iff, gt_iff_lt, ge_iff_le, Int.not_lt, Int.not_le, Nat.not_lt, Nat.not_le] at hg); (try (exfalso; omega)))))
        | with_reducible first | refine T_seq_assoc ?_ | refine T_skip_seq ?_ | refine T_ret_seq ?_ | refine T_exit_seq ?_ | refine T_ret ?_ | refine T_skip ?_ | refine T_exit ?_ | refine T_block_seq fun Kb hKb => ?_ | refine T_block ?_
        | (simp only [TX.inBlock, TX.then, if_true, if_false, Nat.reduceEqDiff, ite_true, ite_false])
        | ((with_reducible first | refine hR _ _ (fun C cc => ?_) | refine hN _ _ (fun C cc => ?_)); simp (disch := omega) only [go_sem]; (with_reducible apply cc); clear cc C; (first | refine Ends.more rfl ?_ | refine Ends.same rfl ?_ | refine Ends.more (by simp only [go_sem, Bool.and_self]) ?_ | refine Ends.same (by simp only [go_sem, Bool.and_self]) ?_); (try simp only [go_sem, Bool.and_self]))
        | (with_reducible apply_assumption -exfalso -symm only [*]))
  · have hfew : ∀ σ, TPure Try.prog 26 [cfgTV c] σ (.bool false) := fun σ => by
      have := few_walk c hc σ
      rwa [decide_eq_false h] at this
    refine pure_of [] [.tmp 2] Try.func6 (by kernel_rfl) rfl (by kernel_rfl) fun X hR hN => ?_
    show Tw _ _ _ _ ([some _] ++ List.replicate 200 none) _
    simp only [List.replicate, List.cons_append, List.nil_append]
    repeat' (first
      | ((with_reducible refine WL_do fun Cw cw => ?_); (first | ((with_reducible first | apply O_move | apply O_assign | apply O_pickV | apply O_extract); (repeat rfl); (with_reducible apply cw); (focus ((try simp only [tput, List.set_cons_zero, List.set_cons_succ]); exact rfl))) | ((with_reducible first | apply O_load | apply O_fieldAddr | apply O_bin | apply O_indexAddr | apply O_len | apply O_un | apply O_store | apply O_alloc | apply O_box); (repeat rfl); simp (disch := omega) only [go_sem]; (with_reducible apply cw); (focus ((try simp only [tput, List.set_cons_zero, List.set_cons_succ]); exact rfl))) | ((with_reducible first | apply O_callF | apply O_call); (repeat rfl); (try simp only [List.nil_append, List.append_nil, List.cons_append]); (refine TPure.go (by (first | apply hfew | apply awake10_walk) <;> first | assumption | omega | exact Eq.trans (get_old (by assumption)) (by assumption)) ?_); (with_reducible apply cw); (focus ((try simp only [tput, List.set_cons_zero, List.set_cons_succ]); exact rfl)))); clear cw Cw)
      | ((with_reducible apply WP_do); (focus (intro Kw kw; (first | ((with_reducible first | apply O_move | apply O_assign | apply O_pickV | apply O_extract); (repeat rfl); exact kw) | ((with_reducible first | apply O_load | apply O_fieldAddr | apply O_bin | apply O_indexAddr | apply O_len | apply O_un | apply O_store | apply O_alloc | apply O_box); (repeat rfl); simp (disch := omega) only [go_sem]; exact kw) | ((with_reducible first | apply O_callF | apply O_call); (repeat rfl); (try simp only [List.nil_append, List.append_nil, List.cons_append]); (refine TPure.go (by (first | apply hfew | apply awake10_walk) <;> first | assumption | omega | exact Eq.trans (get_old (by assumption)) (by assumption)) ?_); exact kw)))); (focus ((try simp only [tput, List.set_cons_zero, List.set_cons_succ]); exact rfl)))
      | ((with_reducible apply WL_if); (focus rfl); (focus ((try simp only [tput, List.set_cons_zero, List.set_cons_succ]); exact rfl)))
      | ((with_reducible apply WL_un); (focus rfl); (focus ((try simp only [tput, List.set_cons_zero, List.set_cons_succ]); exact rfl)))
      | ((with_reducible refine WL_nil (hK _ _ ?_)); clear hK K)
      | ((with_reducible apply WP_if); (focus rfl); (focus ((try simp only [tput, List.set_cons_zero, List.set_cons_succ]); exact rfl)))
      | ((with_reducible apply WP_un); (focus rfl); (focus ((try simp only [tput, List.set_cons_zero, List.set_cons_succ]); exact rfl)))
      | ((with_reducible apply WP_pick); (focus rfl); (focus rfl); (focus rfl); (focus ((try simp only [tput, List.set_cons_zero, List.set_cons_succ]); exact rfl)); (focus ((try simp only [tput, List.set_cons_zero, List.set_cons_succ]); exact rfl)))
      | ((with_reducible refine WP_nil (hK _ _ ?_)); clear hK K)
      | ((with_reducible first | refine T_reg_seq fun K hK => ?_ | refine T_reg_end fun K hK => ?_); simp only [List.toList_toArray, List.append_eq, List.cons_append, List.nil_append])
      | ((with_reducible first | refine T_pure_seq ?_ ?_ (fun K hK => ?_) | refine T_pure_end ?_ ?_ (fun K hK => ?_)); (focus kernel_rfl); (focus kernel_rfl); simp only [List.toList_toArray, List.append_eq, List.cons_append, List.nil_append])
      | ((with_reducible first | apply T_cond_seq | apply T_cond); (focus rfl))
      | (intro hg; (first | (simp only [Bool.not_true, Bool.not_false, Bool.true_eq_false, Bool.false_eq_true] at hg; done) | ((try simp only [Bool.not_true, Bool.not_false, eq_self] at hg); (have hh : True := hg); clear hh hg) | ((try simp only [Bool.not_true, Bool.not_false] at hg); (try (have hh := hg; simp only [hh]; clear hh)); (try simp only [decide_eq_true_eq, decide_eq_false_iff_not, Bool.not_true, Bool.not_false, Bool.not_eq_true', Bool.not_eq_false', Bool.and_eq_true, Bool.or_eq_true, beq_iff_eq, bne_iff_ne, beq_eq_false_iff_ne, bne_eq_false_iff_eq, ne_eq, Decidable.not_not, Bool.or_eq_false_iff, Bool.and_eq_false_iff, gt_iff_lt, ge_iff_le, Int.not_lt, Int.not_le, Nat.not_lt, Nat.not_le] at hg); (try (exfalso; omega)))))
      | with_reducible first | refine T_seq_assoc ?_ | refine T_skip_seq ?_ | refine T_ret_seq ?_ | refine T_exit_seq ?_ | refine T_ret ?_ | refine T_skip ?_ | refine T_exit ?_ | refine T_block_seq fun Kb hKb => ?_ | refine T_block ?_
      | (simp only [TX.inBlock, TX.then, if_true, if_false, Nat.reduceEqDiff, ite_true, ite_false])
      | ((with_reducible first | refine hR _ _ (fun C cc => ?_) | refine hN _ _ (fun C cc => ?_)); simp (disch := omega) only [go_sem]; (with_reducible apply cc); clear cc C; (first | refine Ends.more rfl ?_ | refine Ends.same rfl ?_ | refine Ends.more (by simp only [go_sem, Bool.and_self]) ?_ | refine Ends.same (by simp only [go_sem, Bool.and_self]) ?_); (try simp only [go_sem, Bool.and_self]))
      | (with_reducible apply_assumption -exfalso -symm only [*]))

end Go.Proofs.Ytgkcackpffimmaa
