/- A slice of numbers cloned; the own VL. -/
import Derived.Test.YtgkcackpffimmaaE1
set_option linter.unusedVariables false
set_option linter.unusedSimpArgs false
set_option maxRecDepth 10000
set_option maxHeartbeats 4000000
namespace Go.Proofs.Ytgkcackpffimmaa
open Go.TM

theorem intC_one (l : List Int) : (l.flatMap intC).all TV.one = true := flat_one (fun _ => rfl) l
theorem intC_len (l : List Int) : (l.flatMap intC).length = l.length := by rw [flat_length (k := 1) (fun _ => rfl)]; omega

/-- Numbers are appended where there is a right to. -/
theorem append_ints (w : Bool) {σ : TS} {tk n : Nat} {cs : List TV} (l : List Int) (hr : σ[tk]? = some (.right n 1)) (hc : cs.length = n) (hb : n + l.length ≤ 1000000000) :
    tappend (mkTab Try.prog) w σ 22 22 (.sl (some (tk, n)) n cs) (.sl none l.length (l.flatMap intC)) = some (.sl (some (tk, n + l.length)) (n + l.length) (cs ++ l.flatMap intC), σ.set tk (.right (n + l.length) 1)) := by
  exact app_own tab22 rfl tab3 rfl rfl (src_sl tab22 rfl (by rw [intC_len, Nat.mul_one])) (intC_one l) (by rw [intC_len]; exact (Nat.mul_one _).symm) hr (by rw [hc]; exact (Nat.mul_one _).symm) (by show (n + l.length) * 8 ≤ _; omega) (by omega)

@[go_sem] theorem fits_ints {n : Nat} (l : List Int) : TV.fitsL n (l.flatMap intC) = true := by
  induction l with
  | nil => rfl
  | cons x l ih => rw [List.flatMap_cons]; simp only [List.cons_append, List.nil_append, TV.fitsL, TV.fits, ih, Bool.and_self]

theorem clone_walk (r : Row Int) (σ : TS) (hl : r.l.length ≤ 1000000) : TPure Try.prog 84 [rowTV intC r] σ (rowTV intC r) := by
  cases hn : r.nil with
  | true =>
    rw [rowTV_nil hn]
    refine pure_of [] [.tmp 2] Try.func84 (by kernel_rfl) rfl (by kernel_rfl) fun X hR hN => ?_
    show Tw _ _ _ _ ([some _] ++ List.replicate 7 none) _
    simp only [List.replicate, List.cons_append, List.nil_append]
    repeat' (first
      | ((with_reducible refine WL_do fun Cw cw => ?_); (first | ((with_reducible first | apply O_move | apply O_assign); (repeat rfl)) | ((with_reducible apply O_bin); (repeat rfl); simp (disch := omega) only [go_sem]) | ((with_reducible first | apply O_buildSlice | apply O_append); (repeat rfl); (try simp only [zc, zo, Nat.reduceBEq]); simp (disch := omega) only [go_sem])); (with_reducible apply cw); (focus ((try simp only [zp]); exact rfl)); clear cw Cw)
      | ((with_reducible refine WL_nil (hK _ _ ?_)); clear hK K)
      | ((with_reducible first | refine T_reg_seq fun K hK => ?_ | refine T_reg_end fun K hK => ?_); simp only [zl])
      | ((with_reducible first | apply T_cond_seq | apply T_cond); (focus rfl))
      | (intro hg; (first | (simp only [zb] at hg; done) | ((try simp only [zb, eq_self] at hg); (have hh : True := hg); clear hh hg) | ((try simp only [zb] at hg); (try (have hh := hg; simp only [hh]; clear hh)); (try simp only [zg, zq, ne_eq, gt_iff_lt, ge_iff_le] at hg); (try (exfalso; omega)))))
      | with_reducible first | apply T_seq_assoc | apply T_skip_seq | apply T_ret_seq | apply T_exit_seq | apply T_ret | apply T_skip | apply T_exit | refine T_block_seq fun Kb hKb => ?_ | apply T_block
      | (simp only [TX.inBlock, TX.then, zi, Nat.reduceEqDiff])
      | ((with_reducible first | refine hR _ _ (fun C cc => ?_) | refine hN _ _ (fun C cc => ?_)); simp (disch := omega) only [go_sem]; (with_reducible apply cc); clear cc C; (first | refine Ends.more (by first | rfl | simp only [go_sem, Bool.and_self]) ?_ | refine Ends.same (by first | rfl | simp only [go_sem, Bool.and_self]) ?_); (try simp only [go_sem, Bool.and_self]))
      | (with_reducible apply_assumption -exfalso -symm only [*]))
  | false =>
    rw [rowTV_some hn]
    have hone := intC_one r.l
    have hlen := intC_len r.l
    rcases Nat.eq_zero_or_pos r.l.length with h0 | h0
    · have hl0 : r.l = [] := List.eq_nil_of_length_eq_zero h0
      rw [hl0]
      refine pure_of [5] [.tmp 2] Try.func84 (by kernel_rfl) rfl (by kernel_rfl) fun X hR hN => ?_
      show Tw _ _ _ _ ([some _] ++ List.replicate 7 none) _
      simp only [List.replicate, List.cons_append, List.nil_append]
      repeat' (first
        | ((with_reducible refine WL_do fun Cw cw => ?_); (first | ((with_reducible first | apply O_move | apply O_assign); (repeat rfl)) | ((with_reducible apply O_bin); (repeat rfl); simp (disch := omega) only [go_sem]) | ((with_reducible first | apply O_buildSlice | apply O_append); (repeat rfl); (try simp only [zc, zo, Nat.reduceBEq]); simp (disch := omega) only [go_sem])); (with_reducible apply cw); (focus ((try simp only [zp]); exact rfl)); clear cw Cw)
        | ((with_reducible refine WL_nil (hK _ _ ?_)); clear hK K)
        | ((with_reducible first | refine T_reg_seq fun K hK => ?_ | refine T_reg_end fun K hK => ?_); simp only [zl])
        | ((with_reducible first | apply T_cond_seq | apply T_cond); (focus rfl))
        | (intro hg; (first | (simp only [zb] at hg; done) | ((try simp only [zb, eq_self] at hg); (have hh : True := hg); clear hh hg) | ((try simp only [zb] at hg); (try (have hh := hg; simp only [hh]; clear hh)); (try simp only [zg, zq, ne_eq, gt_iff_lt, ge_iff_le] at hg); (try (exfalso; omega)))))
        | with_reducible first | apply T_seq_assoc | apply T_skip_seq | apply T_ret_seq | apply T_exit_seq | apply T_ret | apply T_skip | apply T_exit | refine T_block_seq fun Kb hKb => ?_ | apply T_block
        | (simp only [TX.inBlock, TX.then, zi, Nat.reduceEqDiff])
        | ((with_reducible first | refine hR _ _ (fun C cc => ?_) | refine hN _ _ (fun C cc => ?_)); simp (disch := omega) only [go_sem]; (with_reducible apply cc); clear cc C; (first | refine Ends.more (by first | rfl | simp only [go_sem, Bool.and_self]) ?_ | refine Ends.same (by first | rfl | simp only [go_sem, Bool.and_self]) ?_); (try simp only [go_sem, Bool.and_self]))
        | (with_reducible apply_assumption -exfalso -symm only [*]))
      all_goals rfl
    · have hne : ¬ (r.l.length = 0) := by omega
      refine pure_of [5] [.tmp 2] Try.func84 (by kernel_rfl) rfl (by kernel_rfl) fun X hR hN => ?_
      show Tw _ _ _ _ ([some _] ++ List.replicate 7 none) _
      simp only [List.replicate, List.cons_append, List.nil_append]
      have happ : ∀ w, tappend (mkTab Try.prog) w (σ ++ [.right 0 1]) 22 22 (.sl (some (σ.length, 0)) 0 []) (.sl none r.l.length (r.l.flatMap intC)) = some (.sl (some (σ.length, r.l.length)) r.l.length (r.l.flatMap intC), σ ++ [.right r.l.length 1]) := fun w => by
        have := append_ints w (σ := σ ++ [.right 0 1]) (tk := σ.length) (n := 0) (cs := []) r.l (by simp) rfl (by omega)
        rw [set_app0, Nat.zero_add] at this
        exact this
      repeat' (first
        | ((with_reducible refine WL_do fun Cw cw => ?_); (first | ((with_reducible first | apply O_move | apply O_assign); (repeat rfl)) | ((with_reducible apply O_bin); (repeat rfl); simp (disch := omega) only [go_sem, ↓happ]) | ((with_reducible first | apply O_buildSlice | apply O_append); (repeat rfl); (try simp only [zc, zo, Nat.reduceBEq]); simp (disch := omega) only [go_sem, ↓happ])); (with_reducible apply cw); (focus ((try simp only [zp]); exact rfl)); clear cw Cw)
        | ((with_reducible refine WL_nil (hK _ _ ?_)); clear hK K)
        | ((with_reducible first | refine T_reg_seq fun K hK => ?_ | refine T_reg_end fun K hK => ?_); simp only [zl])
        | ((with_reducible first | apply T_cond_seq | apply T_cond); (focus rfl))
        | (intro hg; (first | (simp only [zb] at hg; done) | ((try simp only [zb, eq_self] at hg); (have hh : True := hg); clear hh hg) | ((try simp only [zb] at hg); (try (have hh := hg; simp only [hh]; clear hh)); (try simp only [zg, zq, ne_eq, gt_iff_lt, ge_iff_le] at hg); (try (exfalso; omega)))))
        | with_reducible first | apply T_seq_assoc | apply T_skip_seq | apply T_ret_seq | apply T_exit_seq | apply T_ret | apply T_skip | apply T_exit | refine T_block_seq fun Kb hKb => ?_ | apply T_block
        | (simp only [TX.inBlock, TX.then, zi, Nat.reduceEqDiff])
        | ((with_reducible first | refine hR _ _ (fun C cc => ?_) | refine hN _ _ (fun C cc => ?_)); simp (disch := omega) only [go_sem, ↓happ]; (with_reducible apply cc); clear cc C; (first | refine Ends.more (by first | rfl | simp only [go_sem, Bool.and_self]) ?_ | refine Ends.same (by first | rfl | simp only [go_sem, Bool.and_self]) ?_); (try simp only [go_sem, Bool.and_self]))
        | (with_reducible apply_assumption -exfalso -symm only [*]))

theorem ownVL_walk (c : Cfg) (id : Int) (σ : TS) (hl : c.vls.l.length ≤ 9223372036854775806) (hto : ∀ v ∈ c.vls.l, v.to.l.length ≤ 1000000) : TPure Try.prog 30 [cfgTV c, .int .i64 id] σ
    (match findL c.vls.l id with | some v => .tup [linkTV v, .bool true] | none => .tup [linkTV ⟨0, 0, 0, 0, false, 0, 0, Row.none⟩, .bool false]) := by
  refine pure_of [] [.cell 4 40, .tmp 5] Try.func30 (by kernel_rfl) rfl (by kernel_rfl) fun X hR hN => ?_
  show Tw _ _ _ _ ([some _, some _] ++ List.replicate 24 none) _
  simp only [List.replicate, List.cons_append, List.nil_append]
  repeat' (first
    | ((with_reducible refine WL_do fun Cw cw => ?_); (first | ((with_reducible first | apply O_move | apply O_assign); (repeat rfl)) | ((with_reducible first | apply O_load | apply O_fieldAddr | apply O_bin | apply O_indexAddr | apply O_len | apply O_store | apply O_alloc | apply O_box | apply O_build); (repeat rfl); simp (disch := omega) only [go_sem])); (with_reducible apply cw); (focus ((try simp only [zp]); exact rfl)); clear cw Cw)
    | ((with_reducible refine WL_nil (hK _ _ ?_)); clear hK K)
    | ((with_reducible first | refine T_reg_seq fun K hK => ?_ | refine T_reg_end fun K hK => ?_); simp only [zl])
    | ((with_reducible first | apply T_cond_seq | apply T_cond); (focus rfl))
    | (intro hg; (first | (simp only [zb] at hg; done) | ((try simp only [zb, eq_self] at hg); (have hh : True := hg); clear hh hg) | ((try simp only [zb] at hg); (try (have hh := hg; simp only [hh]; clear hh)); (try simp only [zg, zq, ne_eq, gt_iff_lt, ge_iff_le] at hg); (try (exfalso; omega)))))
    | with_reducible first | apply T_seq_assoc | apply T_skip_seq | apply T_ret_seq | apply T_exit_seq | apply T_ret | apply T_skip | apply T_exit | refine T_block_seq fun Kb hKb => ?_ | apply T_block
    | (simp only [TX.inBlock, TX.then, zi, Nat.reduceEqDiff])
    | ((with_reducible first | refine hR _ _ (fun C cc => ?_) | refine hN _ _ (fun C cc => ?_)); simp (disch := omega) only [go_sem]; (with_reducible apply cc); clear cc C; (first | refine Ends.more (by first | rfl | simp only [go_sem, Bool.and_self]) ?_ | refine Ends.same (by first | rfl | simp only [go_sem, Bool.and_self]) ?_); (try simp only [go_sem, Bool.and_self]))
    | (with_reducible apply_assumption -exfalso -symm only [*]))
  refine T_each (α := Nat × TS) (fun (i, τ) => [none, some (some (.int .i64 id)), none, none, some (some (.ptr (σ.length + 1) 0)), none, none, none, none, some (some (rowTV linkC c.vls)), some (some (.int .i64 c.vls.l.length)), some (some (.int .i64 i)), none, none, none, none, none, none, none, none, none, none, none, none, none, none]) (fun (i, τ) => i ≤ c.vls.l.length ∧ ∀ k, k < i → (nth c.vls.l k).id ≠ id) (fun (i, τ) => c.vls.l.length - i) (fun (i, τ) => σ ++ (.cells (cfgC c) :: .cells (linkC ⟨0, 0, 0, 0, false, 0, 0, Row.none⟩) :: τ)) ?_ ?_
  · refine ⟨(0, []), ⟨rfl, rfl, rfl, rfl, rfl, trivial⟩, ?_, rfl⟩
    exact ⟨by omega, fun k hk => by omega⟩
  · rintro ⟨i, τ⟩ q ⟨hi, hno⟩
    show Tw _ _ _ _ ([q 0, some (.int .i64 id), q 2, q 3, some (.ptr (σ.length + 1) 0), q 5, q 6, q 7, q 8, some (rowTV linkC c.vls), some (.int .i64 c.vls.l.length), some (.int .i64 i), q 12, q 13, q 14, q 15, q 16, q 17, q 18, q 19, q 20, q 21, q 22, q 23, q 24, q 25]) (σ ++ (.cells (cfgC c) :: .cells (linkC ⟨0, 0, 0, 0, false, 0, 0, Row.none⟩) :: τ))
    have ht : i < c.vls.l.length → (nth c.vls.l i).to.l.length ≤ 1000000 := fun h => hto _ (nth_mem h)
    repeat' (first
      | ((with_reducible refine WL_do fun Cw cw => ?_); (first | ((with_reducible first | apply O_move | apply O_assign); (repeat rfl)) | ((with_reducible first | apply O_load | apply O_fieldAddr | apply O_bin | apply O_indexAddr | apply O_len | apply O_store | apply O_alloc | apply O_box | apply O_build); (repeat rfl); simp (disch := omega) only [go_sem]) | ((with_reducible first | apply O_callF | apply O_call); (repeat rfl); (try simp only [za]); (refine TPure.go (by (apply clone_walk) <;> first | assumption | omega | exact Eq.trans (get_old (by assumption)) (by assumption)) ?_))); (with_reducible apply cw); (focus ((try simp only [zp]); exact rfl)); clear cw Cw)
      | ((with_reducible refine WL_nil (hK _ _ ?_)); clear hK K)
      | ((with_reducible first | refine T_reg_seq fun K hK => ?_ | refine T_reg_end fun K hK => ?_); simp only [zl])
      | ((with_reducible first | apply T_cond_seq | apply T_cond); (focus rfl))
      | (intro hg; (first | (simp only [zb] at hg; done) | ((try simp only [zb, eq_self] at hg); (have hh : True := hg); clear hh hg) | ((try simp only [zb] at hg); (try (have hh := hg; simp only [hh]; clear hh)); (try simp only [zg, zq, ne_eq, gt_iff_lt, ge_iff_le] at hg); (try (exfalso; omega)))))
      | with_reducible first | apply T_seq_assoc | apply T_skip_seq | apply T_ret_seq | apply T_exit_seq | apply T_ret | apply T_skip | apply T_exit | refine T_block_seq fun Kb hKb => ?_ | apply T_block
      | (simp only [TX.inBlock, TX.then, zi, Nat.reduceEqDiff])
      | ((with_reducible first | refine hR _ _ (fun C cc => ?_) | refine hN _ _ (fun C cc => ?_)); simp (disch := omega) only [go_sem]; (with_reducible apply cc); clear cc C; (first | refine Ends.more (by first | rfl | simp only [go_sem, Bool.and_self]) ?_ | refine Ends.same (by first | rfl | simp only [go_sem, Bool.and_self]) ?_); (try simp only [go_sem, Bool.and_self]))
      | (with_reducible apply_assumption -exfalso -symm only [*]))
    · rw [findL_some (by assumption) hno (by assumption)]
    · refine ⟨(i + 1, τ ++ [_]), ?_, ⟨rfl, rfl, rfl, rfl, rfl, trivial⟩, ⟨?_, upto hno (by assumption)⟩, rfl⟩ <;> (try dsimp only) <;> omega
    · rw [findL_none fun k hk => hno k (by omega)]; rfl

end Go.Proofs.Ytgkcackpffimmaa
