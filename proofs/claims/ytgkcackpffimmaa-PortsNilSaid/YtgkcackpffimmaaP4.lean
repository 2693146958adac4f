/- What reading a room of the program computes. -/
import Derived.Test.YtgkcackpffimmaaP3
set_option linter.unusedVariables false
set_option linter.unusedSimpArgs false
set_option maxRecDepth 10000
set_option maxHeartbeats 4000000
namespace Go.Proofs.Ytgkcackpffimmaa
open Go.TM

theorem cutS {t e : Nat} {s : List UInt8} {r : List (List UInt8)} : tslice (mkTab Try.prog) 60 (.sl (some (t, e)) (r.length + 1) ((s :: r).flatMap strC)) (some 1) none none = some (.sl (some (t, e)) r.length (r.flatMap strC)) := by
  have h : ((s :: r).flatMap strC).length = (r.length + 1) * 1 := by rw [strC_len]; simp
  have h2 : (List.take r.length (r.flatMap strC)) = r.flatMap strC := List.take_of_length_le (by rw [strC_len]; exact Nat.le_refl _)
  have h3 : ((s :: r).flatMap strC).drop 1 = r.flatMap strC := rfl
  unfold tslice
  simp only [tab60, tab9, Option.getD_some, Option.getD_none]
  rw [if_pos ⟨by omega, Nat.le_refl _, Nat.le_refl _, by simp, by omega⟩, if_pos ⟨trivial, trivial, h⟩]
  simp only [Nat.mul_one, Nat.add_sub_cancel, h3, h2]

theorem headS {own : Option (Nat × Nat)} {n : Nat} {s : List UInt8} {r : List (List UInt8)} (hn : 0 < n) : tindexAddr (mkTab Try.prog) 60 (.sl own n ((s :: r).flatMap strC)) (.int .i64 0) = some (.cp (.str (B s) :: r.flatMap strC)) := by
  unfold tindexAddr
  simp only [tab60, tab9]
  rw [if_pos ⟨Int.le_refl _, by omega, by simp [strC]⟩]
  rfl

section
variable {σ : TS} {lab : Nat → Nat} {c r lm : Nat} {locs : List Nat} {bs : List Bx} (h : RoomP σ lab c r lm locs bs)
include h

theorem sample_walk (now port : Int) : TPure Try.prog 49 [.ptr r 0, .int .i64 now, .int .i64 port] σ (.tup [.str (B (sampleR now port bs).1), .bool (sampleR now port bs).2.1, .int .i64 (sampleR now port bs).2.2]) := by
  have hti := fun τ => timely_walk now τ
  by_cases hn : TimeOk now
  · simp only [if_pos hn] at hti
    cases hi : idx (pts bs) port with
    | none =>
      have hq : sampleR now port bs = ([], false, 20) := by rw [sampleR, if_neg (fun e => e hn), hi]
      rw [hq]
      have hf := pfind_none h hi
      refine pure_of [] [.tmp 6, .tmp 7, .tmp 8] Try.func49 (by kernel_rfl) rfl (by kernel_rfl) fun X hR hN => ?_
      show Tw _ _ _ _ ([some _, some _, some _] ++ List.replicate 63 none) _
      simp only [List.replicate, List.cons_append, List.nil_append]
      repeat' (first
        | ((first | (with_reducible refine WL_do fun Cw cw => ?_) | ((with_reducible apply WP_do); intro Cw cw)); (focus (first | ((with_reducible first | apply O_move | apply O_assign | apply O_extract | apply O_nilCheck); (repeat rfl); (first | (with_reducible exact cw) | ((with_reducible apply cw); (focus ((try simp only [zp]); exact rfl)); clear cw Cw))) | ((with_reducible first | apply O_load | apply O_fieldAddr | apply O_bin | apply O_un | apply O_store | apply O_alloc | apply O_typeAssert); (repeat rfl); simp (disch := omega) only [go_sem]; (first | (with_reducible exact cw) | ((with_reducible apply cw); (focus ((try simp only [zp]); exact rfl)); clear cw Cw))) | ((with_reducible first | apply O_callF | apply O_call); (repeat rfl); (try simp only [za]); (refine TPure.go (by (first | apply hti | apply hf) <;> first | assumption | omega | exact Eq.trans (get_old (by assumption)) (by assumption)) ?_); (first | (with_reducible exact cw) | ((with_reducible apply cw); (focus ((try simp only [zp]); exact rfl)); clear cw Cw))))); (try ((with_reducible apply eq_id); (focus ((try simp only [zp]); exact rfl)))))
        | ((with_reducible first | refine WL_nil (hK _ _ ?_) | refine WP_nil (hK _ _ ?_)); clear hK K)
        | ((with_reducible first | refine T_reg_seq fun K hK => ?_ | refine T_reg_end fun K hK => ?_); simp only [zl])
        | ((with_reducible first | refine T_pure_seq ?_ ?_ (fun K hK => ?_) | refine T_pure_end ?_ ?_ (fun K hK => ?_)); (focus kernel_rfl); (focus kernel_rfl); simp only [zl])
        | ((with_reducible first | apply T_cond_seq | apply T_cond); (focus rfl))
        | (intro hg; (first | (simp only [zb] at hg; done) | ((try simp only [zb, eq_self] at hg); (have hh : True := hg); clear hh hg) | ((try simp only [zb] at hg); (try (have hh := hg; simp only [hh]; clear hh)); (try simp only [zg, zq, ne_eq, gt_iff_lt, ge_iff_le] at hg); (try (exfalso; omega)))))
        | with_reducible first | refine T_seq_assoc ?_ | refine T_skip_seq ?_ | refine T_ret_seq ?_ | refine T_exit_seq ?_ | refine T_ret ?_ | refine T_skip ?_ | refine T_exit ?_ | refine T_block_seq fun Kb hKb => ?_ | refine T_block ?_
        | (simp only [TX.inBlock, TX.then, zi, Nat.reduceEqDiff])
        | ((with_reducible first | refine hR _ _ (fun C cc => ?_) | refine hN _ _ (fun C cc => ?_)); simp (disch := omega) only [go_sem]; (with_reducible apply cc); clear cc C; (first | refine Ends.more rfl ?_ | refine Ends.same rfl ?_ | refine Ends.more (by simp only [go_sem, Bool.and_self]) ?_ | refine Ends.same (by simp only [go_sem, Bool.and_self]) ?_); (try simp only [go_sem, Bool.and_self]))
        | (with_reducible apply_assumption -exfalso -symm only [*]))
    | some k =>
      have hk : k < bs.length := by have := (idx_some hi).1; simpa using this
      have hf := pfind_some h hi
      have hp : nth (pts bs) k = (nth bs k).p := by rw [nth_eq (by simpa using hk), nth_eq hk]; simp
      rw [hp] at hf
      have hq : sampleR now port bs = sampleB now (nth bs k) := by rw [sampleR, if_neg (fun e => e hn), hi]
      rw [hq]
      obtain ⟨hb1, hb2⟩ := h.box k hk
      have hok := h.ok _ (nth_mem hk)
      have hfr := hok.fresh
      have htm := hok.time
      by_cases hkind : (nth bs k).p.kind = 1
      · rw [if_pos hkind] at hb2
        have hlt := lt_of_get hb2
        by_cases h0 : (nth bs k).l = []
        · have hs : sampleB now (nth bs k) = ([], false, 23) := by rw [sampleB, if_neg (fun e => e hkind), if_pos h0]
          rw [hs]
          rw [h0] at hb2
          refine pure_of [] [.tmp 6, .tmp 7, .tmp 8] Try.func49 (by kernel_rfl) rfl (by kernel_rfl) fun X hR hN => ?_
          show Tw _ _ _ _ ([some _, some _, some _] ++ List.replicate 63 none) _
          simp only [List.replicate, List.cons_append, List.nil_append]
          repeat' (first
            | ((first | (with_reducible refine WL_do fun Cw cw => ?_) | ((with_reducible apply WP_do); intro Cw cw)); (focus (first | ((with_reducible first | apply O_move | apply O_assign | apply O_extract | apply O_nilCheck); (repeat rfl); (first | (with_reducible exact cw) | ((with_reducible apply cw); (focus ((try simp only [zp]); exact rfl)); clear cw Cw))) | ((with_reducible first | apply O_load | apply O_fieldAddr | apply O_bin | apply O_un | apply O_store | apply O_alloc | apply O_typeAssert); (repeat rfl); simp (disch := omega) only [go_sem, hkind, hb2, List.isEmpty_nil]; (first | (with_reducible exact cw) | ((with_reducible apply cw); (focus ((try simp only [zp]); exact rfl)); clear cw Cw))) | ((with_reducible first | apply O_callF | apply O_call); (repeat rfl); (try simp only [za]); (first | (refine TPure.go (by (apply hti <;> first | assumption | omega | exact Eq.trans (get_old (by assumption)) (by assumption) | (focus (simp (disch := omega) only [go_sem, hkind, hb2, List.isEmpty_nil]; (try rfl); done)))) ?_) | (refine TDoes.go (by (apply hf <;> first | assumption | omega | exact Eq.trans (get_old (by assumption)) (by assumption) | (focus (simp (disch := omega) only [go_sem, hkind, hb2, List.isEmpty_nil]; (try rfl); done)))) ?_; (try simp (disch := omega) only [go_sem, hkind, hb2, List.isEmpty_nil]))); (first | (with_reducible exact cw) | ((with_reducible apply cw); (focus ((try simp only [zp]); exact rfl)); clear cw Cw))))); (try ((with_reducible apply eq_id); (focus ((try simp only [zp]); exact rfl)))))
            | ((with_reducible first | refine WL_nil (hK _ _ ?_) | refine WP_nil (hK _ _ ?_)); clear hK K)
            | ((with_reducible first | refine T_reg_seq fun K hK => ?_ | refine T_reg_end fun K hK => ?_); simp only [zl])
            | ((with_reducible first | refine T_pure_seq ?_ ?_ (fun K hK => ?_) | refine T_pure_end ?_ ?_ (fun K hK => ?_)); (focus kernel_rfl); (focus kernel_rfl); simp only [zl])
            | ((with_reducible first | apply T_cond_seq | apply T_cond); (focus rfl))
            | (intro hg; (first | (simp only [zb] at hg; done) | ((try simp only [zb, eq_self] at hg); (have hh : True := hg); clear hh hg) | ((try simp only [zb] at hg); (try (have hh := hg; simp only [hh]; clear hh)); (try simp only [zg, zq, ne_eq, gt_iff_lt, ge_iff_le] at hg); (try (exfalso; omega)))))
            | with_reducible first | refine T_seq_assoc ?_ | refine T_skip_seq ?_ | refine T_ret_seq ?_ | refine T_exit_seq ?_ | refine T_ret ?_ | refine T_skip ?_ | refine T_exit ?_ | refine T_block_seq fun Kb hKb => ?_ | refine T_block ?_
            | (simp only [TX.inBlock, TX.then, zi, Nat.reduceEqDiff])
            | ((with_reducible first | refine hR _ _ (fun C cc => ?_) | refine hN _ _ (fun C cc => ?_)); simp (disch := omega) only [go_sem, hkind, hb2, List.isEmpty_nil]; (with_reducible apply cc); clear cc C; (first | refine Ends.more rfl ?_ | refine Ends.same rfl ?_ | refine Ends.more (by simp only [go_sem, Bool.and_self]) ?_ | refine Ends.same (by simp only [go_sem, Bool.and_self]) ?_); (try simp only [go_sem, Bool.and_self]))
            | (with_reducible apply_assumption -exfalso -symm only [*]))
        · have he : (!(nth bs k).l.isEmpty) = true := by simpa [List.isEmpty_iff] using h0
          rw [he] at hb2
          by_cases hl : now < (nth bs k).at_
          · have hs : sampleB now (nth bs k) = ([], false, 24) := by rw [sampleB, if_neg (fun e => e hkind), if_neg h0, if_pos hl]
            rw [hs]
            refine pure_of [] [.tmp 6, .tmp 7, .tmp 8] Try.func49 (by kernel_rfl) rfl (by kernel_rfl) fun X hR hN => ?_
            show Tw _ _ _ _ ([some _, some _, some _] ++ List.replicate 63 none) _
            simp only [List.replicate, List.cons_append, List.nil_append]
            repeat' (first
              | ((first | (with_reducible refine WL_do fun Cw cw => ?_) | ((with_reducible apply WP_do); intro Cw cw)); (focus (first | ((with_reducible first | apply O_move | apply O_assign | apply O_extract | apply O_nilCheck); (repeat rfl); (first | (with_reducible exact cw) | ((with_reducible apply cw); (focus ((try simp only [zp]); exact rfl)); clear cw Cw))) | ((with_reducible first | apply O_load | apply O_fieldAddr | apply O_bin | apply O_un | apply O_store | apply O_alloc | apply O_typeAssert); (repeat rfl); simp (disch := omega) only [go_sem, hkind, hb2]; (first | (with_reducible exact cw) | ((with_reducible apply cw); (focus ((try simp only [zp]); exact rfl)); clear cw Cw))) | ((with_reducible first | apply O_callF | apply O_call); (repeat rfl); (try simp only [za]); (first | (refine TPure.go (by (apply hti <;> first | assumption | omega | exact Eq.trans (get_old (by assumption)) (by assumption) | (focus (simp (disch := omega) only [go_sem, hkind, hb2]; (try rfl); done)))) ?_) | (refine TDoes.go (by (apply hf <;> first | assumption | omega | exact Eq.trans (get_old (by assumption)) (by assumption) | (focus (simp (disch := omega) only [go_sem, hkind, hb2]; (try rfl); done)))) ?_; (try simp (disch := omega) only [go_sem, hkind, hb2]))); (first | (with_reducible exact cw) | ((with_reducible apply cw); (focus ((try simp only [zp]); exact rfl)); clear cw Cw))))); (try ((with_reducible apply eq_id); (focus ((try simp only [zp]); exact rfl)))))
              | ((with_reducible first | refine WL_nil (hK _ _ ?_) | refine WP_nil (hK _ _ ?_)); clear hK K)
              | ((with_reducible first | refine T_reg_seq fun K hK => ?_ | refine T_reg_end fun K hK => ?_); simp only [zl])
              | ((with_reducible first | refine T_pure_seq ?_ ?_ (fun K hK => ?_) | refine T_pure_end ?_ ?_ (fun K hK => ?_)); (focus kernel_rfl); (focus kernel_rfl); simp only [zl])
              | ((with_reducible first | apply T_cond_seq | apply T_cond); (focus rfl))
              | (intro hg; (first | (simp only [zb] at hg; done) | ((try simp only [zb, eq_self] at hg); (have hh : True := hg); clear hh hg) | ((try simp only [zb] at hg); (try (have hh := hg; simp only [hh]; clear hh)); (try simp only [zg, zq, ne_eq, gt_iff_lt, ge_iff_le] at hg); (try (exfalso; omega)))))
              | with_reducible first | refine T_seq_assoc ?_ | refine T_skip_seq ?_ | refine T_ret_seq ?_ | refine T_exit_seq ?_ | refine T_ret ?_ | refine T_skip ?_ | refine T_exit ?_ | refine T_block_seq fun Kb hKb => ?_ | refine T_block ?_
              | (simp only [TX.inBlock, TX.then, zi, Nat.reduceEqDiff])
              | ((with_reducible first | refine hR _ _ (fun C cc => ?_) | refine hN _ _ (fun C cc => ?_)); simp (disch := omega) only [go_sem, hkind, hb2]; (with_reducible apply cc); clear cc C; (first | refine Ends.more rfl ?_ | refine Ends.same rfl ?_ | refine Ends.more (by simp only [go_sem, Bool.and_self]) ?_ | refine Ends.same (by simp only [go_sem, Bool.and_self]) ?_); (try simp only [go_sem, Bool.and_self]))
              | (with_reducible apply_assumption -exfalso -symm only [*]))
          · have hs : sampleB now (nth bs k) = ((nth bs k).l.headD [], decide (now - (nth bs k).at_ ≤ (nth bs k).p.fresh), 0) := by rw [sampleB, if_neg (fun e => e hkind), if_neg h0, if_neg hl]
            rw [hs]
            refine pure_of [] [.tmp 6, .tmp 7, .tmp 8] Try.func49 (by kernel_rfl) rfl (by kernel_rfl) fun X hR hN => ?_
            show Tw _ _ _ _ ([some _, some _, some _] ++ List.replicate 63 none) _
            simp only [List.replicate, List.cons_append, List.nil_append]
            repeat' (first
              | ((first | (with_reducible refine WL_do fun Cw cw => ?_) | ((with_reducible apply WP_do); intro Cw cw)); (focus (first | ((with_reducible first | apply O_move | apply O_assign | apply O_extract | apply O_nilCheck); (repeat rfl); (first | (with_reducible exact cw) | ((with_reducible apply cw); (focus ((try simp only [zp]); exact rfl)); clear cw Cw))) | ((with_reducible first | apply O_load | apply O_fieldAddr | apply O_bin | apply O_un | apply O_store | apply O_alloc | apply O_typeAssert); (repeat rfl); simp (disch := omega) only [go_sem, hkind, hb2]; (first | (with_reducible exact cw) | ((with_reducible apply cw); (focus ((try simp only [zp]); exact rfl)); clear cw Cw))) | ((with_reducible first | apply O_callF | apply O_call); (repeat rfl); (try simp only [za]); (first | (refine TPure.go (by (apply hti <;> first | assumption | omega | exact Eq.trans (get_old (by assumption)) (by assumption) | (focus (simp (disch := omega) only [go_sem, hkind, hb2]; (try rfl); done)))) ?_) | (refine TDoes.go (by (apply hf <;> first | assumption | omega | exact Eq.trans (get_old (by assumption)) (by assumption) | (focus (simp (disch := omega) only [go_sem, hkind, hb2]; (try rfl); done)))) ?_; (try simp (disch := omega) only [go_sem, hkind, hb2]))); (first | (with_reducible exact cw) | ((with_reducible apply cw); (focus ((try simp only [zp]); exact rfl)); clear cw Cw))))); (try ((with_reducible apply eq_id); (focus ((try simp only [zp]); exact rfl)))))
              | ((with_reducible first | refine WL_nil (hK _ _ ?_) | refine WP_nil (hK _ _ ?_)); clear hK K)
              | ((with_reducible first | refine T_reg_seq fun K hK => ?_ | refine T_reg_end fun K hK => ?_); simp only [zl])
              | ((with_reducible first | refine T_pure_seq ?_ ?_ (fun K hK => ?_) | refine T_pure_end ?_ ?_ (fun K hK => ?_)); (focus kernel_rfl); (focus kernel_rfl); simp only [zl])
              | ((with_reducible first | apply T_cond_seq | apply T_cond); (focus rfl))
              | (intro hg; (first | (simp only [zb] at hg; done) | ((try simp only [zb, eq_self] at hg); (have hh : True := hg); clear hh hg) | ((try simp only [zb] at hg); (try (have hh := hg; simp only [hh]; clear hh)); (try simp only [zg, zq, ne_eq, gt_iff_lt, ge_iff_le] at hg); (try (exfalso; omega)))))
              | with_reducible first | refine T_seq_assoc ?_ | refine T_skip_seq ?_ | refine T_ret_seq ?_ | refine T_exit_seq ?_ | refine T_ret ?_ | refine T_skip ?_ | refine T_exit ?_ | refine T_block_seq fun Kb hKb => ?_ | refine T_block ?_
              | (simp only [TX.inBlock, TX.then, zi, Nat.reduceEqDiff])
              | ((with_reducible first | refine hR _ _ (fun C cc => ?_) | refine hN _ _ (fun C cc => ?_)); simp (disch := omega) only [go_sem, hkind, hb2]; (with_reducible apply cc); clear cc C; (first | refine Ends.more rfl ?_ | refine Ends.same rfl ?_ | refine Ends.more (by simp only [go_sem, Bool.and_self]) ?_ | refine Ends.same (by simp only [go_sem, Bool.and_self]) ?_); (try simp only [go_sem, Bool.and_self]))
              | (with_reducible apply_assumption -exfalso -symm only [*]))
      · rw [if_neg hkind] at hb2
        have hs : sampleB now (nth bs k) = ([], false, 13) := by rw [sampleB, if_pos hkind]
        rw [hs]
        refine pure_of [] [.tmp 6, .tmp 7, .tmp 8] Try.func49 (by kernel_rfl) rfl (by kernel_rfl) fun X hR hN => ?_
        show Tw _ _ _ _ ([some _, some _, some _] ++ List.replicate 63 none) _
        simp only [List.replicate, List.cons_append, List.nil_append]
        repeat' (first
          | ((first | (with_reducible refine WL_do fun Cw cw => ?_) | ((with_reducible apply WP_do); intro Cw cw)); (focus (first | ((with_reducible first | apply O_move | apply O_assign | apply O_extract | apply O_nilCheck); (repeat rfl); (first | (with_reducible exact cw) | ((with_reducible apply cw); (focus ((try simp only [zp]); exact rfl)); clear cw Cw))) | ((with_reducible first | apply O_load | apply O_fieldAddr | apply O_bin | apply O_un | apply O_store | apply O_alloc | apply O_typeAssert); (repeat rfl); simp (disch := omega) only [go_sem, hkind]; (first | (with_reducible exact cw) | ((with_reducible apply cw); (focus ((try simp only [zp]); exact rfl)); clear cw Cw))) | ((with_reducible first | apply O_callF | apply O_call); (repeat rfl); (try simp only [za]); (first | (refine TPure.go (by (apply hti <;> first | assumption | omega | exact Eq.trans (get_old (by assumption)) (by assumption) | (focus (simp (disch := omega) only [go_sem, hkind]; (try rfl); done)))) ?_) | (refine TDoes.go (by (apply hf <;> first | assumption | omega | exact Eq.trans (get_old (by assumption)) (by assumption) | (focus (simp (disch := omega) only [go_sem, hkind]; (try rfl); done)))) ?_; (try simp (disch := omega) only [go_sem, hkind]))); (first | (with_reducible exact cw) | ((with_reducible apply cw); (focus ((try simp only [zp]); exact rfl)); clear cw Cw))))); (try ((with_reducible apply eq_id); (focus ((try simp only [zp]); exact rfl)))))
          | ((with_reducible first | refine WL_nil (hK _ _ ?_) | refine WP_nil (hK _ _ ?_)); clear hK K)
          | ((with_reducible first | refine T_reg_seq fun K hK => ?_ | refine T_reg_end fun K hK => ?_); simp only [zl])
          | ((with_reducible first | refine T_pure_seq ?_ ?_ (fun K hK => ?_) | refine T_pure_end ?_ ?_ (fun K hK => ?_)); (focus kernel_rfl); (focus kernel_rfl); simp only [zl])
          | ((with_reducible first | apply T_cond_seq | apply T_cond); (focus rfl))
          | (intro hg; (first | (simp only [zb] at hg; done) | ((try simp only [zb, eq_self] at hg); (have hh : True := hg); clear hh hg) | ((try simp only [zb] at hg); (try (have hh := hg; simp only [hh]; clear hh)); (try simp only [zg, zq, ne_eq, gt_iff_lt, ge_iff_le] at hg); (try (exfalso; omega)))))
          | with_reducible first | refine T_seq_assoc ?_ | refine T_skip_seq ?_ | refine T_ret_seq ?_ | refine T_exit_seq ?_ | refine T_ret ?_ | refine T_skip ?_ | refine T_exit ?_ | refine T_block_seq fun Kb hKb => ?_ | refine T_block ?_
          | (simp only [TX.inBlock, TX.then, zi, Nat.reduceEqDiff])
          | ((with_reducible first | refine hR _ _ (fun C cc => ?_) | refine hN _ _ (fun C cc => ?_)); simp (disch := omega) only [go_sem, hkind]; (with_reducible apply cc); clear cc C; (first | refine Ends.more rfl ?_ | refine Ends.same rfl ?_ | refine Ends.more (by simp only [go_sem, Bool.and_self]) ?_ | refine Ends.same (by simp only [go_sem, Bool.and_self]) ?_); (try simp only [go_sem, Bool.and_self]))
          | (with_reducible apply_assumption -exfalso -symm only [*]))
  · simp only [if_neg hn] at hti
    have hq : sampleR now port bs = ([], false, 1) := by rw [sampleR, if_pos hn]
    rw [hq]
    refine pure_of [] [.tmp 6, .tmp 7, .tmp 8] Try.func49 (by kernel_rfl) rfl (by kernel_rfl) fun X hR hN => ?_
    show Tw _ _ _ _ ([some _, some _, some _] ++ List.replicate 63 none) _
    simp only [List.replicate, List.cons_append, List.nil_append]
    repeat' (first
      | ((first | (with_reducible refine WL_do fun Cw cw => ?_) | ((with_reducible apply WP_do); intro Cw cw)); (focus (first | ((with_reducible first | apply O_move | apply O_assign | apply O_extract | apply O_nilCheck); (repeat rfl); (first | (with_reducible exact cw) | ((with_reducible apply cw); (focus ((try simp only [zp]); exact rfl)); clear cw Cw))) | ((with_reducible first | apply O_load | apply O_fieldAddr | apply O_bin | apply O_un | apply O_store | apply O_alloc | apply O_typeAssert); (repeat rfl); simp (disch := omega) only [go_sem]; (first | (with_reducible exact cw) | ((with_reducible apply cw); (focus ((try simp only [zp]); exact rfl)); clear cw Cw))) | ((with_reducible first | apply O_callF | apply O_call); (repeat rfl); (try simp only [za]); (refine TPure.go (by (apply hti) <;> first | assumption | omega | exact Eq.trans (get_old (by assumption)) (by assumption)) ?_); (first | (with_reducible exact cw) | ((with_reducible apply cw); (focus ((try simp only [zp]); exact rfl)); clear cw Cw))))); (try ((with_reducible apply eq_id); (focus ((try simp only [zp]); exact rfl)))))
      | ((with_reducible first | refine WL_nil (hK _ _ ?_) | refine WP_nil (hK _ _ ?_)); clear hK K)
      | ((with_reducible first | refine T_reg_seq fun K hK => ?_ | refine T_reg_end fun K hK => ?_); simp only [zl])
      | ((with_reducible first | refine T_pure_seq ?_ ?_ (fun K hK => ?_) | refine T_pure_end ?_ ?_ (fun K hK => ?_)); (focus kernel_rfl); (focus kernel_rfl); simp only [zl])
      | ((with_reducible first | apply T_cond_seq | apply T_cond); (focus rfl))
      | (intro hg; (first | (simp only [zb] at hg; done) | ((try simp only [zb, eq_self] at hg); (have hh : True := hg); clear hh hg) | ((try simp only [zb] at hg); (try (have hh := hg; simp only [hh]; clear hh)); (try simp only [zg, zq, ne_eq, gt_iff_lt, ge_iff_le] at hg); (try (exfalso; omega)))))
      | with_reducible first | refine T_seq_assoc ?_ | refine T_skip_seq ?_ | refine T_ret_seq ?_ | refine T_exit_seq ?_ | refine T_ret ?_ | refine T_skip ?_ | refine T_exit ?_ | refine T_block_seq fun Kb hKb => ?_ | refine T_block ?_
      | (simp only [TX.inBlock, TX.then, zi, Nat.reduceEqDiff])
      | ((with_reducible first | refine hR _ _ (fun C cc => ?_) | refine hN _ _ (fun C cc => ?_)); simp (disch := omega) only [go_sem]; (with_reducible apply cc); clear cc C; (first | refine Ends.more rfl ?_ | refine Ends.same rfl ?_ | refine Ends.more (by simp only [go_sem, Bool.and_self]) ?_ | refine Ends.same (by simp only [go_sem, Bool.and_self]) ?_); (try simp only [go_sem, Bool.and_self]))
      | (with_reducible apply_assumption -exfalso -symm only [*]))

theorem next_walk (port : Int) : TCalls Try.prog 46 [.ptr r 0, .int .i64 port] σ fun v σ' => v = .tup [.str (B (nextR port bs).2.1), .bool (nextR port bs).2.2.1, .int .i64 (nextR port bs).2.2.2] ∧
    ∃ lab', RoomP σ' lab' c r lm locs (nextR port bs).1 ∧ Grow σ lab σ' lab' (fun n => c < n ∧ n ≤ c + bs.length) := by
  cases hi : idx (pts bs) port with
  | none =>
    have hq : nextR port bs = (bs, [], false, 20) := by rw [nextR, hi]
    rw [hq]
    have hf := pfind_none h hi
    refine TCalls.mono (Q := fun v σ' => v = .tup [.str (B []), .bool false, .int .i64 20] ∧ σ' = σ) ?_ (fun v σ' q => ⟨q.1, lab, by rw [q.2]; exact h, by rw [q.2]; exact Grow.refl _ _ _⟩)
    show TPure _ _ _ _ _
    refine pure_of [] [.tmp 4, .tmp 5, .tmp 6] Try.func46 (by kernel_rfl) rfl (by kernel_rfl) fun X hR hN => ?_
    show Tw _ _ _ _ ([some _, some _] ++ List.replicate 58 none) _
    simp only [List.replicate, List.cons_append, List.nil_append]
    repeat' (first
      | ((with_reducible refine WL_do fun Cw cw => ?_); (first | ((with_reducible first | apply O_move | apply O_assign | apply O_extract | apply O_nilCheck); (repeat rfl); (with_reducible apply cw); (focus ((try simp only [zp]); exact rfl)); clear cw Cw) | ((with_reducible first | apply O_load | apply O_fieldAddr | apply O_bin | apply O_indexAddr | apply O_len | apply O_un | apply O_store | apply O_alloc | apply O_typeAssert); (repeat rfl); simp (disch := omega) only [go_sem]; (with_reducible apply cw); (focus ((try simp only [zp]); exact rfl)); clear cw Cw) | ((with_reducible apply O_sliceR); (focus rfl); intro Cs cs; (try simp (disch := omega) only [evB, ev, constV, const1, Int.reduceLE, Int.natCast_nonneg, Int.toNat_natCast, Int.reduceToNat, if_true, if_pos, List.getElem?_cons_zero, List.getElem?_cons_succ, Option.bind_some, Option.bind_none]); simp (disch := omega) only [go_sem]; (with_reducible apply cs); clear cs Cs; (with_reducible apply cw); (focus ((try simp only [zp]); exact rfl)); clear cw Cw) | ((with_reducible first | apply O_callF | apply O_call); (repeat rfl); (try simp only [za]); (refine TPure.go (by (apply hf) <;> first | assumption | omega | exact Eq.trans (get_old (by assumption)) (by assumption)) ?_); (with_reducible apply cw); (focus ((try simp only [zp]); exact rfl)); clear cw Cw)))
      | ((with_reducible refine WL_nil (hK _ _ ?_)); clear hK K)
      | ((with_reducible first | refine T_reg_seq fun K hK => ?_ | refine T_reg_end fun K hK => ?_); simp only [zl])
      | ((with_reducible first | apply T_cond_seq | apply T_cond); (focus rfl))
      | (intro hg; (first | (simp only [zb] at hg; done) | ((try simp only [zb, eq_self] at hg); (have hh : True := hg); clear hh hg) | ((try simp only [zb] at hg); (try (have hh := hg; simp only [hh]; clear hh)); (try simp only [zg, zq, ne_eq, gt_iff_lt, ge_iff_le] at hg); (try (exfalso; omega)))))
      | with_reducible first | refine T_seq_assoc ?_ | refine T_skip_seq ?_ | refine T_ret_seq ?_ | refine T_exit_seq ?_ | refine T_ret ?_ | refine T_skip ?_ | refine T_exit ?_ | refine T_block_seq fun Kb hKb => ?_ | refine T_block ?_
      | (simp only [TX.inBlock, TX.then, zi, Nat.reduceEqDiff])
      | ((with_reducible first | refine hR _ _ (fun C cc => ?_) | refine hN _ _ (fun C cc => ?_)); simp (disch := omega) only [go_sem]; (with_reducible apply cc); clear cc C; (first | refine Ends.more rfl ?_ | refine Ends.same rfl ?_ | refine Ends.more (by simp only [go_sem, Bool.and_self]) ?_ | refine Ends.same (by simp only [go_sem, Bool.and_self]) ?_); (try simp only [go_sem, Bool.and_self]))
      | (with_reducible apply_assumption -exfalso -symm only [*]))
  | some k =>
    have hk : k < bs.length := by have := (idx_some hi).1; simpa using this
    have hf := pfind_some h hi
    have hp : nth (pts bs) k = (nth bs k).p := by rw [nth_eq (by simpa using hk), nth_eq hk]; simp
    rw [hp] at hf
    have hq : nextR port bs = (bs.set k (nextB (nth bs k)).1, (nextB (nth bs k)).2) := by rw [nextR, hi]
    rw [hq]
    have hbx := h.box k hk
    obtain ⟨hb1, hb2⟩ := h.box k hk
    have hok := h.ok _ (nth_mem hk)
    by_cases hkind : (nth bs k).p.kind = 1
    · have hb : nextB (nth bs k) = (nth bs k, [], false, 13) := by rw [nextB, if_pos hkind]
      rw [hb, nth_eq hk, List.set_getElem_self]
      refine TCalls.mono (Q := fun v σ' => v = .tup [.str (B []), .bool false, .int .i64 13] ∧ σ' = σ) ?_ (fun v σ' q => ⟨q.1, lab, by rw [q.2]; exact h, by rw [q.2]; exact Grow.refl _ _ _⟩)
      show TPure _ _ _ _ _
      refine pure_of [] [.tmp 4, .tmp 5, .tmp 6] Try.func46 (by kernel_rfl) rfl (by kernel_rfl) fun X hR hN => ?_
      show Tw _ _ _ _ ([some _, some _] ++ List.replicate 58 none) _
      simp only [List.replicate, List.cons_append, List.nil_append]
      repeat' (first
        | ((with_reducible refine WL_do fun Cw cw => ?_); (first | ((with_reducible first | apply O_move | apply O_assign | apply O_extract | apply O_nilCheck); (repeat rfl); (with_reducible apply cw); (focus ((try simp only [zp]); exact rfl)); clear cw Cw) | ((with_reducible first | apply O_load | apply O_fieldAddr | apply O_bin | apply O_indexAddr | apply O_len | apply O_un | apply O_store | apply O_alloc | apply O_typeAssert); (repeat rfl); simp (disch := omega) only [go_sem, hkind]; (with_reducible apply cw); (focus ((try simp only [zp]); exact rfl)); clear cw Cw) | ((with_reducible apply O_sliceR); (focus rfl); intro Cs cs; (try simp (disch := omega) only [evB, ev, constV, const1, Int.reduceLE, Int.natCast_nonneg, Int.toNat_natCast, Int.reduceToNat, if_true, if_pos, List.getElem?_cons_zero, List.getElem?_cons_succ, Option.bind_some, Option.bind_none]); simp (disch := omega) only [go_sem, hkind]; (with_reducible apply cs); clear cs Cs; (with_reducible apply cw); (focus ((try simp only [zp]); exact rfl)); clear cw Cw) | ((with_reducible first | apply O_callF | apply O_call); (repeat rfl); (try simp only [za]); (refine TDoes.go (by (apply hf <;> first | assumption | omega | exact Eq.trans (get_old (by assumption)) (by assumption) | (focus (simp (disch := omega) only [go_sem, hkind]; (try rfl); done)))) ?_; (try simp (disch := omega) only [go_sem, hkind])); (with_reducible apply cw); (focus ((try simp only [zp]); exact rfl)); clear cw Cw)))
        | ((with_reducible refine WL_nil (hK _ _ ?_)); clear hK K)
        | ((with_reducible first | refine T_reg_seq fun K hK => ?_ | refine T_reg_end fun K hK => ?_); simp only [zl])
        | ((with_reducible first | apply T_cond_seq | apply T_cond); (focus rfl))
        | (intro hg; (first | (simp only [zb] at hg; done) | ((try simp only [zb, eq_self] at hg); (have hh : True := hg); clear hh hg) | ((try simp only [zb] at hg); (try (have hh := hg; simp only [hh]; clear hh)); (try simp only [zg, zq, ne_eq, gt_iff_lt, ge_iff_le] at hg); (try (exfalso; omega)))))
        | with_reducible first | refine T_seq_assoc ?_ | refine T_skip_seq ?_ | refine T_ret_seq ?_ | refine T_exit_seq ?_ | refine T_ret ?_ | refine T_skip ?_ | refine T_exit ?_ | refine T_block_seq fun Kb hKb => ?_ | refine T_block ?_
        | (simp only [TX.inBlock, TX.then, zi, Nat.reduceEqDiff])
        | ((with_reducible first | refine hR _ _ (fun C cc => ?_) | refine hN _ _ (fun C cc => ?_)); simp (disch := omega) only [go_sem, hkind]; (with_reducible apply cc); clear cc C; (first | refine Ends.more rfl ?_ | refine Ends.same rfl ?_ | refine Ends.more (by simp only [go_sem, Bool.and_self]) ?_ | refine Ends.same (by simp only [go_sem, Bool.and_self]) ?_); (try simp only [go_sem, Bool.and_self]))
        | (with_reducible apply_assumption -exfalso -symm only [*]))
    · rw [if_neg hkind] at hb2
      obtain ⟨v, hb3, hb4⟩ := hb2
      have hlt := lt_of_get hb3
      have hlen := lenQ hb4
      have hp' := nextB_p (nth bs k)
      have ho' := nextB_ok hok
      cases hl : (nth bs k).l with
      | nil =>
        have hb : nextB (nth bs k) = ({ nth bs k with lost := false }, [], (nth bs k).lost, 23) := nextB_nil hkind hl
        rw [hb] at hp' ho' ⊢
        rw [hl] at hlen
        have hlen : tlenOp (mkTab Try.prog) 60 v = some (.int .i64 0) := hlen
        refine calls_of [] [.tmp 4, .tmp 5, .tmp 6] Try.func46 (by kernel_rfl) rfl (by kernel_rfl) fun X hR hN => ?_
        show Tw _ _ _ _ ([some _, some _] ++ List.replicate 58 none) _
        simp only [List.replicate, List.cons_append, List.nil_append]
        repeat' (first
          | ((with_reducible refine WL_do fun Cw cw => ?_); (first | ((with_reducible first | apply O_move | apply O_assign | apply O_extract | apply O_nilCheck); (repeat rfl); (with_reducible apply cw); (focus ((try simp only [zp]); exact rfl)); clear cw Cw) | ((with_reducible first | apply O_load | apply O_fieldAddr | apply O_bin | apply O_indexAddr | apply O_len | apply O_un | apply O_store | apply O_alloc | apply O_typeAssert); (repeat rfl); simp (disch := omega) only [go_sem, hkind, hb3, ↓hlen]; (with_reducible apply cw); (focus ((try simp only [zp]); exact rfl)); clear cw Cw) | ((with_reducible apply O_sliceR); (focus rfl); intro Cs cs; (try simp (disch := omega) only [evB, ev, constV, const1, Int.reduceLE, Int.natCast_nonneg, Int.toNat_natCast, Int.reduceToNat, if_true, if_pos, List.getElem?_cons_zero, List.getElem?_cons_succ, Option.bind_some, Option.bind_none]); simp (disch := omega) only [go_sem, hkind, hb3, ↓hlen]; (with_reducible apply cs); clear cs Cs; (with_reducible apply cw); (focus ((try simp only [zp]); exact rfl)); clear cw Cw) | ((with_reducible first | apply O_callF | apply O_call); (repeat rfl); (try simp only [za]); (refine TDoes.go (by (apply hf <;> first | assumption | omega | exact Eq.trans (get_old (by assumption)) (by assumption) | (focus (simp (disch := omega) only [go_sem, hkind, hb3, ↓hlen]; (try rfl); done)))) ?_; (try simp (disch := omega) only [go_sem, hkind, hb3, ↓hlen])); (with_reducible apply cw); (focus ((try simp only [zp]); exact rfl)); clear cw Cw)))
          | ((with_reducible refine WL_nil (hK _ _ ?_)); clear hK K)
          | ((with_reducible first | refine T_reg_seq fun K hK => ?_ | refine T_reg_end fun K hK => ?_); simp only [zl])
          | ((with_reducible first | apply T_cond_seq | apply T_cond); (focus rfl))
          | (intro hg; (first | (simp only [zb] at hg; done) | ((try simp only [zb, eq_self] at hg); (have hh : True := hg); clear hh hg) | ((try simp only [zb] at hg); (try (have hh := hg; simp only [hh]; clear hh)); (try simp only [zg, zq, ne_eq, gt_iff_lt, ge_iff_le] at hg); (try (exfalso; omega)))))
          | with_reducible first | refine T_seq_assoc ?_ | refine T_skip_seq ?_ | refine T_ret_seq ?_ | refine T_exit_seq ?_ | refine T_ret ?_ | refine T_skip ?_ | refine T_exit ?_ | refine T_block_seq fun Kb hKb => ?_ | refine T_block ?_
          | (simp only [TX.inBlock, TX.then, zi, Nat.reduceEqDiff])
          | ((with_reducible first | refine hR _ _ (fun C cc => ?_) | refine hN _ _ (fun C cc => ?_)); simp (disch := omega) only [go_sem, hkind, hb3, ↓hlen]; (with_reducible apply cc); clear cc C)
          | (with_reducible apply_assumption -exfalso -symm only [*]))
        all_goals
          refine ⟨by first | rfl | trivial, labX lab σ.length (c + 1 + k), h.turn hk hp' (Grow.set (C := (· = c + 1 + k)) (lab := lab) (l := nth locs k) _ hb1 (c + 1 + k)) ⟨(labX_old hlt).trans hb1, ?_⟩ ho', (Grow.set (C := (· = c + 1 + k)) (lab := lab) (l := nth locs k) _ hb1 (c + 1 + k)).mono fun n e => by have e : n = c + 1 + k := e; omega⟩
          rw [if_neg hkind]
          exact ⟨v, by rw [List.getElem?_append_left (by simpa using hlt)]; exact List.getElem?_set_self hlt, hb4.set hb3 _ _ _⟩
      | cons s rs =>
        have hb : nextB (nth bs k) = ({ nth bs k with l := rs, lost := false }, s, (nth bs k).lost, 0) := nextB_cons hkind hl
        rw [hb] at hp' ho' ⊢
        rw [hl] at hb4 hlen
        rcases hb4 with ⟨_, hb4⟩ | ⟨t, e, hb5, rfl, hb6⟩
        · cases hb4
        have hlen2 : ((rs.length + 1 : Nat) : Int) ≠ 0 := by omega
        refine calls_of [] [.tmp 4, .tmp 5, .tmp 6] Try.func46 (by kernel_rfl) rfl (by kernel_rfl) fun X hR hN => ?_
        show Tw _ _ _ _ ([some _, some _] ++ List.replicate 58 none) _
        simp only [List.replicate, List.cons_append, List.nil_append]
        repeat' (first
          | ((with_reducible refine WL_do fun Cw cw => ?_); (first | ((with_reducible first | apply O_move | apply O_assign | apply O_extract | apply O_nilCheck); (repeat rfl); (with_reducible apply cw); (focus ((try simp only [zp]); exact rfl)); clear cw Cw) | ((with_reducible first | apply O_load | apply O_fieldAddr | apply O_bin | apply O_indexAddr | apply O_len | apply O_un | apply O_store | apply O_alloc | apply O_typeAssert); (repeat rfl); simp (disch := omega) only [go_sem, hkind, hb3, ↓cutS, ↓headS]; (with_reducible apply cw); (focus ((try simp only [zp]); exact rfl)); clear cw Cw) | ((with_reducible apply O_sliceR); (focus rfl); intro Cs cs; (try simp (disch := omega) only [evB, ev, constV, const1, Int.reduceLE, Int.natCast_nonneg, Int.toNat_natCast, Int.reduceToNat, if_true, if_pos, List.getElem?_cons_zero, List.getElem?_cons_succ, Option.bind_some, Option.bind_none]); simp (disch := omega) only [go_sem, hkind, hb3, ↓cutS, ↓headS]; (with_reducible apply cs); clear cs Cs; (with_reducible apply cw); (focus ((try simp only [zp]); exact rfl)); clear cw Cw) | ((with_reducible first | apply O_callF | apply O_call); (repeat rfl); (try simp only [za]); (refine TDoes.go (by (apply hf <;> first | assumption | omega | exact Eq.trans (get_old (by assumption)) (by assumption) | (focus (simp (disch := omega) only [go_sem, hkind, hb3, ↓cutS, ↓headS]; (try rfl); done)))) ?_; (try simp (disch := omega) only [go_sem, hkind, hb3, ↓cutS, ↓headS])); (with_reducible apply cw); (focus ((try simp only [zp]); exact rfl)); clear cw Cw)))
          | ((with_reducible refine WL_nil (hK _ _ ?_)); clear hK K)
          | ((with_reducible first | refine T_reg_seq fun K hK => ?_ | refine T_reg_end fun K hK => ?_); simp only [zl])
          | ((with_reducible first | apply T_cond_seq | apply T_cond); (focus rfl))
          | (intro hg; (first | (simp only [zb] at hg; done) | ((try simp only [zb, eq_self] at hg); (have hh : True := hg); clear hh hg) | ((try simp only [zb] at hg); (try (have hh := hg; simp only [hh]; clear hh)); (try simp only [zg, zq, ne_eq, gt_iff_lt, ge_iff_le] at hg); (try (exfalso; omega)))))
          | with_reducible first | refine T_seq_assoc ?_ | refine T_skip_seq ?_ | refine T_ret_seq ?_ | refine T_exit_seq ?_ | refine T_ret ?_ | refine T_skip ?_ | refine T_exit ?_ | refine T_block_seq fun Kb hKb => ?_ | refine T_block ?_
          | (simp only [TX.inBlock, TX.then, zi, Nat.reduceEqDiff])
          | ((with_reducible first | refine hR _ _ (fun C cc => ?_) | refine hN _ _ (fun C cc => ?_)); simp (disch := omega) only [go_sem, hkind, hb3, ↓cutS, ↓headS]; (with_reducible apply cc); clear cc C)
          | (with_reducible apply_assumption -exfalso -symm only [*]))
        all_goals
          refine ⟨by first | rfl | trivial, labX lab σ.length (c + 1 + k), h.turn hk hp' (Grow.set (C := (· = c + 1 + k)) (lab := lab) (l := nth locs k) _ hb1 (c + 1 + k)) ⟨(labX_old hlt).trans hb1, ?_⟩ ho', (Grow.set (C := (· = c + 1 + k)) (lab := lab) (l := nth locs k) _ hb1 (c + 1 + k)).mono fun n e => by have e : n = c + 1 + k := e; omega⟩
          rw [if_neg hkind]
          exact ⟨_, by rw [List.getElem?_append_left (by simpa using hlt)]; exact List.getElem?_set_self hlt, QS.set (.inr ⟨t, e, hb5, rfl, hb6⟩) hb3 _ _ _⟩
end
end Go.Proofs.Ytgkcackpffimmaa
