/- What the rooms of the reference compute. -/
import Derived.Test.YtgkcackpffimmaaP5
set_option linter.unusedVariables false
set_option linter.unusedSimpArgs false
set_option maxRecDepth 10000
set_option maxHeartbeats 4000000
namespace Go.Proofs.Ytgkcackpffimmaa
open Go.TM

theorem reftime_walk (now : Int) (σ : TS) : TPure Try.prog 163 [.int .i64 now] σ (.bool (decide (TimeOk now))) := by
  by_cases h : TimeOk now
  · rw [decide_eq_true h]
    refine pure_of [] [.tmp 2] Try.func163 (by kernel_rfl) rfl (by kernel_rfl) fun X hR hN => ?_
    show Tw _ _ _ _ ([some _] ++ List.replicate 8 none) _
    simp only [List.replicate, List.cons_append, List.nil_append]
    repeat' (first
      | ((with_reducible refine WL_do fun Cw cw => ?_); (first | ((with_reducible first | apply O_move | apply O_assign | apply O_pickV); (repeat rfl); (with_reducible apply cw); (focus ((try simp only [zp]); exact rfl)); clear cw Cw) | ((with_reducible apply O_bin); (repeat rfl); simp (disch := omega) only [go_sem]; (with_reducible apply cw); (focus ((try simp only [zp]); exact rfl)); clear cw Cw)))
      | ((first | ((with_reducible apply WL_if); (focus rfl)) | ((with_reducible apply WL_un); (focus rfl))); (focus ((try simp only [zp]); exact rfl)))
      | ((with_reducible refine WL_nil (hK _ _ ?_)); clear hK K)
      | ((with_reducible first | refine T_reg_seq fun K hK => ?_ | refine T_reg_end fun K hK => ?_); simp only [zl])
      | ((with_reducible first | apply T_cond_seq | apply T_cond); (focus rfl))
      | (intro hg; (first | (simp only [zb] at hg; done) | ((try simp only [zb, eq_self] at hg); (have hh : True := hg); clear hh hg) | ((try simp only [zb] at hg); (try (have hh := hg; simp only [hh]; clear hh)); (try simp only [zg, zq, ne_eq, gt_iff_lt, ge_iff_le] at hg); (try (exfalso; omega)))))
      | with_reducible first | refine T_seq_assoc ?_ | refine T_skip_seq ?_ | refine T_ret_seq ?_ | refine T_exit_seq ?_ | refine T_ret ?_ | refine T_skip ?_ | refine T_exit ?_ | refine T_block_seq fun Kb hKb => ?_ | refine T_block ?_
      | (simp only [TX.inBlock, TX.then, zi, Nat.reduceEqDiff])
      | ((with_reducible first | refine hR _ _ (fun C cc => ?_) | refine hN _ _ (fun C cc => ?_)); simp (disch := omega) only [go_sem]; (with_reducible apply cc); clear cc C; (first | refine Ends.more rfl ?_ | refine Ends.same rfl ?_ | refine Ends.more (by simp only [go_sem, Bool.and_self]) ?_ | refine Ends.same (by simp only [go_sem, Bool.and_self]) ?_); (try simp only [go_sem, Bool.and_self]))
      | (with_reducible apply_assumption -exfalso -symm only [*]))
    all_goals rw [decide_eq_true (by omega)]
  · rw [decide_eq_false h]
    refine pure_of [] [.tmp 2] Try.func163 (by kernel_rfl) rfl (by kernel_rfl) fun X hR hN => ?_
    show Tw _ _ _ _ ([some _] ++ List.replicate 8 none) _
    simp only [List.replicate, List.cons_append, List.nil_append]
    repeat' (first
      | ((with_reducible refine WL_do fun Cw cw => ?_); (first | ((with_reducible first | apply O_move | apply O_assign | apply O_pickV); (repeat rfl); (with_reducible apply cw); (focus ((try simp only [zp]); exact rfl)); clear cw Cw) | ((with_reducible apply O_bin); (repeat rfl); simp (disch := omega) only [go_sem]; (with_reducible apply cw); (focus ((try simp only [zp]); exact rfl)); clear cw Cw)))
      | ((first | ((with_reducible apply WL_if); (focus rfl)) | ((with_reducible apply WL_un); (focus rfl))); (focus ((try simp only [zp]); exact rfl)))
      | ((with_reducible refine WL_nil (hK _ _ ?_)); clear hK K)
      | ((with_reducible first | refine T_reg_seq fun K hK => ?_ | refine T_reg_end fun K hK => ?_); simp only [zl])
      | ((with_reducible first | apply T_cond_seq | apply T_cond); (focus rfl))
      | (intro hg; (first | (simp only [zb] at hg; done) | ((try simp only [zb, eq_self] at hg); (have hh : True := hg); clear hh hg) | ((try simp only [zb] at hg); (try (have hh := hg; simp only [hh]; clear hh)); (try simp only [zg, zq, ne_eq, gt_iff_lt, ge_iff_le] at hg); (try (exfalso; omega)))))
      | with_reducible first | refine T_seq_assoc ?_ | refine T_skip_seq ?_ | refine T_ret_seq ?_ | refine T_exit_seq ?_ | refine T_ret ?_ | refine T_skip ?_ | refine T_exit ?_ | refine T_block_seq fun Kb hKb => ?_ | refine T_block ?_
      | (simp only [TX.inBlock, TX.then, zi, Nat.reduceEqDiff])
      | ((with_reducible first | refine hR _ _ (fun C cc => ?_) | refine hN _ _ (fun C cc => ?_)); simp (disch := omega) only [go_sem]; (with_reducible apply cc); clear cc C; (first | refine Ends.more rfl ?_ | refine Ends.same rfl ?_ | refine Ends.more (by simp only [go_sem, Bool.and_self]) ?_ | refine Ends.same (by simp only [go_sem, Bool.and_self]) ?_); (try simp only [go_sem, Bool.and_self]))
      | (with_reducible apply_assumption -exfalso -symm only [*]))
    all_goals rw [decide_eq_false (by omega)]

theorem ptrC_len (ls : List Nat) : (ls.flatMap ptrC).length = ls.length := by rw [flat_length (k := 1) (fun _ => rfl)]; omega
theorem lenV {v : TV} {locs : List Nat} (h : RV v locs) : tlenOp (mkTab Try.prog) 167 v = some (.int .i64 locs.length) := by
  rcases h with ⟨rfl, rfl⟩ | ⟨own, rfl⟩ <;> simp [tlenOp, tab167]
theorem ixV {v : TV} {locs : List Nat} (h : RV v locs) {i : Nat} (hi : i < locs.length) : tindexAddr (mkTab Try.prog) 167 v (.int .i64 i) = some (.cp (.ptr (nth locs i) 0 :: (locs.drop (i + 1)).flatMap ptrC)) := by
  rcases h with ⟨rfl, rfl⟩ | ⟨own, rfl⟩
  · cases hi
  · unfold tindexAddr
    simp only [tab167, tab170, Int.toNat_natCast]
    rw [if_pos ⟨by omega, by omega, by rw [ptrC_len]; omega⟩, flat_drop (k := 1) (fun _ => rfl) hi]
    rfl

section
variable {σ : TS} {lab : Nat → Nat} {c r : Nat} {v : TV} {locs : List Nat} {bs : List Bx} (h : RoomR σ lab c r v locs bs)
include h

theorem boxR_get {k : Nat} (hk : k < bs.length) : ∃ w, σ[nth locs k]? = some (.cells (portC (nth bs k).p ++ [w, .int .i64 (nth bs k).at_, .bool (nth bs k).lost])) := by
  obtain ⟨_, w, h2, _⟩ := h.box k hk
  exact ⟨w, h2⟩

theorem get_walk (port : Int) (hlen : bs.length ≤ 1000000) : TDoes Try.prog 129 [.ptr r 0, .int .i64 port] σ (match idx (pts bs) port with | none => .nilp | some k => .ptr (nth locs k) 0) σ := by
  have hr := h.hr
  have hlv := lenV h.hv
  have hll := h.len
  have hpl : (pts bs).length = bs.length := List.length_map _
  refine calls_of [] [.tmp 4] Try.func129 (by kernel_rfl) rfl (by kernel_rfl) fun X hR hN => ?_
  show Tw _ _ _ _ ([some _, some _] ++ List.replicate 33 none) _
  simp only [List.replicate, List.cons_append, List.nil_append]
  repeat' (first
    | ((with_reducible refine WL_do fun Cw cw => ?_); (first | ((with_reducible first | apply O_move | apply O_assign | apply O_nilCheck); (repeat rfl); (with_reducible apply cw); (focus ((try simp only [zp]); exact rfl)); clear cw Cw) | ((with_reducible first | apply O_load | apply O_fieldAddr | apply O_bin | apply O_indexAddr | apply O_len); (repeat rfl); simp (disch := omega) only [go_sem]; (with_reducible apply cw); (focus ((try simp only [zp]); exact rfl)); clear cw Cw)))
    | ((with_reducible refine WL_nil (hK _ _ ?_)); clear hK K)
    | ((with_reducible first | refine T_reg_seq fun K hK => ?_ | refine T_reg_end fun K hK => ?_); simp only [zl])
    | ((with_reducible first | apply T_cond_seq | apply T_cond); (focus rfl))
    | (intro hg; (first | (simp only [zb] at hg; done) | ((try simp only [zb, eq_self] at hg); (have hh : True := hg); clear hh hg) | ((try simp only [zb] at hg); (try (have hh := hg; simp only [hh]; clear hh)); (try simp only [zg, zq, ne_eq, gt_iff_lt, ge_iff_le] at hg); (try (exfalso; omega)))))
    | with_reducible first | refine T_seq_assoc ?_ | refine T_skip_seq ?_ | refine T_ret_seq ?_ | refine T_exit_seq ?_ | refine T_ret ?_ | refine T_skip ?_ | refine T_exit ?_ | refine T_block_seq fun Kb hKb => ?_ | refine T_block ?_
    | (simp only [TX.inBlock, TX.then, zi, Nat.reduceEqDiff])
    | ((with_reducible first | refine hR _ _ (fun C cc => ?_) | refine hN _ _ (fun C cc => ?_)); simp (disch := omega) only [go_sem]; (with_reducible apply cc); clear cc C)
    | (with_reducible apply_assumption -exfalso -symm only [*]))
  refine T_each (α := Nat) (fun i => [some (some (.ptr r 0)), some (some (.int .i64 port)), none, none, none, some (some (.int .i64 i)), none, none, none, none, none, none, none, none, none, none, none, none, none, none, none, none, none, none, none, none, none, none, none, none, none, none, none, none, none]) (fun i => i ≤ bs.length ∧ ∀ j, j < i → (nth bs j).p.id ≠ port) (fun i => bs.length - i) (fun i => σ) ?_ ?_
  · refine ⟨(0), ⟨rfl, rfl, rfl, trivial⟩, ?_, rfl⟩
    exact ⟨by omega, fun j hj => by omega⟩
  · rintro i q ⟨hi, hno⟩
    show Tw _ _ _ _ ([some (.ptr r 0), some (.int .i64 port), q 2, q 3, q 4, some (.int .i64 i), q 6, q 7, q 8, q 9, q 10, q 11, q 12, q 13, q 14, q 15, q 16, q 17, q 18, q 19, q 20, q 21, q 22, q 23, q 24, q 25, q 26, q 27, q 28, q 29, q 30, q 31, q 32, q 33, q 34]) (σ)
    rcases Nat.lt_or_ge i bs.length with hlt | hge
    · obtain ⟨w, hb⟩ := boxR_get h hlt
      have hb := hb
      simp only [List.cons_append, List.nil_append] at hb
      have hix := ixV h.hv (i := i) (by omega)
      have hp : nth (pts bs) i = (nth bs i).p := nth_map _ hlt
      repeat' (first
        | ((with_reducible refine WL_do fun Cw cw => ?_); (first | ((with_reducible first | apply O_move | apply O_assign | apply O_nilCheck); (repeat rfl); (with_reducible apply cw); (focus ((try simp only [zp]); exact rfl)); clear cw Cw) | ((with_reducible first | apply O_load | apply O_fieldAddr | apply O_bin | apply O_indexAddr | apply O_len); (repeat rfl); simp (disch := omega) only [go_sem, hr, hb, ↓hlv, ↓hix]; (with_reducible apply cw); (focus ((try simp only [zp]); exact rfl)); clear cw Cw)))
        | ((with_reducible refine WL_nil (hK _ _ ?_)); clear hK K)
        | ((with_reducible first | refine T_reg_seq fun K hK => ?_ | refine T_reg_end fun K hK => ?_); simp only [zl])
        | ((with_reducible first | apply T_cond_seq | apply T_cond); (focus rfl))
        | (intro hg; (first | (simp only [zb] at hg; done) | ((try simp only [zb, eq_self] at hg); (have hh : True := hg); clear hh hg) | ((try simp only [zb] at hg); (try (have hh := hg; simp only [hh]; clear hh)); (try simp only [zg, zq, ne_eq, gt_iff_lt, ge_iff_le] at hg); (try (exfalso; omega)))))
        | with_reducible first | refine T_seq_assoc ?_ | refine T_skip_seq ?_ | refine T_ret_seq ?_ | refine T_exit_seq ?_ | refine T_ret ?_ | refine T_skip ?_ | refine T_exit ?_ | refine T_block_seq fun Kb hKb => ?_ | refine T_block ?_
        | (simp only [TX.inBlock, TX.then, zi, Nat.reduceEqDiff])
        | ((with_reducible first | refine hR _ _ (fun C cc => ?_) | refine hN _ _ (fun C cc => ?_)); simp (disch := omega) only [go_sem, hr, hb, ↓hlv, ↓hix]; (with_reducible apply cc); clear cc C)
        | (with_reducible apply_assumption -exfalso -symm only [*]))
      · have hid : (nth bs i).p.id = port := by assumption
        rw [idx_is (k := i) (by omega) (by rw [hp]; exact hid) (fun j hj => by rw [pts, nth_map _ (by omega)]; exact hno j hj)]
        first | exact ⟨rfl, rfl⟩ | exact ⟨rfl, trivial⟩ | exact ⟨trivial, rfl⟩ | trivial
      · have hid : (nth bs i).p.id ≠ port := by assumption
        refine ⟨(i + 1), ?_, ⟨rfl, rfl, rfl, trivial⟩, ?_, (by first | rfl | trivial)⟩
        all_goals (try dsimp only)
        · omega
        · exact ⟨by omega, fun j hj => by rcases Nat.lt_or_ge j i with hj' | hj'; exact hno j hj'; obtain rfl : j = i := by omega
                                          exact hid⟩
    · repeat' (first
        | ((with_reducible refine WL_do fun Cw cw => ?_); (first | ((with_reducible first | apply O_move | apply O_assign | apply O_nilCheck); (repeat rfl); (with_reducible apply cw); (focus ((try simp only [zp]); exact rfl)); clear cw Cw) | ((with_reducible first | apply O_load | apply O_fieldAddr | apply O_bin | apply O_indexAddr | apply O_len); (repeat rfl); simp (disch := omega) only [go_sem, hr, ↓hlv]; (with_reducible apply cw); (focus ((try simp only [zp]); exact rfl)); clear cw Cw)))
        | ((with_reducible refine WL_nil (hK _ _ ?_)); clear hK K)
        | ((with_reducible first | refine T_reg_seq fun K hK => ?_ | refine T_reg_end fun K hK => ?_); simp only [zl])
        | ((with_reducible first | apply T_cond_seq | apply T_cond); (focus rfl))
        | (intro hg; (first | (simp only [zb] at hg; done) | ((try simp only [zb, eq_self] at hg); (have hh : True := hg); clear hh hg) | ((try simp only [zb] at hg); (try (have hh := hg; simp only [hh]; clear hh)); (try simp only [zg, zq, ne_eq, gt_iff_lt, ge_iff_le] at hg); (try (exfalso; omega)))))
        | with_reducible first | refine T_seq_assoc ?_ | refine T_skip_seq ?_ | refine T_ret_seq ?_ | refine T_exit_seq ?_ | refine T_ret ?_ | refine T_skip ?_ | refine T_exit ?_ | refine T_block_seq fun Kb hKb => ?_ | refine T_block ?_
        | (simp only [TX.inBlock, TX.then, zi, Nat.reduceEqDiff])
        | ((with_reducible first | refine hR _ _ (fun C cc => ?_) | refine hN _ _ (fun C cc => ?_)); simp (disch := omega) only [go_sem, hr, ↓hlv]; (with_reducible apply cc); clear cc C)
        | (with_reducible apply_assumption -exfalso -symm only [*]))
      rw [idx_no fun j hj => by rw [pts, nth_map _ (by omega)]; exact hno j (by omega)]
      first | exact ⟨rfl, rfl⟩ | exact ⟨rfl, trivial⟩ | exact ⟨trivial, rfl⟩ | trivial

theorem reflen_walk (port : Int) (hlen : bs.length ≤ 1000000) : TPure Try.prog 52 [.ptr r 0, .int .i64 port] σ (.int .i64 (lenR port bs)) := by
  have hg := get_walk h port hlen
  cases hi : idx (pts bs) port with
  | none =>
    rw [hi] at hg
    rw [lenR, hi]
    refine pure_of [] [.tmp 4] Try.func52 (by kernel_rfl) rfl (by kernel_rfl) fun X hR hN => ?_
    show Tw _ _ _ _ ([some _, some _] ++ List.replicate 14 none) _
    simp only [List.replicate, List.cons_append, List.nil_append]
    repeat' (first
      | ((with_reducible refine WL_do fun Cw cw => ?_); (first | ((with_reducible first | apply O_move | apply O_assign | apply O_nilCheck); (repeat rfl); (with_reducible apply cw); (focus ((try simp only [zp]); exact rfl)); clear cw Cw) | ((with_reducible first | apply O_load | apply O_fieldAddr | apply O_bin | apply O_len); (repeat rfl); simp (disch := omega) only [go_sem]; (with_reducible apply cw); (focus ((try simp only [zp]); exact rfl)); clear cw Cw) | ((with_reducible first | apply O_callF | apply O_call); (repeat rfl); (try simp only [za]); (refine TDoes.go (by (apply hg <;> first | assumption | omega | exact Eq.trans (get_old (by assumption)) (by assumption) | (focus (simp (disch := omega) only [go_sem]; (try rfl); done)))) ?_; (try simp (disch := omega) only [go_sem])); (with_reducible apply cw); (focus ((try simp only [zp]); exact rfl)); clear cw Cw)))
      | ((with_reducible refine WL_nil (hK _ _ ?_)); clear hK K)
      | ((with_reducible first | refine T_reg_seq fun K hK => ?_ | refine T_reg_end fun K hK => ?_); simp only [zl])
      | ((with_reducible first | apply T_cond_seq | apply T_cond); (focus rfl))
      | (intro hg; (first | (simp only [zb] at hg; done) | ((try simp only [zb, eq_self] at hg); (have hh : True := hg); clear hh hg) | ((try simp only [zb] at hg); (try (have hh := hg; simp only [hh]; clear hh)); (try simp only [zg, zq, ne_eq, gt_iff_lt, ge_iff_le] at hg); (try (exfalso; omega)))))
      | with_reducible first | refine T_seq_assoc ?_ | refine T_skip_seq ?_ | refine T_ret_seq ?_ | refine T_exit_seq ?_ | refine T_ret ?_ | refine T_skip ?_ | refine T_exit ?_ | refine T_block_seq fun Kb hKb => ?_ | refine T_block ?_
      | (simp only [TX.inBlock, TX.then, zi, Nat.reduceEqDiff])
      | ((with_reducible first | refine hR _ _ (fun C cc => ?_) | refine hN _ _ (fun C cc => ?_)); simp (disch := omega) only [go_sem]; (with_reducible apply cc); clear cc C; (first | refine Ends.more rfl ?_ | refine Ends.same rfl ?_ | refine Ends.more (by simp only [go_sem, Bool.and_self]) ?_ | refine Ends.same (by simp only [go_sem, Bool.and_self]) ?_); (try simp only [go_sem, Bool.and_self]))
      | (with_reducible apply_assumption -exfalso -symm only [*]))
  | some k =>
    rw [hi] at hg
    rw [lenR, hi]
    have hk : k < bs.length := by have := (idx_some hi).1; simpa using this
    obtain ⟨hb1, w, hb2, hb3⟩ := h.box k hk
    simp only [List.cons_append, List.nil_append] at hb2
    have hlw : tlenOp (mkTab Try.prog) 60 w = some (.int .i64 (nth bs k).l.length) := by
      split at hb3
      · unfold RL at hb3
        rw [hb3]
        split
        · rename_i e; rw [e]; rfl
        · simp [tlenOp, tab60]
      · exact lenQ hb3
    refine pure_of [] [.tmp 4] Try.func52 (by kernel_rfl) rfl (by kernel_rfl) fun X hR hN => ?_
    show Tw _ _ _ _ ([some _, some _] ++ List.replicate 14 none) _
    simp only [List.replicate, List.cons_append, List.nil_append]
    repeat' (first
      | ((with_reducible refine WL_do fun Cw cw => ?_); (first | ((with_reducible first | apply O_move | apply O_assign | apply O_nilCheck); (repeat rfl); (with_reducible apply cw); (focus ((try simp only [zp]); exact rfl)); clear cw Cw) | ((with_reducible first | apply O_load | apply O_fieldAddr | apply O_bin | apply O_len); (repeat rfl); simp (disch := omega) only [go_sem, hb2, ↓hlw]; (with_reducible apply cw); (focus ((try simp only [zp]); exact rfl)); clear cw Cw) | ((with_reducible first | apply O_callF | apply O_call); (repeat rfl); (try simp only [za]); (refine TDoes.go (by (apply hg <;> first | assumption | omega | exact Eq.trans (get_old (by assumption)) (by assumption) | (focus (simp (disch := omega) only [go_sem, hb2, ↓hlw]; (try rfl); done)))) ?_; (try simp (disch := omega) only [go_sem, hb2, ↓hlw])); (with_reducible apply cw); (focus ((try simp only [zp]); exact rfl)); clear cw Cw)))
      | ((with_reducible refine WL_nil (hK _ _ ?_)); clear hK K)
      | ((with_reducible first | refine T_reg_seq fun K hK => ?_ | refine T_reg_end fun K hK => ?_); simp only [zl])
      | ((with_reducible first | apply T_cond_seq | apply T_cond); (focus rfl))
      | (intro hg; (first | (simp only [zb] at hg; done) | ((try simp only [zb, eq_self] at hg); (have hh : True := hg); clear hh hg) | ((try simp only [zb] at hg); (try (have hh := hg; simp only [hh]; clear hh)); (try simp only [zg, zq, ne_eq, gt_iff_lt, ge_iff_le] at hg); (try (exfalso; omega)))))
      | with_reducible first | refine T_seq_assoc ?_ | refine T_skip_seq ?_ | refine T_ret_seq ?_ | refine T_exit_seq ?_ | refine T_ret ?_ | refine T_skip ?_ | refine T_exit ?_ | refine T_block_seq fun Kb hKb => ?_ | refine T_block ?_
      | (simp only [TX.inBlock, TX.then, zi, Nat.reduceEqDiff])
      | ((with_reducible first | refine hR _ _ (fun C cc => ?_) | refine hN _ _ (fun C cc => ?_)); simp (disch := omega) only [go_sem, hb2, ↓hlw]; (with_reducible apply cc); clear cc C; (first | refine Ends.more rfl ?_ | refine Ends.same rfl ?_ | refine Ends.more (by simp only [go_sem, Bool.and_self]) ?_ | refine Ends.same (by simp only [go_sem, Bool.and_self]) ?_); (try simp only [go_sem, Bool.and_self]))
      | (with_reducible apply_assumption -exfalso -symm only [*]))

theorem refsample_walk (now port : Int) (hlen : bs.length ≤ 1000000) : TPure Try.prog 126 [.ptr r 0, .int .i64 now, .int .i64 port] σ (.tup [.str (B (sampleR now port bs).1), .bool (sampleR now port bs).2.1, .int .i64 (sampleR now port bs).2.2]) := by
  have hti := fun τ => reftime_walk now τ
  have hg := get_walk h port hlen
  by_cases hn : TimeOk now
  · simp only [decide_eq_true hn] at hti
    cases hi : idx (pts bs) port with
    | none =>
      rw [hi] at hg
      have hq : sampleR now port bs = ([], false, 20) := by rw [sampleR, if_neg (fun e => e hn), hi]
      rw [hq]
      refine pure_of [] [.tmp 6, .tmp 7, .tmp 8] Try.func126 (by kernel_rfl) rfl (by kernel_rfl) fun X hR hN => ?_
      show Tw _ _ _ _ ([some _, some _, some _] ++ List.replicate 51 none) _
      simp only [List.replicate, List.cons_append, List.nil_append]
      repeat' (first
        | ((first | (with_reducible refine WL_do fun Cw cw => ?_) | ((with_reducible apply WP_do); intro Cw cw)); (focus (first | ((with_reducible first | apply O_move | apply O_assign | apply O_nilCheck); (repeat rfl); (first | (with_reducible exact cw) | ((with_reducible apply cw); (focus ((try simp only [zp]); exact rfl)); clear cw Cw))) | ((with_reducible first | apply O_load | apply O_fieldAddr | apply O_bin | apply O_indexAddr | apply O_len | apply O_un); (repeat rfl); simp (disch := omega) only [go_sem]; (first | (with_reducible exact cw) | ((with_reducible apply cw); (focus ((try simp only [zp]); exact rfl)); clear cw Cw))) | ((with_reducible first | apply O_callF | apply O_call); (repeat rfl); (try simp only [za]); (first | (refine TPure.go (by (apply hti <;> first | assumption | omega | exact Eq.trans (get_old (by assumption)) (by assumption) | (focus (simp (disch := omega) only [go_sem]; (try rfl); done)))) ?_) | (refine TDoes.go (by (apply hg <;> first | assumption | omega | exact Eq.trans (get_old (by assumption)) (by assumption) | (focus (simp (disch := omega) only [go_sem]; (try rfl); done)))) ?_; (try simp (disch := omega) only [go_sem]))); (first | (with_reducible exact cw) | ((with_reducible apply cw); (focus ((try simp only [zp]); exact rfl)); clear cw Cw))))); (try ((with_reducible apply eq_id); (focus ((try simp only [zp]); exact rfl)))))
        | ((with_reducible first | refine WL_nil (hK _ _ ?_) | refine WP_nil (hK _ _ ?_)); clear hK K)
        | ((with_reducible first | refine T_reg_seq fun K hK => ?_ | refine T_reg_end fun K hK => ?_); simp only [zl])
        | ((with_reducible first | refine T_pure_seq ?_ ?_ (fun K hK => ?_) | refine T_pure_end ?_ ?_ (fun K hK => ?_)); (focus kernel_rfl); (focus kernel_rfl); simp only [zl])
        | ((with_reducible first | apply T_cond_seq | apply T_cond); (focus rfl))
        | (intro hg; (first | (simp only [zb] at hg; done) | ((try simp only [zb, eq_self] at hg); (have hh : True := hg); clear hh hg) | ((try simp only [zb] at hg); (try (have hh := hg; simp only [hh]; clear hh)); (try simp only [zg, zq, ne_eq, gt_iff_lt, ge_iff_le] at hg); (try (exfalso; omega)))))
        | with_reducible first | refine T_seq_assoc ?_ | refine T_skip_seq ?_ | refine T_ret_seq ?_ | refine T_exit_seq ?_ | refine T_ret ?_ | refine T_skip ?_ | refine T_exit ?_ | refine T_block_seq fun Kb hKb => ?_ | refine T_block ?_
        | (simp only [TX.inBlock, TX.then, zi, Nat.reduceEqDiff])
        | ((with_reducible first | refine hR _ _ (fun C cc => ?_) | refine hN _ _ (fun C cc => ?_)); simp (disch := omega) only [go_sem]; (with_reducible apply cc); clear cc C; (first | refine Ends.more rfl ?_ | refine Ends.same rfl ?_ | refine Ends.more (by simp only [go_sem, Bool.and_self]) ?_ | refine Ends.same (by simp only [go_sem, Bool.and_self]) ?_); (try simp only [go_sem, Bool.and_self]))
        | (with_reducible apply_assumption -exfalso -symm only [*]))
    | some k =>
      rw [hi] at hg
      have hk : k < bs.length := by have := (idx_some hi).1; simpa using this
      have hq : sampleR now port bs = sampleB now (nth bs k) := by rw [sampleR, if_neg (fun e => e hn), hi]
      rw [hq]
      obtain ⟨hb1, w, hb2, hb3⟩ := h.box k hk
      simp only [List.cons_append, List.nil_append] at hb2
      have hok := h.ok _ (nth_mem hk)
      have hfr := hok.fresh
      have htm := hok.time
      by_cases hkind : (nth bs k).p.kind = 1
      · rw [if_pos hkind] at hb3
        unfold RL at hb3
        cases hl : (nth bs k).l with
        | nil =>
          have hs : sampleB now (nth bs k) = ([], false, 23) := by rw [sampleB, if_neg (fun e => e hkind), if_pos hl]
          rw [hs]
          rw [hl, if_pos rfl] at hb3
          subst hb3
          refine pure_of [] [.tmp 6, .tmp 7, .tmp 8] Try.func126 (by kernel_rfl) rfl (by kernel_rfl) fun X hR hN => ?_
          show Tw _ _ _ _ ([some _, some _, some _] ++ List.replicate 51 none) _
          simp only [List.replicate, List.cons_append, List.nil_append]
          repeat' (first
            | ((first | (with_reducible refine WL_do fun Cw cw => ?_) | ((with_reducible apply WP_do); intro Cw cw)); (focus (first | ((with_reducible first | apply O_move | apply O_assign | apply O_nilCheck); (repeat rfl); (first | (with_reducible exact cw) | ((with_reducible apply cw); (focus ((try simp only [zp]); exact rfl)); clear cw Cw))) | ((with_reducible first | apply O_load | apply O_fieldAddr | apply O_bin | apply O_indexAddr | apply O_len | apply O_un); (repeat rfl); simp (disch := omega) only [go_sem, hkind, hb2]; (first | (with_reducible exact cw) | ((with_reducible apply cw); (focus ((try simp only [zp]); exact rfl)); clear cw Cw))) | ((with_reducible first | apply O_callF | apply O_call); (repeat rfl); (try simp only [za]); (first | (refine TPure.go (by (apply hti <;> first | assumption | omega | exact Eq.trans (get_old (by assumption)) (by assumption) | (focus (simp (disch := omega) only [go_sem, hkind, hb2]; (try rfl); done)))) ?_) | (refine TDoes.go (by (apply hg <;> first | assumption | omega | exact Eq.trans (get_old (by assumption)) (by assumption) | (focus (simp (disch := omega) only [go_sem, hkind, hb2]; (try rfl); done)))) ?_; (try simp (disch := omega) only [go_sem, hkind, hb2]))); (first | (with_reducible exact cw) | ((with_reducible apply cw); (focus ((try simp only [zp]); exact rfl)); clear cw Cw))))); (try ((with_reducible apply eq_id); (focus ((try simp only [zp]); exact rfl)))))
            | ((with_reducible first | refine WL_nil (hK _ _ ?_) | refine WP_nil (hK _ _ ?_)); clear hK K)
            | ((with_reducible first | refine T_reg_seq fun K hK => ?_ | refine T_reg_end fun K hK => ?_); simp only [zl])
            | ((with_reducible first | refine T_pure_seq ?_ ?_ (fun K hK => ?_) | refine T_pure_end ?_ ?_ (fun K hK => ?_)); (focus kernel_rfl); (focus kernel_rfl); simp only [zl])
            | ((with_reducible first | apply T_cond_seq | apply T_cond); (focus rfl))
            | (intro hg; (first | (simp only [zb] at hg; done) | ((try simp only [zb, eq_self] at hg); (have hh : True := hg); clear hh hg) | ((try simp only [zb] at hg); (try (have hh := hg; simp only [hh]; clear hh)); (try simp only [zg, zq, ne_eq, gt_iff_lt, ge_iff_le] at hg); (try (exfalso; omega)))))
            | with_reducible first | refine T_seq_assoc ?_ | refine T_skip_seq ?_ | refine T_ret_seq ?_ | refine T_exit_seq ?_ | refine T_ret ?_ | refine T_skip ?_ | refine T_exit ?_ | refine T_block_seq fun Kb hKb => ?_ | refine T_block ?_
            | (simp only [TX.inBlock, TX.then, zi, Nat.reduceEqDiff])
            | ((with_reducible first | refine hR _ _ (fun C cc => ?_) | refine hN _ _ (fun C cc => ?_)); simp (disch := omega) only [go_sem, hkind, hb2]; (with_reducible apply cc); clear cc C; (first | refine Ends.more rfl ?_ | refine Ends.same rfl ?_ | refine Ends.more (by simp only [go_sem, Bool.and_self]) ?_ | refine Ends.same (by simp only [go_sem, Bool.and_self]) ?_); (try simp only [go_sem, Bool.and_self]))
            | (with_reducible apply_assumption -exfalso -symm only [*]))
        | cons s rs =>
          have h0 : (nth bs k).l ≠ [] := by rw [hl]; simp
          rw [hl, if_neg (by simp)] at hb3
          subst hb3
          have hhd : (nth bs k).l.headD [] = s := by rw [hl]; rfl
          by_cases hlt : now < (nth bs k).at_
          · have hs : sampleB now (nth bs k) = ([], false, 24) := by rw [sampleB, if_neg (fun e => e hkind), if_neg h0, if_pos hlt]
            rw [hs]
            refine pure_of [] [.tmp 6, .tmp 7, .tmp 8] Try.func126 (by kernel_rfl) rfl (by kernel_rfl) fun X hR hN => ?_
            show Tw _ _ _ _ ([some _, some _, some _] ++ List.replicate 51 none) _
            simp only [List.replicate, List.cons_append, List.nil_append]
            repeat' (first
              | ((first | (with_reducible refine WL_do fun Cw cw => ?_) | ((with_reducible apply WP_do); intro Cw cw)); (focus (first | ((with_reducible first | apply O_move | apply O_assign | apply O_nilCheck); (repeat rfl); (first | (with_reducible exact cw) | ((with_reducible apply cw); (focus ((try simp only [zp]); exact rfl)); clear cw Cw))) | ((with_reducible first | apply O_load | apply O_fieldAddr | apply O_bin | apply O_indexAddr | apply O_len | apply O_un); (repeat rfl); simp (disch := ((try simp only [List.length_append, List.length_cons, List.length_nil, List.length_replicate, List.length_take, List.length_drop, be_len]); omega)) only [go_sem, hkind, hb2]; (first | (with_reducible exact cw) | ((with_reducible apply cw); (focus ((try simp only [zp]); exact rfl)); clear cw Cw))) | ((with_reducible first | apply O_callF | apply O_call); (repeat rfl); (try simp only [za]); (first | (refine TPure.go (by (apply hti <;> first | assumption | omega | exact Eq.trans (get_old (by assumption)) (by assumption) | (focus ((simp only [List.length_append, List.length_cons, List.length_nil, List.length_replicate, List.length_take, List.length_drop, be_len]); omega)) | (focus (simp (disch := ((try simp only [List.length_append, List.length_cons, List.length_nil, List.length_replicate, List.length_take, List.length_drop, be_len]); omega)) only [go_sem, hkind, hb2]; (try rfl); done)))) ?_) | (refine TDoes.go (by (apply hg <;> first | assumption | omega | exact Eq.trans (get_old (by assumption)) (by assumption) | (focus ((simp only [List.length_append, List.length_cons, List.length_nil, List.length_replicate, List.length_take, List.length_drop, be_len]); omega)) | (focus (simp (disch := ((try simp only [List.length_append, List.length_cons, List.length_nil, List.length_replicate, List.length_take, List.length_drop, be_len]); omega)) only [go_sem, hkind, hb2]; (try rfl); done)))) ?_; (try simp (disch := ((try simp only [List.length_append, List.length_cons, List.length_nil, List.length_replicate, List.length_take, List.length_drop, be_len]); omega)) only [go_sem, hkind, hb2]))); (first | (with_reducible exact cw) | ((with_reducible apply cw); (focus ((try simp only [zp]); exact rfl)); clear cw Cw))))); (try ((with_reducible apply eq_id); (focus ((try simp only [zp]); exact rfl)))))
              | ((with_reducible first | refine WL_nil (hK _ _ ?_) | refine WP_nil (hK _ _ ?_)); clear hK K)
              | ((with_reducible first | refine T_reg_seq fun K hK => ?_ | refine T_reg_end fun K hK => ?_); simp only [zl])
              | ((with_reducible first | refine T_pure_seq ?_ ?_ (fun K hK => ?_) | refine T_pure_end ?_ ?_ (fun K hK => ?_)); (focus kernel_rfl); (focus kernel_rfl); simp only [zl])
              | ((with_reducible first | apply T_cond_seq | apply T_cond); (focus rfl))
              | (intro hg; (first | (simp only [zb] at hg; done) | ((try simp only [zb, eq_self] at hg); (have hh : True := hg); clear hh hg) | ((try simp only [zb] at hg); (try (have hh := hg; simp only [hh]; clear hh)); (try simp only [zg, zq, ne_eq, gt_iff_lt, ge_iff_le] at hg); (try (exfalso; omega)))))
              | with_reducible first | refine T_seq_assoc ?_ | refine T_skip_seq ?_ | refine T_ret_seq ?_ | refine T_exit_seq ?_ | refine T_ret ?_ | refine T_skip ?_ | refine T_exit ?_ | refine T_block_seq fun Kb hKb => ?_ | refine T_block ?_
              | (simp only [TX.inBlock, TX.then, zi, Nat.reduceEqDiff])
              | ((with_reducible first | refine hR _ _ (fun C cc => ?_) | refine hN _ _ (fun C cc => ?_)); simp (disch := ((try simp only [List.length_append, List.length_cons, List.length_nil, List.length_replicate, List.length_take, List.length_drop, be_len]); omega)) only [go_sem, hkind, hb2]; (with_reducible apply cc); clear cc C; (first | refine Ends.more rfl ?_ | refine Ends.same rfl ?_ | refine Ends.more (by simp only [go_sem, Bool.and_self]) ?_ | refine Ends.same (by simp only [go_sem, Bool.and_self]) ?_); (try simp only [go_sem, Bool.and_self]))
              | (with_reducible apply_assumption -exfalso -symm only [*]))
          · have hs : sampleB now (nth bs k) = (s, decide (now - (nth bs k).at_ ≤ (nth bs k).p.fresh), 0) := by rw [sampleB, if_neg (fun e => e hkind), if_neg h0, if_neg hlt, hhd]
            rw [hs]
            refine pure_of [] [.tmp 6, .tmp 7, .tmp 8] Try.func126 (by kernel_rfl) rfl (by kernel_rfl) fun X hR hN => ?_
            show Tw _ _ _ _ ([some _, some _, some _] ++ List.replicate 51 none) _
            simp only [List.replicate, List.cons_append, List.nil_append]
            repeat' (first
              | ((first | (with_reducible refine WL_do fun Cw cw => ?_) | ((with_reducible apply WP_do); intro Cw cw)); (focus (first | ((with_reducible first | apply O_move | apply O_assign | apply O_nilCheck); (repeat rfl); (first | (with_reducible exact cw) | ((with_reducible apply cw); (focus ((try simp only [zp]); exact rfl)); clear cw Cw))) | ((with_reducible first | apply O_load | apply O_fieldAddr | apply O_bin | apply O_indexAddr | apply O_len | apply O_un); (repeat rfl); simp (disch := ((try simp only [List.length_append, List.length_cons, List.length_nil, List.length_replicate, List.length_take, List.length_drop, be_len]); omega)) only [go_sem, hkind, hb2, ↓headS]; (first | (with_reducible exact cw) | ((with_reducible apply cw); (focus ((try simp only [zp]); exact rfl)); clear cw Cw))) | ((with_reducible first | apply O_callF | apply O_call); (repeat rfl); (try simp only [za]); (first | (refine TPure.go (by (apply hti <;> first | assumption | omega | exact Eq.trans (get_old (by assumption)) (by assumption) | (focus ((simp only [List.length_append, List.length_cons, List.length_nil, List.length_replicate, List.length_take, List.length_drop, be_len]); omega)) | (focus (simp (disch := ((try simp only [List.length_append, List.length_cons, List.length_nil, List.length_replicate, List.length_take, List.length_drop, be_len]); omega)) only [go_sem, hkind, hb2, ↓headS]; (try rfl); done)))) ?_) | (refine TDoes.go (by (apply hg <;> first | assumption | omega | exact Eq.trans (get_old (by assumption)) (by assumption) | (focus ((simp only [List.length_append, List.length_cons, List.length_nil, List.length_replicate, List.length_take, List.length_drop, be_len]); omega)) | (focus (simp (disch := ((try simp only [List.length_append, List.length_cons, List.length_nil, List.length_replicate, List.length_take, List.length_drop, be_len]); omega)) only [go_sem, hkind, hb2, ↓headS]; (try rfl); done)))) ?_; (try simp (disch := ((try simp only [List.length_append, List.length_cons, List.length_nil, List.length_replicate, List.length_take, List.length_drop, be_len]); omega)) only [go_sem, hkind, hb2, ↓headS]))); (first | (with_reducible exact cw) | ((with_reducible apply cw); (focus ((try simp only [zp]); exact rfl)); clear cw Cw))))); (try ((with_reducible apply eq_id); (focus ((try simp only [zp]); exact rfl)))))
              | ((with_reducible first | refine WL_nil (hK _ _ ?_) | refine WP_nil (hK _ _ ?_)); clear hK K)
              | ((with_reducible first | refine T_reg_seq fun K hK => ?_ | refine T_reg_end fun K hK => ?_); simp only [zl])
              | ((with_reducible first | refine T_pure_seq ?_ ?_ (fun K hK => ?_) | refine T_pure_end ?_ ?_ (fun K hK => ?_)); (focus kernel_rfl); (focus kernel_rfl); simp only [zl])
              | ((with_reducible first | apply T_cond_seq | apply T_cond); (focus rfl))
              | (intro hg; (first | (simp only [zb] at hg; done) | ((try simp only [zb, eq_self] at hg); (have hh : True := hg); clear hh hg) | ((try simp only [zb] at hg); (try (have hh := hg; simp only [hh]; clear hh)); (try simp only [zg, zq, ne_eq, gt_iff_lt, ge_iff_le] at hg); (try (exfalso; omega)))))
              | with_reducible first | refine T_seq_assoc ?_ | refine T_skip_seq ?_ | refine T_ret_seq ?_ | refine T_exit_seq ?_ | refine T_ret ?_ | refine T_skip ?_ | refine T_exit ?_ | refine T_block_seq fun Kb hKb => ?_ | refine T_block ?_
              | (simp only [TX.inBlock, TX.then, zi, Nat.reduceEqDiff])
              | ((with_reducible first | refine hR _ _ (fun C cc => ?_) | refine hN _ _ (fun C cc => ?_)); simp (disch := ((try simp only [List.length_append, List.length_cons, List.length_nil, List.length_replicate, List.length_take, List.length_drop, be_len]); omega)) only [go_sem, hkind, hb2, ↓headS]; (with_reducible apply cc); clear cc C; (first | refine Ends.more rfl ?_ | refine Ends.same rfl ?_ | refine Ends.more (by simp only [go_sem, Bool.and_self]) ?_ | refine Ends.same (by simp only [go_sem, Bool.and_self]) ?_); (try simp only [go_sem, Bool.and_self]))
              | (with_reducible apply_assumption -exfalso -symm only [*]))
      · have hs : sampleB now (nth bs k) = ([], false, 13) := by rw [sampleB, if_pos hkind]
        rw [hs]
        refine pure_of [] [.tmp 6, .tmp 7, .tmp 8] Try.func126 (by kernel_rfl) rfl (by kernel_rfl) fun X hR hN => ?_
        show Tw _ _ _ _ ([some _, some _, some _] ++ List.replicate 51 none) _
        simp only [List.replicate, List.cons_append, List.nil_append]
        repeat' (first
          | ((first | (with_reducible refine WL_do fun Cw cw => ?_) | ((with_reducible apply WP_do); intro Cw cw)); (focus (first | ((with_reducible first | apply O_move | apply O_assign | apply O_nilCheck); (repeat rfl); (first | (with_reducible exact cw) | ((with_reducible apply cw); (focus ((try simp only [zp]); exact rfl)); clear cw Cw))) | ((with_reducible first | apply O_load | apply O_fieldAddr | apply O_bin | apply O_indexAddr | apply O_len | apply O_un); (repeat rfl); simp (disch := omega) only [go_sem, hkind, hb2]; (first | (with_reducible exact cw) | ((with_reducible apply cw); (focus ((try simp only [zp]); exact rfl)); clear cw Cw))) | ((with_reducible first | apply O_callF | apply O_call); (repeat rfl); (try simp only [za]); (first | (refine TPure.go (by (apply hti <;> first | assumption | omega | exact Eq.trans (get_old (by assumption)) (by assumption) | (focus (simp (disch := omega) only [go_sem, hkind, hb2]; (try rfl); done)))) ?_) | (refine TDoes.go (by (apply hg <;> first | assumption | omega | exact Eq.trans (get_old (by assumption)) (by assumption) | (focus (simp (disch := omega) only [go_sem, hkind, hb2]; (try rfl); done)))) ?_; (try simp (disch := omega) only [go_sem, hkind, hb2]))); (first | (with_reducible exact cw) | ((with_reducible apply cw); (focus ((try simp only [zp]); exact rfl)); clear cw Cw))))); (try ((with_reducible apply eq_id); (focus ((try simp only [zp]); exact rfl)))))
          | ((with_reducible first | refine WL_nil (hK _ _ ?_) | refine WP_nil (hK _ _ ?_)); clear hK K)
          | ((with_reducible first | refine T_reg_seq fun K hK => ?_ | refine T_reg_end fun K hK => ?_); simp only [zl])
          | ((with_reducible first | refine T_pure_seq ?_ ?_ (fun K hK => ?_) | refine T_pure_end ?_ ?_ (fun K hK => ?_)); (focus kernel_rfl); (focus kernel_rfl); simp only [zl])
          | ((with_reducible first | apply T_cond_seq | apply T_cond); (focus rfl))
          | (intro hg; (first | (simp only [zb] at hg; done) | ((try simp only [zb, eq_self] at hg); (have hh : True := hg); clear hh hg) | ((try simp only [zb] at hg); (try (have hh := hg; simp only [hh]; clear hh)); (try simp only [zg, zq, ne_eq, gt_iff_lt, ge_iff_le] at hg); (try (exfalso; omega)))))
          | with_reducible first | refine T_seq_assoc ?_ | refine T_skip_seq ?_ | refine T_ret_seq ?_ | refine T_exit_seq ?_ | refine T_ret ?_ | refine T_skip ?_ | refine T_exit ?_ | refine T_block_seq fun Kb hKb => ?_ | refine T_block ?_
          | (simp only [TX.inBlock, TX.then, zi, Nat.reduceEqDiff])
          | ((with_reducible first | refine hR _ _ (fun C cc => ?_) | refine hN _ _ (fun C cc => ?_)); simp (disch := omega) only [go_sem, hkind, hb2]; (with_reducible apply cc); clear cc C; (first | refine Ends.more rfl ?_ | refine Ends.same rfl ?_ | refine Ends.more (by simp only [go_sem, Bool.and_self]) ?_ | refine Ends.same (by simp only [go_sem, Bool.and_self]) ?_); (try simp only [go_sem, Bool.and_self]))
          | (with_reducible apply_assumption -exfalso -symm only [*]))
  · simp only [decide_eq_false hn] at hti
    have hq : sampleR now port bs = ([], false, 1) := by rw [sampleR, if_pos hn]
    rw [hq]
    refine pure_of [] [.tmp 6, .tmp 7, .tmp 8] Try.func126 (by kernel_rfl) rfl (by kernel_rfl) fun X hR hN => ?_
    show Tw _ _ _ _ ([some _, some _, some _] ++ List.replicate 51 none) _
    simp only [List.replicate, List.cons_append, List.nil_append]
    repeat' (first
      | ((first | (with_reducible refine WL_do fun Cw cw => ?_) | ((with_reducible apply WP_do); intro Cw cw)); (focus (first | ((with_reducible first | apply O_move | apply O_assign | apply O_nilCheck); (repeat rfl); (first | (with_reducible exact cw) | ((with_reducible apply cw); (focus ((try simp only [zp]); exact rfl)); clear cw Cw))) | ((with_reducible first | apply O_load | apply O_fieldAddr | apply O_bin | apply O_indexAddr | apply O_len | apply O_un); (repeat rfl); simp (disch := omega) only [go_sem]; (first | (with_reducible exact cw) | ((with_reducible apply cw); (focus ((try simp only [zp]); exact rfl)); clear cw Cw))) | ((with_reducible first | apply O_callF | apply O_call); (repeat rfl); (try simp only [za]); (refine TPure.go (by (apply hti) <;> first | assumption | omega | exact Eq.trans (get_old (by assumption)) (by assumption)) ?_); (first | (with_reducible exact cw) | ((with_reducible apply cw); (focus ((try simp only [zp]); exact rfl)); clear cw Cw))))); (try ((with_reducible apply eq_id); (focus ((try simp only [zp]); exact rfl)))))
      | ((with_reducible first | refine WL_nil (hK _ _ ?_) | refine WP_nil (hK _ _ ?_)); clear hK K)
      | ((with_reducible first | refine T_reg_seq fun K hK => ?_ | refine T_reg_end fun K hK => ?_); simp only [zl])
      | ((with_reducible first | refine T_pure_seq ?_ ?_ (fun K hK => ?_) | refine T_pure_end ?_ ?_ (fun K hK => ?_)); (focus kernel_rfl); (focus kernel_rfl); simp only [zl])
      | ((with_reducible first | apply T_cond_seq | apply T_cond); (focus rfl))
      | (intro hg; (first | (simp only [zb] at hg; done) | ((try simp only [zb, eq_self] at hg); (have hh : True := hg); clear hh hg) | ((try simp only [zb] at hg); (try (have hh := hg; simp only [hh]; clear hh)); (try simp only [zg, zq, ne_eq, gt_iff_lt, ge_iff_le] at hg); (try (exfalso; omega)))))
      | with_reducible first | refine T_seq_assoc ?_ | refine T_skip_seq ?_ | refine T_ret_seq ?_ | refine T_exit_seq ?_ | refine T_ret ?_ | refine T_skip ?_ | refine T_exit ?_ | refine T_block_seq fun Kb hKb => ?_ | refine T_block ?_
      | (simp only [TX.inBlock, TX.then, zi, Nat.reduceEqDiff])
      | ((with_reducible first | refine hR _ _ (fun C cc => ?_) | refine hN _ _ (fun C cc => ?_)); simp (disch := omega) only [go_sem]; (with_reducible apply cc); clear cc C; (first | refine Ends.more rfl ?_ | refine Ends.same rfl ?_ | refine Ends.more (by simp only [go_sem, Bool.and_self]) ?_ | refine Ends.same (by simp only [go_sem, Bool.and_self]) ?_); (try simp only [go_sem, Bool.and_self]))
      | (with_reducible apply_assumption -exfalso -symm only [*]))
end
end Go.Proofs.Ytgkcackpffimmaa
