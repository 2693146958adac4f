/- What turns the rooms of the reference. -/
import Derived.Test.YtgkcackpffimmaaP6
set_option linter.unusedVariables false
set_option linter.unusedSimpArgs false
set_option maxRecDepth 10000
set_option maxHeartbeats 4000000
namespace Go.Proofs.Ytgkcackpffimmaa
open Go.TM

section
variable {σ : TS} {lab : Nat → Nat} {c r : Nat} {v : TV} {locs : List Nat} {bs : List Bx} (h : RoomR σ lab c r v locs bs)
include h

theorem refput_walk (now port : Int) (s : List UInt8) (hlen : bs.length ≤ 1000000) : TCalls Try.prog 125 [.ptr r 0, .int .i64 now, .int .i64 port, .str (B s)] σ fun u σ' => u = .int .i64 (putR now port s bs).2 ∧
    ∃ lab', RoomR σ' lab' c r v locs (putR now port s bs).1 ∧ Grow σ lab σ' lab' (fun n => c < n ∧ n ≤ c + bs.length) := by
  have hti := fun τ => reftime_walk now τ
  have hg := get_walk h port hlen
  by_cases hn : TimeOk now
  · simp only [decide_eq_true hn] at hti
    cases hi : idx (pts bs) port with
    | none =>
      rw [hi] at hg
      have hq : putR now port s bs = (bs, 20) := by rw [putR, if_neg (fun e => e hn), hi]
      rw [hq]
      refine TCalls.mono (Q := fun v σ' => v = .int .i64 20 ∧ σ' = σ) ?_ (fun v σ' q => ⟨q.1, lab, by rw [q.2]; exact h, by rw [q.2]; exact Grow.refl _ _ _⟩)
      show TPure _ _ _ _ _
      refine pure_of [] [.tmp 8] Try.func125 (by kernel_rfl) rfl (by kernel_rfl) fun X hR hN => ?_
      show Tw _ _ _ _ ([some _, some _, some _, some _] ++ List.replicate 75 none) _
      simp only [List.replicate, List.cons_append, List.nil_append]
      repeat' (first
        | ((first | (with_reducible refine WL_do fun Cw cw => ?_) | ((with_reducible apply WP_do); intro Cw cw)); (focus (first | ((with_reducible first | apply O_move | apply O_assign | apply O_pickV | apply O_nilCheck); (repeat rfl); (first | (with_reducible exact cw) | ((with_reducible apply cw); (focus ((try simp only [zp]); exact rfl)); clear cw Cw))) | ((with_reducible first | apply O_load | apply O_fieldAddr | apply O_bin | apply O_len | apply O_un | apply O_store); (repeat rfl); simp (disch := omega) only [go_sem]; (first | (with_reducible exact cw) | ((with_reducible apply cw); (focus ((try simp only [zp]); exact rfl)); clear cw Cw))) | ((with_reducible first | apply O_buildSlice | apply O_append); (repeat rfl); (try simp only [zc, zo, Nat.reduceBEq]); simp (disch := omega) only [go_sem]; (first | (with_reducible exact cw) | ((with_reducible apply cw); (focus ((try simp only [zp]); exact rfl)); clear cw Cw))) | ((with_reducible first | apply O_callF | apply O_call); (repeat rfl); (try simp only [za]); (first | (refine TPure.go (by (apply hti <;> first | assumption | omega | exact Eq.trans (get_old (by assumption)) (by assumption) | (focus (simp (disch := omega) only [go_sem]; (try rfl); done)))) ?_) | (refine TDoes.go (by (apply hg <;> first | assumption | omega | exact Eq.trans (get_old (by assumption)) (by assumption) | (focus (simp (disch := omega) only [go_sem]; (try rfl); done)))) ?_; (try simp (disch := omega) only [go_sem]))); (first | (with_reducible exact cw) | ((with_reducible apply cw); (focus ((try simp only [zp]); exact rfl)); clear cw Cw))))); (try ((with_reducible apply eq_id); (focus ((try simp only [zp]); exact rfl)))))
        | ((first | ((with_reducible first | apply WL_if | apply WP_if); (focus rfl)) | ((with_reducible first | apply WL_un | apply WP_un); (focus rfl))); (focus ((try simp only [zp]); exact rfl)))
        | ((with_reducible first | refine WL_nil (hK _ _ ?_) | refine WP_nil (hK _ _ ?_)); clear hK K)
        | ((with_reducible apply WP_pick); (focus rfl); (focus rfl); (focus rfl); (focus ((try simp only [zp]); exact rfl)); (focus ((try simp only [zp]); exact rfl)))
        | ((with_reducible first | refine T_reg_seq fun K hK => ?_ | refine T_reg_end fun K hK => ?_); simp only [zl])
        | ((with_reducible first | refine T_pure_seq ?_ ?_ (fun K hK => ?_) | refine T_pure_end ?_ ?_ (fun K hK => ?_)); (focus kernel_rfl); (focus kernel_rfl); simp only [zl])
        | ((with_reducible first | apply T_cond_seq | apply T_cond); (focus rfl))
        | (intro hg; (first | (simp only [zb] at hg; done) | ((try simp only [zb, eq_self] at hg); (have hh : True := hg); clear hh hg) | ((try simp only [zb] at hg); (try (have hh := hg; simp only [hh]; clear hh)); (try simp only [zg, zq, ne_eq, gt_iff_lt, ge_iff_le] at hg); (try (exfalso; omega)))))
        | with_reducible first | refine T_seq_assoc ?_ | refine T_skip_seq ?_ | refine T_ret_seq ?_ | refine T_exit_seq ?_ | refine T_ret ?_ | refine T_skip ?_ | refine T_exit ?_ | refine T_block_seq fun Kb hKb => ?_ | refine T_block ?_
        | (simp only [TX.inBlock, TX.then, zi, Nat.reduceEqDiff])
        | ((with_reducible first | refine hR _ _ (fun C cc => ?_) | refine hN _ _ (fun C cc => ?_)); simp (disch := omega) only [go_sem]; (with_reducible apply cc); clear cc C; (first | refine Ends.more rfl ?_ | refine Ends.same rfl ?_ | refine Ends.more (by simp only [go_sem, Bool.and_self]) ?_ | refine Ends.same (by simp only [go_sem, Bool.and_self]) ?_); (try simp only [go_sem, Bool.and_self]))
        | (with_reducible apply_assumption -exfalso -symm only [*]))
    | some k =>
      rw [hi] at hg
      have hk : k < bs.length := by have := (idx_some hi).1; simpa using this
      have hq : putR now port s bs = (bs.set k (putB now s (nth bs k)).1, (putB now s (nth bs k)).2) := by rw [putR, if_neg (fun e => e hn), hi]
      rw [hq]
      obtain ⟨hb1, w, hb2, hb3⟩ := h.box k hk
      have hlt := lt_of_get hb2
      have hok := h.ok _ (nth_mem hk)
      have hb2' := hb2
      simp only [List.cons_append, List.nil_append] at hb2'
      by_cases hs : (s.length : Int) > (nth bs k).p.size
      · have hb : putB now s (nth bs k) = (nth bs k, 11) := by rw [putB, if_pos hs]
        rw [hb, nth_eq hk, List.set_getElem_self]
        refine TCalls.mono (Q := fun v σ' => v = .int .i64 11 ∧ σ' = σ) ?_ (fun v σ' q => ⟨q.1, lab, by rw [q.2]; exact h, by rw [q.2]; exact Grow.refl _ _ _⟩)
        show TPure _ _ _ _ _
        refine pure_of [] [.tmp 8] Try.func125 (by kernel_rfl) rfl (by kernel_rfl) fun X hR hN => ?_
        show Tw _ _ _ _ ([some _, some _, some _, some _] ++ List.replicate 75 none) _
        simp only [List.replicate, List.cons_append, List.nil_append]
        repeat' (first
          | ((first | (with_reducible refine WL_do fun Cw cw => ?_) | ((with_reducible apply WP_do); intro Cw cw)); (focus (first | ((with_reducible first | apply O_move | apply O_assign | apply O_pickV | apply O_nilCheck); (repeat rfl); (first | (with_reducible exact cw) | ((with_reducible apply cw); (focus ((try simp only [zp]); exact rfl)); clear cw Cw))) | ((with_reducible first | apply O_load | apply O_fieldAddr | apply O_bin | apply O_len | apply O_un | apply O_store); (repeat rfl); simp (disch := omega) only [go_sem, hb2']; (first | (with_reducible exact cw) | ((with_reducible apply cw); (focus ((try simp only [zp]); exact rfl)); clear cw Cw))) | ((with_reducible first | apply O_buildSlice | apply O_append); (repeat rfl); (try simp only [zc, zo, Nat.reduceBEq]); simp (disch := omega) only [go_sem, hb2']; (first | (with_reducible exact cw) | ((with_reducible apply cw); (focus ((try simp only [zp]); exact rfl)); clear cw Cw))) | ((with_reducible first | apply O_callF | apply O_call); (repeat rfl); (try simp only [za]); (first | (refine TPure.go (by (apply hti <;> first | assumption | omega | exact Eq.trans (get_old (by assumption)) (by assumption) | (focus (simp (disch := omega) only [go_sem, hb2']; (try rfl); done)))) ?_) | (refine TDoes.go (by (apply hg <;> first | assumption | omega | exact Eq.trans (get_old (by assumption)) (by assumption) | (focus (simp (disch := omega) only [go_sem, hb2']; (try rfl); done)))) ?_; (try simp (disch := omega) only [go_sem, hb2']))); (first | (with_reducible exact cw) | ((with_reducible apply cw); (focus ((try simp only [zp]); exact rfl)); clear cw Cw))))); (try ((with_reducible apply eq_id); (focus ((try simp only [zp]); exact rfl)))))
          | ((first | ((with_reducible first | apply WL_if | apply WP_if); (focus rfl)) | ((with_reducible first | apply WL_un | apply WP_un); (focus rfl))); (focus ((try simp only [zp]); exact rfl)))
          | ((with_reducible first | refine WL_nil (hK _ _ ?_) | refine WP_nil (hK _ _ ?_)); clear hK K)
          | ((with_reducible apply WP_pick); (focus rfl); (focus rfl); (focus rfl); (focus ((try simp only [zp]); exact rfl)); (focus ((try simp only [zp]); exact rfl)))
          | ((with_reducible first | refine T_reg_seq fun K hK => ?_ | refine T_reg_end fun K hK => ?_); simp only [zl])
          | ((with_reducible first | refine T_pure_seq ?_ ?_ (fun K hK => ?_) | refine T_pure_end ?_ ?_ (fun K hK => ?_)); (focus kernel_rfl); (focus kernel_rfl); simp only [zl])
          | ((with_reducible first | apply T_cond_seq | apply T_cond); (focus rfl))
          | (intro hg; (first | (simp only [zb] at hg; done) | ((try simp only [zb, eq_self] at hg); (have hh : True := hg); clear hh hg) | ((try simp only [zb] at hg); (try (have hh := hg; simp only [hh]; clear hh)); (try simp only [zg, zq, ne_eq, gt_iff_lt, ge_iff_le] at hg); (try (exfalso; omega)))))
          | with_reducible first | refine T_seq_assoc ?_ | refine T_skip_seq ?_ | refine T_ret_seq ?_ | refine T_exit_seq ?_ | refine T_ret ?_ | refine T_skip ?_ | refine T_exit ?_ | refine T_block_seq fun Kb hKb => ?_ | refine T_block ?_
          | (simp only [TX.inBlock, TX.then, zi, Nat.reduceEqDiff])
          | ((with_reducible first | refine hR _ _ (fun C cc => ?_) | refine hN _ _ (fun C cc => ?_)); simp (disch := omega) only [go_sem, hb2']; (with_reducible apply cc); clear cc C; (first | refine Ends.more rfl ?_ | refine Ends.same rfl ?_ | refine Ends.more (by simp only [go_sem, Bool.and_self]) ?_ | refine Ends.same (by simp only [go_sem, Bool.and_self]) ?_); (try simp only [go_sem, Bool.and_self]))
          | (with_reducible apply_assumption -exfalso -symm only [*]))
      · have ho' := putB_ok (s := s) hok hn
        have hG := fun o => Grow.set (C := (· = c + 1 + k)) (σ := σ) (lab := lab) (l := nth locs k) (o := o) [] hb1 (c + 1 + k)
        simp only [List.append_nil] at hG
        have hGm : ∀ {σ' lab'}, Grow σ lab σ' lab' (· = c + 1 + k) → Grow σ lab σ' lab' (fun n => c < n ∧ n ≤ c + bs.length) := fun g => g.mono fun n e => by have e : n = c + 1 + k := e; omega
        by_cases hkind : (nth bs k).p.kind = 1
        · rw [if_pos hkind] at hb3
          have hlw : tlenOp (mkTab Try.prog) 60 w = some (.int .i64 (nth bs k).l.length) := by
            unfold RL at hb3
            rw [hb3]
            split
            · rename_i e; rw [e]; rfl
            · simp [tlenOp, tab60]
          by_cases hc : (nth bs k).l ≠ [] ∧ now < (nth bs k).at_
          · have hb : putB now s (nth bs k) = (nth bs k, 24) := by rw [putB, if_neg hs, if_pos hkind, if_pos hc]
            rw [hb, nth_eq hk, List.set_getElem_self]
            have hpos : 0 < (nth bs k).l.length := List.length_pos_iff.2 hc.1
            refine TCalls.mono (Q := fun v σ' => v = .int .i64 24 ∧ σ' = σ) ?_ (fun v σ' q => ⟨q.1, lab, by rw [q.2]; exact h, by rw [q.2]; exact Grow.refl _ _ _⟩)
            show TPure _ _ _ _ _
            refine pure_of [] [.tmp 8] Try.func125 (by kernel_rfl) rfl (by kernel_rfl) fun X hR hN => ?_
            show Tw _ _ _ _ ([some _, some _, some _, some _] ++ List.replicate 75 none) _
            simp only [List.replicate, List.cons_append, List.nil_append]
            repeat' (first
              | ((first | (with_reducible refine WL_do fun Cw cw => ?_) | ((with_reducible apply WP_do); intro Cw cw)); (focus (first | ((with_reducible first | apply O_move | apply O_assign | apply O_pickV | apply O_nilCheck); (repeat rfl); (first | (with_reducible exact cw) | ((with_reducible apply cw); (focus ((try simp only [zp]); exact rfl)); clear cw Cw))) | ((with_reducible first | apply O_load | apply O_fieldAddr | apply O_bin | apply O_len | apply O_un | apply O_store); (repeat rfl); simp (disch := omega) only [go_sem, hb2', hkind, ↓hlw]; (first | (with_reducible exact cw) | ((with_reducible apply cw); (focus ((try simp only [zp]); exact rfl)); clear cw Cw))) | ((with_reducible first | apply O_buildSlice | apply O_append); (repeat rfl); (try simp only [zc, zo, Nat.reduceBEq]); simp (disch := omega) only [go_sem, hb2', hkind, ↓hlw]; (first | (with_reducible exact cw) | ((with_reducible apply cw); (focus ((try simp only [zp]); exact rfl)); clear cw Cw))) | ((with_reducible first | apply O_callF | apply O_call); (repeat rfl); (try simp only [za]); (first | (refine TPure.go (by (apply hti <;> first | assumption | omega | exact Eq.trans (get_old (by assumption)) (by assumption) | (focus (simp (disch := omega) only [go_sem, hb2', hkind, ↓hlw]; (try rfl); done)))) ?_) | (refine TDoes.go (by (apply hg <;> first | assumption | omega | exact Eq.trans (get_old (by assumption)) (by assumption) | (focus (simp (disch := omega) only [go_sem, hb2', hkind, ↓hlw]; (try rfl); done)))) ?_; (try simp (disch := omega) only [go_sem, hb2', hkind, ↓hlw]))); (first | (with_reducible exact cw) | ((with_reducible apply cw); (focus ((try simp only [zp]); exact rfl)); clear cw Cw))))); (try ((with_reducible apply eq_id); (focus ((try simp only [zp]); exact rfl)))))
              | ((first | ((with_reducible first | apply WL_if | apply WP_if); (focus rfl)) | ((with_reducible first | apply WL_un | apply WP_un); (focus rfl))); (focus ((try simp only [zp]); exact rfl)))
              | ((with_reducible first | refine WL_nil (hK _ _ ?_) | refine WP_nil (hK _ _ ?_)); clear hK K)
              | ((with_reducible apply WP_pick); (focus rfl); (focus rfl); (focus rfl); (focus ((try simp only [zp]); exact rfl)); (focus ((try simp only [zp]); exact rfl)))
              | ((with_reducible first | refine T_reg_seq fun K hK => ?_ | refine T_reg_end fun K hK => ?_); simp only [zl])
              | ((with_reducible first | refine T_pure_seq ?_ ?_ (fun K hK => ?_) | refine T_pure_end ?_ ?_ (fun K hK => ?_)); (focus kernel_rfl); (focus kernel_rfl); simp only [zl])
              | ((with_reducible first | apply T_cond_seq | apply T_cond); (focus rfl))
              | (intro hg; (first | (simp only [zb] at hg; done) | ((try simp only [zb, eq_self] at hg); (have hh : True := hg); clear hh hg) | ((try simp only [zb] at hg); (try (have hh := hg; simp only [hh]; clear hh)); (try simp only [zg, zq, ne_eq, gt_iff_lt, ge_iff_le] at hg); (try (exfalso; omega)))))
              | with_reducible first | refine T_seq_assoc ?_ | refine T_skip_seq ?_ | refine T_ret_seq ?_ | refine T_exit_seq ?_ | refine T_ret ?_ | refine T_skip ?_ | refine T_exit ?_ | refine T_block_seq fun Kb hKb => ?_ | refine T_block ?_
              | (simp only [TX.inBlock, TX.then, zi, Nat.reduceEqDiff])
              | ((with_reducible first | refine hR _ _ (fun C cc => ?_) | refine hN _ _ (fun C cc => ?_)); simp (disch := omega) only [go_sem, hb2', hkind, ↓hlw]; (with_reducible apply cc); clear cc C; (first | refine Ends.more rfl ?_ | refine Ends.same rfl ?_ | refine Ends.more (by simp only [go_sem, Bool.and_self]) ?_ | refine Ends.same (by simp only [go_sem, Bool.and_self]) ?_); (try simp only [go_sem, Bool.and_self]))
              | (with_reducible apply_assumption -exfalso -symm only [*]))
          · have hb : putB now s (nth bs k) = ({ nth bs k with l := [s], at_ := now }, 0) := by rw [putB, if_neg hs, if_pos hkind, if_neg hc]
            rw [hb] at ho' ⊢
            have hcases : (nth bs k).l.length = 0 ∨ ¬ now < (nth bs k).at_ := by
              by_cases h0 : (nth bs k).l = []
              · exact .inl (by rw [h0]; rfl)
              · exact .inr fun e => hc ⟨h0, e⟩
            refine calls_of [] [.tmp 8] Try.func125 (by kernel_rfl) rfl (by kernel_rfl) fun X hR hN => ?_
            show Tw _ _ _ _ ([some _, some _, some _, some _] ++ List.replicate 75 none) _
            simp only [List.replicate, List.cons_append, List.nil_append]
            repeat' (first
              | ((first | (with_reducible refine WL_do fun Cw cw => ?_) | ((with_reducible apply WP_do); intro Cw cw)); (focus (first | ((with_reducible first | apply O_move | apply O_assign | apply O_pickV | apply O_nilCheck); (repeat rfl); (first | (with_reducible exact cw) | ((with_reducible apply cw); (focus ((try simp only [zp]); exact rfl)); clear cw Cw))) | ((with_reducible first | apply O_load | apply O_fieldAddr | apply O_bin | apply O_len | apply O_un | apply O_store); (repeat rfl); simp (disch := omega) only [go_sem, hb2', ↓hlw, List.set_set]; (first | (with_reducible exact cw) | ((with_reducible apply cw); (focus ((try simp only [zp]); exact rfl)); clear cw Cw))) | ((with_reducible first | apply O_buildSlice | apply O_append); (repeat rfl); (try simp only [zc, zo, Nat.reduceBEq]); simp (disch := omega) only [go_sem, hb2', ↓hlw, List.set_set]; (first | (with_reducible exact cw) | ((with_reducible apply cw); (focus ((try simp only [zp]); exact rfl)); clear cw Cw))) | ((with_reducible first | apply O_callF | apply O_call); (repeat rfl); (try simp only [za]); (first | (refine TPure.go (by (apply hti <;> first | assumption | omega | exact Eq.trans (get_old (by assumption)) (by assumption) | (focus (simp (disch := omega) only [go_sem, hb2', ↓hlw, List.set_set]; (try rfl); done)))) ?_) | (refine TDoes.go (by (apply hg <;> first | assumption | omega | exact Eq.trans (get_old (by assumption)) (by assumption) | (focus (simp (disch := omega) only [go_sem, hb2', ↓hlw, List.set_set]; (try rfl); done)))) ?_; (try simp (disch := omega) only [go_sem, hb2', ↓hlw, List.set_set]))); (first | (with_reducible exact cw) | ((with_reducible apply cw); (focus ((try simp only [zp]); exact rfl)); clear cw Cw))))); (try ((with_reducible apply eq_id); (focus ((try simp only [zp]); exact rfl)))))
              | ((first | ((with_reducible first | apply WL_if | apply WP_if); (focus rfl)) | ((with_reducible first | apply WL_un | apply WP_un); (focus rfl))); (focus ((try simp only [zp]); exact rfl)))
              | ((with_reducible first | refine WL_nil (hK _ _ ?_) | refine WP_nil (hK _ _ ?_)); clear hK K)
              | ((with_reducible apply WP_pick); (focus rfl); (focus rfl); (focus rfl); (focus ((try simp only [zp]); exact rfl)); (focus ((try simp only [zp]); exact rfl)))
              | ((with_reducible first | refine T_reg_seq fun K hK => ?_ | refine T_reg_end fun K hK => ?_); simp only [zl])
              | ((with_reducible first | refine T_pure_seq ?_ ?_ (fun K hK => ?_) | refine T_pure_end ?_ ?_ (fun K hK => ?_)); (focus kernel_rfl); (focus kernel_rfl); simp only [zl])
              | ((with_reducible first | apply T_cond_seq | apply T_cond); (focus rfl))
              | (intro hg; (first | (simp only [zb] at hg; done) | ((try simp only [zb, eq_self] at hg); (have hh : True := hg); clear hh hg) | ((try simp only [zb] at hg); (try (have hh := hg; simp only [hh]; clear hh)); (try simp only [zg, zq, ne_eq, gt_iff_lt, ge_iff_le] at hg); (try (exfalso; omega)))))
              | with_reducible first | refine T_seq_assoc ?_ | refine T_skip_seq ?_ | refine T_ret_seq ?_ | refine T_exit_seq ?_ | refine T_ret ?_ | refine T_skip ?_ | refine T_exit ?_ | refine T_block_seq fun Kb hKb => ?_ | refine T_block ?_
              | (simp only [TX.inBlock, TX.then, zi, Nat.reduceEqDiff])
              | ((with_reducible first | refine hR _ _ (fun C cc => ?_) | refine hN _ _ (fun C cc => ?_)); simp (disch := omega) only [go_sem, hb2', ↓hlw, List.set_set]; (with_reducible apply cc); clear cc C)
              | (with_reducible apply_assumption -exfalso -symm only [*]))
            all_goals
              refine ⟨by first | rfl | trivial, _, h.turn hk (hG _) ⟨(labX_old hlt).trans hb1, _, List.getElem?_set_self hlt, ?_⟩ ho', hGm (hG _)⟩
              rw [if_pos hkind]
              rfl
        · rw [if_neg hkind] at hb3
          have hlw := lenQ hb3
          have hkind2 : (nth bs k).p.kind = 2 := by have := hok.kind; omega
          by_cases hf : ((nth bs k).l.length : Int) ≥ (nth bs k).p.depth
          · have hb : putB now s (nth bs k) = ({ nth bs k with lost := true }, 22) := by rw [putB, if_neg hs, if_neg hkind, if_pos hf]
            rw [hb] at ho' ⊢
            refine calls_of [] [.tmp 8] Try.func125 (by kernel_rfl) rfl (by kernel_rfl) fun X hR hN => ?_
            show Tw _ _ _ _ ([some _, some _, some _, some _] ++ List.replicate 75 none) _
            simp only [List.replicate, List.cons_append, List.nil_append]
            repeat' (first
              | ((first | (with_reducible refine WL_do fun Cw cw => ?_) | ((with_reducible apply WP_do); intro Cw cw)); (focus (first | ((with_reducible first | apply O_move | apply O_assign | apply O_pickV | apply O_nilCheck); (repeat rfl); (first | (with_reducible exact cw) | ((with_reducible apply cw); (focus ((try simp only [zp]); exact rfl)); clear cw Cw))) | ((with_reducible first | apply O_load | apply O_fieldAddr | apply O_bin | apply O_len | apply O_un | apply O_store); (repeat rfl); simp (disch := omega) only [go_sem, hb2', ↓hlw, List.set_set]; (first | (with_reducible exact cw) | ((with_reducible apply cw); (focus ((try simp only [zp]); exact rfl)); clear cw Cw))) | ((with_reducible first | apply O_buildSlice | apply O_append); (repeat rfl); (try simp only [zc, zo, Nat.reduceBEq]); simp (disch := omega) only [go_sem, hb2', ↓hlw, List.set_set]; (first | (with_reducible exact cw) | ((with_reducible apply cw); (focus ((try simp only [zp]); exact rfl)); clear cw Cw))) | ((with_reducible first | apply O_callF | apply O_call); (repeat rfl); (try simp only [za]); (first | (refine TPure.go (by (apply hti <;> first | assumption | omega | exact Eq.trans (get_old (by assumption)) (by assumption) | (focus (simp (disch := omega) only [go_sem, hb2', ↓hlw, List.set_set]; (try rfl); done)))) ?_) | (refine TDoes.go (by (apply hg <;> first | assumption | omega | exact Eq.trans (get_old (by assumption)) (by assumption) | (focus (simp (disch := omega) only [go_sem, hb2', ↓hlw, List.set_set]; (try rfl); done)))) ?_; (try simp (disch := omega) only [go_sem, hb2', ↓hlw, List.set_set]))); (first | (with_reducible exact cw) | ((with_reducible apply cw); (focus ((try simp only [zp]); exact rfl)); clear cw Cw))))); (try ((with_reducible apply eq_id); (focus ((try simp only [zp]); exact rfl)))))
              | ((first | ((with_reducible first | apply WL_if | apply WP_if); (focus rfl)) | ((with_reducible first | apply WL_un | apply WP_un); (focus rfl))); (focus ((try simp only [zp]); exact rfl)))
              | ((with_reducible first | refine WL_nil (hK _ _ ?_) | refine WP_nil (hK _ _ ?_)); clear hK K)
              | ((with_reducible apply WP_pick); (focus rfl); (focus rfl); (focus rfl); (focus ((try simp only [zp]); exact rfl)); (focus ((try simp only [zp]); exact rfl)))
              | ((with_reducible first | refine T_reg_seq fun K hK => ?_ | refine T_reg_end fun K hK => ?_); simp only [zl])
              | ((with_reducible first | refine T_pure_seq ?_ ?_ (fun K hK => ?_) | refine T_pure_end ?_ ?_ (fun K hK => ?_)); (focus kernel_rfl); (focus kernel_rfl); simp only [zl])
              | ((with_reducible first | apply T_cond_seq | apply T_cond); (focus rfl))
              | (intro hg; (first | (simp only [zb] at hg; done) | ((try simp only [zb, eq_self] at hg); (have hh : True := hg); clear hh hg) | ((try simp only [zb] at hg); (try (have hh := hg; simp only [hh]; clear hh)); (try simp only [zg, zq, ne_eq, gt_iff_lt, ge_iff_le] at hg); (try (exfalso; omega)))))
              | with_reducible first | refine T_seq_assoc ?_ | refine T_skip_seq ?_ | refine T_ret_seq ?_ | refine T_exit_seq ?_ | refine T_ret ?_ | refine T_skip ?_ | refine T_exit ?_ | refine T_block_seq fun Kb hKb => ?_ | refine T_block ?_
              | (simp only [TX.inBlock, TX.then, zi, Nat.reduceEqDiff])
              | ((with_reducible first | refine hR _ _ (fun C cc => ?_) | refine hN _ _ (fun C cc => ?_)); simp (disch := omega) only [go_sem, hb2', ↓hlw, List.set_set]; (with_reducible apply cc); clear cc C)
              | (with_reducible apply_assumption -exfalso -symm only [*]))
            all_goals
              refine ⟨by first | rfl | trivial, _, h.turn hk (hG _) ⟨(labX_old hlt).trans hb1, w, List.getElem?_set_self hlt, ?_⟩ ho', hGm (hG _)⟩
              rw [if_neg hkind]
              have := hb3.set hb2 (.cells (portC (nth bs k).p ++ [w, .int .i64 (nth bs k).at_, .bool true])) [] (c + 1 + k)
              rwa [List.append_nil] at this
          · have hb : putB now s (nth bs k) = ({ nth bs k with l := (nth bs k).l ++ [s] }, 0) := by rw [putB, if_neg hs, if_neg hkind, if_neg hf]
            rw [hb] at ho' ⊢
            have hrm := hok.room
            rcases hb3 with ⟨k1, k2⟩ | ⟨t, e, k1, k2, k3⟩
            · have k2' : (nth bs k).l ++ [s] = [s] := by rw [k2]; rfl
              rw [k2'] at ho' ⊢
              subst k1
              refine calls_of [76] [.tmp 8] Try.func125 (by kernel_rfl) rfl (by kernel_rfl) fun X hR hN => ?_
              show Tw _ _ _ _ ([some _, some _, some _, some _] ++ List.replicate 75 none) _
              simp only [List.replicate, List.cons_append, List.nil_append]
              repeat' (first
                | ((first | (with_reducible refine WL_do fun Cw cw => ?_) | ((with_reducible apply WP_do); intro Cw cw)); (focus (first | ((with_reducible first | apply O_move | apply O_assign | apply O_pickV | apply O_nilCheck); (repeat rfl); (first | (with_reducible exact cw) | ((with_reducible apply cw); (focus ((try simp only [zp]); exact rfl)); clear cw Cw))) | ((with_reducible first | apply O_load | apply O_fieldAddr | apply O_bin | apply O_len | apply O_un | apply O_store); (repeat rfl); simp (disch := omega) only [go_sem, hb2', ↓hlw, List.set_set, ↓appS0, get_old, set_old]; (first | (with_reducible exact cw) | ((with_reducible apply cw); (focus ((try simp only [zp]); exact rfl)); clear cw Cw))) | ((with_reducible first | apply O_buildSlice | apply O_append); (repeat rfl); (try simp only [zc, zo, Nat.reduceBEq]); simp (disch := omega) only [go_sem, hb2', ↓hlw, List.set_set, ↓appS0, get_old, set_old]; (first | (with_reducible exact cw) | ((with_reducible apply cw); (focus ((try simp only [zp]); exact rfl)); clear cw Cw))) | ((with_reducible first | apply O_callF | apply O_call); (repeat rfl); (try simp only [za]); (first | (refine TPure.go (by (apply hti <;> first | assumption | omega | exact Eq.trans (get_old (by assumption)) (by assumption) | (focus (simp (disch := omega) only [go_sem, hb2', ↓hlw, List.set_set, ↓appS0, get_old, set_old]; (try rfl); done)))) ?_) | (refine TDoes.go (by (apply hg <;> first | assumption | omega | exact Eq.trans (get_old (by assumption)) (by assumption) | (focus (simp (disch := omega) only [go_sem, hb2', ↓hlw, List.set_set, ↓appS0, get_old, set_old]; (try rfl); done)))) ?_; (try simp (disch := omega) only [go_sem, hb2', ↓hlw, List.set_set, ↓appS0, get_old, set_old]))); (first | (with_reducible exact cw) | ((with_reducible apply cw); (focus ((try simp only [zp]); exact rfl)); clear cw Cw))))); (try ((with_reducible apply eq_id); (focus ((try simp only [zp]); exact rfl)))))
                | ((first | ((with_reducible first | apply WL_if | apply WP_if); (focus rfl)) | ((with_reducible first | apply WL_un | apply WP_un); (focus rfl))); (focus ((try simp only [zp]); exact rfl)))
                | ((with_reducible first | refine WL_nil (hK _ _ ?_) | refine WP_nil (hK _ _ ?_)); clear hK K)
                | ((with_reducible apply WP_pick); (focus rfl); (focus rfl); (focus rfl); (focus ((try simp only [zp]); exact rfl)); (focus ((try simp only [zp]); exact rfl)))
                | ((with_reducible first | refine T_reg_seq fun K hK => ?_ | refine T_reg_end fun K hK => ?_); simp only [zl])
                | ((with_reducible first | refine T_pure_seq ?_ ?_ (fun K hK => ?_) | refine T_pure_end ?_ ?_ (fun K hK => ?_)); (focus kernel_rfl); (focus kernel_rfl); simp only [zl])
                | ((with_reducible first | apply T_cond_seq | apply T_cond); (focus rfl))
                | (intro hg; (first | (simp only [zb] at hg; done) | ((try simp only [zb, eq_self] at hg); (have hh : True := hg); clear hh hg) | ((try simp only [zb] at hg); (try (have hh := hg; simp only [hh]; clear hh)); (try simp only [zg, zq, ne_eq, gt_iff_lt, ge_iff_le] at hg); (try (exfalso; omega)))))
                | with_reducible first | refine T_seq_assoc ?_ | refine T_skip_seq ?_ | refine T_ret_seq ?_ | refine T_exit_seq ?_ | refine T_ret ?_ | refine T_skip ?_ | refine T_exit ?_ | refine T_block_seq fun Kb hKb => ?_ | refine T_block ?_
                | (simp only [TX.inBlock, TX.then, zi, Nat.reduceEqDiff])
                | ((with_reducible first | refine hR _ _ (fun C cc => ?_) | refine hN _ _ (fun C cc => ?_)); simp (disch := omega) only [go_sem, hb2', ↓hlw, List.set_set, ↓appS0, get_old, set_old]; (with_reducible apply cc); clear cc C)
                | (with_reducible apply_assumption -exfalso -symm only [*]))
              all_goals
                have hGr := fun o => Grow.set (C := (· = c + 1 + k)) (σ := σ) (lab := lab) (l := nth locs k) (o := o) [.right 1 1] hb1 (c + 1 + k)
                refine ⟨by first | rfl | trivial, _, h.turn hk (hGr _) ⟨(labX_old hlt).trans hb1, _, by rw [List.getElem?_append_left (by simpa using hlt)]; exact List.getElem?_set_self hlt, ?_⟩ ho', hGm (hGr _)⟩
                rw [if_neg hkind]
                exact .inr ⟨σ.length, 1, labX_new (Nat.le_refl _), rfl, by rw [List.getElem?_append_right (by simp)]; simp⟩
            · have hne : t ≠ nth locs k := fun e => by subst e; rw [hb2] at k3; cases k3
              have happ := fun w => appS (w := w) (ls := (nth bs k).l) (s := s) k3 (by omega)
              subst k2
              refine calls_of [76] [.tmp 8] Try.func125 (by kernel_rfl) rfl (by kernel_rfl) fun X hR hN => ?_
              show Tw _ _ _ _ ([some _, some _, some _, some _] ++ List.replicate 75 none) _
              simp only [List.replicate, List.cons_append, List.nil_append]
              repeat' (first
                | ((first | (with_reducible refine WL_do fun Cw cw => ?_) | ((with_reducible apply WP_do); intro Cw cw)); (focus (first | ((with_reducible first | apply O_move | apply O_assign | apply O_pickV | apply O_nilCheck); (repeat rfl); (first | (with_reducible exact cw) | ((with_reducible apply cw); (focus ((try simp only [zp]); exact rfl)); clear cw Cw))) | ((with_reducible first | apply O_load | apply O_fieldAddr | apply O_bin | apply O_len | apply O_un | apply O_store); (repeat rfl); simp (disch := omega) only [go_sem, hb2', ↓hlw, List.set_set, ↓happ, get_set_ne]; (first | (with_reducible exact cw) | ((with_reducible apply cw); (focus ((try simp only [zp]); exact rfl)); clear cw Cw))) | ((with_reducible first | apply O_buildSlice | apply O_append); (repeat rfl); (try simp only [zc, zo, Nat.reduceBEq]); simp (disch := omega) only [go_sem, hb2', ↓hlw, List.set_set, ↓happ, get_set_ne]; (first | (with_reducible exact cw) | ((with_reducible apply cw); (focus ((try simp only [zp]); exact rfl)); clear cw Cw))) | ((with_reducible first | apply O_callF | apply O_call); (repeat rfl); (try simp only [za]); (first | (refine TPure.go (by (apply hti <;> first | assumption | omega | exact Eq.trans (get_old (by assumption)) (by assumption) | (focus (simp (disch := omega) only [go_sem, hb2', ↓hlw, List.set_set, ↓happ, get_set_ne]; (try rfl); done)))) ?_) | (refine TDoes.go (by (apply hg <;> first | assumption | omega | exact Eq.trans (get_old (by assumption)) (by assumption) | (focus (simp (disch := omega) only [go_sem, hb2', ↓hlw, List.set_set, ↓happ, get_set_ne]; (try rfl); done)))) ?_; (try simp (disch := omega) only [go_sem, hb2', ↓hlw, List.set_set, ↓happ, get_set_ne]))); (first | (with_reducible exact cw) | ((with_reducible apply cw); (focus ((try simp only [zp]); exact rfl)); clear cw Cw))))); (try ((with_reducible apply eq_id); (focus ((try simp only [zp]); exact rfl)))))
                | ((first | ((with_reducible first | apply WL_if | apply WP_if); (focus rfl)) | ((with_reducible first | apply WL_un | apply WP_un); (focus rfl))); (focus ((try simp only [zp]); exact rfl)))
                | ((with_reducible first | refine WL_nil (hK _ _ ?_) | refine WP_nil (hK _ _ ?_)); clear hK K)
                | ((with_reducible apply WP_pick); (focus rfl); (focus rfl); (focus rfl); (focus ((try simp only [zp]); exact rfl)); (focus ((try simp only [zp]); exact rfl)))
                | ((with_reducible first | refine T_reg_seq fun K hK => ?_ | refine T_reg_end fun K hK => ?_); simp only [zl])
                | ((with_reducible first | refine T_pure_seq ?_ ?_ (fun K hK => ?_) | refine T_pure_end ?_ ?_ (fun K hK => ?_)); (focus kernel_rfl); (focus kernel_rfl); simp only [zl])
                | ((with_reducible first | apply T_cond_seq | apply T_cond); (focus rfl))
                | (intro hg; (first | (simp only [zb] at hg; done) | ((try simp only [zb, eq_self] at hg); (have hh : True := hg); clear hh hg) | ((try simp only [zb] at hg); (try (have hh := hg; simp only [hh]; clear hh)); (try simp only [zg, zq, ne_eq, gt_iff_lt, ge_iff_le] at hg); (try (exfalso; omega)))))
                | with_reducible first | refine T_seq_assoc ?_ | refine T_skip_seq ?_ | refine T_ret_seq ?_ | refine T_exit_seq ?_ | refine T_ret ?_ | refine T_skip ?_ | refine T_exit ?_ | refine T_block_seq fun Kb hKb => ?_ | refine T_block ?_
                | (simp only [TX.inBlock, TX.then, zi, Nat.reduceEqDiff])
                | ((with_reducible first | refine hR _ _ (fun C cc => ?_) | refine hN _ _ (fun C cc => ?_)); simp (disch := omega) only [go_sem, hb2', ↓hlw, List.set_set, ↓happ, get_set_ne]; (with_reducible apply cc); clear cc C)
                | (with_reducible apply_assumption -exfalso -symm only [*]))
              all_goals
                have hgt : ∀ o, Grow σ lab ((σ.set t (.right (e + 1) 1)).set (nth locs k) o) (labX lab σ.length (c + 1 + k)) (· = c + 1 + k) := fun o =>
                  ⟨by simp, fun i hi => labX_old hi, fun i hi hc => by
                    rw [List.getElem?_set_ne (by rintro rfl; exact hc hb1), List.getElem?_set_ne (by rintro rfl; exact hc k1)]⟩
                refine ⟨by first | rfl | trivial, _, h.turn hk (hgt _) ⟨(labX_old hlt).trans hb1, _, List.getElem?_set_self (by simpa using hlt), ?_⟩ ho', hGm (hgt _)⟩
                rw [if_neg hkind]
                exact .inr ⟨t, e + 1, (labX_old (lt_of_get k3)).trans k1, by simp, by rw [List.getElem?_set_ne (Ne.symm hne)]; exact List.getElem?_set_self (lt_of_get k3)⟩
  · simp only [decide_eq_false hn] at hti
    have hq : putR now port s bs = (bs, 1) := by rw [putR, if_pos hn]
    rw [hq]
    refine TCalls.mono (Q := fun v σ' => v = .int .i64 1 ∧ σ' = σ) ?_ (fun v σ' q => ⟨q.1, lab, by rw [q.2]; exact h, by rw [q.2]; exact Grow.refl _ _ _⟩)
    show TPure _ _ _ _ _
    refine pure_of [] [.tmp 8] Try.func125 (by kernel_rfl) rfl (by kernel_rfl) fun X hR hN => ?_
    show Tw _ _ _ _ ([some _, some _, some _, some _] ++ List.replicate 75 none) _
    simp only [List.replicate, List.cons_append, List.nil_append]
    repeat' (first
      | ((first | (with_reducible refine WL_do fun Cw cw => ?_) | ((with_reducible apply WP_do); intro Cw cw)); (focus (first | ((with_reducible first | apply O_move | apply O_assign | apply O_pickV | apply O_nilCheck); (repeat rfl); (first | (with_reducible exact cw) | ((with_reducible apply cw); (focus ((try simp only [zp]); exact rfl)); clear cw Cw))) | ((with_reducible first | apply O_load | apply O_fieldAddr | apply O_bin | apply O_len | apply O_un | apply O_store); (repeat rfl); simp (disch := omega) only [go_sem]; (first | (with_reducible exact cw) | ((with_reducible apply cw); (focus ((try simp only [zp]); exact rfl)); clear cw Cw))) | ((with_reducible first | apply O_buildSlice | apply O_append); (repeat rfl); (try simp only [zc, zo, Nat.reduceBEq]); simp (disch := omega) only [go_sem]; (first | (with_reducible exact cw) | ((with_reducible apply cw); (focus ((try simp only [zp]); exact rfl)); clear cw Cw))) | ((with_reducible first | apply O_callF | apply O_call); (repeat rfl); (try simp only [za]); (refine TPure.go (by (apply hti) <;> first | assumption | omega | exact Eq.trans (get_old (by assumption)) (by assumption)) ?_); (first | (with_reducible exact cw) | ((with_reducible apply cw); (focus ((try simp only [zp]); exact rfl)); clear cw Cw))))); (try ((with_reducible apply eq_id); (focus ((try simp only [zp]); exact rfl)))))
      | ((first | ((with_reducible first | apply WL_if | apply WP_if); (focus rfl)) | ((with_reducible first | apply WL_un | apply WP_un); (focus rfl))); (focus ((try simp only [zp]); exact rfl)))
      | ((with_reducible first | refine WL_nil (hK _ _ ?_) | refine WP_nil (hK _ _ ?_)); clear hK K)
      | ((with_reducible apply WP_pick); (focus rfl); (focus rfl); (focus rfl); (focus ((try simp only [zp]); exact rfl)); (focus ((try simp only [zp]); exact rfl)))
      | ((with_reducible first | refine T_reg_seq fun K hK => ?_ | refine T_reg_end fun K hK => ?_); simp only [zl])
      | ((with_reducible first | refine T_pure_seq ?_ ?_ (fun K hK => ?_) | refine T_pure_end ?_ ?_ (fun K hK => ?_)); (focus kernel_rfl); (focus kernel_rfl); simp only [zl])
      | ((with_reducible first | apply T_cond_seq | apply T_cond); (focus rfl))
      | (intro hg; (first | (simp only [zb] at hg; done) | ((try simp only [zb, eq_self] at hg); (have hh : True := hg); clear hh hg) | ((try simp only [zb] at hg); (try (have hh := hg; simp only [hh]; clear hh)); (try simp only [zg, zq, ne_eq, gt_iff_lt, ge_iff_le] at hg); (try (exfalso; omega)))))
      | with_reducible first | refine T_seq_assoc ?_ | refine T_skip_seq ?_ | refine T_ret_seq ?_ | refine T_exit_seq ?_ | refine T_ret ?_ | refine T_skip ?_ | refine T_exit ?_ | refine T_block_seq fun Kb hKb => ?_ | refine T_block ?_
      | (simp only [TX.inBlock, TX.then, zi, Nat.reduceEqDiff])
      | ((with_reducible first | refine hR _ _ (fun C cc => ?_) | refine hN _ _ (fun C cc => ?_)); simp (disch := omega) only [go_sem]; (with_reducible apply cc); clear cc C; (first | refine Ends.more rfl ?_ | refine Ends.same rfl ?_ | refine Ends.more (by simp only [go_sem, Bool.and_self]) ?_ | refine Ends.same (by simp only [go_sem, Bool.and_self]) ?_); (try simp only [go_sem, Bool.and_self]))
      | (with_reducible apply_assumption -exfalso -symm only [*]))

theorem refnext_walk (port : Int) (hlen : bs.length ≤ 1000000) : TCalls Try.prog 127 [.ptr r 0, .int .i64 port] σ fun u σ' => u = .tup [.str (B (nextR port bs).2.1), .bool (nextR port bs).2.2.1, .int .i64 (nextR port bs).2.2.2] ∧
    ∃ lab', RoomR σ' lab' c r v locs (nextR port bs).1 ∧ Grow σ lab σ' lab' (fun n => c < n ∧ n ≤ c + bs.length) := by
  have hg := get_walk h port hlen
  cases hi : idx (pts bs) port with
  | none =>
    rw [hi] at hg
    have hq : nextR port bs = (bs, [], false, 20) := by rw [nextR, hi]
    rw [hq]
    refine TCalls.mono (Q := fun v σ' => v = .tup [.str (B []), .bool false, .int .i64 20] ∧ σ' = σ) ?_ (fun v σ' q => ⟨q.1, lab, by rw [q.2]; exact h, by rw [q.2]; exact Grow.refl _ _ _⟩)
    show TPure _ _ _ _ _
    refine pure_of [] [.tmp 4, .tmp 5, .tmp 6] Try.func127 (by kernel_rfl) rfl (by kernel_rfl) fun X hR hN => ?_
    show Tw _ _ _ _ ([some _, some _] ++ List.replicate 49 none) _
    simp only [List.replicate, List.cons_append, List.nil_append]
    repeat' (first
      | ((with_reducible refine WL_do fun Cw cw => ?_); (first | ((with_reducible first | apply O_move | apply O_assign | apply O_nilCheck); (repeat rfl); (with_reducible apply cw); (focus ((try simp only [zp]); exact rfl)); clear cw Cw) | ((with_reducible first | apply O_load | apply O_fieldAddr | apply O_bin | apply O_indexAddr | apply O_len | apply O_store); (repeat rfl); simp (disch := omega) only [go_sem]; (with_reducible apply cw); (focus ((try simp only [zp]); exact rfl)); clear cw Cw) | ((with_reducible apply O_sliceR); (focus rfl); intro Cs cs; (try simp (disch := omega) only [evB, ev, constV, const1, Int.reduceLE, Int.natCast_nonneg, Int.toNat_natCast, Int.reduceToNat, if_true, if_pos, List.getElem?_cons_zero, List.getElem?_cons_succ, Option.bind_some, Option.bind_none]); simp (disch := omega) only [go_sem]; (with_reducible apply cs); clear cs Cs; (with_reducible apply cw); (focus ((try simp only [zp]); exact rfl)); clear cw Cw) | ((with_reducible first | apply O_callF | apply O_call); (repeat rfl); (try simp only [za]); (refine TDoes.go (by (apply hg <;> first | assumption | omega | exact Eq.trans (get_old (by assumption)) (by assumption) | (focus (simp (disch := omega) only [go_sem]; (try rfl); done)))) ?_; (try simp (disch := omega) only [go_sem])); (with_reducible apply cw); (focus ((try simp only [zp]); exact rfl)); clear cw Cw)))
      | ((with_reducible refine WL_nil (hK _ _ ?_)); clear hK K)
      | ((with_reducible first | refine T_reg_seq fun K hK => ?_ | refine T_reg_end fun K hK => ?_); simp only [zl])
      | ((with_reducible first | apply T_cond_seq | apply T_cond); (focus rfl))
      | (intro hg; (first | (simp only [zb] at hg; done) | ((try simp only [zb, eq_self] at hg); (have hh : True := hg); clear hh hg) | ((try simp only [zb] at hg); (try (have hh := hg; simp only [hh]; clear hh)); (try simp only [zg, zq, ne_eq, gt_iff_lt, ge_iff_le] at hg); (try (exfalso; omega)))))
      | with_reducible first | refine T_seq_assoc ?_ | refine T_skip_seq ?_ | refine T_ret_seq ?_ | refine T_exit_seq ?_ | refine T_ret ?_ | refine T_skip ?_ | refine T_exit ?_ | refine T_block_seq fun Kb hKb => ?_ | refine T_block ?_
      | (simp only [TX.inBlock, TX.then, zi, Nat.reduceEqDiff])
      | ((with_reducible first | refine hR _ _ (fun C cc => ?_) | refine hN _ _ (fun C cc => ?_)); simp (disch := omega) only [go_sem]; (with_reducible apply cc); clear cc C; (first | refine Ends.more rfl ?_ | refine Ends.same rfl ?_ | refine Ends.more (by simp only [go_sem, Bool.and_self]) ?_ | refine Ends.same (by simp only [go_sem, Bool.and_self]) ?_); (try simp only [go_sem, Bool.and_self]))
      | (with_reducible apply_assumption -exfalso -symm only [*]))
  | some k =>
    rw [hi] at hg
    have hk : k < bs.length := by have := (idx_some hi).1; simpa using this
    have hq : nextR port bs = (bs.set k (nextB (nth bs k)).1, (nextB (nth bs k)).2) := by rw [nextR, hi]
    rw [hq]
    obtain ⟨hb1, w, hb2, hb3⟩ := h.box k hk
    have hlt := lt_of_get hb2
    have hok := h.ok _ (nth_mem hk)
    have hb2' := hb2
    simp only [List.cons_append, List.nil_append] at hb2'
    by_cases hkind : (nth bs k).p.kind = 1
    · have hb : nextB (nth bs k) = (nth bs k, [], false, 13) := by rw [nextB, if_pos hkind]
      rw [hb, nth_eq hk, List.set_getElem_self]
      refine TCalls.mono (Q := fun v σ' => v = .tup [.str (B []), .bool false, .int .i64 13] ∧ σ' = σ) ?_ (fun v σ' q => ⟨q.1, lab, by rw [q.2]; exact h, by rw [q.2]; exact Grow.refl _ _ _⟩)
      show TPure _ _ _ _ _
      refine pure_of [] [.tmp 4, .tmp 5, .tmp 6] Try.func127 (by kernel_rfl) rfl (by kernel_rfl) fun X hR hN => ?_
      show Tw _ _ _ _ ([some _, some _] ++ List.replicate 49 none) _
      simp only [List.replicate, List.cons_append, List.nil_append]
      repeat' (first
        | ((with_reducible refine WL_do fun Cw cw => ?_); (first | ((with_reducible first | apply O_move | apply O_assign | apply O_nilCheck); (repeat rfl); (with_reducible apply cw); (focus ((try simp only [zp]); exact rfl)); clear cw Cw) | ((with_reducible first | apply O_load | apply O_fieldAddr | apply O_bin | apply O_indexAddr | apply O_len | apply O_store); (repeat rfl); simp (disch := omega) only [go_sem, hb2', hkind]; (with_reducible apply cw); (focus ((try simp only [zp]); exact rfl)); clear cw Cw) | ((with_reducible apply O_sliceR); (focus rfl); intro Cs cs; (try simp (disch := omega) only [evB, ev, constV, const1, Int.reduceLE, Int.natCast_nonneg, Int.toNat_natCast, Int.reduceToNat, if_true, if_pos, List.getElem?_cons_zero, List.getElem?_cons_succ, Option.bind_some, Option.bind_none]); simp (disch := omega) only [go_sem, hb2', hkind]; (with_reducible apply cs); clear cs Cs; (with_reducible apply cw); (focus ((try simp only [zp]); exact rfl)); clear cw Cw) | ((with_reducible first | apply O_callF | apply O_call); (repeat rfl); (try simp only [za]); (refine TDoes.go (by (apply hg <;> first | assumption | omega | exact Eq.trans (get_old (by assumption)) (by assumption) | (focus (simp (disch := omega) only [go_sem, hb2', hkind]; (try rfl); done)))) ?_; (try simp (disch := omega) only [go_sem, hb2', hkind])); (with_reducible apply cw); (focus ((try simp only [zp]); exact rfl)); clear cw Cw)))
        | ((with_reducible refine WL_nil (hK _ _ ?_)); clear hK K)
        | ((with_reducible first | refine T_reg_seq fun K hK => ?_ | refine T_reg_end fun K hK => ?_); simp only [zl])
        | ((with_reducible first | apply T_cond_seq | apply T_cond); (focus rfl))
        | (intro hg; (first | (simp only [zb] at hg; done) | ((try simp only [zb, eq_self] at hg); (have hh : True := hg); clear hh hg) | ((try simp only [zb] at hg); (try (have hh := hg; simp only [hh]; clear hh)); (try simp only [zg, zq, ne_eq, gt_iff_lt, ge_iff_le] at hg); (try (exfalso; omega)))))
        | with_reducible first | refine T_seq_assoc ?_ | refine T_skip_seq ?_ | refine T_ret_seq ?_ | refine T_exit_seq ?_ | refine T_ret ?_ | refine T_skip ?_ | refine T_exit ?_ | refine T_block_seq fun Kb hKb => ?_ | refine T_block ?_
        | (simp only [TX.inBlock, TX.then, zi, Nat.reduceEqDiff])
        | ((with_reducible first | refine hR _ _ (fun C cc => ?_) | refine hN _ _ (fun C cc => ?_)); simp (disch := omega) only [go_sem, hb2', hkind]; (with_reducible apply cc); clear cc C; (first | refine Ends.more rfl ?_ | refine Ends.same rfl ?_ | refine Ends.more (by simp only [go_sem, Bool.and_self]) ?_ | refine Ends.same (by simp only [go_sem, Bool.and_self]) ?_); (try simp only [go_sem, Bool.and_self]))
        | (with_reducible apply_assumption -exfalso -symm only [*]))
    · have hkind2 : (nth bs k).p.kind = 2 := by have := hok.kind; omega
      rw [if_neg hkind] at hb3
      have hlen := lenQ hb3
      have ho' := nextB_ok hok
      have hG := fun o => Grow.set (C := (· = c + 1 + k)) (σ := σ) (lab := lab) (l := nth locs k) (o := o) [] hb1 (c + 1 + k)
      simp only [List.append_nil] at hG
      have hGm : ∀ {σ' lab'}, Grow σ lab σ' lab' (· = c + 1 + k) → Grow σ lab σ' lab' (fun n => c < n ∧ n ≤ c + bs.length) := fun g => g.mono fun n e => by have e : n = c + 1 + k := e; omega
      cases hl : (nth bs k).l with
      | nil =>
        have hb : nextB (nth bs k) = ({ nth bs k with lost := false }, [], (nth bs k).lost, 23) := nextB_nil hkind hl
        rw [hb] at ho' ⊢
        rw [hl] at hlen
        have hlen : tlenOp (mkTab Try.prog) 60 w = some (.int .i64 0) := hlen
        refine calls_of [] [.tmp 4, .tmp 5, .tmp 6] Try.func127 (by kernel_rfl) rfl (by kernel_rfl) fun X hR hN => ?_
        show Tw _ _ _ _ ([some _, some _] ++ List.replicate 49 none) _
        simp only [List.replicate, List.cons_append, List.nil_append]
        repeat' (first
          | ((with_reducible refine WL_do fun Cw cw => ?_); (first | ((with_reducible first | apply O_move | apply O_assign | apply O_nilCheck); (repeat rfl); (with_reducible apply cw); (focus ((try simp only [zp]); exact rfl)); clear cw Cw) | ((with_reducible first | apply O_load | apply O_fieldAddr | apply O_bin | apply O_indexAddr | apply O_len | apply O_store); (repeat rfl); simp (disch := omega) only [go_sem, hb2', ↓hlen]; (with_reducible apply cw); (focus ((try simp only [zp]); exact rfl)); clear cw Cw) | ((with_reducible apply O_sliceR); (focus rfl); intro Cs cs; (try simp (disch := omega) only [evB, ev, constV, const1, Int.reduceLE, Int.natCast_nonneg, Int.toNat_natCast, Int.reduceToNat, if_true, if_pos, List.getElem?_cons_zero, List.getElem?_cons_succ, Option.bind_some, Option.bind_none]); simp (disch := omega) only [go_sem, hb2', ↓hlen]; (with_reducible apply cs); clear cs Cs; (with_reducible apply cw); (focus ((try simp only [zp]); exact rfl)); clear cw Cw) | ((with_reducible first | apply O_callF | apply O_call); (repeat rfl); (try simp only [za]); (refine TDoes.go (by (apply hg <;> first | assumption | omega | exact Eq.trans (get_old (by assumption)) (by assumption) | (focus (simp (disch := omega) only [go_sem, hb2', ↓hlen]; (try rfl); done)))) ?_; (try simp (disch := omega) only [go_sem, hb2', ↓hlen])); (with_reducible apply cw); (focus ((try simp only [zp]); exact rfl)); clear cw Cw)))
          | ((with_reducible refine WL_nil (hK _ _ ?_)); clear hK K)
          | ((with_reducible first | refine T_reg_seq fun K hK => ?_ | refine T_reg_end fun K hK => ?_); simp only [zl])
          | ((with_reducible first | apply T_cond_seq | apply T_cond); (focus rfl))
          | (intro hg; (first | (simp only [zb] at hg; done) | ((try simp only [zb, eq_self] at hg); (have hh : True := hg); clear hh hg) | ((try simp only [zb] at hg); (try (have hh := hg; simp only [hh]; clear hh)); (try simp only [zg, zq, ne_eq, gt_iff_lt, ge_iff_le] at hg); (try (exfalso; omega)))))
          | with_reducible first | refine T_seq_assoc ?_ | refine T_skip_seq ?_ | refine T_ret_seq ?_ | refine T_exit_seq ?_ | refine T_ret ?_ | refine T_skip ?_ | refine T_exit ?_ | refine T_block_seq fun Kb hKb => ?_ | refine T_block ?_
          | (simp only [TX.inBlock, TX.then, zi, Nat.reduceEqDiff])
          | ((with_reducible first | refine hR _ _ (fun C cc => ?_) | refine hN _ _ (fun C cc => ?_)); simp (disch := omega) only [go_sem, hb2', ↓hlen]; (with_reducible apply cc); clear cc C)
          | (with_reducible apply_assumption -exfalso -symm only [*]))
        all_goals
          refine ⟨by first | rfl | trivial, _, h.turn hk (hG _) ⟨(labX_old hlt).trans hb1, w, List.getElem?_set_self hlt, ?_⟩ ho', hGm (hG _)⟩
          rw [if_neg hkind]
          have := hb3.set hb2 (.cells (portC (nth bs k).p ++ [w, .int .i64 (nth bs k).at_, .bool false])) [] (c + 1 + k)
          rwa [List.append_nil] at this
      | cons s rs =>
        have hb : nextB (nth bs k) = ({ nth bs k with l := rs, lost := false }, s, (nth bs k).lost, 0) := nextB_cons hkind hl
        rw [hb] at ho' ⊢
        rw [hl] at hb3 hlen
        rcases hb3 with ⟨_, hb4⟩ | ⟨t, e, hb5, rfl, hb6⟩
        · cases hb4
        refine calls_of [] [.tmp 4, .tmp 5, .tmp 6] Try.func127 (by kernel_rfl) rfl (by kernel_rfl) fun X hR hN => ?_
        show Tw _ _ _ _ ([some _, some _] ++ List.replicate 49 none) _
        simp only [List.replicate, List.cons_append, List.nil_append]
        repeat' (first
          | ((with_reducible refine WL_do fun Cw cw => ?_); (first | ((with_reducible first | apply O_move | apply O_assign | apply O_nilCheck); (repeat rfl); (with_reducible apply cw); (focus ((try simp only [zp]); exact rfl)); clear cw Cw) | ((with_reducible first | apply O_load | apply O_fieldAddr | apply O_bin | apply O_indexAddr | apply O_len | apply O_store); (repeat rfl); simp (disch := omega) only [go_sem, hb2', ↓cutS, ↓headS, List.set_set]; (with_reducible apply cw); (focus ((try simp only [zp]); exact rfl)); clear cw Cw) | ((with_reducible apply O_sliceR); (focus rfl); intro Cs cs; (try simp (disch := omega) only [evB, ev, constV, const1, Int.reduceLE, Int.natCast_nonneg, Int.toNat_natCast, Int.reduceToNat, if_true, if_pos, List.getElem?_cons_zero, List.getElem?_cons_succ, Option.bind_some, Option.bind_none]); simp (disch := omega) only [go_sem, hb2', ↓cutS, ↓headS, List.set_set]; (with_reducible apply cs); clear cs Cs; (with_reducible apply cw); (focus ((try simp only [zp]); exact rfl)); clear cw Cw) | ((with_reducible first | apply O_callF | apply O_call); (repeat rfl); (try simp only [za]); (refine TDoes.go (by (apply hg <;> first | assumption | omega | exact Eq.trans (get_old (by assumption)) (by assumption) | (focus (simp (disch := omega) only [go_sem, hb2', ↓cutS, ↓headS, List.set_set]; (try rfl); done)))) ?_; (try simp (disch := omega) only [go_sem, hb2', ↓cutS, ↓headS, List.set_set])); (with_reducible apply cw); (focus ((try simp only [zp]); exact rfl)); clear cw Cw)))
          | ((with_reducible refine WL_nil (hK _ _ ?_)); clear hK K)
          | ((with_reducible first | refine T_reg_seq fun K hK => ?_ | refine T_reg_end fun K hK => ?_); simp only [zl])
          | ((with_reducible first | apply T_cond_seq | apply T_cond); (focus rfl))
          | (intro hg; (first | (simp only [zb] at hg; done) | ((try simp only [zb, eq_self] at hg); (have hh : True := hg); clear hh hg) | ((try simp only [zb] at hg); (try (have hh := hg; simp only [hh]; clear hh)); (try simp only [zg, zq, ne_eq, gt_iff_lt, ge_iff_le] at hg); (try (exfalso; omega)))))
          | with_reducible first | refine T_seq_assoc ?_ | refine T_skip_seq ?_ | refine T_ret_seq ?_ | refine T_exit_seq ?_ | refine T_ret ?_ | refine T_skip ?_ | refine T_exit ?_ | refine T_block_seq fun Kb hKb => ?_ | refine T_block ?_
          | (simp only [TX.inBlock, TX.then, zi, Nat.reduceEqDiff])
          | ((with_reducible first | refine hR _ _ (fun C cc => ?_) | refine hN _ _ (fun C cc => ?_)); simp (disch := omega) only [go_sem, hb2', ↓cutS, ↓headS, List.set_set]; (with_reducible apply cc); clear cc C)
          | (with_reducible apply_assumption -exfalso -symm only [*]))
        all_goals
          refine ⟨by first | rfl | trivial, _, h.turn hk (hG _) ⟨(labX_old hlt).trans hb1, _, List.getElem?_set_self hlt, ?_⟩ ho', hGm (hG _)⟩
          rw [if_neg hkind]
          have := QS.set (ls := rs) (v := .sl (some (t, e)) rs.length (rs.flatMap strC)) (.inr ⟨t, e, hb5, rfl, hb6⟩) hb2 (.cells (portC (nth bs k).p ++ [.sl (some (t, e)) rs.length (rs.flatMap strC), .int .i64 (nth bs k).at_, .bool false])) [] (c + 1 + k)
          rwa [List.append_nil] at this

theorem refclear_walk (part : Int) (hlen : bs.length ≤ 1000000) : TCalls Try.prog 128 [.ptr r 0, .int .i64 part] σ fun u σ' => u = .tup [] ∧
    ∃ lab', RoomR σ' lab' c r v locs (clearR part bs) ∧ Grow σ lab σ' lab' (fun n => c < n ∧ n ≤ c + bs.length) := by
  have hll := h.len
  refine calls_of [] [] Try.func128 (by kernel_rfl) rfl (by kernel_rfl) fun X hR hN => ?_
  show Tw _ _ _ _ ([some _, some _] ++ List.replicate 52 none) _
  simp only [List.replicate, List.cons_append, List.nil_append]
  repeat' (first
    | ((with_reducible refine WL_do fun Cw cw => ?_); (first | ((with_reducible first | apply O_move | apply O_assign | apply O_nilCheck); (repeat rfl); (with_reducible apply cw); (focus ((try simp only [zp]); exact rfl)); clear cw Cw) | ((with_reducible first | apply O_load | apply O_fieldAddr | apply O_bin | apply O_indexAddr | apply O_len | apply O_store); (repeat rfl); simp (disch := omega) only [go_sem]; (with_reducible apply cw); (focus ((try simp only [zp]); exact rfl)); clear cw Cw)))
    | ((with_reducible refine WL_nil (hK _ _ ?_)); clear hK K)
    | ((with_reducible first | refine T_reg_seq fun K hK => ?_ | refine T_reg_end fun K hK => ?_); simp only [zl])
    | ((with_reducible first | apply T_cond_seq | apply T_cond); (focus rfl))
    | (intro hg; (first | (simp only [zb] at hg; done) | ((try simp only [zb, eq_self] at hg); (have hh : True := hg); clear hh hg) | ((try simp only [zb] at hg); (try (have hh := hg; simp only [hh]; clear hh)); (try simp only [zg, zq, ne_eq, gt_iff_lt, ge_iff_le] at hg); (try (exfalso; omega)))))
    | with_reducible first | refine T_seq_assoc ?_ | refine T_skip_seq ?_ | refine T_ret_seq ?_ | refine T_exit_seq ?_ | refine T_ret ?_ | refine T_skip ?_ | refine T_exit ?_ | refine T_block_seq fun Kb hKb => ?_ | refine T_block ?_
    | (simp only [TX.inBlock, TX.then, zi, Nat.reduceEqDiff])
    | ((with_reducible first | refine hR _ _ (fun C cc => ?_) | refine hN _ _ (fun C cc => ?_)); simp (disch := omega) only [go_sem]; (with_reducible apply cc); clear cc C)
    | (with_reducible apply_assumption -exfalso -symm only [*]))
  refine T_each (α := TS × (Nat → Nat) × Nat) (fun (τ, lab', i) => [some (some (.ptr r 0)), some (some (.int .i64 part)), none, none, some (some (.int .i64 i)), none, none, none, none, none, none, none, none, none, none, none, none, none, none, none, none, none, none, none, none, none, none, none, none, none, none, none, none, none, none, none, none, none, none, none, none, none, none, none, none, none, none, none, none, none, none, none, none, none]) (fun (τ, lab', i) => i ≤ bs.length ∧ RoomR τ lab' c r v locs (clrS part (List.range i) bs) ∧ Grow σ lab τ lab' (fun n => c < n ∧ n ≤ c + bs.length)) (fun (τ, lab', i) => bs.length - i) (fun (τ, lab', i) => τ) ?_ ?_
  · refine ⟨(σ, lab, 0), ⟨rfl, rfl, rfl, trivial⟩, ?_, rfl⟩
    exact ⟨by omega, by rw [show List.range 0 = [] from rfl, clrS_nil]; exact h, Grow.refl _ _ _⟩
  · rintro ⟨τ, lab', i⟩ q ⟨hi, hR, hG⟩
    show Tw _ _ _ _ ([some (.ptr r 0), some (.int .i64 part), q 2, q 3, some (.int .i64 i), q 5, q 6, q 7, q 8, q 9, q 10, q 11, q 12, q 13, q 14, q 15, q 16, q 17, q 18, q 19, q 20, q 21, q 22, q 23, q 24, q 25, q 26, q 27, q 28, q 29, q 30, q 31, q 32, q 33, q 34, q 35, q 36, q 37, q 38, q 39, q 40, q 41, q 42, q 43, q 44, q 45, q 46, q 47, q 48, q 49, q 50, q 51, q 52, q 53]) (τ)
    have hr := hR.hr
    have hlv := lenV h.hv
    have hrs : List.range (i + 1) = List.range i ++ [i] := List.range_succ
    rcases Nat.lt_or_ge i bs.length with hlt | hge
    · have hkc : i < (clrS part (List.range i) bs).length := by rw [clrS_len]; exact hlt
      have hix := ixV h.hv (i := i) (by omega)
      obtain ⟨hb1, w, hb2, hb3⟩ := hR.box i hkc
      have hil := lt_of_get hb2
      have hni : i ∉ List.range i := by simp
      have hbk : nth (clrS part (List.range i) bs) i = nth bs i := by rw [clrS_nth hlt, if_neg (fun e => hni e.1)]
      have hb2' := hb2
      rw [hbk] at hb2'
      simp only [List.cons_append, List.nil_append] at hb2'
      have hGs := fun o => Grow.set (C := (· = c + 1 + i)) (σ := τ) (lab := lab') (l := nth locs i) (o := o) [] hb1 (c + 1 + i)
      simp only [List.append_nil] at hGs
      have hrne : r ≠ nth locs i := fun e => by subst e; rw [hr] at hb2; cases hb2
      repeat' (first
        | ((with_reducible refine WL_do fun Cw cw => ?_); (first | ((with_reducible first | apply O_move | apply O_assign | apply O_nilCheck); (repeat rfl); (with_reducible apply cw); (focus ((try simp only [zp]); exact rfl)); clear cw Cw) | ((with_reducible first | apply O_load | apply O_fieldAddr | apply O_bin | apply O_indexAddr | apply O_len | apply O_store); (repeat rfl); simp (disch := omega) only [go_sem, hr, hb2', ↓hlv, ↓hix, List.set_set, get_set_ne]; (with_reducible apply cw); (focus ((try simp only [zp]); exact rfl)); clear cw Cw)))
        | ((with_reducible refine WL_nil (hK _ _ ?_)); clear hK K)
        | ((with_reducible first | refine T_reg_seq fun K hK => ?_ | refine T_reg_end fun K hK => ?_); simp only [zl])
        | ((with_reducible first | apply T_cond_seq | apply T_cond); (focus rfl))
        | (intro hg; (first | (simp only [zb] at hg; done) | ((try simp only [zb, eq_self] at hg); (have hh : True := hg); clear hh hg) | ((try simp only [zb] at hg); (try (have hh := hg; simp only [hh]; clear hh)); (try simp only [zg, zq, ne_eq, gt_iff_lt, ge_iff_le] at hg); (try (exfalso; omega)))))
        | with_reducible first | refine T_seq_assoc ?_ | refine T_skip_seq ?_ | refine T_ret_seq ?_ | refine T_exit_seq ?_ | refine T_ret ?_ | refine T_skip ?_ | refine T_exit ?_ | refine T_block_seq fun Kb hKb => ?_ | refine T_block ?_
        | (simp only [TX.inBlock, TX.then, zi, Nat.reduceEqDiff])
        | ((with_reducible first | refine hR _ _ (fun C cc => ?_) | refine hN _ _ (fun C cc => ?_)); simp (disch := omega) only [go_sem, hr, hb2', ↓hlv, ↓hix, List.set_set, get_set_ne]; (with_reducible apply cc); clear cc C)
        | (with_reducible apply_assumption -exfalso -symm only [*]))
      · have hpart : (nth bs i).p.part = part := by assumption
        have hR2 := hR.turn hkc (b := clearB (nth (clrS part (List.range i) bs) i)) (hGs (.cells (portC (nth bs i).p ++ [.nils, .int .i64 0, .bool false]))) ⟨(labX_old hil).trans hb1, .nils, by rw [hbk]; exact List.getElem?_set_self hil, by
          rw [hbk]
          split
          · rfl
          · exact .inl ⟨rfl, rfl⟩⟩ (clearB_ok (hR.ok _ (nth_mem hkc)))
        rw [← clrS_in hlt hni hpart, ← hrs] at hR2
        refine ⟨(_, labX lab' τ.length (c + 1 + i), i + 1), ?_, ⟨rfl, rfl, rfl, trivial⟩, ⟨?_, hR2, hG.trans ((hGs _).mono fun n e => by have e : n = c + 1 + i := e; omega)⟩, rfl⟩ <;> (try dsimp only) <;> omega
      · have hpart : (nth bs i).p.part ≠ part := by assumption
        rw [← clrS_out hpart, ← hrs] at hR
        refine ⟨(τ, lab', i + 1), ?_, ⟨rfl, rfl, rfl, trivial⟩, ⟨?_, hR, hG⟩, rfl⟩ <;> (try dsimp only) <;> omega
    · repeat' (first
        | ((with_reducible refine WL_do fun Cw cw => ?_); (first | ((with_reducible first | apply O_move | apply O_assign | apply O_nilCheck); (repeat rfl); (with_reducible apply cw); (focus ((try simp only [zp]); exact rfl)); clear cw Cw) | ((with_reducible first | apply O_load | apply O_fieldAddr | apply O_bin | apply O_indexAddr | apply O_len | apply O_store); (repeat rfl); simp (disch := omega) only [go_sem, hr, ↓hlv]; (with_reducible apply cw); (focus ((try simp only [zp]); exact rfl)); clear cw Cw)))
        | ((with_reducible refine WL_nil (hK _ _ ?_)); clear hK K)
        | ((with_reducible first | refine T_reg_seq fun K hK => ?_ | refine T_reg_end fun K hK => ?_); simp only [zl])
        | ((with_reducible first | apply T_cond_seq | apply T_cond); (focus rfl))
        | (intro hg; (first | (simp only [zb] at hg; done) | ((try simp only [zb, eq_self] at hg); (have hh : True := hg); clear hh hg) | ((try simp only [zb] at hg); (try (have hh := hg; simp only [hh]; clear hh)); (try simp only [zg, zq, ne_eq, gt_iff_lt, ge_iff_le] at hg); (try (exfalso; omega)))))
        | with_reducible first | refine T_seq_assoc ?_ | refine T_skip_seq ?_ | refine T_ret_seq ?_ | refine T_exit_seq ?_ | refine T_ret ?_ | refine T_skip ?_ | refine T_exit ?_ | refine T_block_seq fun Kb hKb => ?_ | refine T_block ?_
        | (simp only [TX.inBlock, TX.then, zi, Nat.reduceEqDiff])
        | ((with_reducible first | refine hR _ _ (fun C cc => ?_) | refine hN _ _ (fun C cc => ?_)); simp (disch := omega) only [go_sem, hr, ↓hlv]; (with_reducible apply cc); clear cc C)
        | (with_reducible apply_assumption -exfalso -symm only [*]))
      all_goals
        refine ⟨by first | rfl | trivial, lab', ?_, hG⟩
        rw [← clrS_all (seen := List.range i) fun k hk => List.mem_range.2 (by omega)]
        exact hR
end
end Go.Proofs.Ytgkcackpffimmaa
