/- The image: its least example. -/
import Derived.Test.YtgkcackpffimmaaI4
set_option linter.unusedVariables false
set_option linter.unusedSimpArgs false
set_option maxRecDepth 10000
set_option maxHeartbeats 4000000
namespace Go.Proofs.Ytgkcackpffimmaa
open Go.TM

def leastC : Cfg := ⟨1, Row.none, 1, Row.none, Row.none, Row.none⟩
theorem least_few : FewC leastC := by
  have hok : leastC.ok := ⟨by unfold I64; simp [leastC], by unfold I64; simp [leastC], by simp [leastC, Row.none], by simp [leastC, Row.none], by simp [leastC, Row.none], by simp [leastC, Row.none], by simp [leastC, Row.none], by simp [leastC, Row.none], by simp [leastC, Row.none], by simp [leastC, Row.none]⟩
  exact ⟨hok, by simp [leastC, Row.none], by simp [leastC, Row.none], by simp [leastC, Row.none], by simp [leastC, Row.none], by simp [leastC, Row.none]⟩
theorem least_check : checkS leastC = (0, 0, 0) := by
  unfold checkS
  rw [if_neg (by simp [leastC])]
  simp only [leastC, Row.none, List.length_nil, firstBad, firstFrom]
  rw [if_neg (by omega)]
  simp [firstFrom, lateS, jitS, jitL]
theorem least_enc : encI leastC = (sealL (imgL leastC), 0) := by
  unfold encI
  rw [if_neg (by rw [least_check]; simp), if_neg]
  rintro ⟨k, hk, _⟩
  simp [leastC, Row.none] at hk
theorem seal_len (l : List UInt8) : (sealL l).length = l.length + 4 := by simp [sealL]
theorem least_len : (sealL (imgL leastC)).length = 24 := by
  rw [seal_len]
  simp [imgL, intsB, leastC, Row.none, be_len]
theorem awake11_walk (σ : TS) : TPure Try.prog 31 [] σ (.bool true) := by
  obtain ⟨s, hs⟩ : ∃ s, s = sealL (imgL leastC) := ⟨_, rfl⟩
  have hl : s.length = 24 := by rw [hs, least_len]
  have hen : ∀ σ, TPure Try.prog 32 [.agg [.int .i64 1, .nils, .int .i64 1, .nils, .nils, .nils]] σ (.tup [.str (B s), .int .i64 0]) := fun σ => by
    have := encodeI_walk leastC least_few σ
    rw [least_enc] at this
    rw [hs]; exact this
  refine pure_of [] [.tmp 0] Try.func31 (by kernel_rfl) rfl (by kernel_rfl) fun X hR hN => ?_
  show Tw _ _ _ _ ([] ++ List.replicate 15 none) _
  simp only [List.replicate, List.cons_append, List.nil_append]
  repeat' (first
    | ((with_reducible refine WL_do fun Cw cw => ?_); (first | ((with_reducible first | apply O_move | apply O_assign | apply O_pickV | apply O_extract); (repeat rfl)) | ((with_reducible first | apply O_bin | apply O_len | apply O_build); (repeat rfl); simp (disch := omega) only [go_sem, hl]) | ((with_reducible first | apply O_callF | apply O_call); (repeat rfl); (try simp only [za]); (refine TPure.go (by (apply hen) <;> first | assumption | omega | exact Eq.trans (get_old (by assumption)) (by assumption)) ?_))); (with_reducible apply cw); (focus ((try simp only [zp]); exact rfl)); clear cw Cw)
    | ((first | ((with_reducible apply WL_if); (focus rfl)) | ((with_reducible apply WL_un); (focus rfl))); (focus ((try simp only [zp]); exact rfl)))
    | ((with_reducible refine WL_nil (hK _ _ ?_)); clear hK K)
    | ((with_reducible first | refine T_reg_seq fun K hK => ?_ | refine T_reg_end fun K hK => ?_); simp only [zl])
    | ((with_reducible first | apply T_cond_seq | apply T_cond); (focus rfl))
    | (intro hg; (first | (simp only [zb] at hg; done) | ((try simp only [zb, eq_self] at hg); (have hh : True := hg); clear hh hg) | ((try simp only [zb] at hg); (try (have hh := hg; simp only [hh]; clear hh)); (try simp only [zg, zq, ne_eq, gt_iff_lt, ge_iff_le] at hg); (try (exfalso; omega)))))
    | with_reducible first | apply T_seq_assoc | apply T_skip_seq | apply T_ret_seq | apply T_exit_seq | apply T_ret | apply T_skip | apply T_exit | refine T_block_seq fun Kb hKb => ?_ | apply T_block
    | (simp only [TX.inBlock, TX.then, zi, Nat.reduceEqDiff])
    | ((with_reducible first | refine hR _ _ (fun C cc => ?_) | refine hN _ _ (fun C cc => ?_)); simp (disch := omega) only [go_sem, hl]; (with_reducible apply cc); clear cc C; (first | refine Ends.more (by first | rfl | simp only [go_sem, Bool.and_self]) ?_ | refine Ends.same (by first | rfl | simp only [go_sem, Bool.and_self]) ?_); (try simp only [go_sem, Bool.and_self]))
    | (with_reducible apply_assumption -exfalso -symm only [*]))
end Go.Proofs.Ytgkcackpffimmaa
