/- The image's loader: what it reads, number by number. -/
import Derived.Test.YtgkcackpffimmaaI1
import Derived.Test.YtgkcackpffimmaaH2
import Derived.Test.YtgkcackpffimmaaD0
set_option linter.unusedVariables false
set_option linter.unusedSimpArgs false
set_option maxRecDepth 10000
set_option maxHeartbeats 4000000
namespace Go.Proofs.Ytgkcackpffimmaa
open Go.TM

/- a growing row of numbers -/
theorem appI0 {σ : TS} {x : Int} : tappend (mkTab Try.prog) true σ 22 22 .nils (.sl none 1 [.int .i64 x]) = some (.sl (some (σ.length, 1)) 1 [.int .i64 x], σ ++ [.right 1 1]) :=
  app_nil tab22 rfl tab3 rfl rfl (src_sl (σ := σ) (own := none) (cs := [.int .i64 x]) (n := 1) (sz := 1) tab22 rfl rfl) rfl rfl (by decide) (by decide) (by decide)
theorem appI1 {w : Bool} {σ : TS} {tk n : Nat} {cs : List TV} {x : Int} (hr : σ[tk]? = some (.right n 1)) (hn : n = cs.length) (hb : n ≤ 1000000) :
    tappend (mkTab Try.prog) w σ 22 22 (.sl (some (tk, n)) n cs) (.sl none 1 [.int .i64 x]) = some (.sl (some (tk, n + 1)) (n + 1) (cs ++ [.int .i64 x]), σ.set tk (.right (n + 1) 1)) :=
  app_own (w := w) tab22 rfl tab3 rfl rfl (src_sl (σ := σ) (own := none) (cs := [.int .i64 x]) (n := 1) (sz := 1) tab22 rfl rfl) rfl rfl hr (by rw [hn]; exact (Nat.mul_one _).symm) (by show (n + 1) * 8 ≤ _; omega) (by omega)

theorem ru32_walk {σ : TS} {l : Nat} {r : List UInt8} {e : Int} (hl : σ[l]? = some (.cells (rC r e))) (hr : r.length ≤ 9223372036854775807) :
    TDoes Try.prog 165 [.ptr l 0] σ (.int .i64 (un (rT 4 r e).1)) (σ.set l (.cells (rC (rT 4 r e).2.1 (rT 4 r e).2.2))) := by
  have hs := rT_len 4 r e
  have h0 := un_nonneg (rT 4 r e).1
  have h1 := un_u32 (rT 4 r e).1 (by omega)
  have hn := number_walk (k := 4) (by omega) (by omega) (rtext_walk hl 4 hr) rfl
  refine calls_of [] [.tmp 2] Try.func165 (by kernel_rfl) rfl (by kernel_rfl) fun X hR hN => ?_
  show Tw _ _ _ _ ([some _] ++ List.replicate 5 none) _
  simp only [List.replicate, List.cons_append, List.nil_append]
  repeat' (first
    | ((with_reducible refine WL_do fun Cw cw => ?_); (first | ((with_reducible first | apply O_move | apply O_assign); (repeat rfl)) | ((with_reducible apply O_convert); (repeat rfl); (try simp only [zc, zo, Nat.reduceBEq]); simp (disch := omega) only [go_sem]) | ((with_reducible first | apply O_callF | apply O_call); (repeat rfl); (try simp only [za]); (refine TDoes.go (by (apply hn <;> first | assumption | omega | exact Eq.trans (get_old (by assumption)) (by assumption) | (focus (simp (disch := omega) only [go_sem]; (try rfl); done)))) ?_; (try simp (disch := omega) only [go_sem])))); (with_reducible apply cw); (focus ((try simp only [zp]); exact rfl)); clear cw Cw)
    | ((with_reducible refine WL_nil (hK _ _ ?_)); clear hK K)
    | ((with_reducible first | refine T_reg_seq fun K hK => ?_ | refine T_reg_end fun K hK => ?_); simp only [zl])
    | ((with_reducible first | apply T_cond_seq | apply T_cond); (focus rfl))
    | (intro hg; (first | (simp only [zb] at hg; done) | ((try simp only [zb, eq_self] at hg); (have hh : True := hg); clear hh hg) | ((try simp only [zb] at hg); (try (have hh := hg; simp only [hh]; clear hh)); (try simp only [zg, zq, ne_eq, gt_iff_lt, ge_iff_le] at hg); (try (exfalso; omega)))))
    | with_reducible first | apply T_seq_assoc | apply T_skip_seq | apply T_ret_seq | apply T_exit_seq | apply T_ret | apply T_skip | apply T_exit | refine T_block_seq fun Kb hKb => ?_ | apply T_block
    | (simp only [TX.inBlock, TX.then, zi, Nat.reduceEqDiff])
    | ((with_reducible first | refine hR _ _ (fun C cc => ?_) | refine hN _ _ (fun C cc => ?_)); simp (disch := omega) only [go_sem]; (with_reducible apply cc); clear cc C)
    | (with_reducible apply_assumption -exfalso -symm only [*]))
  all_goals (first | exact ⟨rfl, rfl⟩ | exact ⟨rfl, trivial⟩ | exact ⟨trivial, rfl⟩ | trivial)
theorem rest_walk {σ : TS} {l : Nat} {r : List UInt8} {e : Int} (hl : σ[l]? = some (.cells (rC r e))) (hr : r.length ≤ 9223372036854775807) :
    TDoes Try.prog 187 [.ptr l 0] σ (.str (B (rT r.length r e).1)) (σ.set l (.cells (rC (rT r.length r e).2.1 (rT r.length r e).2.2))) := by
  have h1 := left_walk hl
  have h2 := rtext_walk hl r.length hr
  refine calls_of [] [.tmp 2] Try.func187 (by kernel_rfl) rfl (by kernel_rfl) fun X hR hN => ?_
  show Tw _ _ _ _ ([some _] ++ List.replicate 6 none) _
  simp only [List.replicate, List.cons_append, List.nil_append]
  repeat' (first
    | ((with_reducible refine WL_do fun Cw cw => ?_); (first | ((with_reducible first | apply O_move | apply O_assign); (repeat rfl)) | ((with_reducible first | apply O_callF | apply O_call); (repeat rfl); (try simp only [za]); (first | (refine TPure.go (by (apply h1 <;> first | assumption | omega | exact Eq.trans (get_old (by assumption)) (by assumption) | (focus (simp (disch := omega) only [go_sem]; (try rfl); done)))) ?_) | (refine TDoes.go (by (apply h2 <;> first | assumption | omega | exact Eq.trans (get_old (by assumption)) (by assumption) | (focus (simp (disch := omega) only [go_sem]; (try rfl); done)))) ?_; (try simp (disch := omega) only [go_sem]))))); (with_reducible apply cw); (focus ((try simp only [zp]); exact rfl)); clear cw Cw)
    | ((with_reducible refine WL_nil (hK _ _ ?_)); clear hK K)
    | ((with_reducible first | refine T_reg_seq fun K hK => ?_ | refine T_reg_end fun K hK => ?_); simp only [zl])
    | ((with_reducible first | apply T_cond_seq | apply T_cond); (focus rfl))
    | (intro hg; (first | (simp only [zb] at hg; done) | ((try simp only [zb, eq_self] at hg); (have hh : True := hg); clear hh hg) | ((try simp only [zb] at hg); (try (have hh := hg; simp only [hh]; clear hh)); (try simp only [zg, zq, ne_eq, gt_iff_lt, ge_iff_le] at hg); (try (exfalso; omega)))))
    | with_reducible first | apply T_seq_assoc | apply T_skip_seq | apply T_ret_seq | apply T_exit_seq | apply T_ret | apply T_skip | apply T_exit | refine T_block_seq fun Kb hKb => ?_ | apply T_block
    | (simp only [TX.inBlock, TX.then, zi, Nat.reduceEqDiff])
    | ((with_reducible first | refine hR _ _ (fun C cc => ?_) | refine hN _ _ (fun C cc => ?_)); simp (disch := omega) only [go_sem]; (with_reducible apply cc); clear cc C)
    | (with_reducible apply_assumption -exfalso -symm only [*]))
  all_goals (first | exact ⟨rfl, rfl⟩ | exact ⟨rfl, trivial⟩ | exact ⟨trivial, rfl⟩ | trivial)

theorem iand_mask {n : Int} (k : Nat) (h0 : 0 ≤ n) (h1 : n < 18446744073709551616) (hk : k ≤ 63) : iand .u64 n ((2 ^ k - 1 : Nat) : Int) = n % ((2 ^ k : Nat) : Int) := by
  obtain ⟨m, rfl⟩ : ∃ m : Nat, n = m := ⟨n.toNat, by omega⟩
  have h2 : 2 ^ k < 2 ^ 64 := Nat.pow_lt_pow_right (by decide) (by omega)
  have h3 : 0 < 2 ^ k := Nat.two_pow_pos k
  have h4 : m % 2 ^ k < 2 ^ k := Nat.mod_lt _ h3
  unfold iand
  rw [show IntKind.bits .u64 = 64 from rfl, BitVec.ofInt_natCast, BitVec.ofInt_natCast, BitVec.toNat_and, BitVec.toNat_ofNat, BitVec.toNat_ofNat, Nat.mod_eq_of_lt (show m < 2 ^ 64 by omega), Nat.mod_eq_of_lt (show 2 ^ k - 1 < 2 ^ 64 by omega), Nat.and_two_pow_sub_one_eq_mod]
  rw [wrapU64_of (by omega) (by omega)]
  push_cast
  rfl

/-- What the bits of a byte are, of so many each; none are where nothing is read. -/
def threeR (a b : Int) (r : List UInt8) (e : Int) : TV := if (rT 1 r e).2.2 ≠ 0 then .nils else three (un (rT 1 r e).1 / a) (un (rT 1 r e).1 / b % 2) (un (rT 1 r e).1 % b)
theorem rbits413 {σ : TS} {l : Nat} {r : List UInt8} {e : Int} (hl : σ[l]? = some (.cells (rC r e))) (hr : r.length ≤ 9223372036854775807) :
    TDoes Try.prog 193 [.ptr l 0, three 4 1 3] σ (threeR 16 8 r e) (σ.set l (.cells (rC (rT 1 r e).2.1 (rT 1 r e).2.2))) := by
  have hL := lt_of_get hl
  have herr := err_walk hl
  by_cases he : e = 0
  · have hn := number_walk (k := 1) (by omega) (by have := rT_len 1 r e; omega) (rtext_walk hl 1 hr) rfl
    unfold threeR
    by_cases hx : (rT 1 r e).2.2 = 0
    · rw [if_neg (by omega)]
      have h0 := un_nonneg (rT 1 r e).1
      have h1 : un (rT 1 r e).1 < 256 := by
        have h2 := un_lt (rT 1 r e).1
        have h3 := rT_len 1 r e
        have h4 : (rT 1 r e).1.length = 0 ∨ (rT 1 r e).1.length = 1 := by omega
        rcases h4 with h4 | h4 <;> rw [h4] at h2 <;> simp at h2 <;> omega
      generalize (rT 1 r e).1 = s at *
      generalize (rT 1 r e).2.1 = r' at *
      generalize (rT 1 r e).2.2 = e' at *
      generalize un s = n at *
      subst hx
      have s4 : ishr .u64 n 4 = n / 16 := ishr_nat .u64 n 4 (by decide)
      have s3 : ishr .u64 n 3 = n / 8 := ishr_nat .u64 n 3 (by decide)
      have s0 : ishr .u64 n 0 = n := by have := ishr_nat .u64 n 0 (by decide); simpa using this
      have t4 : ishl .u64 1 4 = 16 := by decide
      have t1 : ishl .u64 1 1 = 2 := by decide
      have t3 : ishl .u64 1 3 = 8 := by decide
      have a4 : iand .u64 (n / 16) 15 = n / 16 := by have := iand_mask (n := n / 16) 4 (by omega) (by omega) (by omega); rw [show ((2 ^ 4 - 1 : Nat) : Int) = 15 from rfl] at this; rw [this]; show n / 16 % 16 = _; omega
      have a1 : iand .u64 (n / 8) 1 = n / 8 % 2 := iand_mask (n := n / 8) 1 (by omega) (by omega) (by omega)
      have a3 : iand .u64 n 7 = n % 8 := iand_mask (n := n) 3 (by omega) (by omega) (by omega)
      refine does_of [50] [.tmp 4] Try.func193 (by kernel_rfl) rfl (by kernel_rfl) fun X hR hN => ?_
      show Tw _ _ _ _ ([some _, some _] ++ List.replicate 51 none) _
      simp only [List.replicate, List.cons_append, List.nil_append]
      repeat' (first
        | ((with_reducible refine WL_do fun Cw cw => ?_); (first | ((with_reducible first | apply O_move | apply O_assign | apply O_nilCheck); (repeat rfl)) | ((with_reducible first | apply O_load | apply O_fieldAddr | apply O_bin | apply O_indexAddr | apply O_len | apply O_store); (repeat rfl); simp (disch := omega) only [go_sem, hl]) | ((with_reducible first | apply O_buildSlice | apply O_convert | apply O_append); (repeat rfl); (try simp only [zc, zo, Nat.reduceBEq]); simp (disch := omega) only [go_sem, hl]) | ((with_reducible first | apply O_callF | apply O_call); (repeat rfl); (try simp only [za]); (first | (refine TPure.go (by (first | (apply herr <;> first | assumption | omega | exact Eq.trans (get_old (by assumption)) (by assumption) | (focus (simp (disch := omega) only [go_sem, hl]; (try rfl); done))) | (apply sum413 <;> first | assumption | omega | exact Eq.trans (get_old (by assumption)) (by assumption) | (focus (simp (disch := omega) only [go_sem, hl]; (try rfl); done))))) ?_) | (refine TDoes.go (by (apply hn <;> first | assumption | omega | exact Eq.trans (get_old (by assumption)) (by assumption) | (focus (simp (disch := omega) only [go_sem, hl]; (try rfl); done)))) ?_; (try simp (disch := omega) only [go_sem, hl]))))); (with_reducible apply cw); (focus ((try simp only [zp]); exact rfl)); clear cw Cw)
        | ((with_reducible refine WL_nil (hK _ _ ?_)); clear hK K)
        | ((with_reducible first | refine T_reg_seq fun K hK => ?_ | refine T_reg_end fun K hK => ?_); simp only [zl])
        | ((with_reducible first | apply T_cond_seq | apply T_cond); (focus rfl))
        | (intro hg; (first | (simp only [zb] at hg; done) | ((try simp only [zb, eq_self] at hg); (have hh : True := hg); clear hh hg) | ((try simp only [zb] at hg); (try (have hh := hg; simp only [hh]; clear hh)); (try simp only [zg, zq, ne_eq, gt_iff_lt, ge_iff_le] at hg); (try (exfalso; omega)))))
        | with_reducible first | apply T_seq_assoc | apply T_skip_seq | apply T_ret_seq | apply T_exit_seq | apply T_ret | apply T_skip | apply T_exit | refine T_block_seq fun Kb hKb => ?_ | apply T_block
        | (simp only [TX.inBlock, TX.then, zi, Nat.reduceEqDiff])
        | ((with_reducible first | refine hR _ _ (fun C cc => ?_) | refine hN _ _ (fun C cc => ?_)); simp (disch := omega) only [go_sem, hl]; (with_reducible apply cc); clear cc C; (first | refine EndsT.more' (by repeat (first | exact Turned.refl _ | (with_reducible apply_assumption -exfalso -symm only [*]) | refine Turned.set ?_ (by simp (disch := omega) only [go_sem, Bool.and_self, Bool.and_true, decide_eq_true]))) (by simp (disch := omega) only [go_sem, Bool.and_self, Bool.and_true, decide_eq_true]) ?_ ?_ | refine EndsT.same' (by repeat (first | exact Turned.refl _ | (with_reducible apply_assumption -exfalso -symm only [*]) | refine Turned.set ?_ (by simp (disch := omega) only [go_sem, Bool.and_self, Bool.and_true, decide_eq_true]))) (by simp (disch := omega) only [go_sem, Bool.and_self, Bool.and_true, decide_eq_true]) ?_ ?_); (try simp only [go_sem, Bool.and_self]))
        | (with_reducible apply_assumption -exfalso -symm only [*]))
      refine T_open 3 ?_
      repeat' (first
        | ((with_reducible refine WL_do fun Cw cw => ?_); (first | ((with_reducible first | apply O_move | apply O_assign | apply O_nilCheck); (repeat rfl)) | ((with_reducible first | apply O_load | apply O_fieldAddr | apply O_bin | apply O_indexAddr | apply O_len | apply O_store); (repeat rfl); simp (disch := omega) only [go_sem, wrapU64_of, s4, t4, a4, ↓appI0]) | ((with_reducible first | apply O_buildSlice | apply O_convert | apply O_append); (repeat rfl); (try simp only [zc, zo, Nat.reduceBEq]); simp (disch := omega) only [go_sem, wrapU64_of, s4, t4, a4, ↓appI0])); (with_reducible apply cw); (focus ((try simp only [zp]); exact rfl)); clear cw Cw)
        | ((with_reducible refine WL_nil (hK _ _ ?_)); clear hK K)
        | ((with_reducible first | refine T_reg_seq fun K hK => ?_ | refine T_reg_end fun K hK => ?_); simp only [zl])
        | ((with_reducible first | apply T_cond_seq | apply T_cond); (focus rfl))
        | (intro hg; (first | (simp only [zb] at hg; done) | ((try simp only [zb, eq_self] at hg); (have hh : True := hg); clear hh hg) | ((try simp only [zb] at hg); (try (have hh := hg; simp only [hh]; clear hh)); (try simp only [zg, zq, ne_eq, gt_iff_lt, ge_iff_le] at hg); (try (exfalso; omega)))))
        | with_reducible first | apply T_seq_assoc | apply T_skip_seq | apply T_ret_seq | apply T_exit_seq | apply T_ret | apply T_skip | apply T_exit | refine T_block_seq fun Kb hKb => ?_ | apply T_block
        | (simp only [TX.inBlock, TX.then, zi, Nat.reduceEqDiff])
        | ((with_reducible first | refine hR _ _ (fun C cc => ?_) | refine hN _ _ (fun C cc => ?_)); simp (disch := omega) only [go_sem, wrapU64_of, s4, t4, a4, ↓appI0]; (with_reducible apply cc); clear cc C; (first | refine EndsT.more' (by repeat (first | exact Turned.refl _ | (with_reducible apply_assumption -exfalso -symm only [*]) | refine Turned.set ?_ (by simp (disch := omega) only [go_sem, Bool.and_self, Bool.and_true, decide_eq_true]))) (by simp (disch := omega) only [go_sem, Bool.and_self, Bool.and_true, decide_eq_true]) ?_ ?_ | refine EndsT.same' (by repeat (first | exact Turned.refl _ | (with_reducible apply_assumption -exfalso -symm only [*]) | refine Turned.set ?_ (by simp (disch := omega) only [go_sem, Bool.and_self, Bool.and_true, decide_eq_true]))) (by simp (disch := omega) only [go_sem, Bool.and_self, Bool.and_true, decide_eq_true]) ?_ ?_); (try simp only [go_sem, Bool.and_self]))
        | (with_reducible apply_assumption -exfalso -symm only [*]))
      refine T_next ?_
      repeat' (first
        | ((with_reducible refine WL_do fun Cw cw => ?_); (first | ((with_reducible first | apply O_move | apply O_assign | apply O_nilCheck); (repeat rfl)) | ((with_reducible first | apply O_load | apply O_fieldAddr | apply O_bin | apply O_indexAddr | apply O_len | apply O_store); (repeat rfl); simp (disch := omega) only [go_sem, wrapU64_of, s3, t1, a1, ↓appI1]) | ((with_reducible first | apply O_buildSlice | apply O_convert | apply O_append); (repeat rfl); (try simp only [zc, zo, Nat.reduceBEq]); simp (disch := omega) only [go_sem, wrapU64_of, s3, t1, a1, ↓appI1])); (with_reducible apply cw); (focus ((try simp only [zp]); exact rfl)); clear cw Cw)
        | ((with_reducible refine WL_nil (hK _ _ ?_)); clear hK K)
        | ((with_reducible first | refine T_reg_seq fun K hK => ?_ | refine T_reg_end fun K hK => ?_); simp only [zl])
        | ((with_reducible first | apply T_cond_seq | apply T_cond); (focus rfl))
        | (intro hg; (first | (simp only [zb] at hg; done) | ((try simp only [zb, eq_self] at hg); (have hh : True := hg); clear hh hg) | ((try simp only [zb] at hg); (try (have hh := hg; simp only [hh]; clear hh)); (try simp only [zg, zq, ne_eq, gt_iff_lt, ge_iff_le] at hg); (try (exfalso; omega)))))
        | with_reducible first | apply T_seq_assoc | apply T_skip_seq | apply T_ret_seq | apply T_exit_seq | apply T_ret | apply T_skip | apply T_exit | refine T_block_seq fun Kb hKb => ?_ | apply T_block
        | (simp only [TX.inBlock, TX.then, zi, Nat.reduceEqDiff])
        | ((with_reducible first | refine hR _ _ (fun C cc => ?_) | refine hN _ _ (fun C cc => ?_)); simp (disch := omega) only [go_sem, wrapU64_of, s3, t1, a1, ↓appI1]; (with_reducible apply cc); clear cc C; (first | refine EndsT.more' (by repeat (first | exact Turned.refl _ | (with_reducible apply_assumption -exfalso -symm only [*]) | refine Turned.set ?_ (by simp (disch := omega) only [go_sem, Bool.and_self, Bool.and_true, decide_eq_true]))) (by simp (disch := omega) only [go_sem, Bool.and_self, Bool.and_true, decide_eq_true]) ?_ ?_ | refine EndsT.same' (by repeat (first | exact Turned.refl _ | (with_reducible apply_assumption -exfalso -symm only [*]) | refine Turned.set ?_ (by simp (disch := omega) only [go_sem, Bool.and_self, Bool.and_true, decide_eq_true]))) (by simp (disch := omega) only [go_sem, Bool.and_self, Bool.and_true, decide_eq_true]) ?_ ?_); (try simp only [go_sem, Bool.and_self]))
        | (with_reducible apply_assumption -exfalso -symm only [*]))
      refine T_next ?_
      repeat' (first
        | ((with_reducible refine WL_do fun Cw cw => ?_); (first | ((with_reducible first | apply O_move | apply O_assign | apply O_nilCheck); (repeat rfl)) | ((with_reducible first | apply O_load | apply O_fieldAddr | apply O_bin | apply O_indexAddr | apply O_len | apply O_store); (repeat rfl); simp (disch := omega) only [go_sem, wrapU64_of, s0, t3, a3, ↓appI1]) | ((with_reducible first | apply O_buildSlice | apply O_convert | apply O_append); (repeat rfl); (try simp only [zc, zo, Nat.reduceBEq]); simp (disch := omega) only [go_sem, wrapU64_of, s0, t3, a3, ↓appI1])); (with_reducible apply cw); (focus ((try simp only [zp]); exact rfl)); clear cw Cw)
        | ((with_reducible refine WL_nil (hK _ _ ?_)); clear hK K)
        | ((with_reducible first | refine T_reg_seq fun K hK => ?_ | refine T_reg_end fun K hK => ?_); simp only [zl])
        | ((with_reducible first | apply T_cond_seq | apply T_cond); (focus rfl))
        | (intro hg; (first | (simp only [zb] at hg; done) | ((try simp only [zb, eq_self] at hg); (have hh : True := hg); clear hh hg) | ((try simp only [zb] at hg); (try (have hh := hg; simp only [hh]; clear hh)); (try simp only [zg, zq, ne_eq, gt_iff_lt, ge_iff_le] at hg); (try (exfalso; omega)))))
        | with_reducible first | apply T_seq_assoc | apply T_skip_seq | apply T_ret_seq | apply T_exit_seq | apply T_ret | apply T_skip | apply T_exit | refine T_block_seq fun Kb hKb => ?_ | apply T_block
        | (simp only [TX.inBlock, TX.then, zi, Nat.reduceEqDiff])
        | ((with_reducible first | refine hR _ _ (fun C cc => ?_) | refine hN _ _ (fun C cc => ?_)); simp (disch := omega) only [go_sem, wrapU64_of, s0, t3, a3, ↓appI1]; (with_reducible apply cc); clear cc C; (first | refine EndsT.more' (by repeat (first | exact Turned.refl _ | (with_reducible apply_assumption -exfalso -symm only [*]) | refine Turned.set ?_ (by simp (disch := omega) only [go_sem, Bool.and_self, Bool.and_true, decide_eq_true]))) (by simp (disch := omega) only [go_sem, Bool.and_self, Bool.and_true, decide_eq_true]) ?_ ?_ | refine EndsT.same' (by repeat (first | exact Turned.refl _ | (with_reducible apply_assumption -exfalso -symm only [*]) | refine Turned.set ?_ (by simp (disch := omega) only [go_sem, Bool.and_self, Bool.and_true, decide_eq_true]))) (by simp (disch := omega) only [go_sem, Bool.and_self, Bool.and_true, decide_eq_true]) ?_ ?_); (try simp only [go_sem, Bool.and_self]))
        | (with_reducible apply_assumption -exfalso -symm only [*]))
      refine T_next ?_
      repeat' (first
        | ((with_reducible refine WL_do fun Cw cw => ?_); (first | ((with_reducible first | apply O_move | apply O_assign | apply O_nilCheck); (repeat rfl)) | ((with_reducible first | apply O_load | apply O_fieldAddr | apply O_bin | apply O_indexAddr | apply O_len | apply O_store); (repeat rfl); simp (disch := omega) only [go_sem]) | ((with_reducible first | apply O_buildSlice | apply O_convert | apply O_append); (repeat rfl); (try simp only [zc, zo, Nat.reduceBEq]); simp (disch := omega) only [go_sem])); (with_reducible apply cw); (focus ((try simp only [zp]); exact rfl)); clear cw Cw)
        | ((with_reducible refine WL_nil (hK _ _ ?_)); clear hK K)
        | ((with_reducible first | refine T_reg_seq fun K hK => ?_ | refine T_reg_end fun K hK => ?_); simp only [zl])
        | ((with_reducible first | apply T_cond_seq | apply T_cond); (focus rfl))
        | (intro hg; (first | (simp only [zb] at hg; done) | ((try simp only [zb, eq_self] at hg); (have hh : True := hg); clear hh hg) | ((try simp only [zb] at hg); (try (have hh := hg; simp only [hh]; clear hh)); (try simp only [zg, zq, ne_eq, gt_iff_lt, ge_iff_le] at hg); (try (exfalso; omega)))))
        | with_reducible first | apply T_seq_assoc | apply T_skip_seq | apply T_ret_seq | apply T_exit_seq | apply T_ret | apply T_skip | apply T_exit | refine T_block_seq fun Kb hKb => ?_ | apply T_block
        | (simp only [TX.inBlock, TX.then, zi, Nat.reduceEqDiff])
        | ((with_reducible first | refine hR _ _ (fun C cc => ?_) | refine hN _ _ (fun C cc => ?_)); simp (disch := omega) only [go_sem]; (with_reducible apply cc); clear cc C; (first | refine EndsT.more' (by repeat (first | exact Turned.refl _ | (with_reducible apply_assumption -exfalso -symm only [*]) | refine Turned.set ?_ (by simp (disch := omega) only [go_sem, Bool.and_self, Bool.and_true, decide_eq_true]))) (by simp (disch := omega) only [go_sem, Bool.and_self, Bool.and_true, decide_eq_true]) ?_ ?_ | refine EndsT.same' (by repeat (first | exact Turned.refl _ | (with_reducible apply_assumption -exfalso -symm only [*]) | refine Turned.set ?_ (by simp (disch := omega) only [go_sem, Bool.and_self, Bool.and_true, decide_eq_true]))) (by simp (disch := omega) only [go_sem, Bool.and_self, Bool.and_true, decide_eq_true]) ?_ ?_); (try simp only [go_sem, Bool.and_self]))
        | (with_reducible apply_assumption -exfalso -symm only [*]))
      all_goals trace_state
    · rw [if_pos hx]
      refine does_of [50] [.tmp 4] Try.func193 (by kernel_rfl) rfl (by kernel_rfl) fun X hR hN => ?_
      show Tw _ _ _ _ ([some _, some _] ++ List.replicate 51 none) _
      simp only [List.replicate, List.cons_append, List.nil_append]
      repeat' (first
        | ((with_reducible refine WL_do fun Cw cw => ?_); (first | ((with_reducible first | apply O_move | apply O_assign | apply O_nilCheck); (repeat rfl)) | ((with_reducible first | apply O_load | apply O_fieldAddr | apply O_bin | apply O_indexAddr | apply O_len | apply O_store); (repeat rfl); simp (disch := omega) only [go_sem, hl, hx]) | ((with_reducible first | apply O_buildSlice | apply O_convert | apply O_append); (repeat rfl); (try simp only [zc, zo, Nat.reduceBEq]); simp (disch := omega) only [go_sem, hl, hx]) | ((with_reducible first | apply O_callF | apply O_call); (repeat rfl); (try simp only [za]); (first | (refine TPure.go (by (first | (apply herr <;> first | assumption | omega | exact Eq.trans (get_old (by assumption)) (by assumption) | (focus (simp (disch := omega) only [go_sem, hl, hx]; (try rfl); done))) | (apply sum413 <;> first | assumption | omega | exact Eq.trans (get_old (by assumption)) (by assumption) | (focus (simp (disch := omega) only [go_sem, hl, hx]; (try rfl); done))))) ?_) | (refine TDoes.go (by (apply hn <;> first | assumption | omega | exact Eq.trans (get_old (by assumption)) (by assumption) | (focus (simp (disch := omega) only [go_sem, hl, hx]; (try rfl); done)))) ?_; (try simp (disch := omega) only [go_sem, hl, hx]))))); (with_reducible apply cw); (focus ((try simp only [zp]); exact rfl)); clear cw Cw)
        | ((with_reducible refine WL_nil (hK _ _ ?_)); clear hK K)
        | ((with_reducible first | refine T_reg_seq fun K hK => ?_ | refine T_reg_end fun K hK => ?_); simp only [zl])
        | ((with_reducible first | apply T_cond_seq | apply T_cond); (focus rfl))
        | (intro hg; (first | (simp only [zb] at hg; done) | ((try simp only [zb, eq_self] at hg); (have hh : True := hg); clear hh hg) | ((try simp only [zb] at hg); (try (have hh := hg; simp only [hh]; clear hh)); (try simp only [zg, zq, ne_eq, gt_iff_lt, ge_iff_le] at hg); (try (exfalso; omega)))))
        | with_reducible first | apply T_seq_assoc | apply T_skip_seq | apply T_ret_seq | apply T_exit_seq | apply T_ret | apply T_skip | apply T_exit | refine T_block_seq fun Kb hKb => ?_ | apply T_block
        | (simp only [TX.inBlock, TX.then, zi, Nat.reduceEqDiff])
        | ((with_reducible first | refine hR _ _ (fun C cc => ?_) | refine hN _ _ (fun C cc => ?_)); simp (disch := omega) only [go_sem, hl, hx]; (with_reducible apply cc); clear cc C; (first | refine EndsT.more' (by repeat (first | exact Turned.refl _ | (with_reducible apply_assumption -exfalso -symm only [*]) | refine Turned.set ?_ (by simp (disch := omega) only [go_sem, Bool.and_self, Bool.and_true, decide_eq_true]))) (by simp (disch := omega) only [go_sem, Bool.and_self, Bool.and_true, decide_eq_true]) ?_ ?_ | refine EndsT.same' (by repeat (first | exact Turned.refl _ | (with_reducible apply_assumption -exfalso -symm only [*]) | refine Turned.set ?_ (by simp (disch := omega) only [go_sem, Bool.and_self, Bool.and_true, decide_eq_true]))) (by simp (disch := omega) only [go_sem, Bool.and_self, Bool.and_true, decide_eq_true]) ?_ ?_); (try simp only [go_sem, Bool.and_self]))
        | (with_reducible apply_assumption -exfalso -symm only [*]))
  · unfold threeR
    rw [rT_err he]
    simp only
    rw [if_pos he, set_same hl]
    refine does_of [50] [.tmp 4] Try.func193 (by kernel_rfl) rfl (by kernel_rfl) fun X hR hN => ?_
    show Tw _ _ _ _ ([some _, some _] ++ List.replicate 51 none) _
    simp only [List.replicate, List.cons_append, List.nil_append]
    repeat' (first
      | ((with_reducible refine WL_do fun Cw cw => ?_); (first | ((with_reducible first | apply O_move | apply O_assign | apply O_nilCheck); (repeat rfl)) | ((with_reducible first | apply O_load | apply O_fieldAddr | apply O_bin | apply O_indexAddr | apply O_len | apply O_store); (repeat rfl); simp (disch := omega) only [go_sem, he]) | ((with_reducible first | apply O_buildSlice | apply O_convert | apply O_append); (repeat rfl); (try simp only [zc, zo, Nat.reduceBEq]); simp (disch := omega) only [go_sem, he]) | ((with_reducible first | apply O_callF | apply O_call); (repeat rfl); (try simp only [za]); (refine TPure.go (by (apply herr) <;> first | assumption | omega | exact Eq.trans (get_old (by assumption)) (by assumption)) ?_))); (with_reducible apply cw); (focus ((try simp only [zp]); exact rfl)); clear cw Cw)
      | ((with_reducible refine WL_nil (hK _ _ ?_)); clear hK K)
      | ((with_reducible first | refine T_reg_seq fun K hK => ?_ | refine T_reg_end fun K hK => ?_); simp only [zl])
      | ((with_reducible first | apply T_cond_seq | apply T_cond); (focus rfl))
      | (intro hg; (first | (simp only [zb] at hg; done) | ((try simp only [zb, eq_self] at hg); (have hh : True := hg); clear hh hg) | ((try simp only [zb] at hg); (try (have hh := hg; simp only [hh]; clear hh)); (try simp only [zg, zq, ne_eq, gt_iff_lt, ge_iff_le] at hg); (try (exfalso; omega)))))
      | with_reducible first | apply T_seq_assoc | apply T_skip_seq | apply T_ret_seq | apply T_exit_seq | apply T_ret | apply T_skip | apply T_exit | refine T_block_seq fun Kb hKb => ?_ | apply T_block
      | (simp only [TX.inBlock, TX.then, zi, Nat.reduceEqDiff])
      | ((with_reducible first | refine hR _ _ (fun C cc => ?_) | refine hN _ _ (fun C cc => ?_)); simp (disch := omega) only [go_sem, he]; (with_reducible apply cc); clear cc C; (first | refine EndsT.more' (by repeat (first | exact Turned.refl _ | (with_reducible apply_assumption -exfalso -symm only [*]) | refine Turned.set ?_ (by simp (disch := omega) only [go_sem, Bool.and_self, Bool.and_true, decide_eq_true]))) (by simp (disch := omega) only [go_sem, Bool.and_self, Bool.and_true, decide_eq_true]) ?_ ?_ | refine EndsT.same' (by repeat (first | exact Turned.refl _ | (with_reducible apply_assumption -exfalso -symm only [*]) | refine Turned.set ?_ (by simp (disch := omega) only [go_sem, Bool.and_self, Bool.and_true, decide_eq_true]))) (by simp (disch := omega) only [go_sem, Bool.and_self, Bool.and_true, decide_eq_true]) ?_ ?_); (try simp only [go_sem, Bool.and_self]))
      | (with_reducible apply_assumption -exfalso -symm only [*]))
theorem rbits215 {σ : TS} {l : Nat} {r : List UInt8} {e : Int} (hl : σ[l]? = some (.cells (rC r e))) (hr : r.length ≤ 9223372036854775807) :
    TDoes Try.prog 193 [.ptr l 0, three 2 1 5] σ (threeR 64 32 r e) (σ.set l (.cells (rC (rT 1 r e).2.1 (rT 1 r e).2.2))) := by
  have hL := lt_of_get hl
  have herr := err_walk hl
  by_cases he : e = 0
  · have hn := number_walk (k := 1) (by omega) (by have := rT_len 1 r e; omega) (rtext_walk hl 1 hr) rfl
    unfold threeR
    by_cases hx : (rT 1 r e).2.2 = 0
    · rw [if_neg (by omega)]
      have h0 := un_nonneg (rT 1 r e).1
      have h1 : un (rT 1 r e).1 < 256 := by
        have h2 := un_lt (rT 1 r e).1
        have h3 := rT_len 1 r e
        have h4 : (rT 1 r e).1.length = 0 ∨ (rT 1 r e).1.length = 1 := by omega
        rcases h4 with h4 | h4 <;> rw [h4] at h2 <;> simp at h2 <;> omega
      generalize (rT 1 r e).1 = s at *
      generalize (rT 1 r e).2.1 = r' at *
      generalize (rT 1 r e).2.2 = e' at *
      generalize un s = n at *
      subst hx
      have s4 : ishr .u64 n 6 = n / 64 := ishr_nat .u64 n 6 (by decide)
      have s3 : ishr .u64 n 5 = n / 32 := ishr_nat .u64 n 5 (by decide)
      have s0 : ishr .u64 n 0 = n := by have := ishr_nat .u64 n 0 (by decide); simpa using this
      have t4 : ishl .u64 1 2 = 4 := by decide
      have t1 : ishl .u64 1 1 = 2 := by decide
      have t3 : ishl .u64 1 5 = 32 := by decide
      have a4 : iand .u64 (n / 64) 3 = n / 64 := by have := iand_mask (n := n / 64) 2 (by omega) (by omega) (by omega); rw [show ((2 ^ 2 - 1 : Nat) : Int) = 3 from rfl] at this; rw [this]; show n / 64 % 4 = _; omega
      have a1 : iand .u64 (n / 32) 1 = n / 32 % 2 := iand_mask (n := n / 32) 1 (by omega) (by omega) (by omega)
      have a3 : iand .u64 n 31 = n % 32 := iand_mask (n := n) 5 (by omega) (by omega) (by omega)
      refine does_of [50] [.tmp 4] Try.func193 (by kernel_rfl) rfl (by kernel_rfl) fun X hR hN => ?_
      show Tw _ _ _ _ ([some _, some _] ++ List.replicate 51 none) _
      simp only [List.replicate, List.cons_append, List.nil_append]
      repeat' (first
        | ((with_reducible refine WL_do fun Cw cw => ?_); (first | ((with_reducible first | apply O_move | apply O_assign | apply O_nilCheck); (repeat rfl)) | ((with_reducible first | apply O_load | apply O_fieldAddr | apply O_bin | apply O_indexAddr | apply O_len | apply O_store); (repeat rfl); simp (disch := omega) only [go_sem, hl]) | ((with_reducible first | apply O_buildSlice | apply O_convert | apply O_append); (repeat rfl); (try simp only [zc, zo, Nat.reduceBEq]); simp (disch := omega) only [go_sem, hl]) | ((with_reducible first | apply O_callF | apply O_call); (repeat rfl); (try simp only [za]); (first | (refine TPure.go (by (first | (apply herr <;> first | assumption | omega | exact Eq.trans (get_old (by assumption)) (by assumption) | (focus (simp (disch := omega) only [go_sem, hl]; (try rfl); done))) | (apply sum215 <;> first | assumption | omega | exact Eq.trans (get_old (by assumption)) (by assumption) | (focus (simp (disch := omega) only [go_sem, hl]; (try rfl); done))))) ?_) | (refine TDoes.go (by (apply hn <;> first | assumption | omega | exact Eq.trans (get_old (by assumption)) (by assumption) | (focus (simp (disch := omega) only [go_sem, hl]; (try rfl); done)))) ?_; (try simp (disch := omega) only [go_sem, hl]))))); (with_reducible apply cw); (focus ((try simp only [zp]); exact rfl)); clear cw Cw)
        | ((with_reducible refine WL_nil (hK _ _ ?_)); clear hK K)
        | ((with_reducible first | refine T_reg_seq fun K hK => ?_ | refine T_reg_end fun K hK => ?_); simp only [zl])
        | ((with_reducible first | apply T_cond_seq | apply T_cond); (focus rfl))
        | (intro hg; (first | (simp only [zb] at hg; done) | ((try simp only [zb, eq_self] at hg); (have hh : True := hg); clear hh hg) | ((try simp only [zb] at hg); (try (have hh := hg; simp only [hh]; clear hh)); (try simp only [zg, zq, ne_eq, gt_iff_lt, ge_iff_le] at hg); (try (exfalso; omega)))))
        | with_reducible first | apply T_seq_assoc | apply T_skip_seq | apply T_ret_seq | apply T_exit_seq | apply T_ret | apply T_skip | apply T_exit | refine T_block_seq fun Kb hKb => ?_ | apply T_block
        | (simp only [TX.inBlock, TX.then, zi, Nat.reduceEqDiff])
        | ((with_reducible first | refine hR _ _ (fun C cc => ?_) | refine hN _ _ (fun C cc => ?_)); simp (disch := omega) only [go_sem, hl]; (with_reducible apply cc); clear cc C; (first | refine EndsT.more' (by repeat (first | exact Turned.refl _ | (with_reducible apply_assumption -exfalso -symm only [*]) | refine Turned.set ?_ (by simp (disch := omega) only [go_sem, Bool.and_self, Bool.and_true, decide_eq_true]))) (by simp (disch := omega) only [go_sem, Bool.and_self, Bool.and_true, decide_eq_true]) ?_ ?_ | refine EndsT.same' (by repeat (first | exact Turned.refl _ | (with_reducible apply_assumption -exfalso -symm only [*]) | refine Turned.set ?_ (by simp (disch := omega) only [go_sem, Bool.and_self, Bool.and_true, decide_eq_true]))) (by simp (disch := omega) only [go_sem, Bool.and_self, Bool.and_true, decide_eq_true]) ?_ ?_); (try simp only [go_sem, Bool.and_self]))
        | (with_reducible apply_assumption -exfalso -symm only [*]))
      refine T_open 3 ?_
      repeat' (first
        | ((with_reducible refine WL_do fun Cw cw => ?_); (first | ((with_reducible first | apply O_move | apply O_assign | apply O_nilCheck); (repeat rfl)) | ((with_reducible first | apply O_load | apply O_fieldAddr | apply O_bin | apply O_indexAddr | apply O_len | apply O_store); (repeat rfl); simp (disch := omega) only [go_sem, wrapU64_of, s4, t4, a4, ↓appI0]) | ((with_reducible first | apply O_buildSlice | apply O_convert | apply O_append); (repeat rfl); (try simp only [zc, zo, Nat.reduceBEq]); simp (disch := omega) only [go_sem, wrapU64_of, s4, t4, a4, ↓appI0])); (with_reducible apply cw); (focus ((try simp only [zp]); exact rfl)); clear cw Cw)
        | ((with_reducible refine WL_nil (hK _ _ ?_)); clear hK K)
        | ((with_reducible first | refine T_reg_seq fun K hK => ?_ | refine T_reg_end fun K hK => ?_); simp only [zl])
        | ((with_reducible first | apply T_cond_seq | apply T_cond); (focus rfl))
        | (intro hg; (first | (simp only [zb] at hg; done) | ((try simp only [zb, eq_self] at hg); (have hh : True := hg); clear hh hg) | ((try simp only [zb] at hg); (try (have hh := hg; simp only [hh]; clear hh)); (try simp only [zg, zq, ne_eq, gt_iff_lt, ge_iff_le] at hg); (try (exfalso; omega)))))
        | with_reducible first | apply T_seq_assoc | apply T_skip_seq | apply T_ret_seq | apply T_exit_seq | apply T_ret | apply T_skip | apply T_exit | refine T_block_seq fun Kb hKb => ?_ | apply T_block
        | (simp only [TX.inBlock, TX.then, zi, Nat.reduceEqDiff])
        | ((with_reducible first | refine hR _ _ (fun C cc => ?_) | refine hN _ _ (fun C cc => ?_)); simp (disch := omega) only [go_sem, wrapU64_of, s4, t4, a4, ↓appI0]; (with_reducible apply cc); clear cc C; (first | refine EndsT.more' (by repeat (first | exact Turned.refl _ | (with_reducible apply_assumption -exfalso -symm only [*]) | refine Turned.set ?_ (by simp (disch := omega) only [go_sem, Bool.and_self, Bool.and_true, decide_eq_true]))) (by simp (disch := omega) only [go_sem, Bool.and_self, Bool.and_true, decide_eq_true]) ?_ ?_ | refine EndsT.same' (by repeat (first | exact Turned.refl _ | (with_reducible apply_assumption -exfalso -symm only [*]) | refine Turned.set ?_ (by simp (disch := omega) only [go_sem, Bool.and_self, Bool.and_true, decide_eq_true]))) (by simp (disch := omega) only [go_sem, Bool.and_self, Bool.and_true, decide_eq_true]) ?_ ?_); (try simp only [go_sem, Bool.and_self]))
        | (with_reducible apply_assumption -exfalso -symm only [*]))
      refine T_next ?_
      repeat' (first
        | ((with_reducible refine WL_do fun Cw cw => ?_); (first | ((with_reducible first | apply O_move | apply O_assign | apply O_nilCheck); (repeat rfl)) | ((with_reducible first | apply O_load | apply O_fieldAddr | apply O_bin | apply O_indexAddr | apply O_len | apply O_store); (repeat rfl); simp (disch := omega) only [go_sem, wrapU64_of, s3, t1, a1, ↓appI1]) | ((with_reducible first | apply O_buildSlice | apply O_convert | apply O_append); (repeat rfl); (try simp only [zc, zo, Nat.reduceBEq]); simp (disch := omega) only [go_sem, wrapU64_of, s3, t1, a1, ↓appI1])); (with_reducible apply cw); (focus ((try simp only [zp]); exact rfl)); clear cw Cw)
        | ((with_reducible refine WL_nil (hK _ _ ?_)); clear hK K)
        | ((with_reducible first | refine T_reg_seq fun K hK => ?_ | refine T_reg_end fun K hK => ?_); simp only [zl])
        | ((with_reducible first | apply T_cond_seq | apply T_cond); (focus rfl))
        | (intro hg; (first | (simp only [zb] at hg; done) | ((try simp only [zb, eq_self] at hg); (have hh : True := hg); clear hh hg) | ((try simp only [zb] at hg); (try (have hh := hg; simp only [hh]; clear hh)); (try simp only [zg, zq, ne_eq, gt_iff_lt, ge_iff_le] at hg); (try (exfalso; omega)))))
        | with_reducible first | apply T_seq_assoc | apply T_skip_seq | apply T_ret_seq | apply T_exit_seq | apply T_ret | apply T_skip | apply T_exit | refine T_block_seq fun Kb hKb => ?_ | apply T_block
        | (simp only [TX.inBlock, TX.then, zi, Nat.reduceEqDiff])
        | ((with_reducible first | refine hR _ _ (fun C cc => ?_) | refine hN _ _ (fun C cc => ?_)); simp (disch := omega) only [go_sem, wrapU64_of, s3, t1, a1, ↓appI1]; (with_reducible apply cc); clear cc C; (first | refine EndsT.more' (by repeat (first | exact Turned.refl _ | (with_reducible apply_assumption -exfalso -symm only [*]) | refine Turned.set ?_ (by simp (disch := omega) only [go_sem, Bool.and_self, Bool.and_true, decide_eq_true]))) (by simp (disch := omega) only [go_sem, Bool.and_self, Bool.and_true, decide_eq_true]) ?_ ?_ | refine EndsT.same' (by repeat (first | exact Turned.refl _ | (with_reducible apply_assumption -exfalso -symm only [*]) | refine Turned.set ?_ (by simp (disch := omega) only [go_sem, Bool.and_self, Bool.and_true, decide_eq_true]))) (by simp (disch := omega) only [go_sem, Bool.and_self, Bool.and_true, decide_eq_true]) ?_ ?_); (try simp only [go_sem, Bool.and_self]))
        | (with_reducible apply_assumption -exfalso -symm only [*]))
      refine T_next ?_
      repeat' (first
        | ((with_reducible refine WL_do fun Cw cw => ?_); (first | ((with_reducible first | apply O_move | apply O_assign | apply O_nilCheck); (repeat rfl)) | ((with_reducible first | apply O_load | apply O_fieldAddr | apply O_bin | apply O_indexAddr | apply O_len | apply O_store); (repeat rfl); simp (disch := omega) only [go_sem, wrapU64_of, s0, t3, a3, ↓appI1]) | ((with_reducible first | apply O_buildSlice | apply O_convert | apply O_append); (repeat rfl); (try simp only [zc, zo, Nat.reduceBEq]); simp (disch := omega) only [go_sem, wrapU64_of, s0, t3, a3, ↓appI1])); (with_reducible apply cw); (focus ((try simp only [zp]); exact rfl)); clear cw Cw)
        | ((with_reducible refine WL_nil (hK _ _ ?_)); clear hK K)
        | ((with_reducible first | refine T_reg_seq fun K hK => ?_ | refine T_reg_end fun K hK => ?_); simp only [zl])
        | ((with_reducible first | apply T_cond_seq | apply T_cond); (focus rfl))
        | (intro hg; (first | (simp only [zb] at hg; done) | ((try simp only [zb, eq_self] at hg); (have hh : True := hg); clear hh hg) | ((try simp only [zb] at hg); (try (have hh := hg; simp only [hh]; clear hh)); (try simp only [zg, zq, ne_eq, gt_iff_lt, ge_iff_le] at hg); (try (exfalso; omega)))))
        | with_reducible first | apply T_seq_assoc | apply T_skip_seq | apply T_ret_seq | apply T_exit_seq | apply T_ret | apply T_skip | apply T_exit | refine T_block_seq fun Kb hKb => ?_ | apply T_block
        | (simp only [TX.inBlock, TX.then, zi, Nat.reduceEqDiff])
        | ((with_reducible first | refine hR _ _ (fun C cc => ?_) | refine hN _ _ (fun C cc => ?_)); simp (disch := omega) only [go_sem, wrapU64_of, s0, t3, a3, ↓appI1]; (with_reducible apply cc); clear cc C; (first | refine EndsT.more' (by repeat (first | exact Turned.refl _ | (with_reducible apply_assumption -exfalso -symm only [*]) | refine Turned.set ?_ (by simp (disch := omega) only [go_sem, Bool.and_self, Bool.and_true, decide_eq_true]))) (by simp (disch := omega) only [go_sem, Bool.and_self, Bool.and_true, decide_eq_true]) ?_ ?_ | refine EndsT.same' (by repeat (first | exact Turned.refl _ | (with_reducible apply_assumption -exfalso -symm only [*]) | refine Turned.set ?_ (by simp (disch := omega) only [go_sem, Bool.and_self, Bool.and_true, decide_eq_true]))) (by simp (disch := omega) only [go_sem, Bool.and_self, Bool.and_true, decide_eq_true]) ?_ ?_); (try simp only [go_sem, Bool.and_self]))
        | (with_reducible apply_assumption -exfalso -symm only [*]))
      refine T_next ?_
      repeat' (first
        | ((with_reducible refine WL_do fun Cw cw => ?_); (first | ((with_reducible first | apply O_move | apply O_assign | apply O_nilCheck); (repeat rfl)) | ((with_reducible first | apply O_load | apply O_fieldAddr | apply O_bin | apply O_indexAddr | apply O_len | apply O_store); (repeat rfl); simp (disch := omega) only [go_sem]) | ((with_reducible first | apply O_buildSlice | apply O_convert | apply O_append); (repeat rfl); (try simp only [zc, zo, Nat.reduceBEq]); simp (disch := omega) only [go_sem])); (with_reducible apply cw); (focus ((try simp only [zp]); exact rfl)); clear cw Cw)
        | ((with_reducible refine WL_nil (hK _ _ ?_)); clear hK K)
        | ((with_reducible first | refine T_reg_seq fun K hK => ?_ | refine T_reg_end fun K hK => ?_); simp only [zl])
        | ((with_reducible first | apply T_cond_seq | apply T_cond); (focus rfl))
        | (intro hg; (first | (simp only [zb] at hg; done) | ((try simp only [zb, eq_self] at hg); (have hh : True := hg); clear hh hg) | ((try simp only [zb] at hg); (try (have hh := hg; simp only [hh]; clear hh)); (try simp only [zg, zq, ne_eq, gt_iff_lt, ge_iff_le] at hg); (try (exfalso; omega)))))
        | with_reducible first | apply T_seq_assoc | apply T_skip_seq | apply T_ret_seq | apply T_exit_seq | apply T_ret | apply T_skip | apply T_exit | refine T_block_seq fun Kb hKb => ?_ | apply T_block
        | (simp only [TX.inBlock, TX.then, zi, Nat.reduceEqDiff])
        | ((with_reducible first | refine hR _ _ (fun C cc => ?_) | refine hN _ _ (fun C cc => ?_)); simp (disch := omega) only [go_sem]; (with_reducible apply cc); clear cc C; (first | refine EndsT.more' (by repeat (first | exact Turned.refl _ | (with_reducible apply_assumption -exfalso -symm only [*]) | refine Turned.set ?_ (by simp (disch := omega) only [go_sem, Bool.and_self, Bool.and_true, decide_eq_true]))) (by simp (disch := omega) only [go_sem, Bool.and_self, Bool.and_true, decide_eq_true]) ?_ ?_ | refine EndsT.same' (by repeat (first | exact Turned.refl _ | (with_reducible apply_assumption -exfalso -symm only [*]) | refine Turned.set ?_ (by simp (disch := omega) only [go_sem, Bool.and_self, Bool.and_true, decide_eq_true]))) (by simp (disch := omega) only [go_sem, Bool.and_self, Bool.and_true, decide_eq_true]) ?_ ?_); (try simp only [go_sem, Bool.and_self]))
        | (with_reducible apply_assumption -exfalso -symm only [*]))
      all_goals trace_state
    · rw [if_pos hx]
      refine does_of [50] [.tmp 4] Try.func193 (by kernel_rfl) rfl (by kernel_rfl) fun X hR hN => ?_
      show Tw _ _ _ _ ([some _, some _] ++ List.replicate 51 none) _
      simp only [List.replicate, List.cons_append, List.nil_append]
      repeat' (first
        | ((with_reducible refine WL_do fun Cw cw => ?_); (first | ((with_reducible first | apply O_move | apply O_assign | apply O_nilCheck); (repeat rfl)) | ((with_reducible first | apply O_load | apply O_fieldAddr | apply O_bin | apply O_indexAddr | apply O_len | apply O_store); (repeat rfl); simp (disch := omega) only [go_sem, hl, hx]) | ((with_reducible first | apply O_buildSlice | apply O_convert | apply O_append); (repeat rfl); (try simp only [zc, zo, Nat.reduceBEq]); simp (disch := omega) only [go_sem, hl, hx]) | ((with_reducible first | apply O_callF | apply O_call); (repeat rfl); (try simp only [za]); (first | (refine TPure.go (by (first | (apply herr <;> first | assumption | omega | exact Eq.trans (get_old (by assumption)) (by assumption) | (focus (simp (disch := omega) only [go_sem, hl, hx]; (try rfl); done))) | (apply sum215 <;> first | assumption | omega | exact Eq.trans (get_old (by assumption)) (by assumption) | (focus (simp (disch := omega) only [go_sem, hl, hx]; (try rfl); done))))) ?_) | (refine TDoes.go (by (apply hn <;> first | assumption | omega | exact Eq.trans (get_old (by assumption)) (by assumption) | (focus (simp (disch := omega) only [go_sem, hl, hx]; (try rfl); done)))) ?_; (try simp (disch := omega) only [go_sem, hl, hx]))))); (with_reducible apply cw); (focus ((try simp only [zp]); exact rfl)); clear cw Cw)
        | ((with_reducible refine WL_nil (hK _ _ ?_)); clear hK K)
        | ((with_reducible first | refine T_reg_seq fun K hK => ?_ | refine T_reg_end fun K hK => ?_); simp only [zl])
        | ((with_reducible first | apply T_cond_seq | apply T_cond); (focus rfl))
        | (intro hg; (first | (simp only [zb] at hg; done) | ((try simp only [zb, eq_self] at hg); (have hh : True := hg); clear hh hg) | ((try simp only [zb] at hg); (try (have hh := hg; simp only [hh]; clear hh)); (try simp only [zg, zq, ne_eq, gt_iff_lt, ge_iff_le] at hg); (try (exfalso; omega)))))
        | with_reducible first | apply T_seq_assoc | apply T_skip_seq | apply T_ret_seq | apply T_exit_seq | apply T_ret | apply T_skip | apply T_exit | refine T_block_seq fun Kb hKb => ?_ | apply T_block
        | (simp only [TX.inBlock, TX.then, zi, Nat.reduceEqDiff])
        | ((with_reducible first | refine hR _ _ (fun C cc => ?_) | refine hN _ _ (fun C cc => ?_)); simp (disch := omega) only [go_sem, hl, hx]; (with_reducible apply cc); clear cc C; (first | refine EndsT.more' (by repeat (first | exact Turned.refl _ | (with_reducible apply_assumption -exfalso -symm only [*]) | refine Turned.set ?_ (by simp (disch := omega) only [go_sem, Bool.and_self, Bool.and_true, decide_eq_true]))) (by simp (disch := omega) only [go_sem, Bool.and_self, Bool.and_true, decide_eq_true]) ?_ ?_ | refine EndsT.same' (by repeat (first | exact Turned.refl _ | (with_reducible apply_assumption -exfalso -symm only [*]) | refine Turned.set ?_ (by simp (disch := omega) only [go_sem, Bool.and_self, Bool.and_true, decide_eq_true]))) (by simp (disch := omega) only [go_sem, Bool.and_self, Bool.and_true, decide_eq_true]) ?_ ?_); (try simp only [go_sem, Bool.and_self]))
        | (with_reducible apply_assumption -exfalso -symm only [*]))
  · unfold threeR
    rw [rT_err he]
    simp only
    rw [if_pos he, set_same hl]
    refine does_of [50] [.tmp 4] Try.func193 (by kernel_rfl) rfl (by kernel_rfl) fun X hR hN => ?_
    show Tw _ _ _ _ ([some _, some _] ++ List.replicate 51 none) _
    simp only [List.replicate, List.cons_append, List.nil_append]
    repeat' (first
      | ((with_reducible refine WL_do fun Cw cw => ?_); (first | ((with_reducible first | apply O_move | apply O_assign | apply O_nilCheck); (repeat rfl)) | ((with_reducible first | apply O_load | apply O_fieldAddr | apply O_bin | apply O_indexAddr | apply O_len | apply O_store); (repeat rfl); simp (disch := omega) only [go_sem, he]) | ((with_reducible first | apply O_buildSlice | apply O_convert | apply O_append); (repeat rfl); (try simp only [zc, zo, Nat.reduceBEq]); simp (disch := omega) only [go_sem, he]) | ((with_reducible first | apply O_callF | apply O_call); (repeat rfl); (try simp only [za]); (refine TPure.go (by (apply herr) <;> first | assumption | omega | exact Eq.trans (get_old (by assumption)) (by assumption)) ?_))); (with_reducible apply cw); (focus ((try simp only [zp]); exact rfl)); clear cw Cw)
      | ((with_reducible refine WL_nil (hK _ _ ?_)); clear hK K)
      | ((with_reducible first | refine T_reg_seq fun K hK => ?_ | refine T_reg_end fun K hK => ?_); simp only [zl])
      | ((with_reducible first | apply T_cond_seq | apply T_cond); (focus rfl))
      | (intro hg; (first | (simp only [zb] at hg; done) | ((try simp only [zb, eq_self] at hg); (have hh : True := hg); clear hh hg) | ((try simp only [zb] at hg); (try (have hh := hg; simp only [hh]; clear hh)); (try simp only [zg, zq, ne_eq, gt_iff_lt, ge_iff_le] at hg); (try (exfalso; omega)))))
      | with_reducible first | apply T_seq_assoc | apply T_skip_seq | apply T_ret_seq | apply T_exit_seq | apply T_ret | apply T_skip | apply T_exit | refine T_block_seq fun Kb hKb => ?_ | apply T_block
      | (simp only [TX.inBlock, TX.then, zi, Nat.reduceEqDiff])
      | ((with_reducible first | refine hR _ _ (fun C cc => ?_) | refine hN _ _ (fun C cc => ?_)); simp (disch := omega) only [go_sem, he]; (with_reducible apply cc); clear cc C; (first | refine EndsT.more' (by repeat (first | exact Turned.refl _ | (with_reducible apply_assumption -exfalso -symm only [*]) | refine Turned.set ?_ (by simp (disch := omega) only [go_sem, Bool.and_self, Bool.and_true, decide_eq_true]))) (by simp (disch := omega) only [go_sem, Bool.and_self, Bool.and_true, decide_eq_true]) ?_ ?_ | refine EndsT.same' (by repeat (first | exact Turned.refl _ | (with_reducible apply_assumption -exfalso -symm only [*]) | refine Turned.set ?_ (by simp (disch := omega) only [go_sem, Bool.and_self, Bool.and_true, decide_eq_true]))) (by simp (disch := omega) only [go_sem, Bool.and_self, Bool.and_true, decide_eq_true]) ?_ ?_); (try simp only [go_sem, Bool.and_self]))
      | (with_reducible apply_assumption -exfalso -symm only [*]))
end Go.Proofs.Ytgkcackpffimmaa
