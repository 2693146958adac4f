/- What the boxes of rooms compute. -/
import Derived.Test.YtgkcackpffimmaaP1
set_option linter.unusedVariables false
set_option linter.unusedSimpArgs false
set_option maxRecDepth 10000
set_option maxHeartbeats 4000000
namespace Go.Proofs.Ytgkcackpffimmaa
open Go.TM

theorem meth_row_put : TMeth Try.prog 158 "pitot/ports.put" 231 := fun a w => by kernel_rfl
theorem meth_row_count : TMeth Try.prog 158 "pitot/ports.count" 230 := fun a w => by kernel_rfl
theorem meth_row_clear : TMeth Try.prog 158 "pitot/ports.clear" 229 := fun a w => by kernel_rfl
theorem meth_sample_put : TMeth Try.prog 163 "pitot/ports.put" 234 := fun a w => by kernel_rfl
theorem meth_sample_count : TMeth Try.prog 163 "pitot/ports.count" 233 := fun a w => by kernel_rfl
theorem meth_sample_clear : TMeth Try.prog 163 "pitot/ports.clear" 232 := fun a w => by kernel_rfl

theorem lenQ {σ : TS} {lab : Nat → Nat} {c : Nat} {v : TV} {ls : List (List UInt8)} (h : QS σ lab c v ls) : tlenOp (mkTab Try.prog) 60 v = some (.int .i64 ls.length) := by
  rcases h with ⟨rfl, rfl⟩ | ⟨t, e, h1, rfl, h3⟩ <;> simp [tlenOp, tab60]

theorem appS {w : Bool} {σ : TS} {tk e : Nat} {ls : List (List UInt8)} {s : List UInt8} (hr : σ[tk]? = some (.right e 1)) (hb : ls.length ≤ 100000) :
    tappend (mkTab Try.prog) w σ 60 60 (.sl (some (tk, e)) ls.length (ls.flatMap strC)) (.sl none 1 [.str (B s)]) = some (.sl (some (tk, e + 1)) (ls.length + 1) ((ls ++ [s]).flatMap strC), σ.set tk (.right (e + 1) 1)) := by
  have := app_ownE (w := w) (n := ls.length) (cs := ls.flatMap strC) tab60 rfl tab9 rfl rfl (src_sl (σ := σ) (own := none) (cs := [.str (B s)]) (n := 1) (sz := 1) tab60 rfl rfl) rfl rfl hr (by rw [strC_len]; exact (Nat.mul_one _).symm) (by show (ls.length + 1) * 16 ≤ _; omega) (by omega)
  rw [this, List.flatMap_append]
  rfl
theorem appS0 {σ : TS} {s : List UInt8} :
    tappend (mkTab Try.prog) true σ 60 60 .nils (.sl none 1 [.str (B s)]) = some (.sl (some (σ.length, 1)) 1 [.str (B s)], σ ++ [.right 1 1]) := by
  exact app_nil (σ := σ) tab60 rfl tab9 rfl rfl (src_sl (σ := σ) (own := none) (cs := [.str (B s)]) (n := 1) (sz := 1) tab60 rfl rfl) rfl rfl (by decide) (by decide) (by decide)

section
variable {σ : TS} {l : Nat} {v : TV} {most : Int} {lost : Bool} {ls : List (List UInt8)} (hl : σ[l]? = some (.cells [v, .int .i64 most, .bool lost]))
include hl
theorem rowput_full (hv : tlenOp (mkTab Try.prog) 60 v = some (.int .i64 ls.length)) (hf : (ls.length : Int) ≥ most) (now : Int) (s : List UInt8) :
    TDoes Try.prog 231 [.ptr l 0, .int .i64 now, .str (B s)] σ (.int .i64 22) (σ.set l (.cells [v, .int .i64 most, .bool true])) := by
  refine calls_of [] [.tmp 6] Try.func231 (by kernel_rfl) rfl (by kernel_rfl) fun X hR hN => ?_
  show Tw _ _ _ _ ([some _, some _, some _] ++ List.replicate 27 none) _
  simp only [List.replicate, List.cons_append, List.nil_append]
  repeat' (first
    | ((first | (with_reducible refine WL_do fun Cw cw => ?_) | ((with_reducible apply WP_do); intro Cw cw)); (focus (first | ((with_reducible first | apply O_move | apply O_assign | apply O_nilCheck); (repeat rfl); (first | (with_reducible exact cw) | ((with_reducible apply cw); (focus ((try simp only [zp]); exact rfl)); clear cw Cw))) | ((with_reducible first | apply O_load | apply O_fieldAddr | apply O_bin | apply O_len | apply O_store); (repeat rfl); simp (disch := omega) only [go_sem, hl, ↓hv]; (first | (with_reducible exact cw) | ((with_reducible apply cw); (focus ((try simp only [zp]); exact rfl)); clear cw Cw))) | ((with_reducible first | apply O_buildSlice | apply O_append); (repeat rfl); (try simp only [zc, zo, Nat.reduceBEq]); simp (disch := omega) only [go_sem, hl, ↓hv]; (first | (with_reducible exact cw) | ((with_reducible apply cw); (focus ((try simp only [zp]); exact rfl)); clear cw Cw))))); (try ((with_reducible apply eq_id); (focus ((try simp only [zp]); exact rfl)))))
    | ((with_reducible first | refine WL_nil (hK _ _ ?_) | refine WP_nil (hK _ _ ?_)); clear hK K)
    | ((with_reducible first | refine T_reg_seq fun K hK => ?_ | refine T_reg_end fun K hK => ?_); simp only [zl])
    | ((with_reducible first | refine T_pure_seq ?_ ?_ (fun K hK => ?_) | refine T_pure_end ?_ ?_ (fun K hK => ?_)); (focus kernel_rfl); (focus kernel_rfl); simp only [zl])
    | ((with_reducible first | apply T_cond_seq | apply T_cond); (focus rfl))
    | (intro hg; (first | (simp only [zb] at hg; done) | ((try simp only [zb, eq_self] at hg); (have hh : True := hg); clear hh hg) | ((try simp only [zb] at hg); (try (have hh := hg; simp only [hh]; clear hh)); (try simp only [zg, zq, ne_eq, gt_iff_lt, ge_iff_le] at hg); (try (exfalso; omega)))))
    | with_reducible first | refine T_seq_assoc ?_ | refine T_skip_seq ?_ | refine T_ret_seq ?_ | refine T_exit_seq ?_ | refine T_ret ?_ | refine T_skip ?_ | refine T_exit ?_ | refine T_block_seq fun Kb hKb => ?_ | refine T_block ?_
    | (simp only [TX.inBlock, TX.then, zi, Nat.reduceEqDiff])
    | ((with_reducible first | refine hR _ _ (fun C cc => ?_) | refine hN _ _ (fun C cc => ?_)); simp (disch := omega) only [go_sem, hl, ↓hv]; (with_reducible apply cc); clear cc C)
    | (with_reducible apply_assumption -exfalso -symm only [*]))
  all_goals first | exact ⟨rfl, rfl⟩ | exact ⟨rfl, trivial⟩ | exact ⟨trivial, rfl⟩ | trivial
theorem rowput_own {t e : Nat} (hv : v = .sl (some (t, e)) ls.length (ls.flatMap strC)) (ht : σ[t]? = some (.right e 1)) (hf : (ls.length : Int) < most) (hb : ls.length ≤ 100000) (now : Int) (s : List UInt8) :
    TDoes Try.prog 231 [.ptr l 0, .int .i64 now, .str (B s)] σ (.int .i64 0) ((σ.set t (.right (e + 1) 1)).set l (.cells [.sl (some (t, e + 1)) (ls.length + 1) ((ls ++ [s]).flatMap strC), .int .i64 most, .bool lost])) := by
  subst hv
  have hne : t ≠ l := fun e => by subst e; rw [hl] at ht; cases ht
  have h1 := lt_of_get hl
  have happ := fun w => appS (w := w) (s := s) ht hb
  refine calls_of [27] [.tmp 6] Try.func231 (by kernel_rfl) rfl (by kernel_rfl) fun X hR hN => ?_
  show Tw _ _ _ _ ([some _, some _, some _] ++ List.replicate 27 none) _
  simp only [List.replicate, List.cons_append, List.nil_append]
  repeat' (first
    | ((first | (with_reducible refine WL_do fun Cw cw => ?_) | ((with_reducible apply WP_do); intro Cw cw)); (focus (first | ((with_reducible first | apply O_move | apply O_assign | apply O_nilCheck); (repeat rfl); (first | (with_reducible exact cw) | ((with_reducible apply cw); (focus ((try simp only [zp]); exact rfl)); clear cw Cw))) | ((with_reducible first | apply O_load | apply O_fieldAddr | apply O_bin | apply O_len | apply O_store); (repeat rfl); simp (disch := omega) only [go_sem, hl, ↓happ, get_set_ne]; (first | (with_reducible exact cw) | ((with_reducible apply cw); (focus ((try simp only [zp]); exact rfl)); clear cw Cw))) | ((with_reducible first | apply O_buildSlice | apply O_append); (repeat rfl); (try simp only [zc, zo, Nat.reduceBEq]); simp (disch := omega) only [go_sem, hl, ↓happ, get_set_ne]; (first | (with_reducible exact cw) | ((with_reducible apply cw); (focus ((try simp only [zp]); exact rfl)); clear cw Cw))))); (try ((with_reducible apply eq_id); (focus ((try simp only [zp]); exact rfl)))))
    | ((with_reducible first | refine WL_nil (hK _ _ ?_) | refine WP_nil (hK _ _ ?_)); clear hK K)
    | ((with_reducible first | refine T_reg_seq fun K hK => ?_ | refine T_reg_end fun K hK => ?_); simp only [zl])
    | ((with_reducible first | refine T_pure_seq ?_ ?_ (fun K hK => ?_) | refine T_pure_end ?_ ?_ (fun K hK => ?_)); (focus kernel_rfl); (focus kernel_rfl); simp only [zl])
    | ((with_reducible first | apply T_cond_seq | apply T_cond); (focus rfl))
    | (intro hg; (first | (simp only [zb] at hg; done) | ((try simp only [zb, eq_self] at hg); (have hh : True := hg); clear hh hg) | ((try simp only [zb] at hg); (try (have hh := hg; simp only [hh]; clear hh)); (try simp only [zg, zq, ne_eq, gt_iff_lt, ge_iff_le] at hg); (try (exfalso; omega)))))
    | with_reducible first | refine T_seq_assoc ?_ | refine T_skip_seq ?_ | refine T_ret_seq ?_ | refine T_exit_seq ?_ | refine T_ret ?_ | refine T_skip ?_ | refine T_exit ?_ | refine T_block_seq fun Kb hKb => ?_ | refine T_block ?_
    | (simp only [TX.inBlock, TX.then, zi, Nat.reduceEqDiff])
    | ((with_reducible first | refine hR _ _ (fun C cc => ?_) | refine hN _ _ (fun C cc => ?_)); simp (disch := omega) only [go_sem, hl, ↓happ, get_set_ne]; (with_reducible apply cc); clear cc C)
    | (with_reducible apply_assumption -exfalso -symm only [*]))
  all_goals first | exact ⟨rfl, rfl⟩ | exact ⟨rfl, trivial⟩ | exact ⟨trivial, rfl⟩ | trivial
theorem rowput_nil (hv : v = .nils) (hf : 0 < most) (now : Int) (s : List UInt8) :
    TDoes Try.prog 231 [.ptr l 0, .int .i64 now, .str (B s)] σ (.int .i64 0) (σ.set l (.cells [.sl (some (σ.length, 1)) 1 [.str (B s)], .int .i64 most, .bool lost]) ++ [.right 1 1]) := by
  subst hv
  have h1 := lt_of_get hl
  refine calls_of [27] [.tmp 6] Try.func231 (by kernel_rfl) rfl (by kernel_rfl) fun X hR hN => ?_
  show Tw _ _ _ _ ([some _, some _, some _] ++ List.replicate 27 none) _
  simp only [List.replicate, List.cons_append, List.nil_append]
  repeat' (first
    | ((first | (with_reducible refine WL_do fun Cw cw => ?_) | ((with_reducible apply WP_do); intro Cw cw)); (focus (first | ((with_reducible first | apply O_move | apply O_assign | apply O_nilCheck); (repeat rfl); (first | (with_reducible exact cw) | ((with_reducible apply cw); (focus ((try simp only [zp]); exact rfl)); clear cw Cw))) | ((with_reducible first | apply O_load | apply O_fieldAddr | apply O_bin | apply O_len | apply O_store); (repeat rfl); simp (disch := omega) only [go_sem, hl, ↓appS0, get_old, set_old]; (first | (with_reducible exact cw) | ((with_reducible apply cw); (focus ((try simp only [zp]); exact rfl)); clear cw Cw))) | ((with_reducible first | apply O_buildSlice | apply O_append); (repeat rfl); (try simp only [zc, zo, Nat.reduceBEq]); simp (disch := omega) only [go_sem, hl, ↓appS0, get_old, set_old]; (first | (with_reducible exact cw) | ((with_reducible apply cw); (focus ((try simp only [zp]); exact rfl)); clear cw Cw))))); (try ((with_reducible apply eq_id); (focus ((try simp only [zp]); exact rfl)))))
    | ((with_reducible first | refine WL_nil (hK _ _ ?_) | refine WP_nil (hK _ _ ?_)); clear hK K)
    | ((with_reducible first | refine T_reg_seq fun K hK => ?_ | refine T_reg_end fun K hK => ?_); simp only [zl])
    | ((with_reducible first | refine T_pure_seq ?_ ?_ (fun K hK => ?_) | refine T_pure_end ?_ ?_ (fun K hK => ?_)); (focus kernel_rfl); (focus kernel_rfl); simp only [zl])
    | ((with_reducible first | apply T_cond_seq | apply T_cond); (focus rfl))
    | (intro hg; (first | (simp only [zb] at hg; done) | ((try simp only [zb, eq_self] at hg); (have hh : True := hg); clear hh hg) | ((try simp only [zb] at hg); (try (have hh := hg; simp only [hh]; clear hh)); (try simp only [zg, zq, ne_eq, gt_iff_lt, ge_iff_le] at hg); (try (exfalso; omega)))))
    | with_reducible first | refine T_seq_assoc ?_ | refine T_skip_seq ?_ | refine T_ret_seq ?_ | refine T_exit_seq ?_ | refine T_ret ?_ | refine T_skip ?_ | refine T_exit ?_ | refine T_block_seq fun Kb hKb => ?_ | refine T_block ?_
    | (simp only [TX.inBlock, TX.then, zi, Nat.reduceEqDiff])
    | ((with_reducible first | refine hR _ _ (fun C cc => ?_) | refine hN _ _ (fun C cc => ?_)); simp (disch := omega) only [go_sem, hl, ↓appS0, get_old, set_old]; (with_reducible apply cc); clear cc C)
    | (with_reducible apply_assumption -exfalso -symm only [*]))
  all_goals first | exact ⟨rfl, rfl⟩ | exact ⟨rfl, trivial⟩ | exact ⟨trivial, rfl⟩ | trivial
theorem rowcount_walk (hv : tlenOp (mkTab Try.prog) 60 v = some (.int .i64 ls.length)) : TPure Try.prog 230 [.ptr l 0] σ (.int .i64 ls.length) := by
  refine pure_of [] [.tmp 2] Try.func230 (by kernel_rfl) rfl (by kernel_rfl) fun X hR hN => ?_
  show Tw _ _ _ _ ([some _] ++ List.replicate 7 none) _
  simp only [List.replicate, List.cons_append, List.nil_append]
  repeat' (first
    | ((with_reducible refine WL_do fun Cw cw => ?_); (first | ((with_reducible first | apply O_move | apply O_assign | apply O_nilCheck); (repeat rfl); (with_reducible apply cw); (focus ((try simp only [zp]); exact rfl)); clear cw Cw) | ((with_reducible first | apply O_load | apply O_fieldAddr | apply O_len); (repeat rfl); simp (disch := omega) only [go_sem, hl, ↓hv]; (with_reducible apply cw); (focus ((try simp only [zp]); exact rfl)); clear cw Cw)))
    | ((with_reducible refine WL_nil (hK _ _ ?_)); clear hK K)
    | ((with_reducible first | refine T_reg_seq fun K hK => ?_ | refine T_reg_end fun K hK => ?_); simp only [zl])
    | ((with_reducible first | apply T_cond_seq | apply T_cond); (focus rfl))
    | (intro hg; (first | (simp only [zb] at hg; done) | ((try simp only [zb, eq_self] at hg); (have hh : True := hg); clear hh hg) | ((try simp only [zb] at hg); (try (have hh := hg; simp only [hh]; clear hh)); (try simp only [zg, zq, ne_eq, gt_iff_lt, ge_iff_le] at hg); (try (exfalso; omega)))))
    | with_reducible first | refine T_seq_assoc ?_ | refine T_skip_seq ?_ | refine T_ret_seq ?_ | refine T_exit_seq ?_ | refine T_ret ?_ | refine T_skip ?_ | refine T_exit ?_ | refine T_block_seq fun Kb hKb => ?_ | refine T_block ?_
    | (simp only [TX.inBlock, TX.then, zi, Nat.reduceEqDiff])
    | ((with_reducible first | refine hR _ _ (fun C cc => ?_) | refine hN _ _ (fun C cc => ?_)); simp (disch := omega) only [go_sem, hl, ↓hv]; (with_reducible apply cc); clear cc C; (first | refine Ends.more rfl ?_ | refine Ends.same rfl ?_ | refine Ends.more (by simp only [go_sem, Bool.and_self]) ?_ | refine Ends.same (by simp only [go_sem, Bool.and_self]) ?_); (try simp only [go_sem, Bool.and_self]))
    | (with_reducible apply_assumption -exfalso -symm only [*]))
theorem rowclear_walk : TDoes Try.prog 229 [.ptr l 0] σ (.tup []) (σ.set l (.cells [.nils, .int .i64 most, .bool false])) := by
  refine calls_of [] [] Try.func229 (by kernel_rfl) rfl (by kernel_rfl) fun X hR hN => ?_
  show Tw _ _ _ _ ([some _] ++ List.replicate 8 none) _
  simp only [List.replicate, List.cons_append, List.nil_append]
  repeat' (first
    | ((with_reducible refine WL_do fun Cw cw => ?_); (first | ((with_reducible first | apply O_move | apply O_nilCheck); (repeat rfl); (with_reducible apply cw); (focus ((try simp only [zp]); exact rfl)); clear cw Cw) | ((with_reducible first | apply O_load | apply O_fieldAddr | apply O_store | apply O_build); (repeat rfl); simp (disch := omega) only [go_sem, hl]; (with_reducible apply cw); (focus ((try simp only [zp]); exact rfl)); clear cw Cw)))
    | ((with_reducible refine WL_nil (hK _ _ ?_)); clear hK K)
    | ((with_reducible first | refine T_reg_seq fun K hK => ?_ | refine T_reg_end fun K hK => ?_); simp only [zl])
    | ((with_reducible first | apply T_cond_seq | apply T_cond); (focus rfl))
    | (intro hg; (first | (simp only [zb] at hg; done) | ((try simp only [zb, eq_self] at hg); (have hh : True := hg); clear hh hg) | ((try simp only [zb] at hg); (try (have hh := hg; simp only [hh]; clear hh)); (try simp only [zg, zq, ne_eq, gt_iff_lt, ge_iff_le] at hg); (try (exfalso; omega)))))
    | with_reducible first | refine T_seq_assoc ?_ | refine T_skip_seq ?_ | refine T_ret_seq ?_ | refine T_exit_seq ?_ | refine T_ret ?_ | refine T_skip ?_ | refine T_exit ?_ | refine T_block_seq fun Kb hKb => ?_ | refine T_block ?_
    | (simp only [TX.inBlock, TX.then, zi, Nat.reduceEqDiff])
    | ((with_reducible first | refine hR _ _ (fun C cc => ?_) | refine hN _ _ (fun C cc => ?_)); simp (disch := omega) only [go_sem, hl]; (with_reducible apply cc); clear cc C)
    | (with_reducible apply_assumption -exfalso -symm only [*]))
  all_goals first | exact ⟨rfl, rfl⟩ | exact ⟨rfl, trivial⟩ | exact ⟨trivial, rfl⟩ | trivial
end

section
variable {σ : TS} {l : Nat} {d : List UInt8} {at' : Int} {has : Bool} (hl : σ[l]? = some (.cells [.str (B d), .int .i64 at', .bool has]))
include hl
theorem sampleput_walk (now : Int) (s : List UInt8) : TDoes Try.prog 234 [.ptr l 0, .int .i64 now, .str (B s)] σ (.int .i64 (if has = true ∧ now < at' then 24 else 0)) (if has = true ∧ now < at' then σ else σ.set l (.cells [.str (B s), .int .i64 now, .bool true])) := by
  cases has with
  | false =>
    rw [if_neg (by simp), if_neg (by simp)]
    refine calls_of [] [.tmp 6] Try.func234 (by kernel_rfl) rfl (by kernel_rfl) fun X hR hN => ?_
    show Tw _ _ _ _ ([some _, some _, some _] ++ List.replicate 21 none) _
    simp only [List.replicate, List.cons_append, List.nil_append]
    repeat' (first
      | ((with_reducible refine WL_do fun Cw cw => ?_); (first | ((with_reducible first | apply O_move | apply O_assign | apply O_pickV | apply O_nilCheck); (repeat rfl); (with_reducible apply cw); (focus ((try simp only [zp]); exact rfl)); clear cw Cw) | ((with_reducible first | apply O_load | apply O_fieldAddr | apply O_bin | apply O_store | apply O_build); (repeat rfl); simp (disch := omega) only [go_sem, hl]; (with_reducible apply cw); (focus ((try simp only [zp]); exact rfl)); clear cw Cw)))
      | ((first | ((with_reducible apply WL_if); (focus rfl)) | ((with_reducible apply WL_un); (focus rfl))); (focus ((try simp only [zp]); exact rfl)))
      | ((with_reducible refine WL_nil (hK _ _ ?_)); clear hK K)
      | ((with_reducible first | refine T_reg_seq fun K hK => ?_ | refine T_reg_end fun K hK => ?_); simp only [zl])
      | ((with_reducible first | apply T_cond_seq | apply T_cond); (focus rfl))
      | (intro hg; (first | (simp only [zb] at hg; done) | ((try simp only [zb, eq_self] at hg); (have hh : True := hg); clear hh hg) | ((try simp only [zb] at hg); (try (have hh := hg; simp only [hh]; clear hh)); (try simp only [zg, zq, ne_eq, gt_iff_lt, ge_iff_le] at hg); (try (exfalso; omega)))))
      | with_reducible first | refine T_seq_assoc ?_ | refine T_skip_seq ?_ | refine T_ret_seq ?_ | refine T_exit_seq ?_ | refine T_ret ?_ | refine T_skip ?_ | refine T_exit ?_ | refine T_block_seq fun Kb hKb => ?_ | refine T_block ?_
      | (simp only [TX.inBlock, TX.then, zi, Nat.reduceEqDiff])
      | ((with_reducible first | refine hR _ _ (fun C cc => ?_) | refine hN _ _ (fun C cc => ?_)); simp (disch := omega) only [go_sem, hl]; (with_reducible apply cc); clear cc C)
      | (with_reducible apply_assumption -exfalso -symm only [*]))
    all_goals first | exact ⟨rfl, rfl⟩ | exact ⟨rfl, trivial⟩ | exact ⟨trivial, rfl⟩ | trivial
  | true =>
    by_cases h : now < at'
    · rw [if_pos ⟨rfl, h⟩, if_pos ⟨rfl, h⟩]
      refine calls_of [] [.tmp 6] Try.func234 (by kernel_rfl) rfl (by kernel_rfl) fun X hR hN => ?_
      show Tw _ _ _ _ ([some _, some _, some _] ++ List.replicate 21 none) _
      simp only [List.replicate, List.cons_append, List.nil_append]
      repeat' (first
        | ((with_reducible refine WL_do fun Cw cw => ?_); (first | ((with_reducible first | apply O_move | apply O_assign | apply O_pickV | apply O_nilCheck); (repeat rfl); (with_reducible apply cw); (focus ((try simp only [zp]); exact rfl)); clear cw Cw) | ((with_reducible first | apply O_load | apply O_fieldAddr | apply O_bin | apply O_store | apply O_build); (repeat rfl); simp (disch := omega) only [go_sem, hl]; (with_reducible apply cw); (focus ((try simp only [zp]); exact rfl)); clear cw Cw)))
        | ((first | ((with_reducible apply WL_if); (focus rfl)) | ((with_reducible apply WL_un); (focus rfl))); (focus ((try simp only [zp]); exact rfl)))
        | ((with_reducible refine WL_nil (hK _ _ ?_)); clear hK K)
        | ((with_reducible first | refine T_reg_seq fun K hK => ?_ | refine T_reg_end fun K hK => ?_); simp only [zl])
        | ((with_reducible first | apply T_cond_seq | apply T_cond); (focus rfl))
        | (intro hg; (first | (simp only [zb] at hg; done) | ((try simp only [zb, eq_self] at hg); (have hh : True := hg); clear hh hg) | ((try simp only [zb] at hg); (try (have hh := hg; simp only [hh]; clear hh)); (try simp only [zg, zq, ne_eq, gt_iff_lt, ge_iff_le] at hg); (try (exfalso; omega)))))
        | with_reducible first | refine T_seq_assoc ?_ | refine T_skip_seq ?_ | refine T_ret_seq ?_ | refine T_exit_seq ?_ | refine T_ret ?_ | refine T_skip ?_ | refine T_exit ?_ | refine T_block_seq fun Kb hKb => ?_ | refine T_block ?_
        | (simp only [TX.inBlock, TX.then, zi, Nat.reduceEqDiff])
        | ((with_reducible first | refine hR _ _ (fun C cc => ?_) | refine hN _ _ (fun C cc => ?_)); simp (disch := omega) only [go_sem, hl]; (with_reducible apply cc); clear cc C)
        | (with_reducible apply_assumption -exfalso -symm only [*]))
      all_goals first | exact ⟨rfl, rfl⟩ | exact ⟨rfl, trivial⟩ | exact ⟨trivial, rfl⟩ | trivial
    · rw [if_neg (fun e => h e.2), if_neg (fun e => h e.2)]
      refine calls_of [] [.tmp 6] Try.func234 (by kernel_rfl) rfl (by kernel_rfl) fun X hR hN => ?_
      show Tw _ _ _ _ ([some _, some _, some _] ++ List.replicate 21 none) _
      simp only [List.replicate, List.cons_append, List.nil_append]
      repeat' (first
        | ((with_reducible refine WL_do fun Cw cw => ?_); (first | ((with_reducible first | apply O_move | apply O_assign | apply O_pickV | apply O_nilCheck); (repeat rfl); (with_reducible apply cw); (focus ((try simp only [zp]); exact rfl)); clear cw Cw) | ((with_reducible first | apply O_load | apply O_fieldAddr | apply O_bin | apply O_store | apply O_build); (repeat rfl); simp (disch := omega) only [go_sem, hl]; (with_reducible apply cw); (focus ((try simp only [zp]); exact rfl)); clear cw Cw)))
        | ((first | ((with_reducible apply WL_if); (focus rfl)) | ((with_reducible apply WL_un); (focus rfl))); (focus ((try simp only [zp]); exact rfl)))
        | ((with_reducible refine WL_nil (hK _ _ ?_)); clear hK K)
        | ((with_reducible first | refine T_reg_seq fun K hK => ?_ | refine T_reg_end fun K hK => ?_); simp only [zl])
        | ((with_reducible first | apply T_cond_seq | apply T_cond); (focus rfl))
        | (intro hg; (first | (simp only [zb] at hg; done) | ((try simp only [zb, eq_self] at hg); (have hh : True := hg); clear hh hg) | ((try simp only [zb] at hg); (try (have hh := hg; simp only [hh]; clear hh)); (try simp only [zg, zq, ne_eq, gt_iff_lt, ge_iff_le] at hg); (try (exfalso; omega)))))
        | with_reducible first | refine T_seq_assoc ?_ | refine T_skip_seq ?_ | refine T_ret_seq ?_ | refine T_exit_seq ?_ | refine T_ret ?_ | refine T_skip ?_ | refine T_exit ?_ | refine T_block_seq fun Kb hKb => ?_ | refine T_block ?_
        | (simp only [TX.inBlock, TX.then, zi, Nat.reduceEqDiff])
        | ((with_reducible first | refine hR _ _ (fun C cc => ?_) | refine hN _ _ (fun C cc => ?_)); simp (disch := omega) only [go_sem, hl]; (with_reducible apply cc); clear cc C)
        | (with_reducible apply_assumption -exfalso -symm only [*]))
      all_goals first | exact ⟨rfl, rfl⟩ | exact ⟨rfl, trivial⟩ | exact ⟨trivial, rfl⟩ | trivial
theorem samplecount_walk : TPure Try.prog 233 [.ptr l 0] σ (.int .i64 (if has = true then 1 else 0)) := by
  cases has with
  | false =>
    refine pure_of [] [.tmp 2] Try.func233 (by kernel_rfl) rfl (by kernel_rfl) fun X hR hN => ?_
    show Tw _ _ _ _ ([some _] ++ List.replicate 6 none) _
    simp only [List.replicate, List.cons_append, List.nil_append]
    repeat' (first
      | ((with_reducible refine WL_do fun Cw cw => ?_); (first | ((with_reducible first | apply O_move | apply O_assign | apply O_nilCheck); (repeat rfl); (with_reducible apply cw); (focus ((try simp only [zp]); exact rfl)); clear cw Cw) | ((with_reducible first | apply O_load | apply O_fieldAddr); (repeat rfl); simp (disch := omega) only [go_sem, hl]; (with_reducible apply cw); (focus ((try simp only [zp]); exact rfl)); clear cw Cw)))
      | ((with_reducible refine WL_nil (hK _ _ ?_)); clear hK K)
      | ((with_reducible first | refine T_reg_seq fun K hK => ?_ | refine T_reg_end fun K hK => ?_); simp only [zl])
      | ((with_reducible first | apply T_cond_seq | apply T_cond); (focus rfl))
      | (intro hg; (first | (simp only [zb] at hg; done) | ((try simp only [zb, eq_self] at hg); (have hh : True := hg); clear hh hg) | ((try simp only [zb] at hg); (try (have hh := hg; simp only [hh]; clear hh)); (try simp only [zg, zq, ne_eq, gt_iff_lt, ge_iff_le] at hg); (try (exfalso; omega)))))
      | with_reducible first | refine T_seq_assoc ?_ | refine T_skip_seq ?_ | refine T_ret_seq ?_ | refine T_exit_seq ?_ | refine T_ret ?_ | refine T_skip ?_ | refine T_exit ?_ | refine T_block_seq fun Kb hKb => ?_ | refine T_block ?_
      | (simp only [TX.inBlock, TX.then, zi, Nat.reduceEqDiff])
      | ((with_reducible first | refine hR _ _ (fun C cc => ?_) | refine hN _ _ (fun C cc => ?_)); simp (disch := omega) only [go_sem, hl]; (with_reducible apply cc); clear cc C; (first | refine Ends.more rfl ?_ | refine Ends.same rfl ?_ | refine Ends.more (by simp only [go_sem, Bool.and_self]) ?_ | refine Ends.same (by simp only [go_sem, Bool.and_self]) ?_); (try simp only [go_sem, Bool.and_self]))
      | (with_reducible apply_assumption -exfalso -symm only [*]))
    all_goals rfl
  | true =>
    refine pure_of [] [.tmp 2] Try.func233 (by kernel_rfl) rfl (by kernel_rfl) fun X hR hN => ?_
    show Tw _ _ _ _ ([some _] ++ List.replicate 6 none) _
    simp only [List.replicate, List.cons_append, List.nil_append]
    repeat' (first
      | ((with_reducible refine WL_do fun Cw cw => ?_); (first | ((with_reducible first | apply O_move | apply O_assign | apply O_nilCheck); (repeat rfl); (with_reducible apply cw); (focus ((try simp only [zp]); exact rfl)); clear cw Cw) | ((with_reducible first | apply O_load | apply O_fieldAddr); (repeat rfl); simp (disch := omega) only [go_sem, hl]; (with_reducible apply cw); (focus ((try simp only [zp]); exact rfl)); clear cw Cw)))
      | ((with_reducible refine WL_nil (hK _ _ ?_)); clear hK K)
      | ((with_reducible first | refine T_reg_seq fun K hK => ?_ | refine T_reg_end fun K hK => ?_); simp only [zl])
      | ((with_reducible first | apply T_cond_seq | apply T_cond); (focus rfl))
      | (intro hg; (first | (simp only [zb] at hg; done) | ((try simp only [zb, eq_self] at hg); (have hh : True := hg); clear hh hg) | ((try simp only [zb] at hg); (try (have hh := hg; simp only [hh]; clear hh)); (try simp only [zg, zq, ne_eq, gt_iff_lt, ge_iff_le] at hg); (try (exfalso; omega)))))
      | with_reducible first | refine T_seq_assoc ?_ | refine T_skip_seq ?_ | refine T_ret_seq ?_ | refine T_exit_seq ?_ | refine T_ret ?_ | refine T_skip ?_ | refine T_exit ?_ | refine T_block_seq fun Kb hKb => ?_ | refine T_block ?_
      | (simp only [TX.inBlock, TX.then, zi, Nat.reduceEqDiff])
      | ((with_reducible first | refine hR _ _ (fun C cc => ?_) | refine hN _ _ (fun C cc => ?_)); simp (disch := omega) only [go_sem, hl]; (with_reducible apply cc); clear cc C; (first | refine Ends.more rfl ?_ | refine Ends.same rfl ?_ | refine Ends.more (by simp only [go_sem, Bool.and_self]) ?_ | refine Ends.same (by simp only [go_sem, Bool.and_self]) ?_); (try simp only [go_sem, Bool.and_self]))
      | (with_reducible apply_assumption -exfalso -symm only [*]))
    all_goals rfl
theorem sampleclear_walk : TDoes Try.prog 232 [.ptr l 0] σ (.tup []) (σ.set l (.cells [.str (B []), .int .i64 0, .bool false])) := by
  refine calls_of [] [] Try.func232 (by kernel_rfl) rfl (by kernel_rfl) fun X hR hN => ?_
  show Tw _ _ _ _ ([some _] ++ List.replicate 4 none) _
  simp only [List.replicate, List.cons_append, List.nil_append]
  repeat' (first
    | ((with_reducible refine WL_do fun Cw cw => ?_); (first | ((with_reducible first | apply O_move | apply O_nilCheck); (repeat rfl); (with_reducible apply cw); (focus ((try simp only [zp]); exact rfl)); clear cw Cw) | ((with_reducible first | apply O_store | apply O_build); (repeat rfl); simp (disch := omega) only [go_sem, hl]; (with_reducible apply cw); (focus ((try simp only [zp]); exact rfl)); clear cw Cw)))
    | ((with_reducible refine WL_nil (hK _ _ ?_)); clear hK K)
    | ((with_reducible first | refine T_reg_seq fun K hK => ?_ | refine T_reg_end fun K hK => ?_); simp only [zl])
    | ((with_reducible first | apply T_cond_seq | apply T_cond); (focus rfl))
    | (intro hg; (first | (simp only [zb] at hg; done) | ((try simp only [zb, eq_self] at hg); (have hh : True := hg); clear hh hg) | ((try simp only [zb] at hg); (try (have hh := hg; simp only [hh]; clear hh)); (try simp only [zg, zq, ne_eq, gt_iff_lt, ge_iff_le] at hg); (try (exfalso; omega)))))
    | with_reducible first | refine T_seq_assoc ?_ | refine T_skip_seq ?_ | refine T_ret_seq ?_ | refine T_exit_seq ?_ | refine T_ret ?_ | refine T_skip ?_ | refine T_exit ?_ | refine T_block_seq fun Kb hKb => ?_ | refine T_block ?_
    | (simp only [TX.inBlock, TX.then, zi, Nat.reduceEqDiff])
    | ((with_reducible first | refine hR _ _ (fun C cc => ?_) | refine hN _ _ (fun C cc => ?_)); simp (disch := omega) only [go_sem, hl]; (with_reducible apply cc); clear cc C)
    | (with_reducible apply_assumption -exfalso -symm only [*]))
  all_goals first | exact ⟨rfl, rfl⟩ | exact ⟨rfl, trivial⟩ | exact ⟨trivial, rfl⟩ | trivial
end

/- boxes by what they hold -/
section
variable {σ : TS} {lab : Nat → Nat} {c loc : Nat} {b : Bx}
abbrev kindT (b : Bx) : TypeId := if b.p.kind = 1 then 163 else 158

/-- A message comes for a box. -/
theorem boxput_walk (h : BoxP σ lab c loc b) (hb : b.ok) (now : Int) (s : List UInt8) (hs : (s.length : Int) ≤ b.p.size) :
    ∃ k, TMeth Try.prog (kindT b) "pitot/ports.put" k ∧ TCalls Try.prog k [.ptr loc 0, .int .i64 now, .str (B s)] σ fun v σ' => v = .int .i64 (putB now s b).2 ∧ BoxP σ' (labX lab σ.length c) c loc (putB now s b).1 ∧ Grow σ lab σ' (labX lab σ.length c) (· = c) := by
  obtain ⟨h1, h2⟩ := h
  have hx : ∀ o ρ, Grow σ lab (σ.set loc o ++ ρ) (labX lab σ.length c) (· = c) := fun o ρ => Grow.set ρ h1 c
  have hx0 : ∀ o, Grow σ lab (σ.set loc o) (labX lab σ.length c) (· = c) := fun o => by have := hx o []; rwa [List.append_nil] at this
  have hr0 : Grow σ lab σ (labX lab σ.length c) (· = c) := by have := Grow.tail (σ := σ) (lab := lab) [] (· = c) c; rwa [List.append_nil] at this
  by_cases hk : b.p.kind = 1
  · rw [if_pos hk] at h2
    refine ⟨_, by rw [kindT, if_pos hk]; exact meth_sample_put, ?_⟩
    refine (sampleput_walk h2 now s).mono fun v σ' q => ?_
    obtain ⟨rfl, rfl⟩ := q
    have hlt := lt_of_get h2
    have hs' : ¬ (s.length : Int) > b.p.size := by omega
    rw [putB, if_neg hs', if_pos hk]
    by_cases hc : b.l ≠ [] ∧ now < b.at_
    · have hc' : (!b.l.isEmpty) = true ∧ now < b.at_ := ⟨by simpa [List.isEmpty_iff] using hc.1, hc.2⟩
      rw [if_pos hc, if_pos hc', if_pos hc']
      exact ⟨rfl, ⟨(labX_old hlt).trans h1, by rw [if_pos hk]; exact h2⟩, hr0⟩
    · have hc' : ¬ ((!b.l.isEmpty) = true ∧ now < b.at_) := fun e => hc ⟨by simpa [List.isEmpty_iff] using e.1, e.2⟩
      rw [if_neg hc, if_neg hc', if_neg hc']
      exact ⟨rfl, ⟨(labX_old hlt).trans h1, by rw [if_pos hk]; exact List.getElem?_set_self hlt⟩, hx0 _⟩
  · rw [if_neg hk] at h2
    obtain ⟨v, h3, h4⟩ := h2
    have hlt := lt_of_get h3
    refine ⟨_, by rw [kindT, if_neg hk]; exact meth_row_put, ?_⟩
    rw [putB, if_neg (by omega), if_neg hk]
    by_cases hf : (b.l.length : Int) ≥ b.p.depth
    · rw [if_pos hf]
      refine (rowput_full h3 (lenQ h4) hf now s).mono fun v' σ' q => ?_
      obtain ⟨rfl, rfl⟩ := q
      refine ⟨rfl, ⟨(labX_old hlt).trans h1, ?_⟩, hx0 _⟩
      rw [if_neg hk]
      refine ⟨v, List.getElem?_set_self hlt, ?_⟩
      rcases h4 with h4 | ⟨t, e, k1, k2, k3⟩
      · exact .inl h4
      · exact .inr ⟨t, e, (labX_old (lt_of_get k3)).trans k1, k2, by rw [List.getElem?_set_ne]; exact k3; rintro rfl; rw [h3] at k3; cases k3⟩
    · rw [if_neg hf]
      rcases h4 with ⟨k1, k2⟩ | ⟨t, e, k1, k2, k3⟩
      · refine (rowput_nil h3 k1 (by rw [k2] at hf; simp at hf; exact hf) now s).mono fun v' σ' q => ?_
        obtain ⟨rfl, rfl⟩ := q
        refine ⟨rfl, ⟨(labX_old hlt).trans h1, ?_⟩, hx _ _⟩
        rw [if_neg hk]
        refine ⟨_, by rw [List.getElem?_append_left (by simpa using hlt)]; exact List.getElem?_set_self hlt, ?_⟩
        refine .inr ⟨σ.length, 1, labX_new (Nat.le_refl _), by rw [k2]; rfl, ?_⟩
        rw [List.getElem?_append_right (by simp)]; simp
      · refine (rowput_own h3 k2 k3 (by omega) (by have := hb.room; omega) now s).mono fun v' σ' q => ?_
        obtain ⟨rfl, rfl⟩ := q
        have hne : t ≠ loc := fun e => by subst e; rw [h3] at k3; cases k3
        have hgt : Grow σ lab ((σ.set t (.right (e + 1) 1)).set loc (.cells [.sl (some (t, e + 1)) (b.l.length + 1) ((b.l ++ [s]).flatMap strC), .int .i64 b.p.depth, .bool b.lost])) (labX lab σ.length c) (· = c) :=
          ⟨by simp, fun i hi => labX_old hi, fun i hi hc => by
            rw [List.getElem?_set_ne (by rintro rfl; exact hc h1), List.getElem?_set_ne (by rintro rfl; exact hc k1)]⟩
        refine ⟨rfl, ⟨(labX_old hlt).trans h1, ?_⟩, hgt⟩
        rw [if_neg hk]
        refine ⟨_, List.getElem?_set_self (by simpa using hlt), ?_⟩
        exact .inr ⟨t, e + 1, (labX_old (lt_of_get k3)).trans k1, by simp, by rw [List.getElem?_set_ne (Ne.symm hne)]; exact List.getElem?_set_self (lt_of_get k3)⟩

theorem boxcount_walk (h : BoxP σ lab c loc b) (hb : b.ok) : ∃ k, TMeth Try.prog (kindT b) "pitot/ports.count" k ∧ TPure Try.prog k [.ptr loc 0] σ (.int .i64 b.l.length) := by
  obtain ⟨h1, h2⟩ := h
  by_cases hk : b.p.kind = 1
  · rw [if_pos hk] at h2
    refine ⟨_, by rw [kindT, if_pos hk]; exact meth_sample_count, ?_⟩
    have := samplecount_walk h2
    have hl := hb.one hk
    cases hb' : b.l with
    | nil => rw [hb'] at this; exact this
    | cons x r =>
      rw [hb'] at this hl
      simp at hl
      subst hl
      exact this
  · rw [if_neg hk] at h2
    obtain ⟨v, h3, h4⟩ := h2
    exact ⟨_, by rw [kindT, if_neg hk]; exact meth_row_count, rowcount_walk h3 (lenQ h4)⟩

theorem boxclear_walk (h : BoxP σ lab c loc b) : ∃ k, TMeth Try.prog (kindT b) "pitot/ports.clear" k ∧ ∃ o, TDoes Try.prog k [.ptr loc 0] σ (.tup []) (σ.set loc o) ∧ ∀ σ' lab', σ'[loc]? = some o → lab' loc = c → BoxP σ' lab' c loc (clearB b) := by
  obtain ⟨h1, h2⟩ := h
  by_cases hk : b.p.kind = 1
  · rw [if_pos hk] at h2
    exact ⟨_, by rw [kindT, if_pos hk]; exact meth_sample_clear, _, sampleclear_walk h2, fun σ' lab' hs hl => ⟨hl, by rw [if_pos (by exact hk)]; exact hs⟩⟩
  · rw [if_neg hk] at h2
    obtain ⟨v, h3, h4⟩ := h2
    exact ⟨_, by rw [kindT, if_neg hk]; exact meth_row_clear, _, rowclear_walk h3, fun σ' lab' hs hl => ⟨hl, by rw [if_neg (by exact hk)]; exact ⟨_, hs, .inl ⟨rfl, rfl⟩⟩⟩⟩
end
end Go.Proofs.Ytgkcackpffimmaa
