/- The document's put, Sends and Takes; ports by their number; rows that are the same. -/
import Derived.Test.YtgkcackpffimmaaA0
import Derived.Test.YtgkcackpffimmaaM0
import Derived.Test.YtgkcackpffimmaaM2
import Derived.Test.YtgkcackpffimmaaE1
set_option linter.unusedVariables false
set_option linter.unusedSimpArgs false
set_option maxRecDepth 10000
set_option maxHeartbeats 4000000
namespace Go.Proofs.Ytgkcackpffimmaa
open Go.TM

theorem ftake {l : List Int} {i : Nat} (q : Int → Bool) (hi : i < l.length) : (l.take (i + 1)).filter q = if q (nth l i) = true then (l.take i).filter q ++ [nth l i] else (l.take i).filter q := by
  rw [List.take_succ_eq_append_getElem hi, ← nth_eq hi, List.filter_append]
  split
  · rename_i h; simp [h]
  · rename_i h; simp [h]
theorem ftake_len {l : List Int} {i : Nat} (q : Int → Bool) : ((l.take i).filter q).length ≤ l.length :=
  Nat.le_trans (List.length_filter_le ..) (by rw [List.length_take]; omega)
theorem acc_int {σ ρ : TS} {acc : List Int} {lv : TV} (v : Int) (ha : Acc σ.length 1 intC acc lv ρ) (hl : acc.length ≤ 1000000) :
    ∃ lv' ρ', tappend (mkTab Try.prog) true (σ ++ ρ) 22 22 lv (.sl none 1 [.int .i64 v]) = some (lv', σ ++ ρ') ∧ Acc σ.length 1 intC (acc ++ [v]) lv' ρ' := by
  obtain ⟨lv', ρ', h1, h2⟩ := acc_step (f := intC) (sz := 1) (t := 22) (π := σ) (ρ := ρ) (acc := acc) (lv := lv) (v := v) (fun {σ x} => app0I) (fun {σ w tk n cs x} h1 h2 h3 => app1I h1 h2 h3) (fun _ => rfl) ha hl rfl
  exact ⟨lv', ρ', h1, h2⟩

theorem refput_walk (r : Row Int) (n : Int) (σ : TS) (hl : r.l.length ≤ 100000) : TPure Try.prog 138 [rowTV intC r, .int .i64 n] σ (rowTV intC (rowOf (putS r.l n))) := by
  have hp : putS r.l n = r.l.filter (fun x => decide (x < n)) ++ [n] ++ r.l.filter (fun x => decide (n < x)) := rfl
  have hne : putS r.l n ≠ [] := by rw [hp]; simp
  rw [rowOf_some intC hne]
  refine pure_of [26, 30, 49] [.tmp 4] Try.func138 (by kernel_rfl) rfl (by kernel_rfl) fun X hR hN => ?_
  show Tw _ _ _ _ ([some _, some _] ++ List.replicate 49 none) _
  simp only [List.replicate, List.cons_append, List.nil_append]
  repeat' (first
    | ((with_reducible refine WL_do fun Cw cw => ?_); (first | ((with_reducible first | apply O_move | apply O_assign); (repeat rfl)) | ((with_reducible first | apply O_load | apply O_bin | apply O_indexAddr | apply O_len); (repeat rfl); simp (disch := omega) only [go_sem]) | ((with_reducible first | apply O_buildSlice | apply O_append); (repeat rfl); (try simp only [zc, zo, Nat.reduceBEq]); simp (disch := omega) only [go_sem])); (with_reducible apply cw); (focus ((try simp only [zp]); exact rfl)); clear cw Cw)
    | ((with_reducible refine WL_nil (hK _ _ ?_)); clear hK K)
    | ((with_reducible first | refine T_reg_seq fun K hK => ?_ | refine T_reg_end fun K hK => ?_); simp only [zl])
    | ((with_reducible first | apply T_cond_seq | apply T_cond); (focus rfl))
    | (intro hg; (first | (simp only [zb] at hg; done) | ((try simp only [zb, eq_self] at hg); (have hh : True := hg); clear hh hg) | ((try simp only [zb] at hg); (try (have hh := hg; simp only [hh]; clear hh)); (try simp only [zg, zq, ne_eq, gt_iff_lt, ge_iff_le] at hg); (try (exfalso; omega)))))
    | with_reducible first | apply T_seq_assoc | apply T_skip_seq | apply T_ret_seq | apply T_exit_seq | apply T_ret | apply T_skip | apply T_exit | refine T_block_seq fun Kb hKb => ?_ | apply T_block
    | (simp only [TX.inBlock, TX.then, zi, Nat.reduceEqDiff])
    | ((with_reducible first | refine hR _ _ (fun C cc => ?_) | refine hN _ _ (fun C cc => ?_)); simp (disch := omega) only [go_sem]; (with_reducible apply cc); clear cc C; (first | refine Ends.more (by first | rfl | simp only [go_sem, Bool.and_self]) ?_ | refine Ends.same (by first | rfl | simp only [go_sem, Bool.and_self]) ?_); (try simp only [go_sem, Bool.and_self]))
    | (with_reducible apply_assumption -exfalso -symm only [*]))
  refine T_each (α := Nat × TV × TS) (fun (i, lv, ρ) => [some (some (rowTV intC r)), some (some (.int .i64 n)), none, none, none, some (some (lv)), some (some (.int .i64 i)), none, none, none, none, none, none, none, none, none, none, none, none, none, none, none, none, none, none, none, none, none, none, none, none, none, none, none, none, none, none, none, none, none, none, none, none, none, none, none, none, none, none, none, none]) (fun (i, lv, ρ) => i ≤ r.l.length ∧ Acc σ.length 1 intC ((r.l.take i).filter fun x => decide (x < n)) lv ρ) (fun (i, lv, ρ) => r.l.length - i) (fun (i, lv, ρ) => σ ++ ρ) ?_ ?_
  · refine ⟨(0, .nils, []), ⟨rfl, rfl, rfl, rfl, trivial⟩, ⟨by omega, .inl ⟨by simp, rfl⟩⟩, by simp⟩
  · rintro ⟨i, lv, ρ⟩ q ⟨hi, hacc⟩
    show Tw _ _ _ _ ([some (rowTV intC r), some (.int .i64 n), q 2, q 3, q 4, some (lv), some (.int .i64 i), q 7, q 8, q 9, q 10, q 11, q 12, q 13, q 14, q 15, q 16, q 17, q 18, q 19, q 20, q 21, q 22, q 23, q 24, q 25, q 26, q 27, q 28, q 29, q 30, q 31, q 32, q 33, q 34, q 35, q 36, q 37, q 38, q 39, q 40, q 41, q 42, q 43, q 44, q 45, q 46, q 47, q 48, q 49, q 50]) (σ ++ ρ)
    have hone := hacc.cells
    have hal := ftake_len (l := r.l) (i := i) fun x => decide (x < n)
    rcases Nat.lt_or_ge i r.l.length with hlt | hge
    · obtain ⟨lv', ρ', happ, hacc'⟩ := acc_int (nth r.l i) hacc (by omega)
      have hone' := hacc'.cells
      have hf := ftake (fun x => decide (x < n)) hlt
      by_cases hx : nth r.l i < n
      · rw [if_pos (by simpa using hx)] at hf
        rw [← hf] at hacc'
        repeat' (first
          | ((with_reducible refine WL_do fun Cw cw => ?_); (first | ((with_reducible first | apply O_move | apply O_assign); (repeat rfl)) | ((with_reducible first | apply O_load | apply O_bin | apply O_indexAddr | apply O_len); (repeat rfl); simp (disch := omega) only [go_sem, ↓happ, ↓hone, ↓hone']) | ((with_reducible first | apply O_buildSlice | apply O_append); (repeat rfl); (try simp only [zc, zo, Nat.reduceBEq]); simp (disch := omega) only [go_sem, ↓happ, ↓hone, ↓hone'])); (with_reducible apply cw); (focus ((try simp only [zp]); exact rfl)); clear cw Cw)
          | ((with_reducible refine WL_nil (hK _ _ ?_)); clear hK K)
          | ((with_reducible first | refine T_reg_seq fun K hK => ?_ | refine T_reg_end fun K hK => ?_); simp only [zl])
          | ((with_reducible first | apply T_cond_seq | apply T_cond); (focus rfl))
          | (intro hg; (first | (simp only [zb] at hg; done) | ((try simp only [zb, eq_self] at hg); (have hh : True := hg); clear hh hg) | ((try simp only [zb] at hg); (try (have hh := hg; simp only [hh]; clear hh)); (try simp only [zg, zq, ne_eq, gt_iff_lt, ge_iff_le] at hg); (try (exfalso; omega)))))
          | with_reducible first | apply T_seq_assoc | apply T_skip_seq | apply T_ret_seq | apply T_exit_seq | apply T_ret | apply T_skip | apply T_exit | refine T_block_seq fun Kb hKb => ?_ | apply T_block
          | (simp only [TX.inBlock, TX.then, zi, Nat.reduceEqDiff])
          | ((with_reducible first | refine hR _ _ (fun C cc => ?_) | refine hN _ _ (fun C cc => ?_)); simp (disch := omega) only [go_sem, ↓happ, ↓hone, ↓hone']; (with_reducible apply cc); clear cc C; (first | refine Ends.more (by first | rfl | simp only [go_sem, Bool.and_self]) ?_ | refine Ends.same (by first | rfl | simp only [go_sem, Bool.and_self]) ?_); (try simp only [go_sem, Bool.and_self]))
          | (with_reducible apply_assumption -exfalso -symm only [*]))
        refine ⟨(i + 1, lv', ρ'), ?_, ⟨rfl, rfl, rfl, rfl, trivial⟩, ⟨?_, hacc'⟩, rfl⟩
        · dsimp only; omega
        · dsimp only; omega
      · rw [if_neg (by simpa using hx)] at hf
        rw [← hf] at hacc
        repeat' (first
          | ((with_reducible refine WL_do fun Cw cw => ?_); (first | ((with_reducible first | apply O_move | apply O_assign); (repeat rfl)) | ((with_reducible first | apply O_load | apply O_bin | apply O_indexAddr | apply O_len); (repeat rfl); simp (disch := omega) only [go_sem, ↓hone]) | ((with_reducible first | apply O_buildSlice | apply O_append); (repeat rfl); (try simp only [zc, zo, Nat.reduceBEq]); simp (disch := omega) only [go_sem, ↓hone])); (with_reducible apply cw); (focus ((try simp only [zp]); exact rfl)); clear cw Cw)
          | ((with_reducible refine WL_nil (hK _ _ ?_)); clear hK K)
          | ((with_reducible first | refine T_reg_seq fun K hK => ?_ | refine T_reg_end fun K hK => ?_); simp only [zl])
          | ((with_reducible first | apply T_cond_seq | apply T_cond); (focus rfl))
          | (intro hg; (first | (simp only [zb] at hg; done) | ((try simp only [zb, eq_self] at hg); (have hh : True := hg); clear hh hg) | ((try simp only [zb] at hg); (try (have hh := hg; simp only [hh]; clear hh)); (try simp only [zg, zq, ne_eq, gt_iff_lt, ge_iff_le] at hg); (try (exfalso; omega)))))
          | with_reducible first | apply T_seq_assoc | apply T_skip_seq | apply T_ret_seq | apply T_exit_seq | apply T_ret | apply T_skip | apply T_exit | refine T_block_seq fun Kb hKb => ?_ | apply T_block
          | (simp only [TX.inBlock, TX.then, zi, Nat.reduceEqDiff])
          | ((with_reducible first | refine hR _ _ (fun C cc => ?_) | refine hN _ _ (fun C cc => ?_)); simp (disch := omega) only [go_sem, ↓hone]; (with_reducible apply cc); clear cc C; (first | refine Ends.more (by first | rfl | simp only [go_sem, Bool.and_self]) ?_ | refine Ends.same (by first | rfl | simp only [go_sem, Bool.and_self]) ?_); (try simp only [go_sem, Bool.and_self]))
          | (with_reducible apply_assumption -exfalso -symm only [*]))
        refine ⟨(i + 1, lv, ρ), ?_, ⟨rfl, rfl, rfl, rfl, trivial⟩, ⟨?_, hacc⟩, rfl⟩
        · dsimp only; omega
        · dsimp only; omega
    · rw [List.take_of_length_le hge] at hacc hal
      obtain ⟨lv', ρ', happ, hacc'⟩ := acc_int n hacc (by omega)
      have hone' := hacc'.cells
      repeat' (first
        | ((with_reducible refine WL_do fun Cw cw => ?_); (first | ((with_reducible first | apply O_move | apply O_assign); (repeat rfl)) | ((with_reducible first | apply O_load | apply O_bin | apply O_indexAddr | apply O_len); (repeat rfl); simp (disch := omega) only [go_sem, ↓happ, ↓hone, ↓hone']) | ((with_reducible first | apply O_buildSlice | apply O_append); (repeat rfl); (try simp only [zc, zo, Nat.reduceBEq]); simp (disch := omega) only [go_sem, ↓happ, ↓hone, ↓hone'])); (with_reducible apply cw); (focus ((try simp only [zp]); exact rfl)); clear cw Cw)
        | ((with_reducible refine WL_nil (hK _ _ ?_)); clear hK K)
        | ((with_reducible first | refine T_reg_seq fun K hK => ?_ | refine T_reg_end fun K hK => ?_); simp only [zl])
        | ((with_reducible first | apply T_cond_seq | apply T_cond); (focus rfl))
        | (intro hg; (first | (simp only [zb] at hg; done) | ((try simp only [zb, eq_self] at hg); (have hh : True := hg); clear hh hg) | ((try simp only [zb] at hg); (try (have hh := hg; simp only [hh]; clear hh)); (try simp only [zg, zq, ne_eq, gt_iff_lt, ge_iff_le] at hg); (try (exfalso; omega)))))
        | with_reducible first | apply T_seq_assoc | apply T_skip_seq | apply T_ret_seq | apply T_exit_seq | apply T_ret | apply T_skip | apply T_exit | refine T_block_seq fun Kb hKb => ?_ | apply T_block
        | (simp only [TX.inBlock, TX.then, zi, Nat.reduceEqDiff])
        | ((with_reducible first | refine hR _ _ (fun C cc => ?_) | refine hN _ _ (fun C cc => ?_)); simp (disch := omega) only [go_sem, ↓happ, ↓hone, ↓hone']; (with_reducible apply cc); clear cc C; (first | refine Ends.more (by first | rfl | simp only [go_sem, Bool.and_self]) ?_ | refine Ends.same (by first | rfl | simp only [go_sem, Bool.and_self]) ?_); (try simp only [go_sem, Bool.and_self]))
        | (with_reducible apply_assumption -exfalso -symm only [*]))
      clear happ hone hone' hacc
      refine T_each (α := Nat × TV × TS) (fun (i, lv, ρ) => [some (some (rowTV intC r)), some (some (.int .i64 n)), none, none, none, some (some (lv)), none, some (some (.int .i64 i)), none, none, none, none, none, none, none, none, none, none, none, none, none, none, none, none, none, none, none, none, none, none, none, none, none, none, none, none, none, none, none, none, none, none, none, none, none, none, none, none, none, none, none]) (fun (i, lv, ρ) => i ≤ r.l.length ∧ Acc σ.length 1 intC ((r.l.filter fun x => decide (x < n)) ++ [n] ++ (r.l.take i).filter fun x => decide (n < x)) lv ρ) (fun (i, lv, ρ) => r.l.length - i) (fun (i, lv, ρ) => σ ++ ρ) ?_ ?_
      · refine ⟨(0, lv', ρ'), ⟨rfl, rfl, rfl, rfl, trivial⟩, ⟨by omega, by simpa using hacc'⟩, rfl⟩
      · clear hacc'
        rintro ⟨i, lv, ρ⟩ q ⟨hi, hacc⟩
        show Tw _ _ _ _ ([some (rowTV intC r), some (.int .i64 n), q 2, q 3, q 4, some (lv), q 6, some (.int .i64 i), q 8, q 9, q 10, q 11, q 12, q 13, q 14, q 15, q 16, q 17, q 18, q 19, q 20, q 21, q 22, q 23, q 24, q 25, q 26, q 27, q 28, q 29, q 30, q 31, q 32, q 33, q 34, q 35, q 36, q 37, q 38, q 39, q 40, q 41, q 42, q 43, q 44, q 45, q 46, q 47, q 48, q 49, q 50]) (σ ++ ρ)
        have hone := hacc.cells
        have hal2 := ftake_len (l := r.l) (i := i) fun x => decide (n < x)
        rcases Nat.lt_or_ge i r.l.length with hlt | hge
        · obtain ⟨lv', ρ', happ, hacc'⟩ := acc_int (nth r.l i) hacc (by simp only [List.length_append, List.length_singleton]; omega)
          have hone' := hacc'.cells
          have hf := ftake (fun x => decide (n < x)) hlt
          by_cases hx : n < nth r.l i
          · rw [if_pos (by simpa using hx)] at hf
            rw [List.append_assoc, ← hf] at hacc'
            repeat' (first
              | ((with_reducible refine WL_do fun Cw cw => ?_); (first | ((with_reducible first | apply O_move | apply O_assign); (repeat rfl)) | ((with_reducible first | apply O_load | apply O_bin | apply O_indexAddr | apply O_len); (repeat rfl); simp (disch := omega) only [go_sem, ↓happ, ↓hone, ↓hone']) | ((with_reducible first | apply O_buildSlice | apply O_append); (repeat rfl); (try simp only [zc, zo, Nat.reduceBEq]); simp (disch := omega) only [go_sem, ↓happ, ↓hone, ↓hone'])); (with_reducible apply cw); (focus ((try simp only [zp]); exact rfl)); clear cw Cw)
              | ((with_reducible refine WL_nil (hK _ _ ?_)); clear hK K)
              | ((with_reducible first | refine T_reg_seq fun K hK => ?_ | refine T_reg_end fun K hK => ?_); simp only [zl])
              | ((with_reducible first | apply T_cond_seq | apply T_cond); (focus rfl))
              | (intro hg; (first | (simp only [zb] at hg; done) | ((try simp only [zb, eq_self] at hg); (have hh : True := hg); clear hh hg) | ((try simp only [zb] at hg); (try (have hh := hg; simp only [hh]; clear hh)); (try simp only [zg, zq, ne_eq, gt_iff_lt, ge_iff_le] at hg); (try (exfalso; omega)))))
              | with_reducible first | apply T_seq_assoc | apply T_skip_seq | apply T_ret_seq | apply T_exit_seq | apply T_ret | apply T_skip | apply T_exit | refine T_block_seq fun Kb hKb => ?_ | apply T_block
              | (simp only [TX.inBlock, TX.then, zi, Nat.reduceEqDiff])
              | ((with_reducible first | refine hR _ _ (fun C cc => ?_) | refine hN _ _ (fun C cc => ?_)); simp (disch := omega) only [go_sem, ↓happ, ↓hone, ↓hone']; (with_reducible apply cc); clear cc C; (first | refine Ends.more (by first | rfl | simp only [go_sem, Bool.and_self]) ?_ | refine Ends.same (by first | rfl | simp only [go_sem, Bool.and_self]) ?_); (try simp only [go_sem, Bool.and_self]))
              | (with_reducible apply_assumption -exfalso -symm only [*]))
            refine ⟨(i + 1, lv', ρ'), ?_, ⟨rfl, rfl, rfl, rfl, trivial⟩, ⟨?_, hacc'⟩, rfl⟩
            · dsimp only; omega
            · dsimp only; omega
          · rw [if_neg (by simpa using hx)] at hf
            rw [← hf] at hacc
            repeat' (first
              | ((with_reducible refine WL_do fun Cw cw => ?_); (first | ((with_reducible first | apply O_move | apply O_assign); (repeat rfl)) | ((with_reducible first | apply O_load | apply O_bin | apply O_indexAddr | apply O_len); (repeat rfl); simp (disch := omega) only [go_sem, ↓hone]) | ((with_reducible first | apply O_buildSlice | apply O_append); (repeat rfl); (try simp only [zc, zo, Nat.reduceBEq]); simp (disch := omega) only [go_sem, ↓hone])); (with_reducible apply cw); (focus ((try simp only [zp]); exact rfl)); clear cw Cw)
              | ((with_reducible refine WL_nil (hK _ _ ?_)); clear hK K)
              | ((with_reducible first | refine T_reg_seq fun K hK => ?_ | refine T_reg_end fun K hK => ?_); simp only [zl])
              | ((with_reducible first | apply T_cond_seq | apply T_cond); (focus rfl))
              | (intro hg; (first | (simp only [zb] at hg; done) | ((try simp only [zb, eq_self] at hg); (have hh : True := hg); clear hh hg) | ((try simp only [zb] at hg); (try (have hh := hg; simp only [hh]; clear hh)); (try simp only [zg, zq, ne_eq, gt_iff_lt, ge_iff_le] at hg); (try (exfalso; omega)))))
              | with_reducible first | apply T_seq_assoc | apply T_skip_seq | apply T_ret_seq | apply T_exit_seq | apply T_ret | apply T_skip | apply T_exit | refine T_block_seq fun Kb hKb => ?_ | apply T_block
              | (simp only [TX.inBlock, TX.then, zi, Nat.reduceEqDiff])
              | ((with_reducible first | refine hR _ _ (fun C cc => ?_) | refine hN _ _ (fun C cc => ?_)); simp (disch := omega) only [go_sem, ↓hone]; (with_reducible apply cc); clear cc C; (first | refine Ends.more (by first | rfl | simp only [go_sem, Bool.and_self]) ?_ | refine Ends.same (by first | rfl | simp only [go_sem, Bool.and_self]) ?_); (try simp only [go_sem, Bool.and_self]))
              | (with_reducible apply_assumption -exfalso -symm only [*]))
            refine ⟨(i + 1, lv, ρ), ?_, ⟨rfl, rfl, rfl, rfl, trivial⟩, ⟨?_, hacc⟩, rfl⟩
            · dsimp only; omega
            · dsimp only; omega
        · rw [List.take_of_length_le hge] at hacc
          rw [← hp] at hacc
          rcases hacc with ⟨h1, _⟩ | ⟨h1, j, rfl, hj⟩
          · exact absurd h1 hne
          · repeat' (first
              | ((with_reducible refine WL_do fun Cw cw => ?_); (first | ((with_reducible first | apply O_move | apply O_assign); (repeat rfl)) | ((with_reducible first | apply O_load | apply O_bin | apply O_indexAddr | apply O_len); (repeat rfl); simp (disch := omega) only [go_sem]) | ((with_reducible first | apply O_buildSlice | apply O_append); (repeat rfl); (try simp only [zc, zo, Nat.reduceBEq]); simp (disch := omega) only [go_sem])); (with_reducible apply cw); (focus ((try simp only [zp]); exact rfl)); clear cw Cw)
              | ((with_reducible refine WL_nil (hK _ _ ?_)); clear hK K)
              | ((with_reducible first | refine T_reg_seq fun K hK => ?_ | refine T_reg_end fun K hK => ?_); simp only [zl])
              | ((with_reducible first | apply T_cond_seq | apply T_cond); (focus rfl))
              | (intro hg; (first | (simp only [zb] at hg; done) | ((try simp only [zb, eq_self] at hg); (have hh : True := hg); clear hh hg) | ((try simp only [zb] at hg); (try (have hh := hg; simp only [hh]; clear hh)); (try simp only [zg, zq, ne_eq, gt_iff_lt, ge_iff_le] at hg); (try (exfalso; omega)))))
              | with_reducible first | apply T_seq_assoc | apply T_skip_seq | apply T_ret_seq | apply T_exit_seq | apply T_ret | apply T_skip | apply T_exit | refine T_block_seq fun Kb hKb => ?_ | apply T_block
              | (simp only [TX.inBlock, TX.then, zi, Nat.reduceEqDiff])
              | ((with_reducible first | refine hR _ _ (fun C cc => ?_) | refine hN _ _ (fun C cc => ?_)); simp (disch := omega) only [go_sem]; (with_reducible apply cc); clear cc C; (first | refine Ends.more (by first | rfl | simp only [go_sem, Bool.and_self]) ?_ | refine Ends.same (by first | rfl | simp only [go_sem, Bool.and_self]) ?_); (try simp only [go_sem, Bool.and_self]))
              | (with_reducible apply_assumption -exfalso -symm only [*]))
            all_goals trace_state

/-- Put in one by one. -/
def foldS (c : Cfg) (p : Link → Bool) (i : Nat) : List Int := (idsTo c p i).foldl putS []
theorem foldS_succ (c : Cfg) (p : Link → Bool) {i : Nat} (hi : i < c.vls.l.length) : foldS c p (i + 1) = if p (nth c.vls.l i) = true then putS (foldS c p i) (nth c.vls.l i).id else foldS c p i := by
  unfold foldS
  rw [idsTo_succ c p hi]
  split
  · rw [List.foldl_append]; rfl
  · rfl
theorem foldS_all (c : Cfg) (p : Link → Bool) {i : Nat} (hi : c.vls.l.length ≤ i) : foldS c p i = riseS (someS c p) := by
  rw [foldS, idsTo_all c p hi, riseS_fold]
theorem putS_len (l : List Int) (n : Int) : (putS l n).length ≤ l.length + 1 + l.length := by
  unfold putS
  rw [List.length_append, List.length_append, List.length_singleton]
  have h1 := List.length_filter_le (fun x => decide (x < n)) l
  have h2 := List.length_filter_le (fun x => decide (n < x)) l
  omega
theorem len_putS {l : List Int} {n : Int} (h : l.Pairwise (· < ·)) : (putS l n).length ≤ l.length + 1 := by
  unfold putS
  rw [List.length_append, List.length_append, List.length_singleton]
  have : (l.filter fun x => decide (x < n)).length + (l.filter fun x => decide (n < x)).length ≤ l.length := by
    clear h
    induction l with
    | nil => simp
    | cons x l ih =>
      simp only [List.filter_cons]
      by_cases h1 : x < n
      · have h2 : ¬ (n < x) := by omega
        simp only [decide_eq_true h1, decide_eq_false h2, if_true, Bool.false_eq_true, if_false, List.length_cons]
        omega
      · by_cases h2 : n < x
        · simp only [decide_eq_false h1, decide_eq_true h2, if_true, Bool.false_eq_true, if_false, List.length_cons]
          omega
        · simp only [decide_eq_false h1, decide_eq_false h2, Bool.false_eq_true, if_false, List.length_cons]
          omega
  omega
theorem foldS_len (c : Cfg) (p : Link → Bool) : ∀ i, i ≤ c.vls.l.length → (foldS c p i).length ≤ i ∧ (foldS c p i).Pairwise (· < ·)
  | 0, _ => by simp [foldS, idsTo]
  | i + 1, h => by
    obtain ⟨h1, h2⟩ := foldS_len c p i (by omega)
    rw [foldS_succ c p (by omega)]
    split
    · exact ⟨by have := len_putS (n := (nth c.vls.l i).id) h2; omega, (putS_rises h2).1⟩
    · exact ⟨by omega, h2⟩

theorem refsends_walk (c : Cfg) (h : Int) (σ : TS) (hl : c.vls.l.length ≤ 1000) : TPure Try.prog 65 [cfgTV c, .int .i64 h] σ (rowTV intC (rowOf (riseS (someS c fun v => v.host == h)))) := by
  obtain ⟨p, ep⟩ : ∃ p : Link → Bool, p = fun v => v.host == h := ⟨_, rfl⟩
  rw [← ep]
  refine pure_of [] [.tmp 4] Try.func65 (by kernel_rfl) rfl (by kernel_rfl) fun X hR hN => ?_
  show Tw _ _ _ _ ([some _, some _] ++ List.replicate 29 none) _
  simp only [List.replicate, List.cons_append, List.nil_append]
  repeat' (first
    | ((with_reducible refine WL_do fun Cw cw => ?_); (first | ((with_reducible first | apply O_move | apply O_assign); (repeat rfl)) | ((with_reducible first | apply O_load | apply O_fieldAddr | apply O_bin | apply O_indexAddr | apply O_len | apply O_box); (repeat rfl); simp (disch := omega) only [go_sem])); (with_reducible apply cw); (focus ((try simp only [zp]); exact rfl)); clear cw Cw)
    | ((with_reducible refine WL_nil (hK _ _ ?_)); clear hK K)
    | ((with_reducible first | refine T_reg_seq fun K hK => ?_ | refine T_reg_end fun K hK => ?_); simp only [zl])
    | ((with_reducible first | apply T_cond_seq | apply T_cond); (focus rfl))
    | (intro hg; (first | (simp only [zb] at hg; done) | ((try simp only [zb, eq_self] at hg); (have hh : True := hg); clear hh hg) | ((try simp only [zb] at hg); (try (have hh := hg; simp only [hh]; clear hh)); (try simp only [zg, zq, ne_eq, gt_iff_lt, ge_iff_le] at hg); (try (exfalso; omega)))))
    | with_reducible first | apply T_seq_assoc | apply T_skip_seq | apply T_ret_seq | apply T_exit_seq | apply T_ret | apply T_skip | apply T_exit | refine T_block_seq fun Kb hKb => ?_ | apply T_block
    | (simp only [TX.inBlock, TX.then, zi, Nat.reduceEqDiff])
    | ((with_reducible first | refine hR _ _ (fun C cc => ?_) | refine hN _ _ (fun C cc => ?_)); simp (disch := omega) only [go_sem]; (with_reducible apply cc); clear cc C; (first | refine Ends.more (by first | rfl | simp only [go_sem, Bool.and_self]) ?_ | refine Ends.same (by first | rfl | simp only [go_sem, Bool.and_self]) ?_); (try simp only [go_sem, Bool.and_self]))
    | (with_reducible apply_assumption -exfalso -symm only [*]))
  refine T_each (α := Nat) (fun i => [none, some (some (.int .i64 h)), some (some (.ptr σ.length 0)), none, none, some (some (rowTV intC (rowOf (foldS c p i)))), some (some (.int .i64 i)), none, none, none, none, none, none, none, none, none, none, none, none, none, none, none, none, none, none, none, none, none, none, none, none]) (fun i => i ≤ c.vls.l.length) (fun i => c.vls.l.length - i) (fun i => σ ++ [.cells (cfgC c)]) ?_ ?_
  · refine ⟨(0), ⟨rfl, rfl, rfl, rfl, trivial⟩, ?_, rfl⟩
    omega
  · rintro i q hi
    show Tw _ _ _ _ ([q 0, some (.int .i64 h), some (.ptr σ.length 0), q 3, q 4, some (rowTV intC (rowOf (foldS c p i))), some (.int .i64 i), q 7, q 8, q 9, q 10, q 11, q 12, q 13, q 14, q 15, q 16, q 17, q 18, q 19, q 20, q 21, q 22, q 23, q 24, q 25, q 26, q 27, q 28, q 29, q 30]) (σ ++ [.cells (cfgC c)])
    have hput := fun τ => refput_walk (rowOf (foldS c p i)) (nth c.vls.l i).id τ (by have := (foldS_len c p i hi).1; show (foldS c p i).length ≤ _; omega)
    rcases Nat.lt_or_ge i c.vls.l.length with hlt | hge
    · have hs := foldS_succ c p hlt
      by_cases hx : (nth c.vls.l i).host = h
      · rw [if_pos (by rw [ep]; simpa using hx)] at hs
        have e1 : putS (rowOf (foldS c p i)).l (nth c.vls.l i).id = foldS c p (i + 1) := hs.symm
        rw [e1] at hput
        repeat' (first
          | ((with_reducible refine WL_do fun Cw cw => ?_); (first | ((with_reducible first | apply O_move | apply O_assign); (repeat rfl)) | ((with_reducible first | apply O_load | apply O_fieldAddr | apply O_bin | apply O_indexAddr | apply O_len | apply O_box); (repeat rfl); simp (disch := omega) only [go_sem, hx]) | ((with_reducible first | apply O_callF | apply O_call); (repeat rfl); (try simp only [za]); (refine TPure.go (by (apply hput) <;> first | assumption | omega | exact Eq.trans (get_old (by assumption)) (by assumption)) ?_))); (with_reducible apply cw); (focus ((try simp only [zp]); exact rfl)); clear cw Cw)
          | ((with_reducible refine WL_nil (hK _ _ ?_)); clear hK K)
          | ((with_reducible first | refine T_reg_seq fun K hK => ?_ | refine T_reg_end fun K hK => ?_); simp only [zl])
          | ((with_reducible first | apply T_cond_seq | apply T_cond); (focus rfl))
          | (intro hg; (first | (simp only [zb] at hg; done) | ((try simp only [zb, eq_self] at hg); (have hh : True := hg); clear hh hg) | ((try simp only [zb] at hg); (try (have hh := hg; simp only [hh]; clear hh)); (try simp only [zg, zq, ne_eq, gt_iff_lt, ge_iff_le] at hg); (try (exfalso; omega)))))
          | with_reducible first | apply T_seq_assoc | apply T_skip_seq | apply T_ret_seq | apply T_exit_seq | apply T_ret | apply T_skip | apply T_exit | refine T_block_seq fun Kb hKb => ?_ | apply T_block
          | (simp only [TX.inBlock, TX.then, zi, Nat.reduceEqDiff])
          | ((with_reducible first | refine hR _ _ (fun C cc => ?_) | refine hN _ _ (fun C cc => ?_)); simp (disch := omega) only [go_sem, hx]; (with_reducible apply cc); clear cc C; (first | refine Ends.more (by first | rfl | simp only [go_sem, Bool.and_self]) ?_ | refine Ends.same (by first | rfl | simp only [go_sem, Bool.and_self]) ?_); (try simp only [go_sem, Bool.and_self]))
          | (with_reducible apply_assumption -exfalso -symm only [*]))
        all_goals (refine ⟨i + 1, ?_, ⟨rfl, rfl, rfl, rfl, trivial⟩, ?_, (by first | rfl | trivial)⟩ <;> (try dsimp only) <;> omega)
      · rw [if_neg (by rw [ep]; simpa using hx)] at hs
        rw [← hs] at *
        repeat' (first
          | ((with_reducible refine WL_do fun Cw cw => ?_); (first | ((with_reducible first | apply O_move | apply O_assign); (repeat rfl)) | ((with_reducible first | apply O_load | apply O_fieldAddr | apply O_bin | apply O_indexAddr | apply O_len | apply O_box); (repeat rfl); simp (disch := omega) only [go_sem, hx])); (with_reducible apply cw); (focus ((try simp only [zp]); exact rfl)); clear cw Cw)
          | ((with_reducible refine WL_nil (hK _ _ ?_)); clear hK K)
          | ((with_reducible first | refine T_reg_seq fun K hK => ?_ | refine T_reg_end fun K hK => ?_); simp only [zl])
          | ((with_reducible first | apply T_cond_seq | apply T_cond); (focus rfl))
          | (intro hg; (first | (simp only [zb] at hg; done) | ((try simp only [zb, eq_self] at hg); (have hh : True := hg); clear hh hg) | ((try simp only [zb] at hg); (try (have hh := hg; simp only [hh]; clear hh)); (try simp only [zg, zq, ne_eq, gt_iff_lt, ge_iff_le] at hg); (try (exfalso; omega)))))
          | with_reducible first | apply T_seq_assoc | apply T_skip_seq | apply T_ret_seq | apply T_exit_seq | apply T_ret | apply T_skip | apply T_exit | refine T_block_seq fun Kb hKb => ?_ | apply T_block
          | (simp only [TX.inBlock, TX.then, zi, Nat.reduceEqDiff])
          | ((with_reducible first | refine hR _ _ (fun C cc => ?_) | refine hN _ _ (fun C cc => ?_)); simp (disch := omega) only [go_sem, hx]; (with_reducible apply cc); clear cc C; (first | refine Ends.more (by first | rfl | simp only [go_sem, Bool.and_self]) ?_ | refine Ends.same (by first | rfl | simp only [go_sem, Bool.and_self]) ?_); (try simp only [go_sem, Bool.and_self]))
          | (with_reducible apply_assumption -exfalso -symm only [*]))
        all_goals (refine ⟨i + 1, ?_, ⟨rfl, rfl, rfl, rfl, trivial⟩, ?_, (by first | rfl | trivial)⟩ <;> (try dsimp only) <;> omega)
    · have hf := foldS_all c p hge
      rw [hf]
      repeat' (first
        | ((with_reducible refine WL_do fun Cw cw => ?_); (first | ((with_reducible first | apply O_move | apply O_assign); (repeat rfl)) | ((with_reducible first | apply O_load | apply O_fieldAddr | apply O_bin | apply O_indexAddr | apply O_len | apply O_box); (repeat rfl); simp (disch := omega) only [go_sem])); (with_reducible apply cw); (focus ((try simp only [zp]); exact rfl)); clear cw Cw)
        | ((with_reducible refine WL_nil (hK _ _ ?_)); clear hK K)
        | ((with_reducible first | refine T_reg_seq fun K hK => ?_ | refine T_reg_end fun K hK => ?_); simp only [zl])
        | ((with_reducible first | apply T_cond_seq | apply T_cond); (focus rfl))
        | (intro hg; (first | (simp only [zb] at hg; done) | ((try simp only [zb, eq_self] at hg); (have hh : True := hg); clear hh hg) | ((try simp only [zb] at hg); (try (have hh := hg; simp only [hh]; clear hh)); (try simp only [zg, zq, ne_eq, gt_iff_lt, ge_iff_le] at hg); (try (exfalso; omega)))))
        | with_reducible first | apply T_seq_assoc | apply T_skip_seq | apply T_ret_seq | apply T_exit_seq | apply T_ret | apply T_skip | apply T_exit | refine T_block_seq fun Kb hKb => ?_ | apply T_block
        | (simp only [TX.inBlock, TX.then, zi, Nat.reduceEqDiff])
        | ((with_reducible first | refine hR _ _ (fun C cc => ?_) | refine hN _ _ (fun C cc => ?_)); simp (disch := omega) only [go_sem]; (with_reducible apply cc); clear cc C; (first | refine Ends.more (by first | rfl | simp only [go_sem, Bool.and_self]) ?_ | refine Ends.same (by first | rfl | simp only [go_sem, Bool.and_self]) ?_); (try simp only [go_sem, Bool.and_self]))
        | (with_reducible apply_assumption -exfalso -symm only [*]))
      all_goals trace_state
theorem reftakes_walk (c : Cfg) (h : Int) (σ : TS) (hl : c.vls.l.length ≤ 1000) (hto : ∀ v ∈ c.vls.l, v.to.l.length ≤ 9223372036854775806) : TPure Try.prog 66 [cfgTV c, .int .i64 h] σ (rowTV intC (rowOf (riseS (someS c fun v => v.to.l.contains h)))) := by
  obtain ⟨p, ep⟩ : ∃ p : Link → Bool, p = fun v => v.to.l.contains h := ⟨_, rfl⟩
  rw [← ep]
  refine pure_of [] [.tmp 4] Try.func66 (by kernel_rfl) rfl (by kernel_rfl) fun X hR hN => ?_
  show Tw _ _ _ _ ([some _, some _] ++ List.replicate 29 none) _
  simp only [List.replicate, List.cons_append, List.nil_append]
  repeat' (first
    | ((with_reducible refine WL_do fun Cw cw => ?_); (first | ((with_reducible first | apply O_move | apply O_assign); (repeat rfl)) | ((with_reducible first | apply O_load | apply O_fieldAddr | apply O_bin | apply O_indexAddr | apply O_len | apply O_box); (repeat rfl); simp (disch := omega) only [go_sem])); (with_reducible apply cw); (focus ((try simp only [zp]); exact rfl)); clear cw Cw)
    | ((with_reducible refine WL_nil (hK _ _ ?_)); clear hK K)
    | ((with_reducible first | refine T_reg_seq fun K hK => ?_ | refine T_reg_end fun K hK => ?_); simp only [zl])
    | ((with_reducible first | apply T_cond_seq | apply T_cond); (focus rfl))
    | (intro hg; (first | (simp only [zb] at hg; done) | ((try simp only [zb, eq_self] at hg); (have hh : True := hg); clear hh hg) | ((try simp only [zb] at hg); (try (have hh := hg; simp only [hh]; clear hh)); (try simp only [zg, zq, ne_eq, gt_iff_lt, ge_iff_le] at hg); (try (exfalso; omega)))))
    | with_reducible first | apply T_seq_assoc | apply T_skip_seq | apply T_ret_seq | apply T_exit_seq | apply T_ret | apply T_skip | apply T_exit | refine T_block_seq fun Kb hKb => ?_ | apply T_block
    | (simp only [TX.inBlock, TX.then, zi, Nat.reduceEqDiff])
    | ((with_reducible first | refine hR _ _ (fun C cc => ?_) | refine hN _ _ (fun C cc => ?_)); simp (disch := omega) only [go_sem]; (with_reducible apply cc); clear cc C; (first | refine Ends.more (by first | rfl | simp only [go_sem, Bool.and_self]) ?_ | refine Ends.same (by first | rfl | simp only [go_sem, Bool.and_self]) ?_); (try simp only [go_sem, Bool.and_self]))
    | (with_reducible apply_assumption -exfalso -symm only [*]))
  refine T_each (α := Nat) (fun i => [none, some (some (.int .i64 h)), some (some (.ptr σ.length 0)), none, none, some (some (rowTV intC (rowOf (foldS c p i)))), some (some (.int .i64 i)), none, none, none, none, none, none, none, none, none, none, none, none, none, none, none, none, none, none, none, none, none, none, none, none]) (fun i => i ≤ c.vls.l.length) (fun i => c.vls.l.length - i) (fun i => σ ++ [.cells (cfgC c)]) ?_ ?_
  · refine ⟨(0), ⟨rfl, rfl, rfl, rfl, trivial⟩, ?_, rfl⟩
    omega
  · rintro i q hi
    show Tw _ _ _ _ ([q 0, some (.int .i64 h), some (.ptr σ.length 0), q 3, q 4, some (rowTV intC (rowOf (foldS c p i))), some (.int .i64 i), q 7, q 8, q 9, q 10, q 11, q 12, q 13, q 14, q 15, q 16, q 17, q 18, q 19, q 20, q 21, q 22, q 23, q 24, q 25, q 26, q 27, q 28, q 29, q 30]) (σ ++ [.cells (cfgC c)])
    have hput := fun τ => refput_walk (rowOf (foldS c p i)) (nth c.vls.l i).id τ (by have := (foldS_len c p i hi).1; show (foldS c p i).length ≤ _; omega)
    rcases Nat.lt_or_ge i c.vls.l.length with hlt | hge
    · have hs := foldS_succ c p hlt
      have hhas := fun τ => refhas_walk (nth c.vls.l i).to h τ (hto _ (nth_mem hlt))
      cases hx : (nth c.vls.l i).to.l.contains h with
      | true =>
        rw [hx] at hhas
        rw [if_pos (by rw [ep]; exact hx)] at hs
        have e1 : putS (rowOf (foldS c p i)).l (nth c.vls.l i).id = foldS c p (i + 1) := hs.symm
        rw [e1] at hput
        repeat' (first
          | ((with_reducible refine WL_do fun Cw cw => ?_); (first | ((with_reducible first | apply O_move | apply O_assign); (repeat rfl)) | ((with_reducible first | apply O_load | apply O_fieldAddr | apply O_bin | apply O_indexAddr | apply O_len | apply O_box); (repeat rfl); simp (disch := omega) only [go_sem]) | ((with_reducible first | apply O_callF | apply O_call); (repeat rfl); (try simp only [za]); (refine TPure.go (by (first | apply hput | apply hhas) <;> first | assumption | omega | exact Eq.trans (get_old (by assumption)) (by assumption)) ?_))); (with_reducible apply cw); (focus ((try simp only [zp]); exact rfl)); clear cw Cw)
          | ((with_reducible refine WL_nil (hK _ _ ?_)); clear hK K)
          | ((with_reducible first | refine T_reg_seq fun K hK => ?_ | refine T_reg_end fun K hK => ?_); simp only [zl])
          | ((with_reducible first | apply T_cond_seq | apply T_cond); (focus rfl))
          | (intro hg; (first | (simp only [zb] at hg; done) | ((try simp only [zb, eq_self] at hg); (have hh : True := hg); clear hh hg) | ((try simp only [zb] at hg); (try (have hh := hg; simp only [hh]; clear hh)); (try simp only [zg, zq, ne_eq, gt_iff_lt, ge_iff_le] at hg); (try (exfalso; omega)))))
          | with_reducible first | apply T_seq_assoc | apply T_skip_seq | apply T_ret_seq | apply T_exit_seq | apply T_ret | apply T_skip | apply T_exit | refine T_block_seq fun Kb hKb => ?_ | apply T_block
          | (simp only [TX.inBlock, TX.then, zi, Nat.reduceEqDiff])
          | ((with_reducible first | refine hR _ _ (fun C cc => ?_) | refine hN _ _ (fun C cc => ?_)); simp (disch := omega) only [go_sem]; (with_reducible apply cc); clear cc C; (first | refine Ends.more (by first | rfl | simp only [go_sem, Bool.and_self]) ?_ | refine Ends.same (by first | rfl | simp only [go_sem, Bool.and_self]) ?_); (try simp only [go_sem, Bool.and_self]))
          | (with_reducible apply_assumption -exfalso -symm only [*]))
        all_goals (refine ⟨i + 1, ?_, ⟨rfl, rfl, rfl, rfl, trivial⟩, ?_, (by first | rfl | trivial)⟩ <;> (try dsimp only) <;> omega)
      | false =>
        rw [hx] at hhas
        rw [if_neg (by rw [ep]; dsimp only; rw [hx]; decide)] at hs
        rw [← hs] at *
        repeat' (first
          | ((with_reducible refine WL_do fun Cw cw => ?_); (first | ((with_reducible first | apply O_move | apply O_assign); (repeat rfl)) | ((with_reducible first | apply O_load | apply O_fieldAddr | apply O_bin | apply O_indexAddr | apply O_len | apply O_box); (repeat rfl); simp (disch := omega) only [go_sem]) | ((with_reducible first | apply O_callF | apply O_call); (repeat rfl); (try simp only [za]); (refine TPure.go (by (apply hhas) <;> first | assumption | omega | exact Eq.trans (get_old (by assumption)) (by assumption)) ?_))); (with_reducible apply cw); (focus ((try simp only [zp]); exact rfl)); clear cw Cw)
          | ((with_reducible refine WL_nil (hK _ _ ?_)); clear hK K)
          | ((with_reducible first | refine T_reg_seq fun K hK => ?_ | refine T_reg_end fun K hK => ?_); simp only [zl])
          | ((with_reducible first | apply T_cond_seq | apply T_cond); (focus rfl))
          | (intro hg; (first | (simp only [zb] at hg; done) | ((try simp only [zb, eq_self] at hg); (have hh : True := hg); clear hh hg) | ((try simp only [zb] at hg); (try (have hh := hg; simp only [hh]; clear hh)); (try simp only [zg, zq, ne_eq, gt_iff_lt, ge_iff_le] at hg); (try (exfalso; omega)))))
          | with_reducible first | apply T_seq_assoc | apply T_skip_seq | apply T_ret_seq | apply T_exit_seq | apply T_ret | apply T_skip | apply T_exit | refine T_block_seq fun Kb hKb => ?_ | apply T_block
          | (simp only [TX.inBlock, TX.then, zi, Nat.reduceEqDiff])
          | ((with_reducible first | refine hR _ _ (fun C cc => ?_) | refine hN _ _ (fun C cc => ?_)); simp (disch := omega) only [go_sem]; (with_reducible apply cc); clear cc C; (first | refine Ends.more (by first | rfl | simp only [go_sem, Bool.and_self]) ?_ | refine Ends.same (by first | rfl | simp only [go_sem, Bool.and_self]) ?_); (try simp only [go_sem, Bool.and_self]))
          | (with_reducible apply_assumption -exfalso -symm only [*]))
        all_goals (refine ⟨i + 1, ?_, ⟨rfl, rfl, rfl, rfl, trivial⟩, ?_, (by first | rfl | trivial)⟩ <;> (try dsimp only) <;> omega)
    · have hf := foldS_all c p hge
      rw [hf]
      repeat' (first
        | ((with_reducible refine WL_do fun Cw cw => ?_); (first | ((with_reducible first | apply O_move | apply O_assign); (repeat rfl)) | ((with_reducible first | apply O_load | apply O_fieldAddr | apply O_bin | apply O_indexAddr | apply O_len | apply O_box); (repeat rfl); simp (disch := omega) only [go_sem])); (with_reducible apply cw); (focus ((try simp only [zp]); exact rfl)); clear cw Cw)
        | ((with_reducible refine WL_nil (hK _ _ ?_)); clear hK K)
        | ((with_reducible first | refine T_reg_seq fun K hK => ?_ | refine T_reg_end fun K hK => ?_); simp only [zl])
        | ((with_reducible first | apply T_cond_seq | apply T_cond); (focus rfl))
        | (intro hg; (first | (simp only [zb] at hg; done) | ((try simp only [zb, eq_self] at hg); (have hh : True := hg); clear hh hg) | ((try simp only [zb] at hg); (try (have hh := hg; simp only [hh]; clear hh)); (try simp only [zg, zq, ne_eq, gt_iff_lt, ge_iff_le] at hg); (try (exfalso; omega)))))
        | with_reducible first | apply T_seq_assoc | apply T_skip_seq | apply T_ret_seq | apply T_exit_seq | apply T_ret | apply T_skip | apply T_exit | refine T_block_seq fun Kb hKb => ?_ | apply T_block
        | (simp only [TX.inBlock, TX.then, zi, Nat.reduceEqDiff])
        | ((with_reducible first | refine hR _ _ (fun C cc => ?_) | refine hN _ _ (fun C cc => ?_)); simp (disch := omega) only [go_sem]; (with_reducible apply cc); clear cc C; (first | refine Ends.more (by first | rfl | simp only [go_sem, Bool.and_self]) ?_ | refine Ends.same (by first | rfl | simp only [go_sem, Bool.and_self]) ?_); (try simp only [go_sem, Bool.and_self]))
        | (with_reducible apply_assumption -exfalso -symm only [*]))
      all_goals trace_state

abbrev port0C : Port := ⟨0, 0, 0, 0, false, 0, 0, 0, 0, 0, 0⟩
abbrev findQTV (c : Cfg) (id : Int) : TV := match findP c.ports.l id with | some v => .tup [.agg (portC v), .bool true] | none => .tup [.agg (portC port0C), .bool false]
theorem refPort_walk (c : Cfg) (id : Int) (σ : TS) (hl : c.ports.l.length ≤ 9223372036854775806) : TPure Try.prog 62 [cfgTV c, .int .i64 id] σ (findQTV c id) := by
  refine pure_of [] [.cell 4 38, .tmp 5] Try.func62 (by kernel_rfl) rfl (by kernel_rfl) fun X hR hN => ?_
  show Tw _ _ _ _ ([some _, some _] ++ List.replicate 26 none) _
  simp only [List.replicate, List.cons_append, List.nil_append]
  repeat' (first
    | ((with_reducible refine WL_do fun Cw cw => ?_); (first | ((with_reducible first | apply O_move | apply O_assign); (repeat rfl)) | ((with_reducible first | apply O_load | apply O_fieldAddr | apply O_bin | apply O_indexAddr | apply O_len | apply O_store | apply O_alloc | apply O_box | apply O_build); (repeat rfl); simp (disch := omega) only [go_sem])); (with_reducible apply cw); (focus ((try simp only [zp]); exact rfl)); clear cw Cw)
    | ((with_reducible refine WL_nil (hK _ _ ?_)); clear hK K)
    | ((with_reducible first | refine T_reg_seq fun K hK => ?_ | refine T_reg_end fun K hK => ?_); simp only [zl])
    | ((with_reducible first | apply T_cond_seq | apply T_cond); (focus rfl))
    | (intro hg; (first | (simp only [zb] at hg; done) | ((try simp only [zb, eq_self] at hg); (have hh : True := hg); clear hh hg) | ((try simp only [zb] at hg); (try (have hh := hg; simp only [hh]; clear hh)); (try simp only [zg, zq, ne_eq, gt_iff_lt, ge_iff_le] at hg); (try (exfalso; omega)))))
    | with_reducible first | apply T_seq_assoc | apply T_skip_seq | apply T_ret_seq | apply T_exit_seq | apply T_ret | apply T_skip | apply T_exit | refine T_block_seq fun Kb hKb => ?_ | apply T_block
    | (simp only [TX.inBlock, TX.then, zi, Nat.reduceEqDiff])
    | ((with_reducible first | refine hR _ _ (fun C cc => ?_) | refine hN _ _ (fun C cc => ?_)); simp (disch := omega) only [go_sem]; (with_reducible apply cc); clear cc C; (first | refine Ends.more (by first | rfl | simp only [go_sem, Bool.and_self]) ?_ | refine Ends.same (by first | rfl | simp only [go_sem, Bool.and_self]) ?_); (try simp only [go_sem, Bool.and_self]))
    | (with_reducible apply_assumption -exfalso -symm only [*]))
  refine T_each (α := Nat) (fun i => [none, some (some (.int .i64 id)), some (some (.ptr σ.length 0)), none, some (some (.ptr (σ.length + 1) 0)), none, some (some (.int .i64 i)), none, none, none, none, none, none, none, none, none, none, none, none, none, none, none, none, none, none, none, none, none]) (fun i => i ≤ c.ports.l.length ∧ ∀ k, k < i → (nth c.ports.l k).id ≠ id) (fun i => c.ports.l.length - i) (fun i => σ ++ [.cells (cfgC c), .cells (portC port0C)]) ?_ ?_
  · refine ⟨(0), ⟨rfl, rfl, rfl, rfl, trivial⟩, ?_, rfl⟩
    exact ⟨by omega, fun k hk => by omega⟩
  · rintro i q ⟨hi, hno⟩
    show Tw _ _ _ _ ([q 0, some (.int .i64 id), some (.ptr σ.length 0), q 3, some (.ptr (σ.length + 1) 0), q 5, some (.int .i64 i), q 7, q 8, q 9, q 10, q 11, q 12, q 13, q 14, q 15, q 16, q 17, q 18, q 19, q 20, q 21, q 22, q 23, q 24, q 25, q 26, q 27]) (σ ++ [.cells (cfgC c), .cells (portC port0C)])
    repeat' (first
      | ((with_reducible refine WL_do fun Cw cw => ?_); (first | ((with_reducible first | apply O_move | apply O_assign); (repeat rfl)) | ((with_reducible first | apply O_load | apply O_fieldAddr | apply O_bin | apply O_indexAddr | apply O_len | apply O_store | apply O_alloc | apply O_box | apply O_build); (repeat rfl); simp (disch := omega) only [go_sem])); (with_reducible apply cw); (focus ((try simp only [zp]); exact rfl)); clear cw Cw)
      | ((with_reducible refine WL_nil (hK _ _ ?_)); clear hK K)
      | ((with_reducible first | refine T_reg_seq fun K hK => ?_ | refine T_reg_end fun K hK => ?_); simp only [zl])
      | ((with_reducible first | apply T_cond_seq | apply T_cond); (focus rfl))
      | (intro hg; (first | (simp only [zb] at hg; done) | ((try simp only [zb, eq_self] at hg); (have hh : True := hg); clear hh hg) | ((try simp only [zb] at hg); (try (have hh := hg; simp only [hh]; clear hh)); (try simp only [zg, zq, ne_eq, gt_iff_lt, ge_iff_le] at hg); (try (exfalso; omega)))))
      | with_reducible first | apply T_seq_assoc | apply T_skip_seq | apply T_ret_seq | apply T_exit_seq | apply T_ret | apply T_skip | apply T_exit | refine T_block_seq fun Kb hKb => ?_ | apply T_block
      | (simp only [TX.inBlock, TX.then, zi, Nat.reduceEqDiff])
      | ((with_reducible first | refine hR _ _ (fun C cc => ?_) | refine hN _ _ (fun C cc => ?_)); simp (disch := omega) only [go_sem]; (with_reducible apply cc); clear cc C; (first | refine Ends.more (by first | rfl | simp only [go_sem, Bool.and_self]) ?_ | refine Ends.same (by first | rfl | simp only [go_sem, Bool.and_self]) ?_); (try simp only [go_sem, Bool.and_self]))
      | (with_reducible apply_assumption -exfalso -symm only [*]))
    · rw [findQTV, findP_some (by assumption) hno (by assumption)]
    · refine ⟨(i + 1), ?_, ⟨rfl, rfl, rfl, rfl, trivial⟩, ?_, (by first | rfl | trivial)⟩
      all_goals (try dsimp only)
      · omega
      · exact ⟨by omega, upto hno (by assumption)⟩
    · rw [findQTV, findP_none fun k hk => hno k (by omega)]
theorem ownPort_walk (c : Cfg) (id : Int) (σ : TS) (hl : c.ports.l.length ≤ 9223372036854775806) : TPure Try.prog 61 [cfgTV c, .int .i64 id] σ (findQTV c id) := by
  refine pure_of [] [.cell 4 38, .tmp 5] Try.func61 (by kernel_rfl) rfl (by kernel_rfl) fun X hR hN => ?_
  show Tw _ _ _ _ ([some _, some _] ++ List.replicate 20 none) _
  simp only [List.replicate, List.cons_append, List.nil_append]
  repeat' (first
    | ((with_reducible refine WL_do fun Cw cw => ?_); (first | ((with_reducible first | apply O_move | apply O_assign); (repeat rfl)) | ((with_reducible first | apply O_load | apply O_fieldAddr | apply O_bin | apply O_indexAddr | apply O_len | apply O_store | apply O_alloc | apply O_box | apply O_build); (repeat rfl); simp (disch := omega) only [go_sem])); (with_reducible apply cw); (focus ((try simp only [zp]); exact rfl)); clear cw Cw)
    | ((with_reducible refine WL_nil (hK _ _ ?_)); clear hK K)
    | ((with_reducible first | refine T_reg_seq fun K hK => ?_ | refine T_reg_end fun K hK => ?_); simp only [zl])
    | ((with_reducible first | apply T_cond_seq | apply T_cond); (focus rfl))
    | (intro hg; (first | (simp only [zb] at hg; done) | ((try simp only [zb, eq_self] at hg); (have hh : True := hg); clear hh hg) | ((try simp only [zb] at hg); (try (have hh := hg; simp only [hh]; clear hh)); (try simp only [zg, zq, ne_eq, gt_iff_lt, ge_iff_le] at hg); (try (exfalso; omega)))))
    | with_reducible first | apply T_seq_assoc | apply T_skip_seq | apply T_ret_seq | apply T_exit_seq | apply T_ret | apply T_skip | apply T_exit | refine T_block_seq fun Kb hKb => ?_ | apply T_block
    | (simp only [TX.inBlock, TX.then, zi, Nat.reduceEqDiff])
    | ((with_reducible first | refine hR _ _ (fun C cc => ?_) | refine hN _ _ (fun C cc => ?_)); simp (disch := omega) only [go_sem]; (with_reducible apply cc); clear cc C; (first | refine Ends.more (by first | rfl | simp only [go_sem, Bool.and_self]) ?_ | refine Ends.same (by first | rfl | simp only [go_sem, Bool.and_self]) ?_); (try simp only [go_sem, Bool.and_self]))
    | (with_reducible apply_assumption -exfalso -symm only [*]))
  refine T_each (α := Nat × TS) (fun (i, τ) => [none, some (some (.int .i64 id)), none, none, some (some (.ptr (σ.length + 1) 0)), none, none, none, none, some (some (rowTV portC c.ports)), some (some (.int .i64 c.ports.l.length)), some (some (.int .i64 i)), none, none, none, none, none, none, none, none, none, none]) (fun (i, τ) => i ≤ c.ports.l.length ∧ ∀ k, k < i → (nth c.ports.l k).id ≠ id) (fun (i, τ) => c.ports.l.length - i) (fun (i, τ) => σ ++ (.cells (cfgC c) :: .cells (portC port0C) :: τ)) ?_ ?_
  · refine ⟨(0, []), ⟨rfl, rfl, rfl, rfl, rfl, trivial⟩, ?_, rfl⟩
    exact ⟨by omega, fun k hk => by omega⟩
  · rintro ⟨i, τ⟩ q ⟨hi, hno⟩
    show Tw _ _ _ _ ([q 0, some (.int .i64 id), q 2, q 3, some (.ptr (σ.length + 1) 0), q 5, q 6, q 7, q 8, some (rowTV portC c.ports), some (.int .i64 c.ports.l.length), some (.int .i64 i), q 12, q 13, q 14, q 15, q 16, q 17, q 18, q 19, q 20, q 21]) (σ ++ (.cells (cfgC c) :: .cells (portC port0C) :: τ))
    repeat' (first
      | ((with_reducible refine WL_do fun Cw cw => ?_); (first | ((with_reducible first | apply O_move | apply O_assign); (repeat rfl)) | ((with_reducible first | apply O_load | apply O_fieldAddr | apply O_bin | apply O_indexAddr | apply O_len | apply O_store | apply O_alloc | apply O_box | apply O_build); (repeat rfl); simp (disch := omega) only [go_sem])); (with_reducible apply cw); (focus ((try simp only [zp]); exact rfl)); clear cw Cw)
      | ((with_reducible refine WL_nil (hK _ _ ?_)); clear hK K)
      | ((with_reducible first | refine T_reg_seq fun K hK => ?_ | refine T_reg_end fun K hK => ?_); simp only [zl])
      | ((with_reducible first | apply T_cond_seq | apply T_cond); (focus rfl))
      | (intro hg; (first | (simp only [zb] at hg; done) | ((try simp only [zb, eq_self] at hg); (have hh : True := hg); clear hh hg) | ((try simp only [zb] at hg); (try (have hh := hg; simp only [hh]; clear hh)); (try simp only [zg, zq, ne_eq, gt_iff_lt, ge_iff_le] at hg); (try (exfalso; omega)))))
      | with_reducible first | apply T_seq_assoc | apply T_skip_seq | apply T_ret_seq | apply T_exit_seq | apply T_ret | apply T_skip | apply T_exit | refine T_block_seq fun Kb hKb => ?_ | apply T_block
      | (simp only [TX.inBlock, TX.then, zi, Nat.reduceEqDiff])
      | ((with_reducible first | refine hR _ _ (fun C cc => ?_) | refine hN _ _ (fun C cc => ?_)); simp (disch := omega) only [go_sem]; (with_reducible apply cc); clear cc C; (first | refine Ends.more (by first | rfl | simp only [go_sem, Bool.and_self]) ?_ | refine Ends.same (by first | rfl | simp only [go_sem, Bool.and_self]) ?_); (try simp only [go_sem, Bool.and_self]))
      | (with_reducible apply_assumption -exfalso -symm only [*]))
    · rw [findQTV, findP_some (by assumption) hno (by assumption)]
    · refine ⟨(i + 1, τ ++ [_]), ?_, ⟨rfl, rfl, rfl, rfl, rfl, trivial⟩, ⟨?_, upto hno (by assumption)⟩, rfl⟩ <;> (try dsimp only) <;> omega
    · rw [findQTV, findP_none fun k hk => hno k (by omega)]

theorem ints10_walk (r s : Row Int) (e : s.l = r.l) (hl : r.l.length ≤ 9223372036854775806) (σ : TS) : TPure Try.prog 63 [rowTV intC r, rowTV intC s] σ (.bool true) := by
  have hs : s.l.length = r.l.length := by rw [e]
  have hn : ∀ i, nth s.l i = nth r.l i := fun i => by rw [e]
  refine pure_of [] [.tmp 4] Try.func63 (by kernel_rfl) rfl (by kernel_rfl) fun X hR hN => ?_
  show Tw _ _ _ _ ([some _, some _] ++ List.replicate 24 none) _
  simp only [List.replicate, List.cons_append, List.nil_append]
  repeat' (first
    | ((first | (with_reducible refine WL_do fun Cw cw => ?_) | ((with_reducible apply WP_do); intro Cw cw)); (focus (first | ((with_reducible first | apply O_move | apply O_assign); (repeat rfl)) | ((with_reducible first | apply O_load | apply O_bin | apply O_indexAddr | apply O_len); (repeat rfl); simp (disch := omega) only [go_sem, hs])); (first | (with_reducible exact cw) | ((with_reducible apply cw); (focus ((try simp only [zp]); exact rfl)); clear cw Cw))); (try ((with_reducible apply eq_id); (focus ((try simp only [zp]); exact rfl)))))
    | ((with_reducible first | refine WL_nil (hK _ _ ?_) | refine WP_nil (hK _ _ ?_)); clear hK K)
    | ((with_reducible first | refine T_reg_seq fun K hK => ?_ | refine T_reg_end fun K hK => ?_); simp only [zl])
    | ((with_reducible first | refine T_pure_seq ?_ ?_ (fun K hK => ?_) | refine T_pure_end ?_ ?_ (fun K hK => ?_)); (focus kernel_rfl); (focus kernel_rfl); simp only [zl])
    | ((with_reducible first | apply T_cond_seq | apply T_cond); (focus rfl))
    | (intro hg; (first | (simp only [zb] at hg; done) | ((try simp only [zb, eq_self] at hg); (have hh : True := hg); clear hh hg) | ((try simp only [zb] at hg); (try (have hh := hg; simp only [hh]; clear hh)); (try simp only [zg, zq, ne_eq, gt_iff_lt, ge_iff_le] at hg); (try (exfalso; omega)))))
    | with_reducible first | apply T_seq_assoc | apply T_skip_seq | apply T_ret_seq | apply T_exit_seq | apply T_ret | apply T_skip | apply T_exit | refine T_block_seq fun Kb hKb => ?_ | apply T_block
    | (simp only [TX.inBlock, TX.then, zi, Nat.reduceEqDiff])
    | ((with_reducible first | refine hR _ _ (fun C cc => ?_) | refine hN _ _ (fun C cc => ?_)); simp (disch := omega) only [go_sem, hs]; (with_reducible apply cc); clear cc C; (first | refine Ends.more (by first | rfl | simp only [go_sem, Bool.and_self]) ?_ | refine Ends.same (by first | rfl | simp only [go_sem, Bool.and_self]) ?_); (try simp only [go_sem, Bool.and_self]))
    | (with_reducible apply_assumption -exfalso -symm only [*]))
  refine T_each (α := Nat) (fun i => [some (some (rowTV intC r)), some (some (rowTV intC s)), none, none, none, some (some (.int .i64 i)), none, none, none, none, none, none, none, none, none, none, none, none, none, none, none, none, none, none, none, none]) (fun i => i ≤ r.l.length) (fun i => r.l.length - i) (fun i => σ) ?_ ?_
  · refine ⟨(0), ⟨rfl, rfl, rfl, trivial⟩, ?_, rfl⟩
    exact Nat.zero_le _
  · rintro i q hi
    show Tw _ _ _ _ ([some (rowTV intC r), some (rowTV intC s), q 2, q 3, q 4, some (.int .i64 i), q 6, q 7, q 8, q 9, q 10, q 11, q 12, q 13, q 14, q 15, q 16, q 17, q 18, q 19, q 20, q 21, q 22, q 23, q 24, q 25]) (σ)
    rcases Nat.lt_or_ge i r.l.length with hlt | hge
    · repeat' (first
        | ((first | (with_reducible refine WL_do fun Cw cw => ?_) | ((with_reducible apply WP_do); intro Cw cw)); (focus (first | ((with_reducible first | apply O_move | apply O_assign); (repeat rfl)) | ((with_reducible first | apply O_load | apply O_bin | apply O_indexAddr | apply O_len); (repeat rfl); simp (disch := omega) only [go_sem, hs, hn])); (first | (with_reducible exact cw) | ((with_reducible apply cw); (focus ((try simp only [zp]); exact rfl)); clear cw Cw))); (try ((with_reducible apply eq_id); (focus ((try simp only [zp]); exact rfl)))))
        | ((with_reducible first | refine WL_nil (hK _ _ ?_) | refine WP_nil (hK _ _ ?_)); clear hK K)
        | ((with_reducible first | refine T_reg_seq fun K hK => ?_ | refine T_reg_end fun K hK => ?_); simp only [zl])
        | ((with_reducible first | refine T_pure_seq ?_ ?_ (fun K hK => ?_) | refine T_pure_end ?_ ?_ (fun K hK => ?_)); (focus kernel_rfl); (focus kernel_rfl); simp only [zl])
        | ((with_reducible first | apply T_cond_seq | apply T_cond); (focus rfl))
        | (intro hg; (first | (simp only [zb] at hg; done) | ((try simp only [zb, eq_self] at hg); (have hh : True := hg); clear hh hg) | ((try simp only [zb] at hg); (try (have hh := hg; simp only [hh]; clear hh)); (try simp only [zg, zq, ne_eq, gt_iff_lt, ge_iff_le] at hg); (try (exfalso; omega)))))
        | with_reducible first | apply T_seq_assoc | apply T_skip_seq | apply T_ret_seq | apply T_exit_seq | apply T_ret | apply T_skip | apply T_exit | refine T_block_seq fun Kb hKb => ?_ | apply T_block
        | (simp only [TX.inBlock, TX.then, zi, Nat.reduceEqDiff])
        | ((with_reducible first | refine hR _ _ (fun C cc => ?_) | refine hN _ _ (fun C cc => ?_)); simp (disch := omega) only [go_sem, hs, hn]; (with_reducible apply cc); clear cc C; (first | refine Ends.more (by first | rfl | simp only [go_sem, Bool.and_self]) ?_ | refine Ends.same (by first | rfl | simp only [go_sem, Bool.and_self]) ?_); (try simp only [go_sem, Bool.and_self]))
        | (with_reducible apply_assumption -exfalso -symm only [*]))
      refine ⟨(i + 1), ?_, ⟨rfl, rfl, rfl, trivial⟩, ?_, (by first | rfl | trivial)⟩
      all_goals (try dsimp only)
      all_goals (omega)
    · obtain rfl : i = r.l.length := by omega
      repeat' (first
        | ((first | (with_reducible refine WL_do fun Cw cw => ?_) | ((with_reducible apply WP_do); intro Cw cw)); (focus (first | ((with_reducible first | apply O_move | apply O_assign); (repeat rfl)) | ((with_reducible first | apply O_load | apply O_bin | apply O_indexAddr | apply O_len); (repeat rfl); simp (disch := omega) only [go_sem, hs])); (first | (with_reducible exact cw) | ((with_reducible apply cw); (focus ((try simp only [zp]); exact rfl)); clear cw Cw))); (try ((with_reducible apply eq_id); (focus ((try simp only [zp]); exact rfl)))))
        | ((with_reducible first | refine WL_nil (hK _ _ ?_) | refine WP_nil (hK _ _ ?_)); clear hK K)
        | ((with_reducible first | refine T_reg_seq fun K hK => ?_ | refine T_reg_end fun K hK => ?_); simp only [zl])
        | ((with_reducible first | refine T_pure_seq ?_ ?_ (fun K hK => ?_) | refine T_pure_end ?_ ?_ (fun K hK => ?_)); (focus kernel_rfl); (focus kernel_rfl); simp only [zl])
        | ((with_reducible first | apply T_cond_seq | apply T_cond); (focus rfl))
        | (intro hg; (first | (simp only [zb] at hg; done) | ((try simp only [zb, eq_self] at hg); (have hh : True := hg); clear hh hg) | ((try simp only [zb] at hg); (try (have hh := hg; simp only [hh]; clear hh)); (try simp only [zg, zq, ne_eq, gt_iff_lt, ge_iff_le] at hg); (try (exfalso; omega)))))
        | with_reducible first | apply T_seq_assoc | apply T_skip_seq | apply T_ret_seq | apply T_exit_seq | apply T_ret | apply T_skip | apply T_exit | refine T_block_seq fun Kb hKb => ?_ | apply T_block
        | (simp only [TX.inBlock, TX.then, zi, Nat.reduceEqDiff])
        | ((with_reducible first | refine hR _ _ (fun C cc => ?_) | refine hN _ _ (fun C cc => ?_)); simp (disch := omega) only [go_sem, hs]; (with_reducible apply cc); clear cc C; (first | refine Ends.more (by first | rfl | simp only [go_sem, Bool.and_self]) ?_ | refine Ends.same (by first | rfl | simp only [go_sem, Bool.and_self]) ?_); (try simp only [go_sem, Bool.and_self]))
        | (with_reducible apply_assumption -exfalso -symm only [*]))
end Go.Proofs.Ytgkcackpffimmaa
