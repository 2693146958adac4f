/- The law PortsOwn, walked. -/
import Derived.Test.YtgkcackpffimmaaP18
set_option linter.unusedVariables false
set_option linter.unusedSimpArgs false
set_option maxRecDepth 10000
set_option maxHeartbeats 4000000
namespace Go.Proofs.Ytgkcackpffimmaa
open Go.TM

abbrev pA : Port := ⟨2, 1, 1, 2, false, 5, 0, 7, 200, 3, 0⟩
abbrev pB : Port := ⟨3, 1, 1, 1, false, 5, 0, 8, 50, 0, 100⟩
abbrev tOne : List UInt8 := [111, 110, 101]
abbrev tTwo : List UInt8 := [116, 119, 111]
structure OwnI (bs : List Bx) : Prop where
  ps : pts bs = [pA, pB]
  first : nth bs 0 = ⟨pA, [tOne, tTwo], 0, false⟩
theorem OwnI.len {bs : List Bx} (h : OwnI bs) : bs.length = 2 := by have := congrArg List.length h.ps; simpa using this
theorem idxAB (port : Int) (h : port ≠ 2) : idx [pA, pB] port = if port = 3 then some 1 else none := by
  have h2 : ¬ (2 : Int) = port := fun e => h e.symm
  unfold idx
  by_cases h3 : port = 3
  · subst h3; rfl
  · have h4 : ¬ (3 : Int) = port := fun e => h3 e.symm
    simp [List.findIdx?_cons, h2, h4, h3]
theorem OwnI.put {bs : List Bx} (h : OwnI bs) (now port : Int) (s : List UInt8) (hp : port ≠ 2) : OwnI (putR now port s bs).1 := by
  have hl := h.len
  unfold putR
  split
  · exact h
  · rw [h.ps, idxAB port hp]
    split
    · exact h
    · rename_i k hk
      split at hk
      · cases hk
        exact ⟨(pts_set (by omega) (putB_p _ _ _)).trans h.ps, by rw [nth_set (by omega), if_neg (by decide)]; exact h.first⟩
      · cases hk
theorem OwnI.next {bs : List Bx} (h : OwnI bs) (port : Int) (hp : port ≠ 2) : OwnI (nextR port bs).1 := by
  have hl := h.len
  unfold nextR
  rw [h.ps, idxAB port hp]
  split
  · exact h
  · rename_i k hk
    split at hk
    · cases hk
      exact ⟨(pts_set (by omega) (nextB_p _)).trans h.ps, by rw [nth_set (by omega), if_neg (by decide)]; exact h.first⟩
    · cases hk
theorem OwnI.clear {bs : List Bx} (h : OwnI bs) (part : Int) (hp : part ≠ 1) : clearR part bs = bs := by
  have hl := h.len
  refine ext_nth (List.length_map _) fun k hk => ?_
  rw [clearR, List.length_map] at hk
  rw [clearR, nth_map _ hk, if_neg]
  have h1 : (nth bs k).p = nth (pts bs) k := (nth_map _ hk).symm
  rw [h1, h.ps]
  have : k = 0 ∨ k = 1 := by omega
  rcases this with rfl | rfl <;> exact fun e => hp e.symm
theorem OwnI.next1 {bs : List Bx} (h : OwnI bs) : nextR 2 bs = (bs.set 0 ⟨pA, [tTwo], 0, false⟩, tOne, false, 0) := by
  have hx : idx [pA, pB] 2 = some 0 := rfl
  unfold nextR
  rw [h.ps, hx]
  simp only
  rw [h.first]
  rfl
theorem OwnI.next2 {bs : List Bx} (h : OwnI bs) : nextR 2 (bs.set 0 ⟨pA, [tTwo], 0, false⟩) = ((bs.set 0 ⟨pA, [tTwo], 0, false⟩).set 0 ⟨pA, [], 0, false⟩, tTwo, false, 0) := by
  have hl := h.len
  have hx : idx [pA, pB] 2 = some 0 := rfl
  have hp : pts (bs.set 0 ⟨pA, [tTwo], 0, false⟩) = [pA, pB] := (pts_set (by omega) (by rw [h.first])).trans h.ps
  unfold nextR
  rw [hp, hx]
  simp only
  rw [nth_set (by omega), if_pos rfl]
  rfl
theorem OwnI.len2 {bs : List Bx} (h : OwnI bs) : lenR 2 ((bs.set 0 ⟨pA, [tTwo], 0, false⟩).set 0 ⟨pA, [], 0, false⟩) = 0 := by
  have hl := h.len
  have hx : idx [pA, pB] 2 = some 0 := rfl
  have hp : pts ((bs.set 0 ⟨pA, [tTwo], 0, false⟩).set 0 ⟨pA, [], 0, false⟩) = [pA, pB] := by
    rw [List.set_set]; exact (pts_set (by omega) (by rw [h.first])).trans h.ps
  unfold lenR
  rw [hp, hx]
  simp only
  rw [nth_set (by rw [List.length_set]; omega), if_pos rfl]
  rfl

theorem own22_walk (ops : Row Opn) (hop : ∀ o ∈ ops.l, o.data.length ≤ 9223372036854775807) (hol : ops.l.length ≤ 9223372036854775807) :
    TCalls Try.prog 18 [rowTV opC ops] [] fun v _ => v = .bool true := by
  have haw := awake22_walk
  have hsm := fun τ => small_walk 3 100 τ
  have hfew := smallC_few (depth := 3) (fresh := 100) (by unfold I64; omega) (by unfold I64; omega)
  have hok := smallC_is (depth := 3) (fresh := 100) (by omega) (by omega)
  refine calls_of [] [.tmp 2] Try.func18 (by kernel_rfl) rfl (by kernel_rfl) fun X hR hN => ?_
  show Tw _ _ _ _ ([some _] ++ List.replicate 145 none) _
  simp only [List.replicate, List.cons_append, List.nil_append]
  repeat' (first
    | ((with_reducible refine WL_do fun Cw cw => ?_); (first | ((with_reducible first | apply O_move | apply O_assign | apply O_pickV | apply O_extract); (repeat rfl)) | ((with_reducible first | apply O_load | apply O_fieldAddr | apply O_bin | apply O_indexAddr | apply O_len | apply O_un | apply O_store | apply O_alloc); (repeat rfl); simp (disch := omega) only [go_sem]) | ((with_reducible first | apply O_callF | apply O_call); (repeat rfl); (try simp only [za]); (refine TPure.go (by (apply hsm) <;> first | assumption | omega | exact Eq.trans (get_old (by assumption)) (by assumption)) ?_))); (with_reducible apply cw); (focus ((try simp only [zp]); exact rfl)); clear cw Cw)
    | ((first | ((with_reducible apply WL_if); (focus rfl)) | ((with_reducible apply WL_un); (focus rfl))); (focus ((try simp only [zp]); exact rfl)))
    | ((with_reducible refine WL_nil (hK _ _ ?_)); clear hK K)
    | ((with_reducible first | refine T_reg_seq fun K hK => ?_ | refine T_reg_end fun K hK => ?_); simp only [zl])
    | ((with_reducible first | apply T_cond_seq | apply T_cond); (focus rfl))
    | (intro hg; (first | (simp only [zb] at hg; done) | ((try simp only [zb, eq_self] at hg); (have hh : True := hg); clear hh hg) | ((try simp only [zb] at hg); (try (have hh := hg; simp only [hh]; clear hh)); (try simp only [zg, zq, ne_eq, gt_iff_lt, ge_iff_le] at hg); (try (exfalso; omega)))))
    | with_reducible first | apply T_seq_assoc | apply T_skip_seq | apply T_ret_seq | apply T_exit_seq | apply T_ret | apply T_skip | apply T_exit | refine T_block_seq fun Kb hKb => ?_ | apply T_block
    | (simp only [TX.inBlock, TX.then, zi, Nat.reduceEqDiff])
    | ((with_reducible first | refine hR _ _ (fun C cc => ?_) | refine hN _ _ (fun C cc => ?_)); simp (disch := omega) only [go_sem]; (with_reducible apply cc); clear cc C)
    | (with_reducible apply_assumption -exfalso -symm only [*]))
  refine WL_do fun Cw cw => ?_
  (with_reducible first | apply O_callF | apply O_call); (repeat rfl); (try simp only [List.nil_append, List.append_nil, List.cons_append])
  refine (own_new _ hfew 1 (by unfold I64; omega) _ (fun _ => 0) 1 hok (by simp [smallC])).mono ?_
  rintro u1 τ1 ⟨r, lm, locs, lab1, rfl, hp1, hg1⟩
  rw [roomOf_small] at hp1
  (with_reducible apply cw); (focus ((try simp only [tput, List.set_cons_zero, List.set_cons_succ]); exact rfl)); clear cw Cw
  repeat' (first
    | ((with_reducible refine WL_do fun Cw cw => ?_); (first | ((with_reducible first | apply O_move | apply O_assign | apply O_pickV | apply O_extract); (repeat rfl)) | ((with_reducible first | apply O_load | apply O_fieldAddr | apply O_bin | apply O_indexAddr | apply O_len | apply O_un | apply O_store | apply O_alloc); (repeat rfl); simp (disch := omega) only [go_sem]) | ((with_reducible first | apply O_callF | apply O_call); (repeat rfl); (try simp only [za]); (refine TPure.go (by (apply haw) <;> first | assumption | omega | exact Eq.trans (get_old (by assumption)) (by assumption)) ?_))); (with_reducible apply cw); (focus ((try simp only [zp]); exact rfl)); clear cw Cw)
    | ((first | ((with_reducible apply WL_if); (focus rfl)) | ((with_reducible apply WL_un); (focus rfl))); (focus ((try simp only [zp]); exact rfl)))
    | ((with_reducible refine WL_nil (hK _ _ ?_)); clear hK K)
    | ((with_reducible first | refine T_reg_seq fun K hK => ?_ | refine T_reg_end fun K hK => ?_); simp only [zl])
    | ((with_reducible first | apply T_cond_seq | apply T_cond); (focus rfl))
    | (intro hg; (first | (simp only [zb] at hg; done) | ((try simp only [zb, eq_self] at hg); (have hh : True := hg); clear hh hg) | ((try simp only [zb] at hg); (try (have hh := hg; simp only [hh]; clear hh)); (try simp only [zg, zq, ne_eq, gt_iff_lt, ge_iff_le] at hg); (try (exfalso; omega)))))
    | with_reducible first | apply T_seq_assoc | apply T_skip_seq | apply T_ret_seq | apply T_exit_seq | apply T_ret | apply T_skip | apply T_exit | refine T_block_seq fun Kb hKb => ?_ | apply T_block
    | (simp only [TX.inBlock, TX.then, zi, Nat.reduceEqDiff])
    | ((with_reducible first | refine hR _ _ (fun C cc => ?_) | refine hN _ _ (fun C cc => ?_)); simp (disch := omega) only [go_sem]; (with_reducible apply cc); clear cc C)
    | (with_reducible apply_assumption -exfalso -symm only [*]))
  refine WL_do fun Cw cw => ?_
  (with_reducible first | apply O_callF | apply O_call); (repeat rfl); (try simp only [List.nil_append, List.append_nil, List.cons_append])
  refine (put_walk hp1 5 2 tOne).mono ?_
  rintro u2 τ2 ⟨rfl, lab2, hp2, hg2⟩
  (with_reducible apply cw); (focus ((try simp only [tput, List.set_cons_zero, List.set_cons_succ]); exact rfl)); clear cw Cw
  repeat' (first
    | ((with_reducible refine WL_do fun Cw cw => ?_); (first | ((with_reducible first | apply O_move | apply O_assign | apply O_pickV | apply O_extract); (repeat rfl)) | ((with_reducible first | apply O_load | apply O_fieldAddr | apply O_bin | apply O_indexAddr | apply O_len | apply O_un | apply O_store | apply O_alloc); (repeat rfl); simp (disch := omega) only [go_sem])); (with_reducible apply cw); (focus ((try simp only [zp]); exact rfl)); clear cw Cw)
    | ((first | ((with_reducible apply WL_if); (focus rfl)) | ((with_reducible apply WL_un); (focus rfl))); (focus ((try simp only [zp]); exact rfl)))
    | ((with_reducible refine WL_nil (hK _ _ ?_)); clear hK K)
    | ((with_reducible first | refine T_reg_seq fun K hK => ?_ | refine T_reg_end fun K hK => ?_); simp only [zl])
    | ((with_reducible first | apply T_cond_seq | apply T_cond); (focus rfl))
    | (intro hg; (first | (simp only [zb] at hg; done) | ((try simp only [zb, eq_self] at hg); (have hh : True := hg); clear hh hg) | ((try simp only [zb] at hg); (try (have hh := hg; simp only [hh]; clear hh)); (try simp only [zg, zq, ne_eq, gt_iff_lt, ge_iff_le] at hg); (try (exfalso; omega)))))
    | with_reducible first | apply T_seq_assoc | apply T_skip_seq | apply T_ret_seq | apply T_exit_seq | apply T_ret | apply T_skip | apply T_exit | refine T_block_seq fun Kb hKb => ?_ | apply T_block
    | (simp only [TX.inBlock, TX.then, zi, Nat.reduceEqDiff])
    | ((with_reducible first | refine hR _ _ (fun C cc => ?_) | refine hN _ _ (fun C cc => ?_)); simp (disch := omega) only [go_sem]; (with_reducible apply cc); clear cc C)
    | (with_reducible apply_assumption -exfalso -symm only [*]))
  refine WL_do fun Cw cw => ?_
  (with_reducible first | apply O_callF | apply O_call); (repeat rfl); (try simp only [List.nil_append, List.append_nil, List.cons_append])
  refine (put_walk hp2 5 2 tTwo).mono ?_
  rintro u3 τ3 ⟨rfl, lab3, hp3, hg3⟩
  have hI0 : OwnI (putR 5 2 tTwo (putR 5 2 tOne [⟨pA, [], 0, false⟩, ⟨pB, [], 0, false⟩]).1).1 := ⟨rfl, rfl⟩
  generalize (putR 5 2 tTwo (putR 5 2 tOne [⟨pA, [], 0, false⟩, ⟨pB, [], 0, false⟩]).1).1 = bs0 at hI0 hp3
  (with_reducible apply cw); (focus ((try simp only [tput, List.set_cons_zero, List.set_cons_succ]); exact rfl)); clear cw Cw
  repeat' (first
    | ((with_reducible refine WL_do fun Cw cw => ?_); (first | ((with_reducible first | apply O_move | apply O_assign | apply O_pickV | apply O_extract); (repeat rfl)) | ((with_reducible first | apply O_load | apply O_fieldAddr | apply O_bin | apply O_indexAddr | apply O_len | apply O_un | apply O_store | apply O_alloc); (repeat rfl); simp (disch := omega) only [go_sem])); (with_reducible apply cw); (focus ((try simp only [zp]); exact rfl)); clear cw Cw)
    | ((first | ((with_reducible apply WL_if); (focus rfl)) | ((with_reducible apply WL_un); (focus rfl))); (focus ((try simp only [zp]); exact rfl)))
    | ((with_reducible refine WL_nil (hK _ _ ?_)); clear hK K)
    | ((with_reducible first | refine T_reg_seq fun K hK => ?_ | refine T_reg_end fun K hK => ?_); simp only [zl])
    | ((with_reducible first | apply T_cond_seq | apply T_cond); (focus rfl))
    | (intro hg; (first | (simp only [zb] at hg; done) | ((try simp only [zb, eq_self] at hg); (have hh : True := hg); clear hh hg) | ((try simp only [zb] at hg); (try (have hh := hg; simp only [hh]; clear hh)); (try simp only [zg, zq, ne_eq, gt_iff_lt, ge_iff_le] at hg); (try (exfalso; omega)))))
    | with_reducible first | apply T_seq_assoc | apply T_skip_seq | apply T_ret_seq | apply T_exit_seq | apply T_ret | apply T_skip | apply T_exit | refine T_block_seq fun Kb hKb => ?_ | apply T_block
    | (simp only [TX.inBlock, TX.then, zi, Nat.reduceEqDiff])
    | ((with_reducible first | refine hR _ _ (fun C cc => ?_) | refine hN _ _ (fun C cc => ?_)); simp (disch := omega) only [go_sem]; (with_reducible apply cc); clear cc C)
    | (with_reducible apply_assumption -exfalso -symm only [*]))
  refine T_each (α := Nat × TS × (Nat → Nat) × List Bx) (fun (i, τ, lab, bs) => [some (some (rowTV opC ops)), none, none, some (some (.ptr r 0)), none, some (some (.int .i64 i)), none, none, none, none, none, none, none, none, none, none, none, none, none, none, none, none, none, none, none, none, none, none, none, none, none, none, none, none, none, none, none, none, none, none, none, none, none, none, none, none, none, none, none, none, none, none, none, none, none, none, none, none, none, none, none, none, none, none, none, none, none, none, none, none, none, none, none, none, none, none, none, none, none, none, none, none, none, none, none, none, none, none, none, none, none, none, none, none, none, none, none, none, none, none, none, none, none, none, none, none, none, none, none, none, none, none, none, none, none, none, none, none, none, none, none, none, none, none, none, none, none, none, none, none, none, none, none, none, none, none, none, none, none, none, none, none, none, none, none, none]) (fun (i, τ, lab, bs) => i ≤ ops.l.length ∧ RoomP τ lab 1 r lm locs bs ∧ OwnI bs) (fun (i, τ, lab, bs) => ops.l.length - i) (fun (i, τ, lab, bs) => τ) ?_ ?_
  · refine ⟨(0, τ3, lab3, bs0), ⟨rfl, rfl, rfl, trivial⟩, ?_, rfl⟩
    exact ⟨by omega, hp3, hI0⟩
  · rintro ⟨i, τ, lab, bs⟩ q ⟨hi, hP, hI⟩
    show Tw _ _ _ _ ([some (rowTV opC ops), q 1, q 2, some (.ptr r 0), q 4, some (.int .i64 i), q 6, q 7, q 8, q 9, q 10, q 11, q 12, q 13, q 14, q 15, q 16, q 17, q 18, q 19, q 20, q 21, q 22, q 23, q 24, q 25, q 26, q 27, q 28, q 29, q 30, q 31, q 32, q 33, q 34, q 35, q 36, q 37, q 38, q 39, q 40, q 41, q 42, q 43, q 44, q 45, q 46, q 47, q 48, q 49, q 50, q 51, q 52, q 53, q 54, q 55, q 56, q 57, q 58, q 59, q 60, q 61, q 62, q 63, q 64, q 65, q 66, q 67, q 68, q 69, q 70, q 71, q 72, q 73, q 74, q 75, q 76, q 77, q 78, q 79, q 80, q 81, q 82, q 83, q 84, q 85, q 86, q 87, q 88, q 89, q 90, q 91, q 92, q 93, q 94, q 95, q 96, q 97, q 98, q 99, q 100, q 101, q 102, q 103, q 104, q 105, q 106, q 107, q 108, q 109, q 110, q 111, q 112, q 113, q 114, q 115, q 116, q 117, q 118, q 119, q 120, q 121, q 122, q 123, q 124, q 125, q 126, q 127, q 128, q 129, q 130, q 131, q 132, q 133, q 134, q 135, q 136, q 137, q 138, q 139, q 140, q 141, q 142, q 143, q 144, q 145]) (τ)
    rcases Nat.lt_or_ge i ops.l.length with hlt | hge
    · have hdl := hop _ (nth_mem hlt)
      have hG0 := Grow.tail (σ := τ) (lab := lab) [.cells (opC (nth ops.l i))] (fun _ => False) 0
      have hP0 := hP.grow hG0 (fun _ _ _ e => e)
      have hsa := sample_walk hP0 (nth ops.l i).now (nth ops.l i).port
      by_cases hbad : (nth ops.l i).data.length > 200 ∨ (nth ops.l i).port = 2 ∨ (nth ops.l i).ask < 0 ∨ (nth ops.l i).ask > 3 ∨ ((nth ops.l i).ask = 3 ∧ (nth ops.l i).port = 1)
      · rcases hbad with hb | hb | hb | hb | ⟨hb, hb2⟩
        all_goals
          repeat' (first
            | ((with_reducible refine WL_do fun Cw cw => ?_); (first | ((with_reducible first | apply O_move | apply O_assign | apply O_pickV | apply O_extract); (repeat rfl)) | ((with_reducible first | apply O_load | apply O_fieldAddr | apply O_bin | apply O_indexAddr | apply O_len | apply O_un | apply O_store | apply O_alloc); (repeat rfl); simp (disch := omega) only [go_sem]) | ((with_reducible first | apply O_callF | apply O_call); (repeat rfl); (try simp only [za]); (refine TPure.go (by (apply haw) <;> first | assumption | omega | exact Eq.trans (get_old (by assumption)) (by assumption)) ?_))); (with_reducible apply cw); (focus ((try simp only [zp]); exact rfl)); clear cw Cw)
            | ((first | ((with_reducible apply WL_if); (focus rfl)) | ((with_reducible apply WL_un); (focus rfl))); (focus ((try simp only [zp]); exact rfl)))
            | ((with_reducible refine WL_nil (hK _ _ ?_)); clear hK K)
            | ((with_reducible first | refine T_reg_seq fun K hK => ?_ | refine T_reg_end fun K hK => ?_); simp only [zl])
            | ((with_reducible first | apply T_cond_seq | apply T_cond); (focus rfl))
            | (intro hg; (first | (simp only [zb] at hg; done) | ((try simp only [zb, eq_self] at hg); (have hh : True := hg); clear hh hg) | ((try simp only [zb] at hg); (try (have hh := hg; simp only [hh]; clear hh)); (try simp only [zg, zq, ne_eq, gt_iff_lt, ge_iff_le] at hg); (try (exfalso; omega)))))
            | with_reducible first | apply T_seq_assoc | apply T_skip_seq | apply T_ret_seq | apply T_exit_seq | apply T_ret | apply T_skip | apply T_exit | refine T_block_seq fun Kb hKb => ?_ | apply T_block
            | (simp only [TX.inBlock, TX.then, zi, Nat.reduceEqDiff])
            | ((with_reducible first | refine hR _ _ (fun C cc => ?_) | refine hN _ _ (fun C cc => ?_)); simp (disch := omega) only [go_sem]; (with_reducible apply cc); clear cc C)
            | (with_reducible apply_assumption -exfalso -symm only [*]))
      have hp2 : (nth ops.l i).port ≠ 2 := by omega
      rcases (show (nth ops.l i).ask = 0 ∨ (nth ops.l i).ask = 1 ∨ (nth ops.l i).ask = 2 ∨ ((nth ops.l i).ask = 3 ∧ (nth ops.l i).port ≠ 1) by omega) with h0 | h0 | h0 | ⟨h0, hp1'⟩
      · repeat' (first
          | ((with_reducible refine WL_do fun Cw cw => ?_); (first | ((with_reducible first | apply O_move | apply O_assign | apply O_pickV | apply O_extract); (repeat rfl)) | ((with_reducible first | apply O_load | apply O_fieldAddr | apply O_bin | apply O_indexAddr | apply O_len | apply O_un | apply O_store | apply O_alloc); (repeat rfl); simp (disch := omega) only [go_sem])); (with_reducible apply cw); (focus ((try simp only [zp]); exact rfl)); clear cw Cw)
          | ((first | ((with_reducible apply WL_if); (focus rfl)) | ((with_reducible apply WL_un); (focus rfl))); (focus ((try simp only [zp]); exact rfl)))
          | ((with_reducible refine WL_nil (hK _ _ ?_)); clear hK K)
          | ((with_reducible first | refine T_reg_seq fun K hK => ?_ | refine T_reg_end fun K hK => ?_); simp only [zl])
          | ((with_reducible first | apply T_cond_seq | apply T_cond); (focus rfl))
          | (intro hg; (first | (simp only [zb] at hg; done) | ((try simp only [zb, eq_self] at hg); (have hh : True := hg); clear hh hg) | ((try simp only [zb] at hg); (try (have hh := hg; simp only [hh]; clear hh)); (try simp only [zg, zq, ne_eq, gt_iff_lt, ge_iff_le] at hg); (try (exfalso; omega)))))
          | with_reducible first | apply T_seq_assoc | apply T_skip_seq | apply T_ret_seq | apply T_exit_seq | apply T_ret | apply T_skip | apply T_exit | refine T_block_seq fun Kb hKb => ?_ | apply T_block
          | (simp only [TX.inBlock, TX.then, zi, Nat.reduceEqDiff])
          | ((with_reducible first | refine hR _ _ (fun C cc => ?_) | refine hN _ _ (fun C cc => ?_)); simp (disch := omega) only [go_sem]; (with_reducible apply cc); clear cc C)
          | (with_reducible apply_assumption -exfalso -symm only [*]))
        refine WL_do fun Cw cw => ?_
        (with_reducible first | apply O_callF | apply O_call); (repeat rfl); (try simp only [List.nil_append, List.append_nil, List.cons_append])
        refine (put_walk hP0 (nth ops.l i).now (nth ops.l i).port (nth ops.l i).data).mono ?_
        rintro u5 τ5 ⟨rfl, lab5, hp5, hg5⟩
        (with_reducible apply cw); (focus ((try simp only [tput, List.set_cons_zero, List.set_cons_succ]); exact rfl)); clear cw Cw
        repeat' (first
          | ((with_reducible refine WL_do fun Cw cw => ?_); (first | ((with_reducible first | apply O_move | apply O_assign | apply O_pickV | apply O_extract); (repeat rfl)) | ((with_reducible first | apply O_load | apply O_fieldAddr | apply O_bin | apply O_indexAddr | apply O_len | apply O_un | apply O_store | apply O_alloc); (repeat rfl); simp (disch := omega) only [go_sem])); (with_reducible apply cw); (focus ((try simp only [zp]); exact rfl)); clear cw Cw)
          | ((first | ((with_reducible apply WL_if); (focus rfl)) | ((with_reducible apply WL_un); (focus rfl))); (focus ((try simp only [zp]); exact rfl)))
          | ((with_reducible refine WL_nil (hK _ _ ?_)); clear hK K)
          | ((with_reducible first | refine T_reg_seq fun K hK => ?_ | refine T_reg_end fun K hK => ?_); simp only [zl])
          | ((with_reducible first | apply T_cond_seq | apply T_cond); (focus rfl))
          | (intro hg; (first | (simp only [zb] at hg; done) | ((try simp only [zb, eq_self] at hg); (have hh : True := hg); clear hh hg) | ((try simp only [zb] at hg); (try (have hh := hg; simp only [hh]; clear hh)); (try simp only [zg, zq, ne_eq, gt_iff_lt, ge_iff_le] at hg); (try (exfalso; omega)))))
          | with_reducible first | apply T_seq_assoc | apply T_skip_seq | apply T_ret_seq | apply T_exit_seq | apply T_ret | apply T_skip | apply T_exit | refine T_block_seq fun Kb hKb => ?_ | apply T_block
          | (simp only [TX.inBlock, TX.then, zi, Nat.reduceEqDiff])
          | ((with_reducible first | refine hR _ _ (fun C cc => ?_) | refine hN _ _ (fun C cc => ?_)); simp (disch := omega) only [go_sem]; (with_reducible apply cc); clear cc C)
          | (with_reducible apply_assumption -exfalso -symm only [*]))
        refine ⟨(i + 1, τ5, lab5, _), ?_, ⟨rfl, rfl, rfl, trivial⟩, ⟨?_, hp5, hI.put _ _ _ hp2⟩, rfl⟩ <;> (try dsimp only) <;> omega
      · repeat' (first
          | ((with_reducible refine WL_do fun Cw cw => ?_); (first | ((with_reducible first | apply O_move | apply O_assign | apply O_pickV | apply O_extract); (repeat rfl)) | ((with_reducible first | apply O_load | apply O_fieldAddr | apply O_bin | apply O_indexAddr | apply O_len | apply O_un | apply O_store | apply O_alloc); (repeat rfl); simp (disch := omega) only [go_sem]) | ((with_reducible first | apply O_callF | apply O_call); (repeat rfl); (try simp only [za]); (refine TPure.go (by (apply hsa) <;> first | assumption | omega | exact Eq.trans (get_old (by assumption)) (by assumption)) ?_))); (with_reducible apply cw); (focus ((try simp only [zp]); exact rfl)); clear cw Cw)
          | ((first | ((with_reducible apply WL_if); (focus rfl)) | ((with_reducible apply WL_un); (focus rfl))); (focus ((try simp only [zp]); exact rfl)))
          | ((with_reducible refine WL_nil (hK _ _ ?_)); clear hK K)
          | ((with_reducible first | refine T_reg_seq fun K hK => ?_ | refine T_reg_end fun K hK => ?_); simp only [zl])
          | ((with_reducible first | apply T_cond_seq | apply T_cond); (focus rfl))
          | (intro hg; (first | (simp only [zb] at hg; done) | ((try simp only [zb, eq_self] at hg); (have hh : True := hg); clear hh hg) | ((try simp only [zb] at hg); (try (have hh := hg; simp only [hh]; clear hh)); (try simp only [zg, zq, ne_eq, gt_iff_lt, ge_iff_le] at hg); (try (exfalso; omega)))))
          | with_reducible first | apply T_seq_assoc | apply T_skip_seq | apply T_ret_seq | apply T_exit_seq | apply T_ret | apply T_skip | apply T_exit | refine T_block_seq fun Kb hKb => ?_ | apply T_block
          | (simp only [TX.inBlock, TX.then, zi, Nat.reduceEqDiff])
          | ((with_reducible first | refine hR _ _ (fun C cc => ?_) | refine hN _ _ (fun C cc => ?_)); simp (disch := omega) only [go_sem]; (with_reducible apply cc); clear cc C)
          | (with_reducible apply_assumption -exfalso -symm only [*]))
        refine ⟨(i + 1, _, _, bs), ?_, ⟨rfl, rfl, rfl, trivial⟩, ⟨?_, hP0, hI⟩, rfl⟩ <;> (try dsimp only) <;> omega
      · repeat' (first
          | ((with_reducible refine WL_do fun Cw cw => ?_); (first | ((with_reducible first | apply O_move | apply O_assign | apply O_pickV | apply O_extract); (repeat rfl)) | ((with_reducible first | apply O_load | apply O_fieldAddr | apply O_bin | apply O_indexAddr | apply O_len | apply O_un | apply O_store | apply O_alloc); (repeat rfl); simp (disch := omega) only [go_sem])); (with_reducible apply cw); (focus ((try simp only [zp]); exact rfl)); clear cw Cw)
          | ((first | ((with_reducible apply WL_if); (focus rfl)) | ((with_reducible apply WL_un); (focus rfl))); (focus ((try simp only [zp]); exact rfl)))
          | ((with_reducible refine WL_nil (hK _ _ ?_)); clear hK K)
          | ((with_reducible first | refine T_reg_seq fun K hK => ?_ | refine T_reg_end fun K hK => ?_); simp only [zl])
          | ((with_reducible first | apply T_cond_seq | apply T_cond); (focus rfl))
          | (intro hg; (first | (simp only [zb] at hg; done) | ((try simp only [zb, eq_self] at hg); (have hh : True := hg); clear hh hg) | ((try simp only [zb] at hg); (try (have hh := hg; simp only [hh]; clear hh)); (try simp only [zg, zq, ne_eq, gt_iff_lt, ge_iff_le] at hg); (try (exfalso; omega)))))
          | with_reducible first | apply T_seq_assoc | apply T_skip_seq | apply T_ret_seq | apply T_exit_seq | apply T_ret | apply T_skip | apply T_exit | refine T_block_seq fun Kb hKb => ?_ | apply T_block
          | (simp only [TX.inBlock, TX.then, zi, Nat.reduceEqDiff])
          | ((with_reducible first | refine hR _ _ (fun C cc => ?_) | refine hN _ _ (fun C cc => ?_)); simp (disch := omega) only [go_sem]; (with_reducible apply cc); clear cc C)
          | (with_reducible apply_assumption -exfalso -symm only [*]))
        refine WL_do fun Cw cw => ?_
        (with_reducible first | apply O_callF | apply O_call); (repeat rfl); (try simp only [List.nil_append, List.append_nil, List.cons_append])
        refine (next_walk hP0 (nth ops.l i).port).mono ?_
        rintro u5 τ5 ⟨rfl, lab5, hp5, hg5⟩
        (with_reducible apply cw); (focus ((try simp only [tput, List.set_cons_zero, List.set_cons_succ]); exact rfl)); clear cw Cw
        repeat' (first
          | ((with_reducible refine WL_do fun Cw cw => ?_); (first | ((with_reducible first | apply O_move | apply O_assign | apply O_pickV | apply O_extract); (repeat rfl)) | ((with_reducible first | apply O_load | apply O_fieldAddr | apply O_bin | apply O_indexAddr | apply O_len | apply O_un | apply O_store | apply O_alloc); (repeat rfl); simp (disch := omega) only [go_sem])); (with_reducible apply cw); (focus ((try simp only [zp]); exact rfl)); clear cw Cw)
          | ((first | ((with_reducible apply WL_if); (focus rfl)) | ((with_reducible apply WL_un); (focus rfl))); (focus ((try simp only [zp]); exact rfl)))
          | ((with_reducible refine WL_nil (hK _ _ ?_)); clear hK K)
          | ((with_reducible first | refine T_reg_seq fun K hK => ?_ | refine T_reg_end fun K hK => ?_); simp only [zl])
          | ((with_reducible first | apply T_cond_seq | apply T_cond); (focus rfl))
          | (intro hg; (first | (simp only [zb] at hg; done) | ((try simp only [zb, eq_self] at hg); (have hh : True := hg); clear hh hg) | ((try simp only [zb] at hg); (try (have hh := hg; simp only [hh]; clear hh)); (try simp only [zg, zq, ne_eq, gt_iff_lt, ge_iff_le] at hg); (try (exfalso; omega)))))
          | with_reducible first | apply T_seq_assoc | apply T_skip_seq | apply T_ret_seq | apply T_exit_seq | apply T_ret | apply T_skip | apply T_exit | refine T_block_seq fun Kb hKb => ?_ | apply T_block
          | (simp only [TX.inBlock, TX.then, zi, Nat.reduceEqDiff])
          | ((with_reducible first | refine hR _ _ (fun C cc => ?_) | refine hN _ _ (fun C cc => ?_)); simp (disch := omega) only [go_sem]; (with_reducible apply cc); clear cc C)
          | (with_reducible apply_assumption -exfalso -symm only [*]))
        refine ⟨(i + 1, τ5, lab5, _), ?_, ⟨rfl, rfl, rfl, trivial⟩, ⟨?_, hp5, hI.next _ hp2⟩, rfl⟩ <;> (try dsimp only) <;> omega
      · repeat' (first
          | ((with_reducible refine WL_do fun Cw cw => ?_); (first | ((with_reducible first | apply O_move | apply O_assign | apply O_pickV | apply O_extract); (repeat rfl)) | ((with_reducible first | apply O_load | apply O_fieldAddr | apply O_bin | apply O_indexAddr | apply O_len | apply O_un | apply O_store | apply O_alloc); (repeat rfl); simp (disch := omega) only [go_sem])); (with_reducible apply cw); (focus ((try simp only [zp]); exact rfl)); clear cw Cw)
          | ((first | ((with_reducible apply WL_if); (focus rfl)) | ((with_reducible apply WL_un); (focus rfl))); (focus ((try simp only [zp]); exact rfl)))
          | ((with_reducible refine WL_nil (hK _ _ ?_)); clear hK K)
          | ((with_reducible first | refine T_reg_seq fun K hK => ?_ | refine T_reg_end fun K hK => ?_); simp only [zl])
          | ((with_reducible first | apply T_cond_seq | apply T_cond); (focus rfl))
          | (intro hg; (first | (simp only [zb] at hg; done) | ((try simp only [zb, eq_self] at hg); (have hh : True := hg); clear hh hg) | ((try simp only [zb] at hg); (try (have hh := hg; simp only [hh]; clear hh)); (try simp only [zg, zq, ne_eq, gt_iff_lt, ge_iff_le] at hg); (try (exfalso; omega)))))
          | with_reducible first | apply T_seq_assoc | apply T_skip_seq | apply T_ret_seq | apply T_exit_seq | apply T_ret | apply T_skip | apply T_exit | refine T_block_seq fun Kb hKb => ?_ | apply T_block
          | (simp only [TX.inBlock, TX.then, zi, Nat.reduceEqDiff])
          | ((with_reducible first | refine hR _ _ (fun C cc => ?_) | refine hN _ _ (fun C cc => ?_)); simp (disch := omega) only [go_sem]; (with_reducible apply cc); clear cc C)
          | (with_reducible apply_assumption -exfalso -symm only [*]))
        refine WL_do fun Cw cw => ?_
        (with_reducible first | apply O_callF | apply O_call); (repeat rfl); (try simp only [List.nil_append, List.append_nil, List.cons_append])
        refine (clear_walk hP0 (nth ops.l i).port).mono ?_
        rw [hI.clear _ hp1']
        rintro u5 τ5 ⟨rfl, lab5, hp5, hg5⟩
        (with_reducible apply cw); (focus ((try simp only [tput, List.set_cons_zero, List.set_cons_succ]); exact rfl)); clear cw Cw
        repeat' (first
          | ((with_reducible refine WL_do fun Cw cw => ?_); (first | ((with_reducible first | apply O_move | apply O_assign | apply O_pickV | apply O_extract); (repeat rfl)) | ((with_reducible first | apply O_load | apply O_fieldAddr | apply O_bin | apply O_indexAddr | apply O_len | apply O_un | apply O_store | apply O_alloc); (repeat rfl); simp (disch := omega) only [go_sem])); (with_reducible apply cw); (focus ((try simp only [zp]); exact rfl)); clear cw Cw)
          | ((first | ((with_reducible apply WL_if); (focus rfl)) | ((with_reducible apply WL_un); (focus rfl))); (focus ((try simp only [zp]); exact rfl)))
          | ((with_reducible refine WL_nil (hK _ _ ?_)); clear hK K)
          | ((with_reducible first | refine T_reg_seq fun K hK => ?_ | refine T_reg_end fun K hK => ?_); simp only [zl])
          | ((with_reducible first | apply T_cond_seq | apply T_cond); (focus rfl))
          | (intro hg; (first | (simp only [zb] at hg; done) | ((try simp only [zb, eq_self] at hg); (have hh : True := hg); clear hh hg) | ((try simp only [zb] at hg); (try (have hh := hg; simp only [hh]; clear hh)); (try simp only [zg, zq, ne_eq, gt_iff_lt, ge_iff_le] at hg); (try (exfalso; omega)))))
          | with_reducible first | apply T_seq_assoc | apply T_skip_seq | apply T_ret_seq | apply T_exit_seq | apply T_ret | apply T_skip | apply T_exit | refine T_block_seq fun Kb hKb => ?_ | apply T_block
          | (simp only [TX.inBlock, TX.then, zi, Nat.reduceEqDiff])
          | ((with_reducible first | refine hR _ _ (fun C cc => ?_) | refine hN _ _ (fun C cc => ?_)); simp (disch := omega) only [go_sem]; (with_reducible apply cc); clear cc C)
          | (with_reducible apply_assumption -exfalso -symm only [*]))
        refine ⟨(i + 1, τ5, lab5, bs), ?_, ⟨rfl, rfl, rfl, trivial⟩, ⟨?_, hp5, hI⟩, rfl⟩ <;> (try dsimp only) <;> omega
    · repeat' (first
        | ((with_reducible refine WL_do fun Cw cw => ?_); (first | ((with_reducible first | apply O_move | apply O_assign | apply O_pickV | apply O_extract); (repeat rfl)) | ((with_reducible first | apply O_load | apply O_fieldAddr | apply O_bin | apply O_indexAddr | apply O_len | apply O_un | apply O_store | apply O_alloc); (repeat rfl); simp (disch := omega) only [go_sem])); (with_reducible apply cw); (focus ((try simp only [zp]); exact rfl)); clear cw Cw)
        | ((first | ((with_reducible apply WL_if); (focus rfl)) | ((with_reducible apply WL_un); (focus rfl))); (focus ((try simp only [zp]); exact rfl)))
        | ((with_reducible refine WL_nil (hK _ _ ?_)); clear hK K)
        | ((with_reducible first | refine T_reg_seq fun K hK => ?_ | refine T_reg_end fun K hK => ?_); simp only [zl])
        | ((with_reducible first | apply T_cond_seq | apply T_cond); (focus rfl))
        | (intro hg; (first | (simp only [zb] at hg; done) | ((try simp only [zb, eq_self] at hg); (have hh : True := hg); clear hh hg) | ((try simp only [zb] at hg); (try (have hh := hg; simp only [hh]; clear hh)); (try simp only [zg, zq, ne_eq, gt_iff_lt, ge_iff_le] at hg); (try (exfalso; omega)))))
        | with_reducible first | apply T_seq_assoc | apply T_skip_seq | apply T_ret_seq | apply T_exit_seq | apply T_ret | apply T_skip | apply T_exit | refine T_block_seq fun Kb hKb => ?_ | apply T_block
        | (simp only [TX.inBlock, TX.then, zi, Nat.reduceEqDiff])
        | ((with_reducible first | refine hR _ _ (fun C cc => ?_) | refine hN _ _ (fun C cc => ?_)); simp (disch := omega) only [go_sem]; (with_reducible apply cc); clear cc C)
        | (with_reducible apply_assumption -exfalso -symm only [*]))
      refine WL_do fun Cw cw => ?_
      (with_reducible first | apply O_callF | apply O_call); (repeat rfl); (try simp only [List.nil_append, List.append_nil, List.cons_append])
      refine (next_walk hP 2).mono ?_
      rw [hI.next1]
      rintro u5 τ5 ⟨rfl, lab5, hp5, hg5⟩
      (with_reducible apply cw); (focus ((try simp only [tput, List.set_cons_zero, List.set_cons_succ]); exact rfl)); clear cw Cw
      repeat' (first
        | ((with_reducible refine WL_do fun Cw cw => ?_); (first | ((with_reducible first | apply O_move | apply O_assign | apply O_pickV | apply O_extract); (repeat rfl)) | ((with_reducible first | apply O_load | apply O_fieldAddr | apply O_bin | apply O_indexAddr | apply O_len | apply O_un | apply O_store | apply O_alloc); (repeat rfl); simp (disch := omega) only [go_sem])); (with_reducible apply cw); (focus ((try simp only [zp]); exact rfl)); clear cw Cw)
        | ((first | ((with_reducible apply WL_if); (focus rfl)) | ((with_reducible apply WL_un); (focus rfl))); (focus ((try simp only [zp]); exact rfl)))
        | ((with_reducible refine WL_nil (hK _ _ ?_)); clear hK K)
        | ((with_reducible first | refine T_reg_seq fun K hK => ?_ | refine T_reg_end fun K hK => ?_); simp only [zl])
        | ((with_reducible first | apply T_cond_seq | apply T_cond); (focus rfl))
        | (intro hg; (first | (simp only [zb] at hg; done) | ((try simp only [zb, eq_self] at hg); (have hh : True := hg); clear hh hg) | ((try simp only [zb] at hg); (try (have hh := hg; simp only [hh]; clear hh)); (try simp only [zg, zq, ne_eq, gt_iff_lt, ge_iff_le] at hg); (try (exfalso; omega)))))
        | with_reducible first | apply T_seq_assoc | apply T_skip_seq | apply T_ret_seq | apply T_exit_seq | apply T_ret | apply T_skip | apply T_exit | refine T_block_seq fun Kb hKb => ?_ | apply T_block
        | (simp only [TX.inBlock, TX.then, zi, Nat.reduceEqDiff])
        | ((with_reducible first | refine hR _ _ (fun C cc => ?_) | refine hN _ _ (fun C cc => ?_)); simp (disch := omega) only [go_sem]; (with_reducible apply cc); clear cc C)
        | (with_reducible apply_assumption -exfalso -symm only [*]))
      refine WL_do fun Cw cw => ?_
      (with_reducible first | apply O_callF | apply O_call); (repeat rfl); (try simp only [List.nil_append, List.append_nil, List.cons_append])
      refine (next_walk hp5 2).mono ?_
      rw [hI.next2]
      rintro u6 τ6 ⟨rfl, lab6, hp6, hg6⟩
      have hln := len_walk hp6 2
      have e := hI.len2
      simp only at hln
      rw [e] at hln
      (with_reducible apply cw); (focus ((try simp only [tput, List.set_cons_zero, List.set_cons_succ]); exact rfl)); clear cw Cw
      repeat' (first
        | ((with_reducible refine WL_do fun Cw cw => ?_); (first | ((with_reducible first | apply O_move | apply O_assign | apply O_pickV | apply O_extract); (repeat rfl)) | ((with_reducible first | apply O_load | apply O_fieldAddr | apply O_bin | apply O_indexAddr | apply O_len | apply O_un | apply O_store | apply O_alloc); (repeat rfl); simp (disch := omega) only [go_sem]) | ((with_reducible first | apply O_callF | apply O_call); (repeat rfl); (try simp only [za]); (refine TPure.go (by (first | apply haw | apply hln) <;> first | assumption | omega | exact Eq.trans (get_old (by assumption)) (by assumption)) ?_))); (with_reducible apply cw); (focus ((try simp only [zp]); exact rfl)); clear cw Cw)
        | ((first | ((with_reducible apply WL_if); (focus rfl)) | ((with_reducible apply WL_un); (focus rfl))); (focus ((try simp only [zp]); exact rfl)))
        | ((with_reducible refine WL_nil (hK _ _ ?_)); clear hK K)
        | ((with_reducible first | refine T_reg_seq fun K hK => ?_ | refine T_reg_end fun K hK => ?_); simp only [zl])
        | ((with_reducible first | apply T_cond_seq | apply T_cond); (focus rfl))
        | (intro hg; (first | (simp only [zb] at hg; done) | ((try simp only [zb, eq_self] at hg); (have hh : True := hg); clear hh hg) | ((try simp only [zb] at hg); (try (have hh := hg; simp only [hh]; clear hh)); (try simp only [zg, zq, ne_eq, gt_iff_lt, ge_iff_le] at hg); (try (exfalso; omega)))))
        | with_reducible first | apply T_seq_assoc | apply T_skip_seq | apply T_ret_seq | apply T_exit_seq | apply T_ret | apply T_skip | apply T_exit | refine T_block_seq fun Kb hKb => ?_ | apply T_block
        | (simp only [TX.inBlock, TX.then, zi, Nat.reduceEqDiff])
        | ((with_reducible first | refine hR _ _ (fun C cc => ?_) | refine hN _ _ (fun C cc => ?_)); simp (disch := omega) only [go_sem]; (with_reducible apply cc); clear cc C)
        | (with_reducible apply_assumption -exfalso -symm only [*]))
      all_goals trace_state
end Go.Proofs.Ytgkcackpffimmaa
