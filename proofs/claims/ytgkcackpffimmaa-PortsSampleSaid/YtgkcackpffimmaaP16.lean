/- The law PortsSample, walked. -/
import Derived.Test.YtgkcackpffimmaaP11
set_option linter.unusedVariables false
set_option linter.unusedSimpArgs false
set_option maxRecDepth 10000
set_option maxHeartbeats 4000000
namespace Go.Proofs.Ytgkcackpffimmaa
open Go.TM

abbrev bsS (fresh : Int) (l : List (List UInt8)) (at' : Int) : List Bx := [⟨⟨2, 1, 1, 2, false, 5, 0, 7, 200, 1, 0⟩, [], 0, false⟩, ⟨⟨3, 1, 1, 1, false, 5, 0, 8, 50, 0, fresh⟩, l, at', false⟩]
theorem putS_bad {fresh at' t : Int} {l : List (List UInt8)} {s : List UInt8} (ht : ¬ TimeOk t) : putR t 3 s (bsS fresh l at') = (bsS fresh l at', 1) := by rw [putR, if_pos ht]
theorem putS_old {fresh at' t : Int} {l : List (List UInt8)} {b : UInt8} (ht : TimeOk t) (hl : l ≠ []) (h : t < at') : putR t 3 [b] (bsS fresh l at') = (bsS fresh l at', 24) := by
  have hx : idx (pts (bsS fresh l at')) 3 = some 1 := rfl
  have hb : putB t [b] (nth (bsS fresh l at') 1) = (nth (bsS fresh l at') 1, 24) := by
    show putB t [b] ⟨⟨3, 1, 1, 1, false, 5, 0, 8, 50, 0, fresh⟩, l, at', false⟩ = _
    rw [putB, if_neg (by simp), if_pos (by simp), if_pos ⟨hl, h⟩]; rfl
  rw [putR, if_neg (fun e => e ht), hx]
  simp only
  rw [hb]; rfl
theorem putS_new {fresh at' t : Int} {l : List (List UInt8)} {b : UInt8} (ht : TimeOk t) (h : l = [] ∨ at' ≤ t) : putR t 3 [b] (bsS fresh l at') = (bsS fresh [[b]] t, 0) := by
  have hx : idx (pts (bsS fresh l at')) 3 = some 1 := rfl
  have hb : putB t [b] (nth (bsS fresh l at') 1) = (⟨⟨3, 1, 1, 1, false, 5, 0, 8, 50, 0, fresh⟩, [[b]], t, false⟩, 0) := by
    show putB t [b] ⟨⟨3, 1, 1, 1, false, 5, 0, 8, 50, 0, fresh⟩, l, at', false⟩ = _
    rw [putB, if_neg (by simp), if_pos (by simp), if_neg]
    rintro ⟨h1, h2⟩
    rcases h with h | h
    · exact h1 h
    · have h2 : t < at' := h2
      omega
  rw [putR, if_neg (fun e => e ht), hx]
  simp only
  rw [hb]; rfl
theorem sampleS0 {fresh : Int} {t : Int} (ht : TimeOk t) : sampleR t 3 (bsS fresh [] 0) = ([], false, 23) := by
  have hx : idx (pts (bsS fresh [] 0)) 3 = some 1 := rfl
  rw [sampleR, if_neg (fun e => e ht), hx]
  rfl
theorem sampleS1 {fresh at' t : Int} {s : List UInt8} (ht : TimeOk t) (h : at' ≤ t) : sampleR t 3 (bsS fresh [s] at') = (s, decide (t - at' ≤ fresh), 0) := by
  have hx : idx (pts (bsS fresh [s] at')) 3 = some 1 := rfl
  rw [sampleR, if_neg (fun e => e ht), hx]
  show sampleB t ⟨⟨3, 1, 1, 1, false, 5, 0, 8, 50, 0, fresh⟩, [s], at', false⟩ = _
  rw [sampleB, if_neg (by simp), if_neg (by simp), if_neg (by show ¬ t < at'; omega)]
  rfl

/-- What is known of the newest message. -/
def NewS (last : Int) (text : List UInt8) (l : List (List UInt8)) (at' : Int) : Prop := (last = -1 ∧ l = [] ∧ at' = 0) ∨ (0 ≤ last ∧ last ≤ 562949953421312 ∧ l = [text] ∧ at' = last)

theorem sample22_walk (fresh : Int) (hf : I64 fresh) (ticks : Row Int) (hti : ∀ t ∈ ticks.l, I64 t) (htl : ticks.l.length ≤ 9223372036854775807) (late : Int) (hla : I64 late) :
    TCalls Try.prog 15 [.int .i64 fresh, rowTV intC ticks, .int .i64 late] [] fun v _ => v = .bool true := by
  have haw := awake22_walk
  have hsm := fun τ => small_walk 1 fresh τ
  have hfew := smallC_few (depth := 1) (fresh := fresh) (by unfold I64; omega) hf
  have hcv : ∀ (b : UInt8) (τ : TS) (w mu : Bool), tconv (mkTab Try.prog) w mu τ 55 9 (.sl none 1 [.int .u8 b.toNat]) = some (.str (B [b]), τ) := fun b τ w mu => convSB (l := [b]) rfl
  by_cases he : (checkS (smallC 1 fresh)).2.2 = 0
  · have hok := okC_of he
    refine calls_of [] [.tmp 6] Try.func15 (by kernel_rfl) rfl (by kernel_rfl) fun X hR hN => ?_
    show Tw _ _ _ _ ([some _, some _, some _] ++ List.replicate 142 none) _
    simp only [List.replicate, List.cons_append, List.nil_append]
    repeat' (first
      | ((with_reducible refine WL_do fun Cw cw => ?_); (first | ((with_reducible first | apply O_move | apply O_assign | apply O_pickV | apply O_extract); (repeat rfl); (with_reducible apply cw); (focus ((try simp only [zp]); exact rfl)); clear cw Cw) | ((with_reducible first | apply O_load | apply O_bin | apply O_indexAddr | apply O_len); (repeat rfl); simp (disch := omega) only [go_sem]; (with_reducible apply cw); (focus ((try simp only [zp]); exact rfl)); clear cw Cw) | ((with_reducible first | apply O_buildSlice | apply O_convert); (repeat rfl); (try simp only [zc, zo, Nat.reduceBEq]); simp (disch := omega) only [go_sem]; (with_reducible apply cw); (focus ((try simp only [zp]); exact rfl)); clear cw Cw) | ((with_reducible first | apply O_callF | apply O_call); (repeat rfl); (try simp only [za]); (refine TPure.go (by (apply hsm) <;> first | assumption | omega | exact Eq.trans (get_old (by assumption)) (by assumption)) ?_); (with_reducible apply cw); (focus ((try simp only [zp]); exact rfl)); clear cw Cw)))
      | ((first | ((with_reducible apply WL_if); (focus rfl)) | ((with_reducible apply WL_un); (focus rfl))); (focus ((try simp only [zp]); exact rfl)))
      | ((with_reducible refine WL_nil (hK _ _ ?_)); clear hK K)
      | ((with_reducible first | refine T_reg_seq fun K hK => ?_ | refine T_reg_end fun K hK => ?_); simp only [zl])
      | ((with_reducible first | apply T_cond_seq | apply T_cond); (focus rfl))
      | (intro hg; (first | (simp only [zb] at hg; done) | ((try simp only [zb, eq_self] at hg); (have hh : True := hg); clear hh hg) | ((try simp only [zb] at hg); (try (have hh := hg; simp only [hh]; clear hh)); (try simp only [zg, zq, ne_eq, gt_iff_lt, ge_iff_le] at hg); (try (exfalso; omega)))))
      | with_reducible first | refine T_seq_assoc ?_ | refine T_skip_seq ?_ | refine T_ret_seq ?_ | refine T_exit_seq ?_ | refine T_ret ?_ | refine T_skip ?_ | refine T_exit ?_ | refine T_block_seq fun Kb hKb => ?_ | refine T_block ?_
      | (simp only [TX.inBlock, TX.then, zi, Nat.reduceEqDiff])
      | ((with_reducible first | refine hR _ _ (fun C cc => ?_) | refine hN _ _ (fun C cc => ?_)); simp (disch := omega) only [go_sem]; (with_reducible apply cc); clear cc C)
      | (with_reducible apply_assumption -exfalso -symm only [*]))
    refine WL_do fun Cw cw => ?_
    (with_reducible first | apply O_callF | apply O_call); (repeat rfl); (try simp only [List.nil_append, List.append_nil, List.cons_append])
    refine (own_new _ hfew 1 (by unfold I64; omega) _ (fun _ => 0) 1 hok (by simp [smallC])).mono ?_
    rintro u1 τ1 ⟨r, lm, locs, lab1, rfl, hp1, hg1⟩
    rw [roomOf_small] at hp1
    (with_reducible apply cw); (focus ((try simp only [tput, List.set_cons_zero, List.set_cons_succ]); exact rfl)); clear cw Cw
    repeat' (first
      | ((with_reducible refine WL_do fun Cw cw => ?_); (first | ((with_reducible first | apply O_move | apply O_assign | apply O_pickV | apply O_extract); (repeat rfl); (with_reducible apply cw); (focus ((try simp only [zp]); exact rfl)); clear cw Cw) | ((with_reducible first | apply O_load | apply O_bin | apply O_indexAddr | apply O_len); (repeat rfl); simp (disch := omega) only [go_sem]; (with_reducible apply cw); (focus ((try simp only [zp]); exact rfl)); clear cw Cw) | ((with_reducible first | apply O_buildSlice | apply O_convert); (repeat rfl); (try simp only [zc, zo, Nat.reduceBEq]); simp (disch := omega) only [go_sem]; (with_reducible apply cw); (focus ((try simp only [zp]); exact rfl)); clear cw Cw) | ((with_reducible first | apply O_callF | apply O_call); (repeat rfl); (try simp only [za]); (refine TPure.go (by (apply haw) <;> first | assumption | omega | exact Eq.trans (get_old (by assumption)) (by assumption)) ?_); (with_reducible apply cw); (focus ((try simp only [zp]); exact rfl)); clear cw Cw)))
      | ((first | ((with_reducible apply WL_if); (focus rfl)) | ((with_reducible apply WL_un); (focus rfl))); (focus ((try simp only [zp]); exact rfl)))
      | ((with_reducible refine WL_nil (hK _ _ ?_)); clear hK K)
      | ((with_reducible first | refine T_reg_seq fun K hK => ?_ | refine T_reg_end fun K hK => ?_); simp only [zl])
      | ((with_reducible first | apply T_cond_seq | apply T_cond); (focus rfl))
      | (intro hg; (first | (simp only [zb] at hg; done) | ((try simp only [zb, eq_self] at hg); (have hh : True := hg); clear hh hg) | ((try simp only [zb] at hg); (try (have hh := hg; simp only [hh]; clear hh)); (try simp only [zg, zq, ne_eq, gt_iff_lt, ge_iff_le] at hg); (try (exfalso; omega)))))
      | with_reducible first | refine T_seq_assoc ?_ | refine T_skip_seq ?_ | refine T_ret_seq ?_ | refine T_exit_seq ?_ | refine T_ret ?_ | refine T_skip ?_ | refine T_exit ?_ | refine T_block_seq fun Kb hKb => ?_ | refine T_block ?_
      | (simp only [TX.inBlock, TX.then, zi, Nat.reduceEqDiff])
      | ((with_reducible first | refine hR _ _ (fun C cc => ?_) | refine hN _ _ (fun C cc => ?_)); simp (disch := omega) only [go_sem]; (with_reducible apply cc); clear cc C)
      | (with_reducible apply_assumption -exfalso -symm only [*]))
    refine T_each (α := Nat × TS × (Nat → Nat) × Int × List UInt8 × List (List UInt8) × Int) (fun (i, τ, lab, last, text, l, at') => [some (some (.int .i64 fresh)), some (some (rowTV intC ticks)), some (some (.int .i64 late)), none, none, none, none, some (some (.ptr r 0)), none, some (some (.int .i64 last)), some (some (.str (B text))), some (some (.int .i64 i)), none, none, none, none, none, none, none, none, none, none, none, none, none, none, none, none, none, none, none, none, none, none, none, none, none, none, none, none, none, none, none, none, none, none, none, none, none, none, none, none, none, none, none, none, none, none, none, none, none, none, none, none, none, none, none, none, none, none, none, none, none, none, none, none, none, none, none, none, none, none, none, none, none, none, none, none, none, none, none, none, none, none, none, none, none, none, none, none, none, none, none, none, none, none, none, none, none, none, none, none, none, none, none, none, none, none, none, none, none, none, none, none, none, none, none, none, none, none, none, none, none, none, none, none, none, none, none, none, none, none, none, none, none]) (fun (i, τ, lab, last, text, l, at') => i ≤ ticks.l.length ∧ RoomP τ lab 1 r lm locs (bsS fresh l at') ∧ NewS last text l at') (fun (i, τ, lab, last, text, l, at') => ticks.l.length - i) (fun (i, τ, lab, last, text, l, at') => τ) ?_ ?_
    · refine ⟨(0, τ1, lab1, -1, [], [], 0), ⟨rfl, rfl, rfl, rfl, rfl, rfl, rfl, trivial⟩, ?_, rfl⟩
      exact ⟨by omega, hp1, .inl ⟨rfl, rfl, rfl⟩⟩
    · rintro ⟨i, τ, lab, last, text, l, at'⟩ q ⟨hi, hP, hN⟩
      show Tw _ _ _ _ ([some (.int .i64 fresh), some (rowTV intC ticks), some (.int .i64 late), q 3, q 4, q 5, q 6, some (.ptr r 0), q 8, some (.int .i64 last), some (.str (B text)), some (.int .i64 i), q 12, q 13, q 14, q 15, q 16, q 17, q 18, q 19, q 20, q 21, q 22, q 23, q 24, q 25, q 26, q 27, q 28, q 29, q 30, q 31, q 32, q 33, q 34, q 35, q 36, q 37, q 38, q 39, q 40, q 41, q 42, q 43, q 44, q 45, q 46, q 47, q 48, q 49, q 50, q 51, q 52, q 53, q 54, q 55, q 56, q 57, q 58, q 59, q 60, q 61, q 62, q 63, q 64, q 65, q 66, q 67, q 68, q 69, q 70, q 71, q 72, q 73, q 74, q 75, q 76, q 77, q 78, q 79, q 80, q 81, q 82, q 83, q 84, q 85, q 86, q 87, q 88, q 89, q 90, q 91, q 92, q 93, q 94, q 95, q 96, q 97, q 98, q 99, q 100, q 101, q 102, q 103, q 104, q 105, q 106, q 107, q 108, q 109, q 110, q 111, q 112, q 113, q 114, q 115, q 116, q 117, q 118, q 119, q 120, q 121, q 122, q 123, q 124, q 125, q 126, q 127, q 128, q 129, q 130, q 131, q 132, q 133, q 134, q 135, q 136, q 137, q 138, q 139, q 140, q 141, q 142, q 143, q 144]) (τ)
      rcases Nat.lt_or_ge i ticks.l.length with hlt | hge
      · have htx := hti _ (nth_mem hlt)
        rcases (show ((nth ticks.l i) < 0 ∨ (nth ticks.l i) > 562949953421312) ∨ (0 ≤ nth ticks.l i ∧ nth ticks.l i ≤ 562949953421312) by omega) with hbad | htk
        · repeat' (first
            | ((with_reducible refine WL_do fun Cw cw => ?_); (first | ((with_reducible first | apply O_move | apply O_assign | apply O_pickV | apply O_extract); (repeat rfl); (with_reducible apply cw); (focus ((try simp only [zp]); exact rfl)); clear cw Cw) | ((with_reducible first | apply O_load | apply O_bin | apply O_indexAddr | apply O_len); (repeat rfl); simp (disch := omega) only [go_sem, wrap_b8, ↓hcv]; (with_reducible apply cw); (focus ((try simp only [zp]); exact rfl)); clear cw Cw) | ((with_reducible first | apply O_buildSlice | apply O_convert); (repeat rfl); (try simp only [zc, zo, Nat.reduceBEq]); simp (disch := omega) only [go_sem, wrap_b8, ↓hcv]; (with_reducible apply cw); (focus ((try simp only [zp]); exact rfl)); clear cw Cw)))
            | ((first | ((with_reducible apply WL_if); (focus rfl)) | ((with_reducible apply WL_un); (focus rfl))); (focus ((try simp only [zp]); exact rfl)))
            | ((with_reducible refine WL_nil (hK _ _ ?_)); clear hK K)
            | ((with_reducible first | refine T_reg_seq fun K hK => ?_ | refine T_reg_end fun K hK => ?_); simp only [zl])
            | ((with_reducible first | apply T_cond_seq | apply T_cond); (focus rfl))
            | (intro hg; (first | (simp only [zb] at hg; done) | ((try simp only [zb, eq_self] at hg); (have hh : True := hg); clear hh hg) | ((try simp only [zb] at hg); (try (have hh := hg; simp only [hh]; clear hh)); (try simp only [zg, zq, ne_eq, gt_iff_lt, ge_iff_le] at hg); (try (exfalso; omega)))))
            | with_reducible first | refine T_seq_assoc ?_ | refine T_skip_seq ?_ | refine T_ret_seq ?_ | refine T_exit_seq ?_ | refine T_ret ?_ | refine T_skip ?_ | refine T_exit ?_ | refine T_block_seq fun Kb hKb => ?_ | refine T_block ?_
            | (simp only [TX.inBlock, TX.then, zi, Nat.reduceEqDiff])
            | ((with_reducible first | refine hR _ _ (fun C cc => ?_) | refine hN _ _ (fun C cc => ?_)); simp (disch := omega) only [go_sem, wrap_b8, ↓hcv]; (with_reducible apply cc); clear cc C)
            | (with_reducible apply_assumption -exfalso -symm only [*]))
          refine WL_do fun Cw cw => ?_
          (with_reducible first | apply O_callF | apply O_call); (repeat rfl); (try simp only [List.nil_append, List.append_nil, List.cons_append])
          refine (put_walk hP (nth ticks.l i) 3 [b8 (97 + i)]).mono ?_
          rintro u5 τ5 ⟨rfl, lab5, hp5, hg5⟩
          generalize (putR (nth ticks.l i) 3 [b8 (97 + i)] (bsS fresh l at')).2 = e5
          (with_reducible apply cw); (focus ((try simp only [tput, List.set_cons_zero, List.set_cons_succ]); exact rfl)); clear cw Cw
          rcases hbad with hb | hb
          all_goals
            repeat' (first
              | ((with_reducible refine WL_do fun Cw cw => ?_); (first | ((with_reducible first | apply O_move | apply O_assign | apply O_pickV | apply O_extract); (repeat rfl); (with_reducible apply cw); (focus ((try simp only [zp]); exact rfl)); clear cw Cw) | ((with_reducible first | apply O_load | apply O_bin | apply O_indexAddr | apply O_len); (repeat rfl); simp (disch := omega) only [go_sem]; (with_reducible apply cw); (focus ((try simp only [zp]); exact rfl)); clear cw Cw) | ((with_reducible first | apply O_buildSlice | apply O_convert); (repeat rfl); (try simp only [zc, zo, Nat.reduceBEq]); simp (disch := omega) only [go_sem]; (with_reducible apply cw); (focus ((try simp only [zp]); exact rfl)); clear cw Cw) | ((with_reducible first | apply O_callF | apply O_call); (repeat rfl); (try simp only [za]); (refine TPure.go (by (apply haw) <;> first | assumption | omega | exact Eq.trans (get_old (by assumption)) (by assumption)) ?_); (with_reducible apply cw); (focus ((try simp only [zp]); exact rfl)); clear cw Cw)))
              | ((first | ((with_reducible apply WL_if); (focus rfl)) | ((with_reducible apply WL_un); (focus rfl))); (focus ((try simp only [zp]); exact rfl)))
              | ((with_reducible refine WL_nil (hK _ _ ?_)); clear hK K)
              | ((with_reducible first | refine T_reg_seq fun K hK => ?_ | refine T_reg_end fun K hK => ?_); simp only [zl])
              | ((with_reducible first | apply T_cond_seq | apply T_cond); (focus rfl))
              | (intro hg; (first | (simp only [zb] at hg; done) | ((try simp only [zb, eq_self] at hg); (have hh : True := hg); clear hh hg) | ((try simp only [zb] at hg); (try (have hh := hg; simp only [hh]; clear hh)); (try simp only [zg, zq, ne_eq, gt_iff_lt, ge_iff_le] at hg); (try (exfalso; omega)))))
              | with_reducible first | refine T_seq_assoc ?_ | refine T_skip_seq ?_ | refine T_ret_seq ?_ | refine T_exit_seq ?_ | refine T_ret ?_ | refine T_skip ?_ | refine T_exit ?_ | refine T_block_seq fun Kb hKb => ?_ | refine T_block ?_
              | (simp only [TX.inBlock, TX.then, zi, Nat.reduceEqDiff])
              | ((with_reducible first | refine hR _ _ (fun C cc => ?_) | refine hN _ _ (fun C cc => ?_)); simp (disch := omega) only [go_sem]; (with_reducible apply cc); clear cc C)
              | (with_reducible apply_assumption -exfalso -symm only [*]))
        have hTO : TimeOk (nth ticks.l i) := ⟨htk.1, by omega⟩
        by_cases hge : nth ticks.l i ≥ last
        · repeat' (first
            | ((with_reducible refine WL_do fun Cw cw => ?_); (first | ((with_reducible first | apply O_move | apply O_assign | apply O_pickV | apply O_extract); (repeat rfl); (with_reducible apply cw); (focus ((try simp only [zp]); exact rfl)); clear cw Cw) | ((with_reducible first | apply O_load | apply O_bin | apply O_indexAddr | apply O_len); (repeat rfl); simp (disch := omega) only [go_sem, wrap_b8, ↓hcv]; (with_reducible apply cw); (focus ((try simp only [zp]); exact rfl)); clear cw Cw) | ((with_reducible first | apply O_buildSlice | apply O_convert); (repeat rfl); (try simp only [zc, zo, Nat.reduceBEq]); simp (disch := omega) only [go_sem, wrap_b8, ↓hcv]; (with_reducible apply cw); (focus ((try simp only [zp]); exact rfl)); clear cw Cw)))
            | ((first | ((with_reducible apply WL_if); (focus rfl)) | ((with_reducible apply WL_un); (focus rfl))); (focus ((try simp only [zp]); exact rfl)))
            | ((with_reducible refine WL_nil (hK _ _ ?_)); clear hK K)
            | ((with_reducible first | refine T_reg_seq fun K hK => ?_ | refine T_reg_end fun K hK => ?_); simp only [zl])
            | ((with_reducible first | apply T_cond_seq | apply T_cond); (focus rfl))
            | (intro hg; (first | (simp only [zb] at hg; done) | ((try simp only [zb, eq_self] at hg); (have hh : True := hg); clear hh hg) | ((try simp only [zb] at hg); (try (have hh := hg; simp only [hh]; clear hh)); (try simp only [zg, zq, ne_eq, gt_iff_lt, ge_iff_le] at hg); (try (exfalso; omega)))))
            | with_reducible first | refine T_seq_assoc ?_ | refine T_skip_seq ?_ | refine T_ret_seq ?_ | refine T_exit_seq ?_ | refine T_ret ?_ | refine T_skip ?_ | refine T_exit ?_ | refine T_block_seq fun Kb hKb => ?_ | refine T_block ?_
            | (simp only [TX.inBlock, TX.then, zi, Nat.reduceEqDiff])
            | ((with_reducible first | refine hR _ _ (fun C cc => ?_) | refine hN _ _ (fun C cc => ?_)); simp (disch := omega) only [go_sem, wrap_b8, ↓hcv]; (with_reducible apply cc); clear cc C)
            | (with_reducible apply_assumption -exfalso -symm only [*]))
          refine WL_do fun Cw cw => ?_
          (with_reducible first | apply O_callF | apply O_call); (repeat rfl); (try simp only [List.nil_append, List.append_nil, List.cons_append])
          refine (put_walk hP (nth ticks.l i) 3 [b8 (97 + i)]).mono ?_
          rw [putS_new hTO (by rcases hN with ⟨_, h2, _⟩ | ⟨_, _, _, h4⟩; exact .inl h2; exact .inr (by omega))]
          rintro u5 τ5 ⟨rfl, lab5, hp5, hg5⟩
          (with_reducible apply cw); (focus ((try simp only [tput, List.set_cons_zero, List.set_cons_succ]); exact rfl)); clear cw Cw
          repeat' (first
            | ((with_reducible refine WL_do fun Cw cw => ?_); (first | ((with_reducible first | apply O_move | apply O_assign | apply O_pickV | apply O_extract); (repeat rfl); (with_reducible apply cw); (focus ((try simp only [zp]); exact rfl)); clear cw Cw) | ((with_reducible first | apply O_load | apply O_bin | apply O_indexAddr | apply O_len); (repeat rfl); simp (disch := omega) only [go_sem, decide_eq_true hge]; (with_reducible apply cw); (focus ((try simp only [zp]); exact rfl)); clear cw Cw) | ((with_reducible first | apply O_buildSlice | apply O_convert); (repeat rfl); (try simp only [zc, zo, Nat.reduceBEq]); simp (disch := omega) only [go_sem, decide_eq_true hge]; (with_reducible apply cw); (focus ((try simp only [zp]); exact rfl)); clear cw Cw)))
            | ((first | ((with_reducible apply WL_if); (focus rfl)) | ((with_reducible apply WL_un); (focus rfl))); (focus ((try simp only [zp]); exact rfl)))
            | ((with_reducible refine WL_nil (hK _ _ ?_)); clear hK K)
            | ((with_reducible first | refine T_reg_seq fun K hK => ?_ | refine T_reg_end fun K hK => ?_); simp only [zl])
            | ((with_reducible first | apply T_cond_seq | apply T_cond); (focus rfl))
            | (intro hg; (first | (simp only [zb] at hg; done) | ((try simp only [zb, eq_self] at hg); (have hh : True := hg); clear hh hg) | ((try simp only [zb] at hg); (try (have hh := hg; simp only [hh]; clear hh)); (try simp only [zg, zq, ne_eq, gt_iff_lt, ge_iff_le] at hg); (try (exfalso; omega)))))
            | with_reducible first | refine T_seq_assoc ?_ | refine T_skip_seq ?_ | refine T_ret_seq ?_ | refine T_exit_seq ?_ | refine T_ret ?_ | refine T_skip ?_ | refine T_exit ?_ | refine T_block_seq fun Kb hKb => ?_ | refine T_block ?_
            | (simp only [TX.inBlock, TX.then, zi, Nat.reduceEqDiff])
            | ((with_reducible first | refine hR _ _ (fun C cc => ?_) | refine hN _ _ (fun C cc => ?_)); simp (disch := omega) only [go_sem, decide_eq_true hge]; (with_reducible apply cc); clear cc C)
            | (with_reducible apply_assumption -exfalso -symm only [*]))
          refine ⟨(i + 1, τ5, lab5, nth ticks.l i, [b8 (97 + i)], [[b8 (97 + i)]], nth ticks.l i), ?_, ⟨rfl, rfl, rfl, rfl, rfl, rfl, rfl, trivial⟩, ⟨?_, hp5, .inr ⟨htk.1, htk.2, rfl, rfl⟩⟩, rfl⟩ <;> (try dsimp only) <;> omega
        · have hN' : 0 ≤ last ∧ last ≤ 562949953421312 ∧ l = [text] ∧ at' = last := by
            rcases hN with ⟨h1, _, _⟩ | h
            · omega
            · exact h
          repeat' (first
            | ((with_reducible refine WL_do fun Cw cw => ?_); (first | ((with_reducible first | apply O_move | apply O_assign | apply O_pickV | apply O_extract); (repeat rfl); (with_reducible apply cw); (focus ((try simp only [zp]); exact rfl)); clear cw Cw) | ((with_reducible first | apply O_load | apply O_bin | apply O_indexAddr | apply O_len); (repeat rfl); simp (disch := omega) only [go_sem, wrap_b8, ↓hcv]; (with_reducible apply cw); (focus ((try simp only [zp]); exact rfl)); clear cw Cw) | ((with_reducible first | apply O_buildSlice | apply O_convert); (repeat rfl); (try simp only [zc, zo, Nat.reduceBEq]); simp (disch := omega) only [go_sem, wrap_b8, ↓hcv]; (with_reducible apply cw); (focus ((try simp only [zp]); exact rfl)); clear cw Cw)))
            | ((first | ((with_reducible apply WL_if); (focus rfl)) | ((with_reducible apply WL_un); (focus rfl))); (focus ((try simp only [zp]); exact rfl)))
            | ((with_reducible refine WL_nil (hK _ _ ?_)); clear hK K)
            | ((with_reducible first | refine T_reg_seq fun K hK => ?_ | refine T_reg_end fun K hK => ?_); simp only [zl])
            | ((with_reducible first | apply T_cond_seq | apply T_cond); (focus rfl))
            | (intro hg; (first | (simp only [zb] at hg; done) | ((try simp only [zb, eq_self] at hg); (have hh : True := hg); clear hh hg) | ((try simp only [zb] at hg); (try (have hh := hg; simp only [hh]; clear hh)); (try simp only [zg, zq, ne_eq, gt_iff_lt, ge_iff_le] at hg); (try (exfalso; omega)))))
            | with_reducible first | refine T_seq_assoc ?_ | refine T_skip_seq ?_ | refine T_ret_seq ?_ | refine T_exit_seq ?_ | refine T_ret ?_ | refine T_skip ?_ | refine T_exit ?_ | refine T_block_seq fun Kb hKb => ?_ | refine T_block ?_
            | (simp only [TX.inBlock, TX.then, zi, Nat.reduceEqDiff])
            | ((with_reducible first | refine hR _ _ (fun C cc => ?_) | refine hN _ _ (fun C cc => ?_)); simp (disch := omega) only [go_sem, wrap_b8, ↓hcv]; (with_reducible apply cc); clear cc C)
            | (with_reducible apply_assumption -exfalso -symm only [*]))
          refine WL_do fun Cw cw => ?_
          (with_reducible first | apply O_callF | apply O_call); (repeat rfl); (try simp only [List.nil_append, List.append_nil, List.cons_append])
          refine (put_walk hP (nth ticks.l i) 3 [b8 (97 + i)]).mono ?_
          rw [putS_old hTO (by rw [hN'.2.2.1]; simp) (by omega)]
          rintro u5 τ5 ⟨rfl, lab5, hp5, hg5⟩
          (with_reducible apply cw); (focus ((try simp only [tput, List.set_cons_zero, List.set_cons_succ]); exact rfl)); clear cw Cw
          repeat' (first
            | ((with_reducible refine WL_do fun Cw cw => ?_); (first | ((with_reducible first | apply O_move | apply O_assign | apply O_pickV | apply O_extract); (repeat rfl); (with_reducible apply cw); (focus ((try simp only [zp]); exact rfl)); clear cw Cw) | ((with_reducible first | apply O_load | apply O_bin | apply O_indexAddr | apply O_len); (repeat rfl); simp (disch := omega) only [go_sem, decide_eq_false hge]; (with_reducible apply cw); (focus ((try simp only [zp]); exact rfl)); clear cw Cw) | ((with_reducible first | apply O_buildSlice | apply O_convert); (repeat rfl); (try simp only [zc, zo, Nat.reduceBEq]); simp (disch := omega) only [go_sem, decide_eq_false hge]; (with_reducible apply cw); (focus ((try simp only [zp]); exact rfl)); clear cw Cw)))
            | ((first | ((with_reducible apply WL_if); (focus rfl)) | ((with_reducible apply WL_un); (focus rfl))); (focus ((try simp only [zp]); exact rfl)))
            | ((with_reducible refine WL_nil (hK _ _ ?_)); clear hK K)
            | ((with_reducible first | refine T_reg_seq fun K hK => ?_ | refine T_reg_end fun K hK => ?_); simp only [zl])
            | ((with_reducible first | apply T_cond_seq | apply T_cond); (focus rfl))
            | (intro hg; (first | (simp only [zb] at hg; done) | ((try simp only [zb, eq_self] at hg); (have hh : True := hg); clear hh hg) | ((try simp only [zb] at hg); (try (have hh := hg; simp only [hh]; clear hh)); (try simp only [zg, zq, ne_eq, gt_iff_lt, ge_iff_le] at hg); (try (exfalso; omega)))))
            | with_reducible first | refine T_seq_assoc ?_ | refine T_skip_seq ?_ | refine T_ret_seq ?_ | refine T_exit_seq ?_ | refine T_ret ?_ | refine T_skip ?_ | refine T_exit ?_ | refine T_block_seq fun Kb hKb => ?_ | refine T_block ?_
            | (simp only [TX.inBlock, TX.then, zi, Nat.reduceEqDiff])
            | ((with_reducible first | refine hR _ _ (fun C cc => ?_) | refine hN _ _ (fun C cc => ?_)); simp (disch := omega) only [go_sem, decide_eq_false hge]; (with_reducible apply cc); clear cc C)
            | (with_reducible apply_assumption -exfalso -symm only [*]))
          refine ⟨(i + 1, τ5, lab5, last, text, l, at'), ?_, ⟨rfl, rfl, rfl, rfl, rfl, rfl, rfl, trivial⟩, ⟨?_, hp5, hN⟩, rfl⟩ <;> (try dsimp only) <;> omega
      · rcases hN with ⟨rfl, rfl, rfl⟩ | ⟨h1, h2, rfl, rfl⟩
        · have hs := sample_walk hP late 3
          rw [sampleS0 ⟨by omega, by omega⟩] at hs
          repeat' (first
            | ((with_reducible refine WL_do fun Cw cw => ?_); (first | ((with_reducible first | apply O_move | apply O_assign | apply O_pickV | apply O_extract); (repeat rfl); (with_reducible apply cw); (focus ((try simp only [zp]); exact rfl)); clear cw Cw) | ((with_reducible first | apply O_load | apply O_bin | apply O_indexAddr | apply O_len); (repeat rfl); simp (disch := omega) only [go_sem]; (with_reducible apply cw); (focus ((try simp only [zp]); exact rfl)); clear cw Cw) | ((with_reducible first | apply O_buildSlice | apply O_convert); (repeat rfl); (try simp only [zc, zo, Nat.reduceBEq]); simp (disch := omega) only [go_sem]; (with_reducible apply cw); (focus ((try simp only [zp]); exact rfl)); clear cw Cw) | ((with_reducible first | apply O_callF | apply O_call); (repeat rfl); (try simp only [za]); (refine TPure.go (by (first | apply haw | apply hs) <;> first | assumption | omega | exact Eq.trans (get_old (by assumption)) (by assumption)) ?_); (with_reducible apply cw); (focus ((try simp only [zp]); exact rfl)); clear cw Cw)))
            | ((first | ((with_reducible apply WL_if); (focus rfl)) | ((with_reducible apply WL_un); (focus rfl))); (focus ((try simp only [zp]); exact rfl)))
            | ((with_reducible refine WL_nil (hK _ _ ?_)); clear hK K)
            | ((with_reducible first | refine T_reg_seq fun K hK => ?_ | refine T_reg_end fun K hK => ?_); simp only [zl])
            | ((with_reducible first | apply T_cond_seq | apply T_cond); (focus rfl))
            | (intro hg; (first | (simp only [zb] at hg; done) | ((try simp only [zb, eq_self] at hg); (have hh : True := hg); clear hh hg) | ((try simp only [zb] at hg); (try (have hh := hg; simp only [hh]; clear hh)); (try simp only [zg, zq, ne_eq, gt_iff_lt, ge_iff_le] at hg); (try (exfalso; omega)))))
            | with_reducible first | refine T_seq_assoc ?_ | refine T_skip_seq ?_ | refine T_ret_seq ?_ | refine T_exit_seq ?_ | refine T_ret ?_ | refine T_skip ?_ | refine T_exit ?_ | refine T_block_seq fun Kb hKb => ?_ | refine T_block ?_
            | (simp only [TX.inBlock, TX.then, zi, Nat.reduceEqDiff])
            | ((with_reducible first | refine hR _ _ (fun C cc => ?_) | refine hN _ _ (fun C cc => ?_)); simp (disch := omega) only [go_sem]; (with_reducible apply cc); clear cc C)
            | (with_reducible apply_assumption -exfalso -symm only [*]))
        · have hs := sample_walk hP (at' + late) 3
          rw [sampleS1 ⟨by omega, by omega⟩ (by omega), show at' + late - at' = late by omega] at hs
          have hln := len_walk hP 3
          have hl1 : lenR 3 (bsS fresh [text] at') = 1 := rfl
          rw [hl1] at hln
          repeat' (first
            | ((with_reducible refine WL_do fun Cw cw => ?_); (first | ((with_reducible first | apply O_move | apply O_assign | apply O_pickV | apply O_extract); (repeat rfl); (with_reducible apply cw); (focus ((try simp only [zp]); exact rfl)); clear cw Cw) | ((with_reducible first | apply O_load | apply O_bin | apply O_indexAddr | apply O_len); (repeat rfl); simp (disch := omega) only [go_sem]; (with_reducible apply cw); (focus ((try simp only [zp]); exact rfl)); clear cw Cw) | ((with_reducible first | apply O_buildSlice | apply O_convert); (repeat rfl); (try simp only [zc, zo, Nat.reduceBEq]); simp (disch := omega) only [go_sem]; (with_reducible apply cw); (focus ((try simp only [zp]); exact rfl)); clear cw Cw) | ((with_reducible first | apply O_callF | apply O_call); (repeat rfl); (try simp only [za]); (refine TPure.go (by (first | apply haw | apply hs | apply hln) <;> first | assumption | omega | exact Eq.trans (get_old (by assumption)) (by assumption)) ?_); (with_reducible apply cw); (focus ((try simp only [zp]); exact rfl)); clear cw Cw)))
            | ((first | ((with_reducible apply WL_if); (focus rfl)) | ((with_reducible apply WL_un); (focus rfl))); (focus ((try simp only [zp]); exact rfl)))
            | ((with_reducible refine WL_nil (hK _ _ ?_)); clear hK K)
            | ((with_reducible first | refine T_reg_seq fun K hK => ?_ | refine T_reg_end fun K hK => ?_); simp only [zl])
            | ((with_reducible first | apply T_cond_seq | apply T_cond); (focus rfl))
            | (intro hg; (first | (simp only [zb] at hg; done) | ((try simp only [zb, eq_self] at hg); (have hh : True := hg); clear hh hg) | ((try simp only [zb] at hg); (try (have hh := hg; simp only [hh]; clear hh)); (try simp only [zg, zq, ne_eq, gt_iff_lt, ge_iff_le] at hg); (try (exfalso; omega)))))
            | with_reducible first | refine T_seq_assoc ?_ | refine T_skip_seq ?_ | refine T_ret_seq ?_ | refine T_exit_seq ?_ | refine T_ret ?_ | refine T_skip ?_ | refine T_exit ?_ | refine T_block_seq fun Kb hKb => ?_ | refine T_block ?_
            | (simp only [TX.inBlock, TX.then, zi, Nat.reduceEqDiff])
            | ((with_reducible first | refine hR _ _ (fun C cc => ?_) | refine hN _ _ (fun C cc => ?_)); simp (disch := omega) only [go_sem]; (with_reducible apply cc); clear cc C)
            | (with_reducible apply_assumption -exfalso -symm only [*]))
          all_goals trace_state
  · have h1 := fun τ => new_bad (smallC 1 fresh) hfew 1 τ he
    have hne : ((checkS (smallC 1 fresh)).2.2 != 0) = true := by simpa using he
    refine calls_of [] [.tmp 6] Try.func15 (by kernel_rfl) rfl (by kernel_rfl) fun X hR hN => ?_
    show Tw _ _ _ _ ([some _, some _, some _] ++ List.replicate 142 none) _
    simp only [List.replicate, List.cons_append, List.nil_append]
    repeat' (first
      | ((with_reducible refine WL_do fun Cw cw => ?_); (first | ((with_reducible first | apply O_move | apply O_assign | apply O_pickV | apply O_extract); (repeat rfl); (with_reducible apply cw); (focus ((try simp only [zp]); exact rfl)); clear cw Cw) | ((with_reducible first | apply O_load | apply O_bin | apply O_indexAddr | apply O_len); (repeat rfl); simp (disch := omega) only [go_sem, hne]; (with_reducible apply cw); (focus ((try simp only [zp]); exact rfl)); clear cw Cw) | ((with_reducible first | apply O_buildSlice | apply O_convert); (repeat rfl); (try simp only [zc, zo, Nat.reduceBEq]); simp (disch := omega) only [go_sem, hne]; (with_reducible apply cw); (focus ((try simp only [zp]); exact rfl)); clear cw Cw) | ((with_reducible first | apply O_callF | apply O_call); (repeat rfl); (try simp only [za]); (refine TPure.go (by (first | apply hsm | apply haw | apply h1) <;> first | assumption | omega | exact Eq.trans (get_old (by assumption)) (by assumption)) ?_); (with_reducible apply cw); (focus ((try simp only [zp]); exact rfl)); clear cw Cw)))
      | ((first | ((with_reducible apply WL_if); (focus rfl)) | ((with_reducible apply WL_un); (focus rfl))); (focus ((try simp only [zp]); exact rfl)))
      | ((with_reducible refine WL_nil (hK _ _ ?_)); clear hK K)
      | ((with_reducible first | refine T_reg_seq fun K hK => ?_ | refine T_reg_end fun K hK => ?_); simp only [zl])
      | ((with_reducible first | apply T_cond_seq | apply T_cond); (focus rfl))
      | (intro hg; (first | (simp only [zb] at hg; done) | ((try simp only [zb, eq_self] at hg); (have hh : True := hg); clear hh hg) | ((try simp only [zb] at hg); (try (have hh := hg; simp only [hh]; clear hh)); (try simp only [zg, zq, ne_eq, gt_iff_lt, ge_iff_le] at hg); (try (exfalso; omega)))))
      | with_reducible first | refine T_seq_assoc ?_ | refine T_skip_seq ?_ | refine T_ret_seq ?_ | refine T_exit_seq ?_ | refine T_ret ?_ | refine T_skip ?_ | refine T_exit ?_ | refine T_block_seq fun Kb hKb => ?_ | refine T_block ?_
      | (simp only [TX.inBlock, TX.then, zi, Nat.reduceEqDiff])
      | ((with_reducible first | refine hR _ _ (fun C cc => ?_) | refine hN _ _ (fun C cc => ?_)); simp (disch := omega) only [go_sem, hne]; (with_reducible apply cc); clear cc C)
      | (with_reducible apply_assumption -exfalso -symm only [*]))
    all_goals trace_state
end Go.Proofs.Ytgkcackpffimmaa
