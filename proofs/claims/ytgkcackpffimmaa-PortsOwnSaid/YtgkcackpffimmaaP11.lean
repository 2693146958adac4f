/- The small network of the ports, the examples, and what a nil room answers. -/
import Derived.Test.YtgkcackpffimmaaP10
import Derived.Test.YtgkcackpffimmaaT31
set_option linter.unusedVariables false
set_option linter.unusedSimpArgs false
set_option maxRecDepth 10000
set_option maxHeartbeats 4000000
namespace Go.Proofs.Ytgkcackpffimmaa
open Go.TM

def smallC (depth fresh : Int) : Cfg := ⟨2, Row.some [0, 1], 1000, Row.none, Row.some [⟨5, 0, 0, 100, false, 1, 0, Row.some [1]⟩],
  Row.some [⟨2, 1, 1, 2, false, 5, 0, 7, 200, depth, 0⟩, ⟨3, 1, 1, 1, false, 5, 0, 8, 50, 0, fresh⟩]⟩
theorem smallC_ok {depth fresh : Int} (hd : I64 depth) (hf : I64 fresh) : (smallC depth fresh).ok := by
  refine ⟨by unfold I64; simp [smallC], by unfold I64; simp [smallC], by simp [smallC, Row.some], by simp [smallC, Row.none], by simp [smallC, Row.some], by simp [smallC, Row.some], ?_, ?_, ?_, ?_⟩
  · intro h hh; simp [smallC, Row.some] at hh; unfold I64; omega
  · intro w hw; simp [smallC, Row.none] at hw
  · intro v hv; simp [smallC, Row.some] at hv; subst hv; simp [Link.ok, I64, Row.some]
  · intro p hp
    simp [smallC, Row.some] at hp
    unfold I64 at hd hf
    rcases hp with rfl | rfl <;> simp [Port.ok, I64] <;> omega
theorem smallC_few {depth fresh : Int} (hd : I64 depth) (hf : I64 fresh) : FewC (smallC depth fresh) :=
  ⟨smallC_ok hd hf, by simp [smallC, Row.some], by simp [smallC, Row.none], by simp [smallC, Row.some], by simp [smallC, Row.some], by intro v hv; simp [smallC, Row.some] at hv; subst hv; simp [Row.some]⟩

theorem small_walk (depth fresh : Int) (σ : TS) : TPure Try.prog 44 [.int .i64 depth, .int .i64 fresh] σ (cfgTV (smallC depth fresh)) := by
  have h24 : ∀ τ, tbuildSlice (mkTab Try.prog) false τ 24 1 [(0, .agg [.int .i64 5, .int .i64 0, .int .i64 0, .int .i64 100, .bool false, .int .i64 1, .int .i64 0, .sl none 1 [.int .i64 1]])] = some (rowTV linkC (Row.some [⟨5, 0, 0, 100, false, 1, 0, Row.some [1]⟩]), τ) := fun τ =>
    build_all tab24 rfl tab40 rfl rfl (by decide) [linkTV ⟨5, 0, 0, 100, false, 1, 0, Row.some [1]⟩] (by intro v hv; simp at hv; subst hv; exact ⟨rfl, rfl⟩) (by decide) false
  have h25 : ∀ τ, tbuildSlice (mkTab Try.prog) false τ 25 2 [(0, .agg [.int .i64 2, .int .i64 1, .int .i64 1, .int .i64 2, .bool false, .int .i64 5, .int .i64 0, .int .i64 7, .int .i64 200, .int .i64 depth, .int .i64 0]), (1, .agg [.int .i64 3, .int .i64 1, .int .i64 1, .int .i64 1, .bool false, .int .i64 5, .int .i64 0, .int .i64 8, .int .i64 50, .int .i64 0, .int .i64 fresh])] =
      some (rowTV portC (Row.some [⟨2, 1, 1, 2, false, 5, 0, 7, 200, depth, 0⟩, ⟨3, 1, 1, 1, false, 5, 0, 8, 50, 0, fresh⟩]), τ) := fun τ =>
    build_all tab25 rfl tab38 rfl rfl (by decide) [portTV ⟨2, 1, 1, 2, false, 5, 0, 7, 200, depth, 0⟩, portTV ⟨3, 1, 1, 1, false, 5, 0, 8, 50, 0, fresh⟩] (by intro v hv; simp at hv; rcases hv with rfl | rfl <;> exact ⟨rfl, rfl⟩) (by show 2 * 11 ≤ _; omega) false
  have h38 : tbuild (mkTab Try.prog) 38 [(0, .int .i64 2), (1, .int .i64 1), (2, .int .i64 1), (3, .int .i64 2), (5, .int .i64 5), (7, .int .i64 7), (8, .int .i64 200), (9, .int .i64 depth)] = some (.agg [.int .i64 2, .int .i64 1, .int .i64 1, .int .i64 2, .bool false, .int .i64 5, .int .i64 0, .int .i64 7, .int .i64 200, .int .i64 depth, .int .i64 0]) := by
    simp only [tbuild, tab38, tplaces, tab3, tab4]
    rfl
  have g38 : tbuild (mkTab Try.prog) 38 [(0, .int .i64 3), (1, .int .i64 1), (2, .int .i64 1), (3, .int .i64 1), (5, .int .i64 5), (7, .int .i64 8), (8, .int .i64 50), (10, .int .i64 fresh)] = some (.agg [.int .i64 3, .int .i64 1, .int .i64 1, .int .i64 1, .bool false, .int .i64 5, .int .i64 0, .int .i64 8, .int .i64 50, .int .i64 0, .int .i64 fresh]) := by
    simp only [tbuild, tab38, tplaces, tab3, tab4]
    rfl
  refine pure_of [] [.cell 4 27] Try.func44 (by kernel_rfl) rfl (by kernel_rfl) fun X hR hN => ?_
  show Tw _ _ _ _ ([some _, some _] ++ List.replicate 13 none) _
  simp only [List.replicate, List.cons_append, List.nil_append]
  repeat' (first
    | ((with_reducible refine WL_do fun Cw cw => ?_); (first | ((with_reducible apply O_move); (repeat rfl); (with_reducible apply cw); (focus ((try simp only [zp]); exact rfl)); clear cw Cw) | ((with_reducible first | apply O_store | apply O_alloc | apply O_build); (repeat rfl); simp (disch := omega) only [go_sem, ↓h24, ↓h25, ↓h38, ↓g38]; (with_reducible apply cw); (focus ((try simp only [zp]); exact rfl)); clear cw Cw) | ((with_reducible apply O_buildSlice); (repeat rfl); (try simp only [zc, zo, Nat.reduceBEq]); simp (disch := omega) only [go_sem, ↓h24, ↓h25, ↓h38, ↓g38]; (with_reducible apply cw); (focus ((try simp only [zp]); exact rfl)); clear cw Cw)))
    | ((with_reducible refine WL_nil (hK _ _ ?_)); clear hK K)
    | ((with_reducible first | refine T_reg_seq fun K hK => ?_ | refine T_reg_end fun K hK => ?_); simp only [zl])
    | ((with_reducible first | apply T_cond_seq | apply T_cond); (focus rfl))
    | (intro hg; (first | (simp only [zb] at hg; done) | ((try simp only [zb, eq_self] at hg); (have hh : True := hg); clear hh hg) | ((try simp only [zb] at hg); (try (have hh := hg; simp only [hh]; clear hh)); (try simp only [zg, zq, ne_eq, gt_iff_lt, ge_iff_le] at hg); (try (exfalso; omega)))))
    | with_reducible first | refine T_seq_assoc ?_ | refine T_skip_seq ?_ | refine T_ret_seq ?_ | refine T_exit_seq ?_ | refine T_ret ?_ | refine T_skip ?_ | refine T_exit ?_ | refine T_block_seq fun Kb hKb => ?_ | refine T_block ?_
    | (simp only [TX.inBlock, TX.then, zi, Nat.reduceEqDiff])
    | ((with_reducible first | refine hR _ _ (fun C cc => ?_) | refine hN _ _ (fun C cc => ?_)); simp (disch := omega) only [go_sem, ↓h24, ↓h25, ↓h38, ↓g38]; (with_reducible apply cc); clear cc C; (first | refine Ends.more rfl ?_ | refine Ends.same rfl ?_ | refine Ends.more (by simp only [go_sem, Bool.and_self]) ?_ | refine Ends.same (by simp only [go_sem, Bool.and_self]) ?_); (try simp only [go_sem, Bool.and_self]))
    | (with_reducible apply_assumption -exfalso -symm only [*]))
  all_goals rfl

theorem smallC_is {depth fresh : Int} (h1 : 1 ≤ depth ∧ depth ≤ 64) (h2 : 1 ≤ fresh ∧ fresh ≤ 1099511627776) : OkC (smallC depth fresh) := by
  have hlen : (smallC depth fresh).ports.l.length = 2 := rfl
  have hlv : (smallC depth fresh).vls.l.length = 1 := rfl
  refine ⟨by simp [smallC], ?_, by simp [smallC], ?_, ?_, ?_, ?_⟩
  · intro k hk
    have : k = 0 ∨ k = 1 := by have : k < 2 := hk; omega
    unfold partS
    rcases this with rfl | rfl <;> rw [if_neg] <;> simp [smallC, Row.some, nth]
  · intro k hk; exact absurd hk (by simp [smallC, Row.none])
  · intro k hk
    obtain rfl : k = 0 := by omega
    have e : nth (smallC depth fresh).vls.l 0 = ⟨5, 0, 0, 100, false, 1, 0, Row.some [1]⟩ := rfl
    unfold linkS
    rw [e, if_neg, if_neg (by omega), if_neg, if_neg]
    · rintro ⟨k, hk, h3⟩
      have hk : k < 1 := hk
      obtain rfl : k = 0 := by omega
      simp [smallC, Row.some, nth] at h3
    · intro h3
      apply h3
      intro k hk
      have hk : k + 1 < 1 := hk
      omega
    · simp [smallC, Row.some]
  · intro k hk
    have hk2 : k = 0 ∨ k = 1 := by omega
    have hv : findL (smallC depth fresh).vls.l 5 = some ⟨5, 0, 0, 100, false, 1, 0, Row.some [1]⟩ := rfl
    rcases hk2 with rfl | rfl
    · have e : nth (smallC depth fresh).ports.l 0 = ⟨2, 1, 1, 2, false, 5, 0, 7, 200, depth, 0⟩ := rfl
      refine portS_ok (v := ⟨5, 0, 0, 100, false, 1, 0, Row.some [1]⟩) (by rw [e]; simp [smallC, Row.some]) (by omega) (by rw [e]; exact hv) (by rw [e]; rfl) ?_ (fun k hk => by omega)
      rw [e]
      unfold portV
      rw [if_neg (by simp [Row.some]), if_neg (by simp), if_neg (by simp; omega), if_neg (by simp), if_neg (by simp)]
    · have e : nth (smallC depth fresh).ports.l 1 = ⟨3, 1, 1, 1, false, 5, 0, 8, 50, 0, fresh⟩ := rfl
      have e0 : nth (smallC depth fresh).ports.l 0 = ⟨2, 1, 1, 2, false, 5, 0, 7, 200, depth, 0⟩ := rfl
      refine portS_ok (v := ⟨5, 0, 0, 100, false, 1, 0, Row.some [1]⟩) (by rw [e]; simp [smallC, Row.some]) (by rw [e, e0]; simp) (by rw [e]; exact hv) (by rw [e]; rfl) ?_ (fun k hk => ?_)
      · rw [e]
        unfold portV
        rw [if_neg (by simp [Row.some]), if_neg (by simp), if_neg (by simp), if_neg (by simp; omega), if_neg (by simp)]
      · obtain rfl : k = 0 := by omega
        rw [e, e0]
        simp [Port.place]
  · intro k hk
    unfold lateS
    rw [if_neg]
    have : jitS (smallC depth fresh) k ≤ 620 := by
      show 500 + ((if (0 : Int) = k then (100 : Int) + 20 else 0) + 0) ≤ 620
      split <;> omega
    omega

theorem roomOf_small (depth fresh : Int) : roomOf (smallC depth fresh) 1 = [⟨⟨2, 1, 1, 2, false, 5, 0, 7, 200, depth, 0⟩, [], 0, false⟩, ⟨⟨3, 1, 1, 1, false, 5, 0, 8, 50, 0, fresh⟩, [], 0, false⟩] := rfl

theorem Grow.front {σ σ' : TS} {lab lab' : Nat → Nat} {C : Nat → Prop} (h : Grow σ lab σ' lab' C) (hc : ∀ i, i < σ.length → ¬ C (lab i)) : ∃ τ, σ' = σ ++ τ := by
  refine ⟨σ'.drop σ.length, ?_⟩
  have ht : σ'.take σ.length = σ := by
    apply List.ext_getElem?
    intro i
    rw [List.getElem?_take]
    split
    · rename_i hi; exact h.keep i hi (hc i hi)
    · rename_i hi; rw [List.getElem?_eq_none (by omega)]
  have := List.take_append_drop σ.length σ'
  rw [ht] at this
  exact this.symm

theorem Grow.trans' {σ1 σ2 σ3 : TS} {l1 l2 l3 : Nat → Nat} {C : Nat → Prop} (h : Grow σ1 l1 σ2 l2 (fun _ => False)) (k : Grow σ2 l2 σ3 l3 C) : Grow σ1 l1 σ3 l3 C := (h.mono fun _ e => e.elim).trans k

abbrev e2 (l : List (List UInt8)) (lost : Bool) : Bx := ⟨⟨2, 1, 1, 2, false, 5, 0, 7, 200, 1, 0⟩, l, 0, lost⟩
abbrev e3 (l : List (List UInt8)) (n : Int) : Bx := ⟨⟨3, 1, 1, 1, false, 5, 0, 8, 50, 0, 5⟩, l, n, false⟩

theorem awake22_walk (σ : TS) : TPure Try.prog 45 [] σ (.bool true) := by
  have hok := smallC_is (depth := 1) (fresh := 5) (by omega) (by omega)
  have hfew := smallC_few (depth := 1) (fresh := 5) (by unfold I64; omega) (by unfold I64; omega)
  have hsm := fun τ => small_walk 1 5 τ
  have q1 : putR 0 2 [97] [e2 [] false, e3 [] 0] = ([e2 [[97]] false, e3 [] 0], 0) := rfl
  have q2 : putR 0 2 [98] [e2 [[97]] false, e3 [] 0] = ([e2 [[97]] true, e3 [] 0], 22) := rfl
  have q3 : nextR 2 [e2 [[97]] true, e3 [] 0] = ([e2 [] false, e3 [] 0], [97], true, 0) := rfl
  have q4 : putR 10 3 [120] [e2 [] false, e3 [] 0] = ([e2 [] false, e3 [[120]] 10], 0) := rfl
  have q5 : sampleR 15 3 [e2 [] false, e3 [[120]] 10] = ([120], true, 0) := rfl
  have q6 : sampleR 16 3 [e2 [] false, e3 [[120]] 10] = ([120], false, 0) := rfl
  refine pure_of [] [.tmp 0] Try.func45 (by kernel_rfl) rfl (by kernel_rfl) fun X hR hN => ?_
  show Tw _ _ _ _ ([] ++ List.replicate 69 none) _
  simp only [List.replicate, List.cons_append, List.nil_append]
  repeat' (first
    | ((with_reducible refine WL_do fun Cw cw => ?_); (first | ((with_reducible first | apply O_move | apply O_assign | apply O_pickV | apply O_extract); (repeat rfl); (with_reducible apply cw); (focus ((try simp only [zp]); exact rfl)); clear cw Cw) | ((with_reducible first | apply O_bin | apply O_un); (repeat rfl); simp (disch := omega) only [go_sem]; (with_reducible apply cw); (focus ((try simp only [zp]); exact rfl)); clear cw Cw) | ((with_reducible first | apply O_callF | apply O_call); (repeat rfl); (try simp only [za]); (refine TPure.go (by (apply hsm) <;> first | assumption | omega | exact Eq.trans (get_old (by assumption)) (by assumption)) ?_); (with_reducible apply cw); (focus ((try simp only [zp]); exact rfl)); clear cw Cw)))
    | ((first | ((with_reducible apply WL_if); (focus rfl)) | ((with_reducible apply WL_un); (focus rfl))); (focus ((try simp only [zp]); exact rfl)))
    | ((with_reducible refine WL_nil (hK _ _ ?_)); clear hK K)
    | ((with_reducible first | refine T_reg_seq fun K hK => ?_ | refine T_reg_end fun K hK => ?_); simp only [zl])
    | ((with_reducible first | apply T_cond_seq | apply T_cond); (focus rfl))
    | (intro hg; (first | (simp only [zb] at hg; done) | ((try simp only [zb, eq_self] at hg); (have hh : True := hg); clear hh hg) | ((try simp only [zb] at hg); (try (have hh := hg; simp only [hh]; clear hh)); (try simp only [zg, zq, ne_eq, gt_iff_lt, ge_iff_le] at hg); (try (exfalso; omega)))))
    | with_reducible first | refine T_seq_assoc ?_ | refine T_skip_seq ?_ | refine T_ret_seq ?_ | refine T_exit_seq ?_ | refine T_ret ?_ | refine T_skip ?_ | refine T_exit ?_ | refine T_block_seq fun Kb hKb => ?_ | refine T_block ?_
    | (simp only [TX.inBlock, TX.then, zi, Nat.reduceEqDiff])
    | ((with_reducible first | refine hR _ _ (fun C cc => ?_) | refine hN _ _ (fun C cc => ?_)); simp (disch := omega) only [go_sem]; (with_reducible apply cc); clear cc C; (first | refine Ends.more rfl ?_ | refine Ends.same rfl ?_ | refine Ends.more (by simp only [go_sem, Bool.and_self]) ?_ | refine Ends.same (by simp only [go_sem, Bool.and_self]) ?_); (try simp only [go_sem, Bool.and_self]))
    | (with_reducible apply_assumption -exfalso -symm only [*]))
  refine WL_do fun Cw cw => ?_
  (with_reducible first | apply O_callF | apply O_call); (repeat rfl); (try simp only [List.nil_append, List.append_nil, List.cons_append])
  refine (own_new _ hfew 1 (by unfold I64; omega) _ (fun _ => 0) 1 hok (by simp [smallC])).mono ?_
  rintro u1 τ1 ⟨r, lm, locs, lab1, rfl, hp1, hg1⟩
  rw [roomOf_small] at hp1
  replace hg1 := hg1.mono (C' := fun n => 1 ≤ n) fun _ e => e.elim
  obtain ⟨ρ1, rfl⟩ := hg1.front (fun _ _ e => by omega)
  (with_reducible apply cw); (focus ((try simp only [tput, List.set_cons_zero, List.set_cons_succ]); exact rfl)); clear cw Cw
  repeat' (first
    | ((with_reducible refine WL_do fun Cw cw => ?_); (first | ((with_reducible first | apply O_move | apply O_assign | apply O_pickV | apply O_extract); (repeat rfl); (with_reducible apply cw); (focus ((try simp only [zp]); exact rfl)); clear cw Cw) | ((with_reducible first | apply O_bin | apply O_un); (repeat rfl); simp (disch := omega) only [go_sem]; (with_reducible apply cw); (focus ((try simp only [zp]); exact rfl)); clear cw Cw)))
    | ((first | ((with_reducible apply WL_if); (focus rfl)) | ((with_reducible apply WL_un); (focus rfl))); (focus ((try simp only [zp]); exact rfl)))
    | ((with_reducible refine WL_nil (hK _ _ ?_)); clear hK K)
    | ((with_reducible first | refine T_reg_seq fun K hK => ?_ | refine T_reg_end fun K hK => ?_); simp only [zl])
    | ((with_reducible first | apply T_cond_seq | apply T_cond); (focus rfl))
    | (intro hg; (first | (simp only [zb] at hg; done) | ((try simp only [zb, eq_self] at hg); (have hh : True := hg); clear hh hg) | ((try simp only [zb] at hg); (try (have hh := hg; simp only [hh]; clear hh)); (try simp only [zg, zq, ne_eq, gt_iff_lt, ge_iff_le] at hg); (try (exfalso; omega)))))
    | with_reducible first | refine T_seq_assoc ?_ | refine T_skip_seq ?_ | refine T_ret_seq ?_ | refine T_exit_seq ?_ | refine T_ret ?_ | refine T_skip ?_ | refine T_exit ?_ | refine T_block_seq fun Kb hKb => ?_ | refine T_block ?_
    | (simp only [TX.inBlock, TX.then, zi, Nat.reduceEqDiff])
    | ((with_reducible first | refine hR _ _ (fun C cc => ?_) | refine hN _ _ (fun C cc => ?_)); simp (disch := omega) only [go_sem]; (with_reducible apply cc); clear cc C; (first | refine Ends.more rfl ?_ | refine Ends.same rfl ?_ | refine Ends.more (by simp only [go_sem, Bool.and_self]) ?_ | refine Ends.same (by simp only [go_sem, Bool.and_self]) ?_); (try simp only [go_sem, Bool.and_self]))
    | (with_reducible apply_assumption -exfalso -symm only [*]))
  refine WL_do fun Cw cw => ?_
  (with_reducible first | apply O_callF | apply O_call); (repeat rfl); (try simp only [List.nil_append, List.append_nil, List.cons_append])
  refine (put_walk hp1 0 2 [97]).mono ?_
  rintro u2 τ2 ⟨rfl, lab2, hp2, hg2⟩
  rw [q1] at hp2 ⊢
  replace hg2 := hg1.trans (hg2.mono (C' := fun n => 1 ≤ n) fun n e => by omega)
  obtain ⟨ρ2, rfl⟩ := hg2.front (fun _ _ e => by omega)
  (with_reducible apply cw); (focus ((try simp only [tput, List.set_cons_zero, List.set_cons_succ]); exact rfl)); clear cw Cw
  repeat' (first
    | ((with_reducible refine WL_do fun Cw cw => ?_); (first | ((with_reducible first | apply O_move | apply O_assign | apply O_pickV | apply O_extract); (repeat rfl); (with_reducible apply cw); (focus ((try simp only [zp]); exact rfl)); clear cw Cw) | ((with_reducible first | apply O_bin | apply O_un); (repeat rfl); simp (disch := omega) only [go_sem]; (with_reducible apply cw); (focus ((try simp only [zp]); exact rfl)); clear cw Cw)))
    | ((first | ((with_reducible apply WL_if); (focus rfl)) | ((with_reducible apply WL_un); (focus rfl))); (focus ((try simp only [zp]); exact rfl)))
    | ((with_reducible refine WL_nil (hK _ _ ?_)); clear hK K)
    | ((with_reducible first | refine T_reg_seq fun K hK => ?_ | refine T_reg_end fun K hK => ?_); simp only [zl])
    | ((with_reducible first | apply T_cond_seq | apply T_cond); (focus rfl))
    | (intro hg; (first | (simp only [zb] at hg; done) | ((try simp only [zb, eq_self] at hg); (have hh : True := hg); clear hh hg) | ((try simp only [zb] at hg); (try (have hh := hg; simp only [hh]; clear hh)); (try simp only [zg, zq, ne_eq, gt_iff_lt, ge_iff_le] at hg); (try (exfalso; omega)))))
    | with_reducible first | refine T_seq_assoc ?_ | refine T_skip_seq ?_ | refine T_ret_seq ?_ | refine T_exit_seq ?_ | refine T_ret ?_ | refine T_skip ?_ | refine T_exit ?_ | refine T_block_seq fun Kb hKb => ?_ | refine T_block ?_
    | (simp only [TX.inBlock, TX.then, zi, Nat.reduceEqDiff])
    | ((with_reducible first | refine hR _ _ (fun C cc => ?_) | refine hN _ _ (fun C cc => ?_)); simp (disch := omega) only [go_sem]; (with_reducible apply cc); clear cc C; (first | refine Ends.more rfl ?_ | refine Ends.same rfl ?_ | refine Ends.more (by simp only [go_sem, Bool.and_self]) ?_ | refine Ends.same (by simp only [go_sem, Bool.and_self]) ?_); (try simp only [go_sem, Bool.and_self]))
    | (with_reducible apply_assumption -exfalso -symm only [*]))
  refine WL_do fun Cw cw => ?_
  (with_reducible first | apply O_callF | apply O_call); (repeat rfl); (try simp only [List.nil_append, List.append_nil, List.cons_append])
  refine (put_walk hp2 0 2 [98]).mono ?_
  rintro u3 τ3 ⟨rfl, lab3, hp3, hg3⟩
  rw [q2] at hp3 ⊢
  replace hg3 := hg2.trans (hg3.mono (C' := fun n => 1 ≤ n) fun n e => by omega)
  obtain ⟨ρ3, rfl⟩ := hg3.front (fun _ _ e => by omega)
  (with_reducible apply cw); (focus ((try simp only [tput, List.set_cons_zero, List.set_cons_succ]); exact rfl)); clear cw Cw
  repeat' (first
    | ((with_reducible refine WL_do fun Cw cw => ?_); (first | ((with_reducible first | apply O_move | apply O_assign | apply O_pickV | apply O_extract); (repeat rfl); (with_reducible apply cw); (focus ((try simp only [zp]); exact rfl)); clear cw Cw) | ((with_reducible first | apply O_bin | apply O_un); (repeat rfl); simp (disch := omega) only [go_sem]; (with_reducible apply cw); (focus ((try simp only [zp]); exact rfl)); clear cw Cw)))
    | ((first | ((with_reducible apply WL_if); (focus rfl)) | ((with_reducible apply WL_un); (focus rfl))); (focus ((try simp only [zp]); exact rfl)))
    | ((with_reducible refine WL_nil (hK _ _ ?_)); clear hK K)
    | ((with_reducible first | refine T_reg_seq fun K hK => ?_ | refine T_reg_end fun K hK => ?_); simp only [zl])
    | ((with_reducible first | apply T_cond_seq | apply T_cond); (focus rfl))
    | (intro hg; (first | (simp only [zb] at hg; done) | ((try simp only [zb, eq_self] at hg); (have hh : True := hg); clear hh hg) | ((try simp only [zb] at hg); (try (have hh := hg; simp only [hh]; clear hh)); (try simp only [zg, zq, ne_eq, gt_iff_lt, ge_iff_le] at hg); (try (exfalso; omega)))))
    | with_reducible first | refine T_seq_assoc ?_ | refine T_skip_seq ?_ | refine T_ret_seq ?_ | refine T_exit_seq ?_ | refine T_ret ?_ | refine T_skip ?_ | refine T_exit ?_ | refine T_block_seq fun Kb hKb => ?_ | refine T_block ?_
    | (simp only [TX.inBlock, TX.then, zi, Nat.reduceEqDiff])
    | ((with_reducible first | refine hR _ _ (fun C cc => ?_) | refine hN _ _ (fun C cc => ?_)); simp (disch := omega) only [go_sem]; (with_reducible apply cc); clear cc C; (first | refine Ends.more rfl ?_ | refine Ends.same rfl ?_ | refine Ends.more (by simp only [go_sem, Bool.and_self]) ?_ | refine Ends.same (by simp only [go_sem, Bool.and_self]) ?_); (try simp only [go_sem, Bool.and_self]))
    | (with_reducible apply_assumption -exfalso -symm only [*]))
  refine WL_do fun Cw cw => ?_
  (with_reducible first | apply O_callF | apply O_call); (repeat rfl); (try simp only [List.nil_append, List.append_nil, List.cons_append])
  refine (next_walk hp3 2).mono ?_
  rintro u4 τ4 ⟨rfl, lab4, hp4, hg4⟩
  rw [q3] at hp4 ⊢
  replace hg4 := hg3.trans (hg4.mono (C' := fun n => 1 ≤ n) fun n e => by omega)
  obtain ⟨ρ4, rfl⟩ := hg4.front (fun _ _ e => by omega)
  (with_reducible apply cw); (focus ((try simp only [tput, List.set_cons_zero, List.set_cons_succ]); exact rfl)); clear cw Cw
  repeat' (first
    | ((with_reducible refine WL_do fun Cw cw => ?_); (first | ((with_reducible first | apply O_move | apply O_assign | apply O_pickV | apply O_extract); (repeat rfl); (with_reducible apply cw); (focus ((try simp only [zp]); exact rfl)); clear cw Cw) | ((with_reducible first | apply O_bin | apply O_un); (repeat rfl); simp (disch := omega) only [go_sem]; (with_reducible apply cw); (focus ((try simp only [zp]); exact rfl)); clear cw Cw)))
    | ((first | ((with_reducible apply WL_if); (focus rfl)) | ((with_reducible apply WL_un); (focus rfl))); (focus ((try simp only [zp]); exact rfl)))
    | ((with_reducible refine WL_nil (hK _ _ ?_)); clear hK K)
    | ((with_reducible first | refine T_reg_seq fun K hK => ?_ | refine T_reg_end fun K hK => ?_); simp only [zl])
    | ((with_reducible first | apply T_cond_seq | apply T_cond); (focus rfl))
    | (intro hg; (first | (simp only [zb] at hg; done) | ((try simp only [zb, eq_self] at hg); (have hh : True := hg); clear hh hg) | ((try simp only [zb] at hg); (try (have hh := hg; simp only [hh]; clear hh)); (try simp only [zg, zq, ne_eq, gt_iff_lt, ge_iff_le] at hg); (try (exfalso; omega)))))
    | with_reducible first | refine T_seq_assoc ?_ | refine T_skip_seq ?_ | refine T_ret_seq ?_ | refine T_exit_seq ?_ | refine T_ret ?_ | refine T_skip ?_ | refine T_exit ?_ | refine T_block_seq fun Kb hKb => ?_ | refine T_block ?_
    | (simp only [TX.inBlock, TX.then, zi, Nat.reduceEqDiff])
    | ((with_reducible first | refine hR _ _ (fun C cc => ?_) | refine hN _ _ (fun C cc => ?_)); simp (disch := omega) only [go_sem]; (with_reducible apply cc); clear cc C; (first | refine Ends.more rfl ?_ | refine Ends.same rfl ?_ | refine Ends.more (by simp only [go_sem, Bool.and_self]) ?_ | refine Ends.same (by simp only [go_sem, Bool.and_self]) ?_); (try simp only [go_sem, Bool.and_self]))
    | (with_reducible apply_assumption -exfalso -symm only [*]))
  refine WL_do fun Cw cw => ?_
  (with_reducible first | apply O_callF | apply O_call); (repeat rfl); (try simp only [List.nil_append, List.append_nil, List.cons_append])
  refine (put_walk hp4 10 3 [120]).mono ?_
  rintro u5 τ5 ⟨rfl, lab5, hp5, hg5⟩
  rw [q4] at hp5 ⊢
  replace hg5 := hg4.trans (hg5.mono (C' := fun n => 1 ≤ n) fun n e => by omega)
  obtain ⟨ρ5, rfl⟩ := hg5.front (fun _ _ e => by omega)
  have s1 := sample_walk hp5 15 3
  have s2 := sample_walk hp5 16 3
  rw [q5] at s1
  rw [q6] at s2
  (with_reducible apply cw); (focus ((try simp only [tput, List.set_cons_zero, List.set_cons_succ]); exact rfl)); clear cw Cw
  repeat' (first
    | ((with_reducible refine WL_do fun Cw cw => ?_); (first | ((with_reducible first | apply O_move | apply O_assign | apply O_pickV | apply O_extract); (repeat rfl); (with_reducible apply cw); (focus ((try simp only [zp]); exact rfl)); clear cw Cw) | ((with_reducible first | apply O_bin | apply O_un); (repeat rfl); simp (disch := omega) only [go_sem]; (with_reducible apply cw); (focus ((try simp only [zp]); exact rfl)); clear cw Cw) | ((with_reducible first | apply O_callF | apply O_call); (repeat rfl); (try simp only [za]); (refine TPure.go (by (first | apply s1 | apply s2) <;> first | assumption | omega | exact Eq.trans (get_old (by assumption)) (by assumption)) ?_); (with_reducible apply cw); (focus ((try simp only [zp]); exact rfl)); clear cw Cw)))
    | ((first | ((with_reducible apply WL_if); (focus rfl)) | ((with_reducible apply WL_un); (focus rfl))); (focus ((try simp only [zp]); exact rfl)))
    | ((with_reducible refine WL_nil (hK _ _ ?_)); clear hK K)
    | ((with_reducible first | refine T_reg_seq fun K hK => ?_ | refine T_reg_end fun K hK => ?_); simp only [zl])
    | ((with_reducible first | apply T_cond_seq | apply T_cond); (focus rfl))
    | (intro hg; (first | (simp only [zb] at hg; done) | ((try simp only [zb, eq_self] at hg); (have hh : True := hg); clear hh hg) | ((try simp only [zb] at hg); (try (have hh := hg; simp only [hh]; clear hh)); (try simp only [zg, zq, ne_eq, gt_iff_lt, ge_iff_le] at hg); (try (exfalso; omega)))))
    | with_reducible first | refine T_seq_assoc ?_ | refine T_skip_seq ?_ | refine T_ret_seq ?_ | refine T_exit_seq ?_ | refine T_ret ?_ | refine T_skip ?_ | refine T_exit ?_ | refine T_block_seq fun Kb hKb => ?_ | refine T_block ?_
    | (simp only [TX.inBlock, TX.then, zi, Nat.reduceEqDiff])
    | ((with_reducible first | refine hR _ _ (fun C cc => ?_) | refine hN _ _ (fun C cc => ?_)); simp (disch := omega) only [go_sem]; (with_reducible apply cc); clear cc C; (first | refine Ends.more rfl ?_ | refine Ends.same rfl ?_ | refine Ends.more (by simp only [go_sem, Bool.and_self]) ?_ | refine Ends.same (by simp only [go_sem, Bool.and_self]) ?_); (try simp only [go_sem, Bool.and_self]))
    | (with_reducible apply_assumption -exfalso -symm only [*]))
  all_goals trace_state
end Go.Proofs.Ytgkcackpffimmaa
