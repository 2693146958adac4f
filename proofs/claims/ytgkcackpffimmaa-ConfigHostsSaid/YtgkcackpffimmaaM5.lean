/- CONFIG: one host more. -/
import Derived.Test.YtgkcackpffimmaaM2
import Derived.Test.YtgkcackpffimmaaG1
import Derived.Test.YtgkcackpffimmaaG2
set_option linter.unusedVariables false
set_option linter.unusedSimpArgs false
set_option maxRecDepth 10000
set_option maxHeartbeats 4000000
namespace Go.Proofs.Ytgkcackpffimmaa
open Go.TM

theorem jitL_no (h : Int) : ∀ (l : List Link), (∀ v ∈ l, v.host ≠ h) → jitL h l = 0
  | [], _ => rfl
  | v :: l, hn => by
    rw [jitL, if_neg (hn v (List.mem_cons_self ..)), jitL_no h l fun w hw => hn w (List.mem_cons_of_mem _ hw)]
    rfl
abbrev moreH (c : Cfg) : Cfg := { c with hosts := c.hosts + 1 }
theorem more_links {c : Cfg} (h : OkC c) {v : Link} (hv : v ∈ c.vls.l) : (0 ≤ v.host ∧ v.host < c.hosts) ∧ ∀ x ∈ v.to.l, 0 ≤ x ∧ x < c.hosts := by
  obtain ⟨k, hk, rfl⟩ := List.getElem_of_mem hv
  rw [← nth_eq hk]
  have hz := linkS_zero (h.links k hk)
  refine ⟨by have := hz.2.1; omega, fun x hx => ?_⟩
  obtain ⟨j, hj, rfl⟩ := List.getElem_of_mem hx
  rw [← nth_eq hj]
  have := hz.2.2.2.2 j hj
  omega
theorem more_hosts {c : Cfg} (h : OkC c) (h64 : c.hosts < 64) : OkC (moreH c) where
  hosts := by have := h.hosts; show ¬ (c.hosts + 1 < 1 ∨ c.hosts + 1 > 64); omega
  parts k hk := by
    have := h.parts k hk
    unfold partS at this ⊢
    split at this
    · cases this
    · rename_i hn
      refine if_neg ?_
      show ¬ (64 ≤ k ∨ ¬ (0 ≤ nth c.parts.l k ∧ nth c.parts.l k < c.hosts + 1))
      omega
  major := h.major
  wins k hk := (winS_congr (c := c) (d := moreH c) rfl rfl fun _ _ => rfl).trans (h.wins k hk)
  links k hk := by
    have hz := linkS_zero (h.links k hk)
    refine linkS_ok (c := moreH c) ?_ hz.2.2.1 hz.2.2.2.1 fun j hj => ?_
    · have h1 := hz.1
      have := hz.2.1
      simp only [LinkOff, IsHost, moreH] at this ⊢
      omega
    · have := hz.2.2.2.2 j hj
      simp only [IsHost, moreH] at this ⊢
      omega
  ports k hk := (portS_congr (c := c) (d := moreH c) rfl rfl fun _ _ => rfl).trans (h.ports k hk)
  late k hk := by
    have h0 := h.hosts
    rcases Nat.lt_or_ge k c.hosts.toNat with h1 | h1
    · exact h.late k h1
    · unfold lateS jitS
      show (if 500 + jitL (k : Int) c.vls.l > 6250 then (26 : Int) else 0) = 0
      rw [jitL_no (k : Int) c.vls.l fun v hv => by have := (more_links h hv).1; omega]
      rfl
theorem more_none {c : Cfg} (h : OkC c) : someS (moreH c) (fun v => v.host == c.hosts) = [] ∧ someS (moreH c) (fun v => v.to.l.contains c.hosts) = [] ∧ jitS (moreH c) c.hosts = 500 := by
  refine ⟨?_, ?_, ?_⟩
  · unfold someS
    rw [List.map_eq_nil_iff, List.filter_eq_nil_iff]
    intro v hv
    have := (more_links h hv).1
    simp only [beq_iff_eq]; omega
  · unfold someS
    rw [List.map_eq_nil_iff, List.filter_eq_nil_iff]
    intro v hv he
    have := (more_links h hv).2 c.hosts (by simpa using he)
    omega
  · unfold jitS
    show 500 + jitL c.hosts c.vls.l = 500
    rw [jitL_no c.hosts c.vls.l fun v hv => by have := (more_links h hv).1; omega]
    rfl
theorem more_few {c : Cfg} (h : FewC c) (h64 : c.hosts < 64) (h0 : 1 ≤ c.hosts) : FewC (moreH c) := by
  obtain ⟨hok, lp, lw, lv, lo, lt⟩ := h
  exact ⟨⟨by have := hok.hosts; unfold I64 at *; show _ ≤ c.hosts + 1 ∧ c.hosts + 1 ≤ _; omega, hok.major, hok.lparts, hok.lwins, hok.lvls, hok.lports, hok.parts, hok.wins, hok.vls, hok.ports⟩, lp, lw, lv, lo, lt⟩

theorem hosts_walk (c : Cfg) (hc : c.ok) (σ : TS) : TPure Try.prog 24 [cfgTV c] σ (.bool true) := by
  have hfew := few_walk c hc
  by_cases hF : FewP c
  · rw [decide_eq_true hF] at hfew
    have hown := check_walk c (hF.few hc)
    by_cases he : (checkS c).2.2 = 0
    · have hok := okC_of he
      have hh := hok.hosts
      have hown0 : ∀ σ, TPure Try.prog 28 [cfgTV c] σ (.tup [.agg [.int .i64 0, .int .i64 0], .int .i64 0]) := fun σ => by
        have := hown σ
        rwa [hok.check] at this
      clear hown
      by_cases h64 : c.hosts < 64
      · have ho1 : ∀ σ, TPure Try.prog 28 [cfgTV (moreH c)] σ (.tup [.agg [.int .i64 0, .int .i64 0], .int .i64 0]) := fun σ => by
          have := check_walk (moreH c) (more_few (hF.few hc) h64 (by omega)) σ
          rwa [(more_hosts hok h64).check] at this
        obtain ⟨f1, f2, f3, f4, f5⟩ := hF
        obtain ⟨n1, n2, n3⟩ := more_none hok
        have hs1 := fun τ => sends_walk (moreH c) c.hosts τ (by show c.vls.l.length ≤ _; omega)
        have ht1 := fun τ => takes_walk (moreH c) c.hosts τ (by show c.vls.l.length ≤ _; omega) fun v hv => Nat.le_trans (f5 v hv) (by decide)
        have hsm := smax_of hok.links
        have hj1 := fun τ => jitter_walk (moreH c) c.hosts τ (by show c.vls.l.length ≤ _; omega) fun v hv => by have := hsm v hv; omega
        have hr : riseS [] = [] := List.eq_nil_iff_forall_not_mem.2 fun x h => by simpa using ((riseS_rises []).2 x).1 h
        rw [n1, hr] at hs1
        rw [n2, hr] at ht1
        rw [n3] at hj1
        have hnil : rowTV intC (rowOf []) = .nils := rfl
        rw [hnil] at hs1 ht1
        refine pure_of [] [.tmp 2] Try.func24 (by kernel_rfl) rfl (by kernel_rfl) fun X hR hN => ?_
        show Tw _ _ _ _ ([some _] ++ List.replicate 59 none) _
        simp only [List.replicate, List.cons_append, List.nil_append]
        repeat' (first
          | ((with_reducible refine WL_do fun Cw cw => ?_); (first | ((with_reducible first | apply O_move | apply O_assign | apply O_pickV | apply O_extract); (repeat rfl)) | ((with_reducible first | apply O_load | apply O_fieldAddr | apply O_bin | apply O_len | apply O_un | apply O_store | apply O_alloc | apply O_box); (repeat rfl); simp (disch := omega) only [go_sem]) | ((with_reducible first | apply O_callF | apply O_call); (repeat rfl); (try simp only [za]); (refine TPure.go (by (first | apply hfew | apply awake10_walk | apply hown0 | apply ho1 | apply hs1 | apply ht1 | apply hj1) <;> first | assumption | omega | exact Eq.trans (get_old (by assumption)) (by assumption)) ?_))); (with_reducible apply cw); (focus ((try simp only [zp]); exact rfl)); clear cw Cw)
          | ((first | ((with_reducible apply WL_if); (focus rfl)) | ((with_reducible apply WL_un); (focus rfl))); (focus ((try simp only [zp]); exact rfl)))
          | ((with_reducible refine WL_nil (hK _ _ ?_)); clear hK K)
          | ((with_reducible first | refine T_reg_seq fun K hK => ?_ | refine T_reg_end fun K hK => ?_); simp only [zl])
          | ((with_reducible first | apply T_cond_seq | apply T_cond); (focus rfl))
          | (intro hg; (first | (simp only [zb] at hg; done) | ((try simp only [zb, eq_self] at hg); (have hh : True := hg); clear hh hg) | ((try simp only [zb] at hg); (try (have hh := hg; simp only [hh]; clear hh)); (try simp only [zg, zq, ne_eq, gt_iff_lt, ge_iff_le] at hg); (try (exfalso; omega)))))
          | with_reducible first | apply T_seq_assoc | apply T_skip_seq | apply T_ret_seq | apply T_exit_seq | apply T_ret | apply T_skip | apply T_exit | refine T_block_seq fun Kb hKb => ?_ | apply T_block
          | (simp only [TX.inBlock, TX.then, zi, Nat.reduceEqDiff])
          | ((with_reducible first | refine hR _ _ (fun C cc => ?_) | refine hN _ _ (fun C cc => ?_)); simp (disch := omega) only [go_sem]; (with_reducible apply cc); clear cc C; (first | refine Ends.more (by first | rfl | simp only [go_sem, Bool.and_self]) ?_ | refine Ends.same (by first | rfl | simp only [go_sem, Bool.and_self]) ?_); (try simp only [go_sem, Bool.and_self]))
          | (with_reducible apply_assumption -exfalso -symm only [*]))
        all_goals trace_state
      · refine pure_of [] [.tmp 2] Try.func24 (by kernel_rfl) rfl (by kernel_rfl) fun X hR hN => ?_
        show Tw _ _ _ _ ([some _] ++ List.replicate 59 none) _
        simp only [List.replicate, List.cons_append, List.nil_append]
        repeat' (first
          | ((with_reducible refine WL_do fun Cw cw => ?_); (first | ((with_reducible first | apply O_move | apply O_assign | apply O_pickV | apply O_extract); (repeat rfl)) | ((with_reducible first | apply O_load | apply O_fieldAddr | apply O_bin | apply O_len | apply O_un | apply O_store | apply O_alloc | apply O_box); (repeat rfl); simp (disch := omega) only [go_sem]) | ((with_reducible first | apply O_callF | apply O_call); (repeat rfl); (try simp only [za]); (refine TPure.go (by (first | apply hfew | apply awake10_walk | apply hown0) <;> first | assumption | omega | exact Eq.trans (get_old (by assumption)) (by assumption)) ?_))); (with_reducible apply cw); (focus ((try simp only [zp]); exact rfl)); clear cw Cw)
          | ((first | ((with_reducible apply WL_if); (focus rfl)) | ((with_reducible apply WL_un); (focus rfl))); (focus ((try simp only [zp]); exact rfl)))
          | ((with_reducible refine WL_nil (hK _ _ ?_)); clear hK K)
          | ((with_reducible first | refine T_reg_seq fun K hK => ?_ | refine T_reg_end fun K hK => ?_); simp only [zl])
          | ((with_reducible first | apply T_cond_seq | apply T_cond); (focus rfl))
          | (intro hg; (first | (simp only [zb] at hg; done) | ((try simp only [zb, eq_self] at hg); (have hh : True := hg); clear hh hg) | ((try simp only [zb] at hg); (try (have hh := hg; simp only [hh]; clear hh)); (try simp only [zg, zq, ne_eq, gt_iff_lt, ge_iff_le] at hg); (try (exfalso; omega)))))
          | with_reducible first | apply T_seq_assoc | apply T_skip_seq | apply T_ret_seq | apply T_exit_seq | apply T_ret | apply T_skip | apply T_exit | refine T_block_seq fun Kb hKb => ?_ | apply T_block
          | (simp only [TX.inBlock, TX.then, zi, Nat.reduceEqDiff])
          | ((with_reducible first | refine hR _ _ (fun C cc => ?_) | refine hN _ _ (fun C cc => ?_)); simp (disch := omega) only [go_sem]; (with_reducible apply cc); clear cc C; (first | refine Ends.more (by first | rfl | simp only [go_sem, Bool.and_self]) ?_ | refine Ends.same (by first | rfl | simp only [go_sem, Bool.and_self]) ?_); (try simp only [go_sem, Bool.and_self]))
          | (with_reducible apply_assumption -exfalso -symm only [*]))
        all_goals trace_state
    · obtain ⟨x, ex⟩ : ∃ x, x = checkS c := ⟨_, rfl⟩
      rw [← ex] at hown he
      refine pure_of [] [.tmp 2] Try.func24 (by kernel_rfl) rfl (by kernel_rfl) fun X hR hN => ?_
      show Tw _ _ _ _ ([some _] ++ List.replicate 59 none) _
      simp only [List.replicate, List.cons_append, List.nil_append]
      repeat' (first
        | ((with_reducible refine WL_do fun Cw cw => ?_); (first | ((with_reducible first | apply O_move | apply O_assign | apply O_pickV | apply O_extract); (repeat rfl)) | ((with_reducible first | apply O_load | apply O_fieldAddr | apply O_bin | apply O_len | apply O_un | apply O_store | apply O_alloc | apply O_box); (repeat rfl); simp (disch := omega) only [go_sem, he]) | ((with_reducible first | apply O_callF | apply O_call); (repeat rfl); (try simp only [za]); (refine TPure.go (by (first | apply hfew | apply awake10_walk | apply hown) <;> first | assumption | omega | exact Eq.trans (get_old (by assumption)) (by assumption)) ?_))); (with_reducible apply cw); (focus ((try simp only [zp]); exact rfl)); clear cw Cw)
        | ((first | ((with_reducible apply WL_if); (focus rfl)) | ((with_reducible apply WL_un); (focus rfl))); (focus ((try simp only [zp]); exact rfl)))
        | ((with_reducible refine WL_nil (hK _ _ ?_)); clear hK K)
        | ((with_reducible first | refine T_reg_seq fun K hK => ?_ | refine T_reg_end fun K hK => ?_); simp only [zl])
        | ((with_reducible first | apply T_cond_seq | apply T_cond); (focus rfl))
        | (intro hg; (first | (simp only [zb] at hg; done) | ((try simp only [zb, eq_self] at hg); (have hh : True := hg); clear hh hg) | ((try simp only [zb] at hg); (try (have hh := hg; simp only [hh]; clear hh)); (try simp only [zg, zq, ne_eq, gt_iff_lt, ge_iff_le] at hg); (try (exfalso; omega)))))
        | with_reducible first | apply T_seq_assoc | apply T_skip_seq | apply T_ret_seq | apply T_exit_seq | apply T_ret | apply T_skip | apply T_exit | refine T_block_seq fun Kb hKb => ?_ | apply T_block
        | (simp only [TX.inBlock, TX.then, zi, Nat.reduceEqDiff])
        | ((with_reducible first | refine hR _ _ (fun C cc => ?_) | refine hN _ _ (fun C cc => ?_)); simp (disch := omega) only [go_sem, he]; (with_reducible apply cc); clear cc C; (first | refine Ends.more (by first | rfl | simp only [go_sem, Bool.and_self]) ?_ | refine Ends.same (by first | rfl | simp only [go_sem, Bool.and_self]) ?_); (try simp only [go_sem, Bool.and_self]))
        | (with_reducible apply_assumption -exfalso -symm only [*]))
      all_goals trace_state
  · rw [decide_eq_false hF] at hfew
    refine pure_of [] [.tmp 2] Try.func24 (by kernel_rfl) rfl (by kernel_rfl) fun X hR hN => ?_
    show Tw _ _ _ _ ([some _] ++ List.replicate 59 none) _
    simp only [List.replicate, List.cons_append, List.nil_append]
    repeat' (first
      | ((with_reducible refine WL_do fun Cw cw => ?_); (first | ((with_reducible first | apply O_move | apply O_assign | apply O_pickV | apply O_extract); (repeat rfl)) | ((with_reducible first | apply O_load | apply O_fieldAddr | apply O_bin | apply O_len | apply O_un | apply O_store | apply O_alloc | apply O_box); (repeat rfl); simp (disch := omega) only [go_sem]) | ((with_reducible first | apply O_callF | apply O_call); (repeat rfl); (try simp only [za]); (refine TPure.go (by (first | apply hfew | apply awake10_walk) <;> first | assumption | omega | exact Eq.trans (get_old (by assumption)) (by assumption)) ?_))); (with_reducible apply cw); (focus ((try simp only [zp]); exact rfl)); clear cw Cw)
      | ((first | ((with_reducible apply WL_if); (focus rfl)) | ((with_reducible apply WL_un); (focus rfl))); (focus ((try simp only [zp]); exact rfl)))
      | ((with_reducible refine WL_nil (hK _ _ ?_)); clear hK K)
      | ((with_reducible first | refine T_reg_seq fun K hK => ?_ | refine T_reg_end fun K hK => ?_); simp only [zl])
      | ((with_reducible first | apply T_cond_seq | apply T_cond); (focus rfl))
      | (intro hg; (first | (simp only [zb] at hg; done) | ((try simp only [zb, eq_self] at hg); (have hh : True := hg); clear hh hg) | ((try simp only [zb] at hg); (try (have hh := hg; simp only [hh]; clear hh)); (try simp only [zg, zq, ne_eq, gt_iff_lt, ge_iff_le] at hg); (try (exfalso; omega)))))
      | with_reducible first | apply T_seq_assoc | apply T_skip_seq | apply T_ret_seq | apply T_exit_seq | apply T_ret | apply T_skip | apply T_exit | refine T_block_seq fun Kb hKb => ?_ | apply T_block
      | (simp only [TX.inBlock, TX.then, zi, Nat.reduceEqDiff])
      | ((with_reducible first | refine hR _ _ (fun C cc => ?_) | refine hN _ _ (fun C cc => ?_)); simp (disch := omega) only [go_sem]; (with_reducible apply cc); clear cc C; (first | refine Ends.more (by first | rfl | simp only [go_sem, Bool.and_self]) ?_ | refine Ends.same (by first | rfl | simp only [go_sem, Bool.and_self]) ?_); (try simp only [go_sem, Bool.and_self]))
      | (with_reducible apply_assumption -exfalso -symm only [*]))
end Go.Proofs.Ytgkcackpffimmaa
