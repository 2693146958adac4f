/- The image: what is loaded is encoded as the same bytes: the walk. -/
import Derived.Test.YtgkcackpffimmaaI18
set_option linter.unusedVariables false
set_option linter.unusedSimpArgs false
set_option maxRecDepth 10000
set_option maxHeartbeats 4000000
namespace Go.Proofs.Ytgkcackpffimmaa
open Go.TM

theorem rises_len {l : List Int} (h : Rises l) (hb : ∀ k, k < l.length → 0 ≤ nth l k ∧ nth l k < 64) : l.length ≤ 64 := by
  have h1 : ∀ k, k < l.length → (k : Int) ≤ nth l k := by
    intro k
    induction k with
    | zero => intro hk; exact (hb 0 hk).1
    | succ k ih =>
      intro hk
      have h2 := ih (by omega)
      have h3 := h k hk
      omega
  rcases Nat.eq_zero_or_pos l.length with h0 | h0
  · omega
  · have h2 := h1 (l.length - 1) (by omega)
    have h3 := (hb (l.length - 1) (by omega)).2
    omega
theorem few_of_may {c : Cfg} (h : MayC c) (hok : c.ok) : FewC c where
  ok := hok
  parts := by
    rcases Nat.lt_or_ge 64 c.parts.l.length with g | g
    · have := h.parts 64 g
      unfold partS at this
      rw [if_pos (.inl (by omega))] at this
      cases this
    · omega
  wins := by
    rcases Nat.lt_or_ge 256 c.wins.l.length with g | g
    · have := (winS_zero (h.wins 256 g)).1; omega
    · omega
  vls := by
    rcases Nat.lt_or_ge 256 c.vls.l.length with g | g
    · have := (linkS_zero (h.vls 256 g)).1; omega
    · omega
  ports := by
    rcases Nat.lt_or_ge 512 c.ports.l.length with g | g
    · have := h.ports 512 g
      unfold portS at this
      rw [if_pos (.inl (by omega))] at this
      cases this
    · omega
  to := by
    intro v hv
    obtain ⟨k, hk, rfl⟩ := mem_nth hv
    have h1 := linkS_zero (h.vls k hk)
    have h2 := h.hosts
    have := rises_len h1.2.2.2.1 fun j hj => by
      have h3 := (h1.2.2.2.2 j hj).1
      exact ⟨h3.1, by have := h3.2; omega⟩
    omega
theorem load_bad11 {s : List UInt8} (h : (loadL s).2 ≠ 0) : (loadL s).1 = noC := by
  unfold loadL loadT loadN at h ⊢
  split at h
  · rename_i q; rw [if_pos q]
  · rename_i q0
    rw [if_neg q0]
    split at h
    · rename_i q; rw [if_pos q]
    · rename_i q1
      rw [if_neg q1]
      split at h
      · rename_i q; rw [if_pos q]
      · rename_i q2
        rw [if_neg q2]
        split at h
        · rename_i q; rw [if_pos q]
        · rename_i q3
          rw [if_neg q3]
          split at h
          · rename_i q; rw [if_pos q]
          · rename_i q4
            rw [if_neg q4]
            split at h
            · rename_i q; rw [if_pos q]
            · rename_i q5
              rw [if_neg q5]
              split at h
              · rename_i q; rw [if_pos q]
              · exact absurd rfl h
theorem load_fine {s : List UInt8} (h : (loadL s).2 = 0) : ∃ d, s = sealL ([65, 70, 68, 88, 0, 1] ++ d) ∧ loadL s = (netC11 (d, 0), 0) ∧ (checkS (netC11 (d, 0))).2.2 = 0 ∧ (netPorts (d, 0)).2.2 = 0 ∧ ¬ 0 < (netPorts (d, 0)).2.1.length := by
  unfold loadL at h ⊢
  split at h
  · rename_i q; exact absurd h q
  · rename_i q0
    rw [if_neg q0]
    have hs : s = sealL (openL s).1 := by
      have q : (openL s).2 = 0 := by omega
      unfold openL at q ⊢
      split at q
      · cases q
      · rename_i g1
        split at q
        · rename_i g2
          rw [if_neg g1, if_pos g2]
          exact g2.symm
        · cases q
    generalize (openL s).1 = t at *
    unfold loadT at h ⊢
    split at h
    · cases h
    · rename_i q1
      rw [if_neg q1]
      split at h
      · cases h
      · rename_i q2
        rw [if_neg q2]
        have ht : t = [65, 70, 68, 88, 0, 1] ++ t.drop 6 := by
          have q2 : t.take 6 = [65, 70, 68, 88, 0, 1] := by simpa using q2
          rw [← q2, List.take_append_drop]
        refine ⟨t.drop 6, by rw [← ht]; exact hs, ?_⟩
        unfold loadN at h ⊢
        split at h
        · cases h
        · rename_i q3
          rw [if_neg q3]
          split at h
          · rename_i q; exact absurd h q
          · rename_i q4
            rw [if_neg q4]
            split at h
            · cases h
            · rename_i q5
              rw [if_neg q5]
              split at h
              · rename_i q; exact absurd h q
              · rename_i q6
                rw [if_neg q6]
                exact ⟨rfl, by omega, by omega, q5⟩
theorem again11_walk (s : List UInt8) : TPure Try.prog 22 [.str (B s)] [] (.bool true) := by
  have haw := awake11_walk
  by_cases hs : s.length > 5000
  · refine pure_of [] [.tmp 2] Try.func22 (by kernel_rfl) rfl (by kernel_rfl) fun X hR hN => ?_
    show Tw _ _ _ _ ([some _] ++ List.replicate 55 none) _
    simp only [List.replicate, List.cons_append, List.nil_append]
    repeat' (first
      | ((with_reducible refine WL_do fun Cw cw => ?_); (first | ((with_reducible first | apply O_move | apply O_assign | apply O_pickV | apply O_extract); (repeat rfl)) | ((with_reducible first | apply O_load | apply O_fieldAddr | apply O_bin | apply O_len | apply O_store | apply O_alloc); (repeat rfl); simp (disch := ((try simp only [List.length_append, List.length_cons, List.length_nil, List.length_replicate, List.length_take, List.length_drop, be_len]); omega)) only [go_sem]) | ((with_reducible first | apply O_callF | apply O_call); (repeat rfl); (try simp only [za]); (refine TPure.go (by (apply haw) <;> first | assumption | omega | exact Eq.trans (get_old (by assumption)) (by assumption)) ?_))); (with_reducible apply cw); (focus ((try simp only [zp]); exact rfl)); clear cw Cw)
      | ((first | ((with_reducible apply WL_if); (focus rfl)) | ((with_reducible apply WL_un); (focus rfl))); (focus ((try simp only [zp]); exact rfl)))
      | ((with_reducible refine WL_nil (hK _ _ ?_)); clear hK K)
      | ((with_reducible first | refine T_reg_seq fun K hK => ?_ | refine T_reg_end fun K hK => ?_); simp only [zl])
      | ((with_reducible first | apply T_cond_seq | apply T_cond); (focus rfl))
      | (intro hg; (first | (simp only [zb] at hg; done) | ((try simp only [zb, eq_self] at hg); (have hh : True := hg); clear hh hg) | ((try simp only [zb] at hg); (try (have hh := hg; simp only [hh]; clear hh)); (try simp only [zg, zq, ne_eq, gt_iff_lt, ge_iff_le] at hg); (try (exfalso; omega)))))
      | with_reducible first | apply T_seq_assoc | apply T_skip_seq | apply T_ret_seq | apply T_exit_seq | apply T_ret | apply T_skip | apply T_exit | refine T_block_seq fun Kb hKb => ?_ | apply T_block
      | (simp only [TX.inBlock, TX.then, zi, Nat.reduceEqDiff])
      | ((with_reducible first | refine hR _ _ (fun C cc => ?_) | refine hN _ _ (fun C cc => ?_)); simp (disch := ((try simp only [List.length_append, List.length_cons, List.length_nil, List.length_replicate, List.length_take, List.length_drop, be_len]); omega)) only [go_sem]; (with_reducible apply cc); clear cc C; (first | refine Ends.more (by first | rfl | simp only [go_sem, Bool.and_self]) ?_ | refine Ends.same (by first | rfl | simp only [go_sem, Bool.and_self]) ?_); (try simp only [go_sem, Bool.and_self]))
      | (with_reducible apply_assumption -exfalso -symm only [*]))
    all_goals trace_state
  · have hload := load_walk s (by omega)
    by_cases he : (loadL s).2 = 0
    · obtain ⟨d, hd, hl, hc, hn, hz⟩ := load_fine he
      have hlen : d.length ≤ 5000 := by
        have : s.length = (sealL ([65, 70, 68, 88, 0, 1] ++ d)).length := by rw [← hd]
        rw [seal_len] at this
        simp at this
        omega
      have hok := netC_ok (d, 0)
      have hfew := few_of_may (mayC hc) hok
      have hck := check_walk _ hfew
      have hen := encodeI_walk _ hfew
      have hv : encI (netC11 (d, 0)) = (s, 0) := by
        unfold encI
        rw [if_neg (by omega), if_neg, print_net hn hz, ← hd]
        rintro ⟨k, hk, hk2⟩
        obtain ⟨s', e⟩ := tk_mem (f := portR) (s := (netLinks (d, 0)).2) (x := nth (netC11 (d, 0)).ports.l k) (nth_mem hk)
        have h4 : (portR s').1.id = rV 4 s' := by unfold portR; split <;> rfl
        have h5 := (rV_range (k := 4) s' (by omega)).2
        have h6 : (256 : Int) ^ 4 = 4294967296 := by decide
        rw [e, h4] at hk2
        omega
      rw [hv] at hen
      rw [checkS_bad hc] at hck
      rw [hl] at hload
      generalize netC11 (d, 0) = c at *
      dsimp only at hload hen
      clear hd hl he
      refine pure_of [] [.tmp 2] Try.func22 (by kernel_rfl) rfl (by kernel_rfl) fun X hR hN => ?_
      show Tw _ _ _ _ ([some _] ++ List.replicate 55 none) _
      simp only [List.replicate, List.cons_append, List.nil_append]
      repeat' (first
        | ((with_reducible refine WL_do fun Cw cw => ?_); (first | ((with_reducible first | apply O_move | apply O_assign | apply O_pickV | apply O_extract); (repeat rfl)) | ((with_reducible first | apply O_load | apply O_fieldAddr | apply O_bin | apply O_len | apply O_store | apply O_alloc); (repeat rfl); simp (disch := ((try simp only [List.length_append, List.length_cons, List.length_nil, List.length_replicate, List.length_take, List.length_drop, be_len]); omega)) only [go_sem]) | ((with_reducible first | apply O_callF | apply O_call); (repeat rfl); (try simp only [za]); (refine TPure.go (by (first | apply hload | apply hck | apply hen | apply haw) <;> first | assumption | omega | exact Eq.trans (get_old (by assumption)) (by assumption)) ?_))); (with_reducible apply cw); (focus ((try simp only [zp]); exact rfl)); clear cw Cw)
        | ((first | ((with_reducible apply WL_if); (focus rfl)) | ((with_reducible apply WL_un); (focus rfl))); (focus ((try simp only [zp]); exact rfl)))
        | ((with_reducible refine WL_nil (hK _ _ ?_)); clear hK K)
        | ((with_reducible first | refine T_reg_seq fun K hK => ?_ | refine T_reg_end fun K hK => ?_); simp only [zl])
        | ((with_reducible first | apply T_cond_seq | apply T_cond); (focus rfl))
        | (intro hg; (first | (simp only [zb] at hg; done) | ((try simp only [zb, eq_self] at hg); (have hh : True := hg); clear hh hg) | ((try simp only [zb] at hg); (try (have hh := hg; simp only [hh]; clear hh)); (try simp only [zg, zq, ne_eq, gt_iff_lt, ge_iff_le] at hg); (try (exfalso; omega)))))
        | with_reducible first | apply T_seq_assoc | apply T_skip_seq | apply T_ret_seq | apply T_exit_seq | apply T_ret | apply T_skip | apply T_exit | refine T_block_seq fun Kb hKb => ?_ | apply T_block
        | (simp only [TX.inBlock, TX.then, zi, Nat.reduceEqDiff])
        | ((with_reducible first | refine hR _ _ (fun C cc => ?_) | refine hN _ _ (fun C cc => ?_)); simp (disch := ((try simp only [List.length_append, List.length_cons, List.length_nil, List.length_replicate, List.length_take, List.length_drop, be_len]); omega)) only [go_sem]; (with_reducible apply cc); clear cc C; (first | refine Ends.more (by first | rfl | simp only [go_sem, Bool.and_self]) ?_ | refine Ends.same (by first | rfl | simp only [go_sem, Bool.and_self]) ?_); (try simp only [go_sem, Bool.and_self]))
        | (with_reducible apply_assumption -exfalso -symm only [*]))
      all_goals trace_state
    · rw [load_bad11 he] at hload
      generalize (loadL s).2 = n at *
      have hload : ∀ σ, TPure Try.prog 54 [.str (B s)] σ (.tup [.agg [.int .i64 0, .nils, .int .i64 0, .nils, .nils, .nils], .int .i64 n]) := hload
      refine pure_of [] [.tmp 2] Try.func22 (by kernel_rfl) rfl (by kernel_rfl) fun X hR hN => ?_
      show Tw _ _ _ _ ([some _] ++ List.replicate 55 none) _
      simp only [List.replicate, List.cons_append, List.nil_append]
      repeat' (first
        | ((with_reducible refine WL_do fun Cw cw => ?_); (first | ((with_reducible first | apply O_move | apply O_assign | apply O_pickV | apply O_extract); (repeat rfl)) | ((with_reducible first | apply O_load | apply O_fieldAddr | apply O_bin | apply O_len | apply O_store | apply O_alloc); (repeat rfl); simp (disch := ((try simp only [List.length_append, List.length_cons, List.length_nil, List.length_replicate, List.length_take, List.length_drop, be_len]); omega)) only [go_sem, he]) | ((with_reducible first | apply O_callF | apply O_call); (repeat rfl); (try simp only [za]); (refine TPure.go (by (first | apply hload | apply haw) <;> first | assumption | omega | exact Eq.trans (get_old (by assumption)) (by assumption)) ?_))); (with_reducible apply cw); (focus ((try simp only [zp]); exact rfl)); clear cw Cw)
        | ((first | ((with_reducible apply WL_if); (focus rfl)) | ((with_reducible apply WL_un); (focus rfl))); (focus ((try simp only [zp]); exact rfl)))
        | ((with_reducible refine WL_nil (hK _ _ ?_)); clear hK K)
        | ((with_reducible first | refine T_reg_seq fun K hK => ?_ | refine T_reg_end fun K hK => ?_); simp only [zl])
        | ((with_reducible first | apply T_cond_seq | apply T_cond); (focus rfl))
        | (intro hg; (first | (simp only [zb] at hg; done) | ((try simp only [zb, eq_self] at hg); (have hh : True := hg); clear hh hg) | ((try simp only [zb] at hg); (try (have hh := hg; simp only [hh]; clear hh)); (try simp only [zg, zq, ne_eq, gt_iff_lt, ge_iff_le] at hg); (try (exfalso; omega)))))
        | with_reducible first | apply T_seq_assoc | apply T_skip_seq | apply T_ret_seq | apply T_exit_seq | apply T_ret | apply T_skip | apply T_exit | refine T_block_seq fun Kb hKb => ?_ | apply T_block
        | (simp only [TX.inBlock, TX.then, zi, Nat.reduceEqDiff])
        | ((with_reducible first | refine hR _ _ (fun C cc => ?_) | refine hN _ _ (fun C cc => ?_)); simp (disch := ((try simp only [List.length_append, List.length_cons, List.length_nil, List.length_replicate, List.length_take, List.length_drop, be_len]); omega)) only [go_sem, he]; (with_reducible apply cc); clear cc C; (first | refine Ends.more (by first | rfl | simp only [go_sem, Bool.and_self]) ?_ | refine Ends.same (by first | rfl | simp only [go_sem, Bool.and_self]) ?_); (try simp only [go_sem, Bool.and_self]))
        | (with_reducible apply_assumption -exfalso -symm only [*]))
      all_goals trace_state
end Go.Proofs.Ytgkcackpffimmaa
