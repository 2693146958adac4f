/- The image: what was encoded is loaded: the walk. -/
import Derived.Test.YtgkcackpffimmaaI17
import Derived.Test.YtgkcackpffimmaaI22
import Derived.Test.YtgkcackpffimmaaI23
import Derived.Test.YtgkcackpffimmaaI4a
import Derived.Test.YtgkcackpffimmaaG1
set_option linter.unusedVariables false
set_option linter.unusedSimpArgs false
set_option maxRecDepth 10000
set_option maxHeartbeats 4000000
namespace Go.Proofs.Ytgkcackpffimmaa
open Go.TM

theorem encI_ok {c : Cfg} (h : (encI c).2 = 0) : (checkS c).2.2 = 0 ∧ (∀ p ∈ c.ports.l, p.id ≤ 4294967295) ∧ encI c = (sealL (imgL c), 0) := by
  unfold encI at h ⊢
  split at h
  · rename_i q; exact absurd h q
  · rename_i q1
    split at h
    · cases h
    · rename_i q2
      rw [if_neg q1, if_neg q2]
      refine ⟨by omega, fun p hp => ?_, rfl⟩
      obtain ⟨k, hk, rfl⟩ := mem_nth hp
      exact Decidable.byContradiction fun g => q2 ⟨k, hk, by omega⟩
theorem encI_bad {c : Cfg} (h : (encI c).2 ≠ 0) : (encI c).1 = [] := by
  unfold encI at h ⊢
  split at h
  · rename_i q; rw [if_pos q]
  · rename_i q1
    rw [if_neg q1]
    split at h
    · rename_i q2; rw [if_pos q2]
    · exact absurd rfl h
theorem same_norm (c : Cfg) : SameC c (normC c) where
  hosts := rfl
  major := rfl
  parts := rfl
  wins := rfl
  ports := rfl
  vls := by simp [normC, rowOf]
  vl k hk := ⟨rowOf (nth c.vls.l k).to.l, nth_map hk, rfl⟩
theorem norm_big {c : Cfg} (h : FewC c) (d : List UInt8) (e : netC11 (d, 0) = normC c) : BigC (netC11 (d, 0)) := by
  have hok := netC_ok (d, 0)
  rw [e] at hok ⊢
  refine ⟨hok, ?_, ?_, ?_, ?_, ?_⟩
  · have := h.parts; show c.parts.l.length ≤ _; omega
  · have := h.wins; show c.wins.l.length ≤ _; omega
  · have := h.vls; show (c.vls.l.map normL).length ≤ _; rw [List.length_map]; omega
  · have := h.ports; show c.ports.l.length ≤ _; omega
  · intro v hv
    obtain ⟨w, hw, rfl⟩ := List.mem_map.1 (show v ∈ c.vls.l.map normL from hv)
    have := h.to w hw
    show w.to.l.length ≤ _
    omega
theorem back11_walk (c : Cfg) (hc : c.ok) : TPure Try.prog 21 [cfgTV c] [] (.bool true) := by
  have haw := awake11_walk
  by_cases hF : FewP c
  · have hfew : ∀ σ, TPure Try.prog 26 [cfgTV c] σ (.bool true) := fun σ => by
      have := few_walk c hc σ
      rwa [decide_eq_true hF] at this
    have hf := hF.few hc
    have h0 := encodeI_walk c hf
    by_cases hA : (encI c).2 = 0
    · obtain ⟨h1, h2, h3⟩ := encI_ok hA
      have hlen := imgL_len hf
      have hload := load_big (sealL (imgL c)) (by rw [seal_len]; omega) (fun t ht _ => by
        rw [openL_seal] at ht
        obtain ⟨d, e1, e2, _, _⟩ := read_net (mayC h1) hf h2
        dsimp only at ht
        rw [← ht, e1]
        exact norm_big hf d e2)
      rw [load_back h1 hf h2] at hload
      rw [h3] at h0
      have hsame := same_walk c (normC c) (same_norm c) (by have := hf.parts; omega) (by have := hf.wins; omega) (by have := hf.vls; omega) (by have := hf.ports; omega) (fun v hv => by have := hf.to v hv; omega)
      generalize normC c = d at *
      generalize sealL (imgL c) = s at *
      dsimp only at h0 hload
      refine pure_of [] [.tmp 2] Try.func21 (by kernel_rfl) rfl (by kernel_rfl) fun X hR hN => ?_
      show Tw _ _ _ _ ([some _] ++ List.replicate 37 none) _
      simp only [List.replicate, List.cons_append, List.nil_append]
      repeat' (first
        | ((with_reducible refine WL_do fun Cw cw => ?_); (first | ((with_reducible first | apply O_move | apply O_assign | apply O_pickV | apply O_extract); (repeat rfl)) | ((with_reducible first | apply O_load | apply O_bin | apply O_un | apply O_store | apply O_alloc | apply O_box); (repeat rfl); simp (disch := omega) only [go_sem]) | ((with_reducible first | apply O_callF | apply O_call); (repeat rfl); (try simp only [za]); (refine TPure.go (by (first | apply hfew | apply haw | apply h0 | apply hload | apply hsame) <;> first | assumption | omega | exact Eq.trans (get_old (by assumption)) (by assumption)) ?_))); (with_reducible apply cw); (focus ((try simp only [zp]); exact rfl)); clear cw Cw)
        | ((first | ((with_reducible apply WL_if); (focus rfl)) | ((with_reducible apply WL_un); (focus rfl))); (focus ((try simp only [zp]); exact rfl)))
        | ((with_reducible refine WL_nil (hK _ _ ?_)); clear hK K)
        | ((with_reducible first | refine T_reg_seq fun K hK => ?_ | refine T_reg_end fun K hK => ?_); simp only [zl])
        | ((with_reducible first | apply T_cond_seq | apply T_cond); (focus rfl))
        | (intro hg; (first | (simp only [zb] at hg; done) | ((try simp only [zb, eq_self] at hg); (have hh : True := hg); clear hh hg) | ((try simp only [zb] at hg); (try (have hh := hg; simp only [hh]; clear hh)); (try simp only [zg, zq, ne_eq, gt_iff_lt, ge_iff_le] at hg); (try (exfalso; omega)))))
        | with_reducible first | apply T_seq_assoc | apply T_skip_seq | apply T_ret_seq | apply T_exit_seq | apply T_ret | apply T_skip | apply T_exit | refine T_block_seq fun Kb hKb => ?_ | apply T_block
        | (simp only [TX.inBlock, TX.then, zi, Nat.reduceEqDiff])
        | ((with_reducible first | refine hR _ _ (fun C cc => ?_) | refine hN _ _ (fun C cc => ?_)); simp (disch := omega) only [go_sem]; (with_reducible apply cc); clear cc C; (first | refine Ends.more (by first | rfl | simp only [go_sem, Bool.and_self]) ?_ | refine Ends.same (by first | rfl | simp only [go_sem, Bool.and_self]) ?_); (try simp only [go_sem, Bool.and_self]))
        | (with_reducible apply_assumption -exfalso -symm only [*]))
    · rw [encI_bad hA] at h0
      generalize (encI c).2 = n at *
      refine pure_of [] [.tmp 2] Try.func21 (by kernel_rfl) rfl (by kernel_rfl) fun X hR hN => ?_
      show Tw _ _ _ _ ([some _] ++ List.replicate 37 none) _
      simp only [List.replicate, List.cons_append, List.nil_append]
      repeat' (first
        | ((with_reducible refine WL_do fun Cw cw => ?_); (first | ((with_reducible first | apply O_move | apply O_assign | apply O_pickV | apply O_extract); (repeat rfl)) | ((with_reducible first | apply O_load | apply O_bin | apply O_un | apply O_store | apply O_alloc | apply O_box); (repeat rfl); simp (disch := omega) only [go_sem, hA]) | ((with_reducible first | apply O_callF | apply O_call); (repeat rfl); (try simp only [za]); (refine TPure.go (by (first | apply hfew | apply haw | apply h0) <;> first | assumption | omega | exact Eq.trans (get_old (by assumption)) (by assumption)) ?_))); (with_reducible apply cw); (focus ((try simp only [zp]); exact rfl)); clear cw Cw)
        | ((first | ((with_reducible apply WL_if); (focus rfl)) | ((with_reducible apply WL_un); (focus rfl))); (focus ((try simp only [zp]); exact rfl)))
        | ((with_reducible refine WL_nil (hK _ _ ?_)); clear hK K)
        | ((with_reducible first | refine T_reg_seq fun K hK => ?_ | refine T_reg_end fun K hK => ?_); simp only [zl])
        | ((with_reducible first | apply T_cond_seq | apply T_cond); (focus rfl))
        | (intro hg; (first | (simp only [zb] at hg; done) | ((try simp only [zb, eq_self] at hg); (have hh : True := hg); clear hh hg) | ((try simp only [zb] at hg); (try (have hh := hg; simp only [hh]; clear hh)); (try simp only [zg, zq, ne_eq, gt_iff_lt, ge_iff_le] at hg); (try (exfalso; omega)))))
        | with_reducible first | apply T_seq_assoc | apply T_skip_seq | apply T_ret_seq | apply T_exit_seq | apply T_ret | apply T_skip | apply T_exit | refine T_block_seq fun Kb hKb => ?_ | apply T_block
        | (simp only [TX.inBlock, TX.then, zi, Nat.reduceEqDiff])
        | ((with_reducible first | refine hR _ _ (fun C cc => ?_) | refine hN _ _ (fun C cc => ?_)); simp (disch := omega) only [go_sem, hA]; (with_reducible apply cc); clear cc C; (first | refine Ends.more (by first | rfl | simp only [go_sem, Bool.and_self]) ?_ | refine Ends.same (by first | rfl | simp only [go_sem, Bool.and_self]) ?_); (try simp only [go_sem, Bool.and_self]))
        | (with_reducible apply_assumption -exfalso -symm only [*]))
  · have hfew : ∀ σ, TPure Try.prog 26 [cfgTV c] σ (.bool false) := fun σ => by
      have := few_walk c hc σ
      rwa [decide_eq_false hF] at this
    refine pure_of [] [.tmp 2] Try.func21 (by kernel_rfl) rfl (by kernel_rfl) fun X hR hN => ?_
    show Tw _ _ _ _ ([some _] ++ List.replicate 37 none) _
    simp only [List.replicate, List.cons_append, List.nil_append]
    repeat' (first
      | ((with_reducible refine WL_do fun Cw cw => ?_); (first | ((with_reducible first | apply O_move | apply O_assign | apply O_pickV | apply O_extract); (repeat rfl)) | ((with_reducible first | apply O_load | apply O_bin | apply O_un | apply O_store | apply O_alloc | apply O_box); (repeat rfl); simp (disch := omega) only [go_sem]) | ((with_reducible first | apply O_callF | apply O_call); (repeat rfl); (try simp only [za]); (refine TPure.go (by (first | apply hfew | apply haw) <;> first | assumption | omega | exact Eq.trans (get_old (by assumption)) (by assumption)) ?_))); (with_reducible apply cw); (focus ((try simp only [zp]); exact rfl)); clear cw Cw)
      | ((first | ((with_reducible apply WL_if); (focus rfl)) | ((with_reducible apply WL_un); (focus rfl))); (focus ((try simp only [zp]); exact rfl)))
      | ((with_reducible refine WL_nil (hK _ _ ?_)); clear hK K)
      | ((with_reducible first | refine T_reg_seq fun K hK => ?_ | refine T_reg_end fun K hK => ?_); simp only [zl])
      | ((with_reducible first | apply T_cond_seq | apply T_cond); (focus rfl))
      | (intro hg; (first | (simp only [zb] at hg; done) | ((try simp only [zb, eq_self] at hg); (have hh : True := hg); clear hh hg) | ((try simp only [zb] at hg); (try (have hh := hg; simp only [hh]; clear hh)); (try simp only [zg, zq, ne_eq, gt_iff_lt, ge_iff_le] at hg); (try (exfalso; omega)))))
      | with_reducible first | apply T_seq_assoc | apply T_skip_seq | apply T_ret_seq | apply T_exit_seq | apply T_ret | apply T_skip | apply T_exit | refine T_block_seq fun Kb hKb => ?_ | apply T_block
      | (simp only [TX.inBlock, TX.then, zi, Nat.reduceEqDiff])
      | ((with_reducible first | refine hR _ _ (fun C cc => ?_) | refine hN _ _ (fun C cc => ?_)); simp (disch := omega) only [go_sem]; (with_reducible apply cc); clear cc C; (first | refine Ends.more (by first | rfl | simp only [go_sem, Bool.and_self]) ?_ | refine Ends.same (by first | rfl | simp only [go_sem, Bool.and_self]) ?_); (try simp only [go_sem, Bool.and_self]))
      | (with_reducible apply_assumption -exfalso -symm only [*]))
end Go.Proofs.Ytgkcackpffimmaa
