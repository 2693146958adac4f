/- The laws of Ether that ask for bounded bytes. -/
import Derived.Test.YtgkcackpffimmaaH8
import Derived.Test.YtgkcackpffimmaaD0
set_option linter.unusedVariables false
set_option linter.unusedSimpArgs false
set_option maxRecDepth 10000
set_option maxHeartbeats 4000000
namespace Go.Proofs.Ytgkcackpffimmaa
open Go.TM

theorem list_len5 {α : Type} {cs : List α} (h : cs.length = 5) : ∃ a0 a1 a2 a3 a4, cs = [a0, a1, a2, a3, a4] := by
  match cs, h with
  | [a0, a1, a2, a3, a4], _ => exact ⟨a0, a1, a2, a3, a4, rfl⟩

theorem TyStr {d : Nat} {cs : List TV} (h : Ty (mkTab Try.prog) (d + 1) 9 cs) : ∃ l : List UInt8, cs = [.str (B l)] ∧ l.length ≤ 9223372036854775807 := by
  simp only [Ty, tab9] at h
  obtain ⟨s, hs, hz⟩ := h
  exact ⟨s.data.toList, by rw [hs]; try rfl, by rw [← B_size, ← B_of]; exact hz⟩

theorem TyFrm {d : Nat} {a : TV} (h : TyV (mkTab Try.prog) (d + 2) 48 a) : ∃ f : Frm, a = .agg (frC f) ∧ I64 f.seq ∧ f.data.length ≤ 9223372036854775807 := by
  have ha := h.2 _ tab48
  have h := Ty_struct tab48 rfl h.1
  simp only [List.mem_cons, List.not_mem_nil, or_false, forall_eq_or_imp, forall_eq, tab3, tab9] at h
  obtain ⟨h, h0, h1, h2, h3, h4⟩ := h
  obtain ⟨a0, a1, a2, a3, a4, e⟩ := list_len5 h
  rw [e] at h0 h1 h2 h3 h4
  simp only [List.drop_zero, List.drop_succ_cons, List.take_succ_cons, List.take_zero] at h0 h1 h2 h3 h4
  obtain ⟨x0, e0, q0⟩ := TyInt h0; cases e0
  obtain ⟨x1, e1, q1⟩ := TyInt h1; cases e1
  obtain ⟨x2, e2, q2⟩ := TyInt h2; cases e2
  obtain ⟨x3, e3, q3⟩ := TyInt h3; cases e3
  obtain ⟨x4, e4, q4⟩ := TyStr h4; cases e4
  refine ⟨⟨x0, x1, x2, x3, x4⟩, ?_, q3, q4⟩
  cases a <;> first | (cases ha; done) | (simp only [TV.cells] at e; rw [e])

theorem frm_eq (cst : Bool) (a b c d : Int) (l : List UInt8) : tbin (mkTab Try.prog) cst .eql 48 (.agg [.int .i64 a, .int .i64 b, .int .i64 c, .int .i64 d, .str (B l)]) (.agg [.int .i64 a, .int .i64 b, .int .i64 c, .int .i64 d, .str (B l)]) = some (.bool true) := by
  have hr : List.range 6 = [0, 1, 2, 3, 4, 5] := rfl
  simp only [tbin, TV.isInt, TV.isStr, Bool.and_self, Bool.or_self, Bool.false_eq_true, if_false, teqIn, tab48, tab3, tab9, if_true, tall, tpart, Nat.mul_one, List.length_cons, List.length_nil, teq1, TK.isAgg, List.getElem?_cons_zero, List.getElem?_cons_succ]
  have hb : (B l == B l) = true := by
    first | exact beq_self_eq_true _ | (show ((B l).data == (B l).data) = true; exact beq_self_eq_true _) | (show decide (B l = B l) = true; exact decide_eq_true rfl)
  simp [hb]

theorem encL_len {f : Frm} (h : (encL f).2 = 0) : (encL f).1.length = 19 + min (max f.data.length 45) 1499 := by
  unfold encL at h ⊢
  split at h
  · cases h
  · rename_i h1
    split at h
    · cases h
    · rename_i h2
      rw [if_neg h1, if_neg h2, sealL_len, bodyL, List.length_append, List.length_append, List.length_append, be_len, List.length_replicate]
      have : (headL f).length = 14 := by simp [headL, be_len]
      omega

theorem awake04_walk (σ : TS) : TPure Try.prog 34 [] σ (.bool true) := by
  have h1 : ∀ τ, TPure Try.prog 35 [.agg [.int .i64 1, .int .i64 2, .int .i64 0, .int .i64 3, .str (B [])]] τ (.tup [.str (B (encL ⟨1, 2, 0, 3, []⟩).1), .int .i64 0]) := fun τ => encode_walk ⟨1, 2, 0, 3, []⟩ τ (by simp) (by simp)
  have hl : (encL ⟨1, 2, 0, 3, []⟩).1.length = 64 := encL_len (f := ⟨1, 2, 0, 3, []⟩) rfl
  generalize (encL ⟨1, 2, 0, 3, []⟩).1 = e at h1 hl
  have h2 : ∀ τ, TPure Try.prog 39 [.str (B [115, 104, 111, 114, 116])] τ (.tup [.agg [.int .i64 0, .int .i64 0, .int .i64 0, .int .i64 0, .str (B [])], .int .i64 10]) := fun τ => decode_walk [115, 104, 111, 114, 116] τ (by simp)
  have h3 : ∀ τ, TPure Try.prog 37 [.int .i64 45] τ (.int .i64 64) := size_walk 45
  have h4 : ∀ τ, TPure Try.prog 37 [.int .i64 46] τ (.int .i64 65) := size_walk 46
  refine pure_of [] [.tmp 0] Try.func34 (by kernel_rfl) rfl (by kernel_rfl) fun X hR hN => ?_
  show Tw _ _ _ _ ([] ++ List.replicate 33 none) _
  simp only [List.replicate, List.cons_append, List.nil_append]
  repeat' (first
    | ((with_reducible refine WL_do fun Cw cw => ?_); (first | ((with_reducible first | apply O_move | apply O_assign | apply O_pickV | apply O_extract); (repeat rfl); (with_reducible apply cw); (focus ((try simp only [tput, List.set_cons_zero, List.set_cons_succ]); exact rfl))) | ((with_reducible first | apply O_bin | apply O_len | apply O_store | apply O_alloc | apply O_build); (repeat rfl); simp (disch := omega) only [go_sem, mkB, hl]; (with_reducible apply cw); (focus ((try simp only [tput, List.set_cons_zero, List.set_cons_succ]); exact rfl))) | ((with_reducible first | apply O_callF | apply O_call); (repeat rfl); (try simp only [List.nil_append, List.append_nil, List.cons_append]); (refine TPure.go (by (first | apply h1 | apply h2 | apply h3 | apply h4) <;> first | assumption | omega | exact Eq.trans (get_old (by assumption)) (by assumption)) ?_); (with_reducible apply cw); (focus ((try simp only [tput, List.set_cons_zero, List.set_cons_succ]); exact rfl)))); clear cw Cw)
    | ((with_reducible apply WL_if); (focus rfl); (focus ((try simp only [tput, List.set_cons_zero, List.set_cons_succ]); exact rfl)))
    | ((with_reducible apply WL_un); (focus rfl); (focus ((try simp only [tput, List.set_cons_zero, List.set_cons_succ]); exact rfl)))
    | ((with_reducible refine WL_nil (hK _ _ ?_)); clear hK K)
    | ((with_reducible first | refine T_reg_seq fun K hK => ?_ | refine T_reg_end fun K hK => ?_); simp only [List.toList_toArray, List.append_eq, List.cons_append, List.nil_append])
    | ((with_reducible first | apply T_cond_seq | apply T_cond); (focus rfl))
    | (intro hg; (first | (simp only [Bool.not_true, Bool.not_false, Bool.true_eq_false, Bool.false_eq_true] at hg; done) | ((try simp only [Bool.not_true, Bool.not_false, eq_self] at hg); (have hh : True := hg); clear hh hg) | ((try simp only [Bool.not_true, Bool.not_false] at hg); (try (have hh := hg; simp only [hh]; clear hh)); (try simp only [decide_eq_true_eq, decide_eq_false_iff_not, Bool.not_true, Bool.not_false, Bool.not_eq_true', Bool.not_eq_false', Bool.and_eq_true, Bool.or_eq_true, beq_iff_eq, bne_iff_ne, beq_eq_false_iff_ne, bne_eq_false_iff_eq, ne_eq, Decidable.not_not, Bool.or_eq_false_iff, Bool.and_eq_false_iff, gt_iff_lt, ge_iff_le, Int.not_lt, Int.not_le, Nat.not_lt, Nat.not_le] at hg); (try (exfalso; omega)))))
    | with_reducible first | refine T_seq_assoc ?_ | refine T_skip_seq ?_ | refine T_ret_seq ?_ | refine T_exit_seq ?_ | refine T_ret ?_ | refine T_skip ?_ | refine T_exit ?_ | refine T_block_seq fun Kb hKb => ?_ | refine T_block ?_
    | (simp only [TX.inBlock, TX.then, if_true, if_false, Nat.reduceEqDiff, ite_true, ite_false])
    | ((with_reducible first | refine hR _ _ (fun C cc => ?_) | refine hN _ _ (fun C cc => ?_)); simp (disch := omega) only [go_sem, mkB, hl]; (with_reducible apply cc); clear cc C; (first | refine Ends.more rfl ?_ | refine Ends.same rfl ?_ | refine Ends.more (by simp only [go_sem, Bool.and_self]) ?_ | refine Ends.same (by simp only [go_sem, Bool.and_self]) ?_); (try simp only [go_sem, Bool.and_self]))
    | (with_reducible apply_assumption -exfalso -symm only [*]))
  all_goals trace_state

end Go.Proofs.Ytgkcackpffimmaa
