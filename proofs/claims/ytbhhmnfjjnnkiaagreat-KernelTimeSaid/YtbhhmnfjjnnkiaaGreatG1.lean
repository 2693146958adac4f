/- What config's statements ask first: whether a network is few, and the examples. -/
import Derived.Test.YtbhhmnfjjnnkiaaGreatF6
set_option linter.unusedVariables false
set_option linter.unusedSimpArgs false
set_option maxRecDepth 10000
set_option maxHeartbeats 4000000
namespace Go.Proofs.YtbhhmnfjjnnkiaaGreat
open Go.TM

abbrev FewP (c : Cfg) : Prop := c.parts.l.length ≤ 70 ∧ c.wins.l.length ≤ 260 ∧ c.vls.l.length ≤ 260 ∧ c.ports.l.length ≤ 520 ∧ ∀ v ∈ c.vls.l, v.to.l.length ≤ 70

theorem FewP.few {c : Cfg} (h : FewP c) (hc : c.ok) : FewC c := ⟨hc, h.1, h.2.1, h.2.2.1, h.2.2.2.1, h.2.2.2.2⟩

@[go_sem ↓] theorem fault_eq (cst : Bool) (a b c d : Int) : tbin (mkTab Tryz.prog) cst .eql 44 (.agg [.int .i64 a, .int .i64 b]) (.agg [.int .i64 c, .int .i64 d]) = some (.bool (decide (a = c ∧ b = d))) := by
  simp only [tbin, TV.isInt, TV.isStr, Bool.and_self, Bool.or_self, Bool.false_eq_true, if_false, teqIn, tab44, tab3, if_true, tall, tpart, List.drop_zero, List.drop_succ_cons, List.length_cons, List.length_nil, teq1, TK.isAgg, List.take_succ_cons, List.take_zero, List.getElem?_cons_zero, List.getElem?_cons_succ, beqD_int]
  by_cases h1 : a = c <;> by_cases h2 : b = d <;> simp [h1, h2]

theorem few_walk (c : Cfg) (hc : c.ok) (σ : TS) : TPure Tryz.prog 9 [cfgTV c] σ (.bool (decide (FewP c))) := by
  have l1 := hc.lparts
  have l2 := hc.lwins
  have l3 := hc.lvls
  have l4 := hc.lports
  refine pure_of [] [.tmp 2] Tryz.func9 (by kernel_rfl) rfl (by kernel_rfl) fun X hR hN => ?_
  show Tw _ _ _ _ ([some _] ++ List.replicate 40 none) _
  simp only [List.replicate, List.cons_append, List.nil_append]
  have FK := zdum; have FD := zdum; have FL := zdum
  refine walk ?_
  (repeat' first | exact Lv.nil | apply Lv.cons) <;> (intros; clear FL FD FK)
  all_goals try (rw [decide_eq_false (by rintro ⟨h1, h2, h3, h4, h5⟩; omega)]; done)
  refine T_each (α := Nat) (fun i => [none, some (some (.ptr σ.length 0)), none, some (some (.int .i64 i)), none, none, none, none, none, none, none, none, none, none, none, none, none, none, none, none, none, none, none, none, none, none, none, none, none, none, none, none, none, none, none, none, none, none, none, none, none]) (fun i => i ≤ c.vls.l.length ∧ ∀ k, k < i → (nth c.vls.l k).to.l.length ≤ 70) (fun i => c.vls.l.length - i) (fun i => σ ++ [.cells (cfgC c)]) ?_ ?_
  · refine ⟨(0), ⟨rfl, rfl, trivial⟩, ?_, rfl⟩
    exact ⟨by omega, fun k hk => by omega⟩
  · rintro i q ⟨hi, hno⟩
    show Tw _ _ _ _ ([q 0, some (.ptr σ.length 0), q 2, some (.int .i64 i), q 4, q 5, q 6, q 7, q 8, q 9, q 10, q 11, q 12, q 13, q 14, q 15, q 16, q 17, q 18, q 19, q 20, q 21, q 22, q 23, q 24, q 25, q 26, q 27, q 28, q 29, q 30, q 31, q 32, q 33, q 34, q 35, q 36, q 37, q 38, q 39, q 40]) (σ ++ [.cells (cfgC c)])
    have FK := zdum; have FD := zdum; have FL := zdum
    refine walk ?_
    (repeat' first | exact Lv.nil | apply Lv.cons) <;> (intros; clear FL FD FK)
    · rw [decide_eq_false]
      rintro ⟨h1, h2, h3, h4, h5⟩
      have := h5 _ (nth_mem (by omega : i < c.vls.l.length))
      omega
    · refine ⟨(i + 1), ?_, ⟨rfl, rfl, trivial⟩, ?_, (by first | rfl | trivial)⟩
      all_goals (try dsimp only)
      · omega
      · exact ⟨by omega, upto hno (by omega)⟩
    · rw [decide_eq_true]
      refine ⟨by omega, by omega, by omega, by omega, fun v hv => ?_⟩
      obtain ⟨k, hk, rfl⟩ := List.getElem_of_mem hv
      rw [← nth_eq hk]
      exact hno k (by omega)


end Go.Proofs.YtbhhmnfjjnnkiaaGreat
