/- The reference's link. -/
import Derived.Test.YtgkcackpffimmaaE1
set_option linter.unusedVariables false
set_option linter.unusedSimpArgs false
set_option maxRecDepth 10000
set_option maxHeartbeats 2000000
namespace Go.Proofs.Ytgkcackpffimmaa
open Go.TM

theorem reflink_walk (c : Cfg) (i : Nat) (σ : TS) (hc : c.ok) (hi : i < c.vls.l.length) (hi2 : i ≤ 9223372036854775000) : TPure Try.prog 82 [cfgTV c, .int .i64 i] σ (.int .i64 (linkS c i)) := by
  have hto : (nth c.vls.l i).to.l.length ≤ 9223372036854775807 := (hc.vls _ (nth_mem hi)).2.2.2.2.2.2.1
  refine pure_of [] [.tmp 4] Try.func82 (by kernel_rfl) rfl (by kernel_rfl) fun X hR hN => ?_
  show Tw _ _ _ _ ([some _, some _] ++ List.replicate 134 none) _
  simp only [List.replicate, List.cons_append, List.nil_append]
  have hpred : ((i : Int) - 1).toNat = i - 1 := by omega
  have FK := @hpred; have FD := zdum; have FL := zdum; have cA := @refhost_walk
  refine walk ?_
  (repeat' first | exact Lv.nil | apply Lv.cons) <;> (intros; clear cA FL FD FK)
  rotate_left
  all_goals try (rw [linkS_off (by omega)])
  all_goals try (rw [linkS_order (by omega) ⟨by omega, by assumption⟩])
  all_goals
    have hoff : ¬ (256 ≤ i ∨ LinkOff c (nth c.vls.l i)) := by omega
    have hord : ¬ (0 < i ∧ (nth c.vls.l (i - 1)).id ≥ (nth c.vls.l i).id) := by omega
    have hlen : 1 ≤ (nth c.vls.l i).to.l.length := by omega
    refine T_each (α := Nat) (fun k => [none, none, some (some (.ptr σ.length 0)), none, none, some (some (.ptr (σ.length + 1) 0)), some (some (.int .i64 k)), none, none, none, none, none, none, none, none, none, none, none, none, none, none, none, none, none, none, none, none, none, none, none, none, none, none, none, none, none, none, none, none, none, none, none, none, none, none, none, none, none, none, none, none, none, none, none, none, none, none, none, none, none, none, none, none, none, none, none, none, none, none, none, none, none, none, none, none, none, none, none, none, none, none, none, none, none, none, none, none, none, none, none, none, none, none, none, none, none, none, none, none, none, none, none, none, none, none, none, none, none, none, none, none, none, none, none, none, none, none, none, none, none, none, none, none, none, none, none, none, none, none, none, none, none, none, none, none, none]) (fun k => 1 ≤ k ∧ k ≤ (nth c.vls.l i).to.l.length ∧ (∀ j, j < k - 1 → nth (nth c.vls.l i).to.l j < nth (nth c.vls.l i).to.l (j + 1))) (fun k => (nth c.vls.l i).to.l.length - k) (fun k => σ ++ [.cells (cfgC c), .cells (linkC (nth c.vls.l i))]) ?_ ?_
    · refine ⟨(1), ⟨rfl, rfl, rfl, trivial⟩, ?_, rfl⟩
      exact ⟨by omega, by omega, fun j hj => by omega⟩
    · rintro k q ⟨hk1, hk, hup⟩
      show Tw _ _ _ _ ([q 0, q 1, some (.ptr σ.length 0), q 3, q 4, some (.ptr (σ.length + 1) 0), some (.int .i64 k), q 7, q 8, q 9, q 10, q 11, q 12, q 13, q 14, q 15, q 16, q 17, q 18, q 19, q 20, q 21, q 22, q 23, q 24, q 25, q 26, q 27, q 28, q 29, q 30, q 31, q 32, q 33, q 34, q 35, q 36, q 37, q 38, q 39, q 40, q 41, q 42, q 43, q 44, q 45, q 46, q 47, q 48, q 49, q 50, q 51, q 52, q 53, q 54, q 55, q 56, q 57, q 58, q 59, q 60, q 61, q 62, q 63, q 64, q 65, q 66, q 67, q 68, q 69, q 70, q 71, q 72, q 73, q 74, q 75, q 76, q 77, q 78, q 79, q 80, q 81, q 82, q 83, q 84, q 85, q 86, q 87, q 88, q 89, q 90, q 91, q 92, q 93, q 94, q 95, q 96, q 97, q 98, q 99, q 100, q 101, q 102, q 103, q 104, q 105, q 106, q 107, q 108, q 109, q 110, q 111, q 112, q 113, q 114, q 115, q 116, q 117, q 118, q 119, q 120, q 121, q 122, q 123, q 124, q 125, q 126, q 127, q 128, q 129, q 130, q 131, q 132, q 133, q 134, q 135]) (σ ++ [.cells (cfgC c), .cells (linkC (nth c.vls.l i))])
      have hkp : ((k : Int) - 1).toNat = k - 1 := by omega
      have FK := @hkp; have FD := zdum; have FL := zdum
      refine walk ?_
      (repeat' first | exact Lv.nil | apply Lv.cons) <;> (intros; clear FL FD FK)
      · rw [linkS_rise hoff hord (k := k - 1) (by omega) (by rw [show k - 1 + 1 = k by omega]; assumption)]
      · refine ⟨(k + 1), ?_, ⟨rfl, rfl, rfl, trivial⟩, ?_, (by first | rfl | trivial)⟩
        all_goals (try dsimp only)
        · omega
        · refine ⟨by omega, by omega, fun j hj => ?_⟩
          rcases Nat.lt_or_ge j (k - 1) with h1 | h1
          · exact hup j h1
          · obtain rfl : j = k - 1 := by omega
            rw [show k - 1 + 1 = k by omega]; assumption
      · have hris : Rises (nth c.vls.l i).to.l := fun j hj => hup j (by omega)
        refine T_each (α := Nat) (fun k => [none, none, some (some (.ptr σ.length 0)), none, none, some (some (.ptr (σ.length + 1) 0)), none, some (some (.int .i64 k)), none, none, none, none, none, none, none, none, none, none, none, none, none, none, none, none, none, none, none, none, none, none, none, none, none, none, none, none, none, none, none, none, none, none, none, none, none, none, none, none, none, none, none, none, none, none, none, none, none, none, none, none, none, none, none, none, none, none, none, none, none, none, none, none, none, none, none, none, none, none, none, none, none, none, none, none, none, none, none, none, none, none, none, none, none, none, none, none, none, none, none, none, none, none, none, none, none, none, none, none, none, none, none, none, none, none, none, none, none, none, none, none, none, none, none, none, none, none, none, none, none, none, none, none, none, none, none, none]) (fun k => k ≤ (nth c.vls.l i).to.l.length ∧ (∀ j, j < k → ¬ (¬ IsHost c (nth (nth c.vls.l i).to.l j) ∨ nth (nth c.vls.l i).to.l j = (nth c.vls.l i).host))) (fun k => (nth c.vls.l i).to.l.length - k) (fun k => σ ++ [.cells (cfgC c), .cells (linkC (nth c.vls.l i))]) ?_ ?_
        · refine ⟨(0), ⟨rfl, rfl, rfl, trivial⟩, ?_, rfl⟩
          exact ⟨by omega, fun j hj => by omega⟩
        · rintro k q ⟨hk, hno⟩
          show Tw _ _ _ _ ([q 0, q 1, some (.ptr σ.length 0), q 3, q 4, some (.ptr (σ.length + 1) 0), q 6, some (.int .i64 k), q 8, q 9, q 10, q 11, q 12, q 13, q 14, q 15, q 16, q 17, q 18, q 19, q 20, q 21, q 22, q 23, q 24, q 25, q 26, q 27, q 28, q 29, q 30, q 31, q 32, q 33, q 34, q 35, q 36, q 37, q 38, q 39, q 40, q 41, q 42, q 43, q 44, q 45, q 46, q 47, q 48, q 49, q 50, q 51, q 52, q 53, q 54, q 55, q 56, q 57, q 58, q 59, q 60, q 61, q 62, q 63, q 64, q 65, q 66, q 67, q 68, q 69, q 70, q 71, q 72, q 73, q 74, q 75, q 76, q 77, q 78, q 79, q 80, q 81, q 82, q 83, q 84, q 85, q 86, q 87, q 88, q 89, q 90, q 91, q 92, q 93, q 94, q 95, q 96, q 97, q 98, q 99, q 100, q 101, q 102, q 103, q 104, q 105, q 106, q 107, q 108, q 109, q 110, q 111, q 112, q 113, q 114, q 115, q 116, q 117, q 118, q 119, q 120, q 121, q 122, q 123, q 124, q 125, q 126, q 127, q 128, q 129, q 130, q 131, q 132, q 133, q 134, q 135]) (σ ++ [.cells (cfgC c), .cells (linkC (nth c.vls.l i))])
          have FK := zdum; have FD := zdum; have FL := zdum; have cA := @refhost_walk
          refine walk ?_
          (repeat' first | exact Lv.nil | apply Lv.cons) <;> (intros; clear cA FL FD FK)
          · rw [linkS_to hoff hord hris (k := k) (by omega) (.inr (by assumption))]
          · refine ⟨(k + 1), ?_, ⟨rfl, rfl, rfl, trivial⟩, ?_, (by first | rfl | trivial)⟩
            all_goals (try dsimp only)
            · omega
            · exact ⟨by omega, upto hno (by omega)⟩
          · rw [linkS_to hoff hord hris (k := k) (by omega) (.inl (by assumption))]
          · rw [linkS_ok hoff hord hris fun j hj => hno j (by omega)]

end Go.Proofs.Ytgkcackpffimmaa
