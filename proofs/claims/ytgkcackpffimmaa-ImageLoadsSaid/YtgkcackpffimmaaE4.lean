/- The reference's Check. -/
import Derived.Test.YtgkcackpffimmaaE3
import Derived.Test.YtgkcackpffimmaaE0
set_option linter.unusedVariables false
set_option linter.unusedSimpArgs false
set_option maxRecDepth 10000
set_option maxHeartbeats 2000000
namespace Go.Proofs.Ytgkcackpffimmaa
open Go.TM

abbrev checkTV (x : Int × Int × Int) : TV := .tup [.int .i64 x.1, .int .i64 x.2.1, .int .i64 x.2.2]

theorem refcheck_big (c : Cfg) (h : BigC c) (σ : TS) : TPure Try.prog 29 [cfgTV c] σ (checkTV (checkS c)) := by
  obtain ⟨hok, lp, lw, lv, lo, lt⟩ := h
  obtain ⟨⟨hh1, hh2⟩, ⟨hM1, hM2⟩⟩ := And.intro hok.hosts hok.major
  refine pure_of [] [.tmp 2, .tmp 3, .tmp 4] Try.func29 (by kernel_rfl) rfl (by kernel_rfl) fun X hR hN => ?_
  show Tw _ _ _ _ ([some _] ++ List.replicate 101 none) _
  simp only [List.replicate, List.cons_append, List.nil_append]
  have FK := zdum; have FD := zdum; have FL := zdum
  refine walk ?_
  (repeat' first | exact Lv.nil | apply Lv.cons) <;> (intros; clear FL FD FK)
  all_goals try (rw [check_hosts (c := c) (by omega)])
  have hh : ¬ (c.hosts < 1 ∨ c.hosts > 64) := by omega
  refine T_each (α := Nat) (fun i => [none, some (some (.ptr σ.length 0)), none, none, none, some (some (.int .i64 i)), none, none, none, none, none, none, none, none, none, none, none, none, none, none, none, none, none, none, none, none, none, none, none, none, none, none, none, none, none, none, none, none, none, none, none, none, none, none, none, none, none, none, none, none, none, none, none, none, none, none, none, none, none, none, none, none, none, none, none, none, none, none, none, none, none, none, none, none, none, none, none, none, none, none, none, none, none, none, none, none, none, none, none, none, none, none, none, none, none, none, none, none, none, none, none, none]) (fun i => i ≤ c.parts.l.length ∧ ∀ k, k < i → partS c k = 0) (fun i => c.parts.l.length - i) (fun i => σ ++ [.cells (cfgC c)]) ?_ ?_
  · refine ⟨(0), ⟨rfl, rfl, trivial⟩, ?_, rfl⟩
    exact ⟨by omega, fun k hk => by omega⟩
  rintro i q ⟨hi, hA⟩
  show Tw _ _ _ _ ([q 0, some (.ptr σ.length 0), q 2, q 3, q 4, some (.int .i64 i), q 6, q 7, q 8, q 9, q 10, q 11, q 12, q 13, q 14, q 15, q 16, q 17, q 18, q 19, q 20, q 21, q 22, q 23, q 24, q 25, q 26, q 27, q 28, q 29, q 30, q 31, q 32, q 33, q 34, q 35, q 36, q 37, q 38, q 39, q 40, q 41, q 42, q 43, q 44, q 45, q 46, q 47, q 48, q 49, q 50, q 51, q 52, q 53, q 54, q 55, q 56, q 57, q 58, q 59, q 60, q 61, q 62, q 63, q 64, q 65, q 66, q 67, q 68, q 69, q 70, q 71, q 72, q 73, q 74, q 75, q 76, q 77, q 78, q 79, q 80, q 81, q 82, q 83, q 84, q 85, q 86, q 87, q 88, q 89, q 90, q 91, q 92, q 93, q 94, q 95, q 96, q 97, q 98, q 99, q 100, q 101]) (σ ++ [.cells (cfgC c)])
  have FK := zdum; have FD := zdum; have FL := zdum; have cA := @refhost_walk
  refine walk ?_
  (repeat' first | exact Lv.nil | apply Lv.cons) <;> (intros; clear cA FL FD FK)
  all_goals try (exact congrArg checkTV (check_parts hh (i := i) (by omega) hA (by unfold partS; rw [if_pos (by omega)]; decide)).symm)
  all_goals try (refine ⟨i + 1, ?_, ⟨rfl, rfl, trivial⟩, ⟨?_, upto hA ?_⟩, (by first | rfl | trivial)⟩ <;> first | omega | (unfold partS; rw [if_neg (by omega)]))
  all_goals
    have hpa : ∀ k, k < c.parts.l.length → partS c k = 0 := fun k hk => hA k (by omega)
  all_goals try (exact congrArg checkTV (check_frame hh hpa (by omega)).symm)
  have hM : ¬ (c.major < 1 ∨ c.major > 1073741824) := by omega
  clear hA hi
  refine T_each (α := Nat) (fun i => [none, some (some (.ptr σ.length 0)), none, none, none, none, some (some (.int .i64 i)), none, none, none, none, none, none, none, none, none, none, none, none, none, none, none, none, none, none, none, none, none, none, none, none, none, none, none, none, none, none, none, none, none, none, none, none, none, none, none, none, none, none, none, none, none, none, none, none, none, none, none, none, none, none, none, none, none, none, none, none, none, none, none, none, none, none, none, none, none, none, none, none, none, none, none, none, none, none, none, none, none, none, none, none, none, none, none, none, none, none, none, none, none, none, none]) (fun i => i ≤ c.wins.l.length ∧ ∀ k, k < i → winS c k = 0) (fun i => c.wins.l.length - i) (fun i => σ ++ [.cells (cfgC c)]) ?_ ?_
  · refine ⟨(0), ⟨rfl, rfl, trivial⟩, ?_, rfl⟩
    exact ⟨by omega, fun k hk => by omega⟩
  rintro i q ⟨hi, hB⟩
  show Tw _ _ _ _ ([q 0, some (.ptr σ.length 0), q 2, q 3, q 4, q 5, some (.int .i64 i), q 7, q 8, q 9, q 10, q 11, q 12, q 13, q 14, q 15, q 16, q 17, q 18, q 19, q 20, q 21, q 22, q 23, q 24, q 25, q 26, q 27, q 28, q 29, q 30, q 31, q 32, q 33, q 34, q 35, q 36, q 37, q 38, q 39, q 40, q 41, q 42, q 43, q 44, q 45, q 46, q 47, q 48, q 49, q 50, q 51, q 52, q 53, q 54, q 55, q 56, q 57, q 58, q 59, q 60, q 61, q 62, q 63, q 64, q 65, q 66, q 67, q 68, q 69, q 70, q 71, q 72, q 73, q 74, q 75, q 76, q 77, q 78, q 79, q 80, q 81, q 82, q 83, q 84, q 85, q 86, q 87, q 88, q 89, q 90, q 91, q 92, q 93, q 94, q 95, q 96, q 97, q 98, q 99, q 100, q 101]) (σ ++ [.cells (cfgC c)])
  have FK := zdum; have FD := zdum; have FL := zdum; have cA := @refwin_walk
  refine walk ?_
  (repeat' first | exact Lv.nil | apply Lv.cons) <;> (intros; clear cA FL FD FK)
  all_goals try (exact congrArg checkTV (check_wins hh hpa hM (i := i) (by omega) hB (by assumption)).symm)
  all_goals try (refine ⟨i + 1, ?_, ⟨rfl, rfl, trivial⟩, ⟨?_, upto hB ?_⟩, (by first | rfl | trivial)⟩ <;> first | omega | assumption)
  have hwi : ∀ k, k < c.wins.l.length → winS c k = 0 := fun k hk => hB k (by omega)
  clear hB hi
  refine T_each (α := Nat) (fun i => [none, some (some (.ptr σ.length 0)), none, none, none, none, none, none, some (some (.int .i64 i)), none, none, none, none, none, none, none, none, none, none, none, none, none, none, none, none, none, none, none, none, none, none, none, none, none, none, none, none, none, none, none, none, none, none, none, none, none, none, none, none, none, none, none, none, none, none, none, none, none, none, none, none, none, none, none, none, none, none, none, none, none, none, none, none, none, none, none, none, none, none, none, none, none, none, none, none, none, none, none, none, none, none, none, none, none, none, none, none, none, none, none, none, none]) (fun i => i ≤ c.vls.l.length ∧ ∀ k, k < i → linkS c k = 0) (fun i => c.vls.l.length - i) (fun i => σ ++ [.cells (cfgC c)]) ?_ ?_
  · refine ⟨(0), ⟨rfl, rfl, trivial⟩, ?_, rfl⟩
    exact ⟨by omega, fun k hk => by omega⟩
  rintro i q ⟨hi, hC⟩
  show Tw _ _ _ _ ([q 0, some (.ptr σ.length 0), q 2, q 3, q 4, q 5, q 6, q 7, some (.int .i64 i), q 9, q 10, q 11, q 12, q 13, q 14, q 15, q 16, q 17, q 18, q 19, q 20, q 21, q 22, q 23, q 24, q 25, q 26, q 27, q 28, q 29, q 30, q 31, q 32, q 33, q 34, q 35, q 36, q 37, q 38, q 39, q 40, q 41, q 42, q 43, q 44, q 45, q 46, q 47, q 48, q 49, q 50, q 51, q 52, q 53, q 54, q 55, q 56, q 57, q 58, q 59, q 60, q 61, q 62, q 63, q 64, q 65, q 66, q 67, q 68, q 69, q 70, q 71, q 72, q 73, q 74, q 75, q 76, q 77, q 78, q 79, q 80, q 81, q 82, q 83, q 84, q 85, q 86, q 87, q 88, q 89, q 90, q 91, q 92, q 93, q 94, q 95, q 96, q 97, q 98, q 99, q 100, q 101]) (σ ++ [.cells (cfgC c)])
  have FK := zdum; have FD := zdum; have FL := zdum; have cA := @reflink_walk
  refine walk ?_
  (repeat' first | exact Lv.nil | apply Lv.cons) <;> (intros; clear cA FL FD FK)
  all_goals try (exact congrArg checkTV (check_links hh hpa hM hwi (i := i) (by omega) hC (by assumption)).symm)
  all_goals try (refine ⟨i + 1, ?_, ⟨rfl, rfl, trivial⟩, ⟨?_, upto hC ?_⟩, (by first | rfl | trivial)⟩ <;> first | omega | assumption)
  have hli : ∀ k, k < c.vls.l.length → linkS c k = 0 := fun k hk => hC k (by omega)
  have hsm := smax_of hli
  have hs1 : ∀ v ∈ c.vls.l, 0 ≤ v.smax ∧ v.smax ≤ 10000 := fun v hv => by have := hsm v hv; omega
  have hs2 : ∀ v ∈ c.vls.l, 0 ≤ v.smax ∧ v.smax ≤ 10000 ∧ v.to.l.length ≤ 9223372036854775806 := fun v hv => by have := hsm v hv; have := lt v hv; omega
  clear hC hi
  refine T_each (α := Nat) (fun i => [none, some (some (.ptr σ.length 0)), none, none, none, none, none, none, none, none, some (some (.int .i64 i)), none, none, none, none, none, none, none, none, none, none, none, none, none, none, none, none, none, none, none, none, none, none, none, none, none, none, none, none, none, none, none, none, none, none, none, none, none, none, none, none, none, none, none, none, none, none, none, none, none, none, none, none, none, none, none, none, none, none, none, none, none, none, none, none, none, none, none, none, none, none, none, none, none, none, none, none, none, none, none, none, none, none, none, none, none, none, none, none, none, none, none]) (fun i => i ≤ c.ports.l.length ∧ ∀ k, k < i → portS c k = 0) (fun i => c.ports.l.length - i) (fun i => σ ++ [.cells (cfgC c)]) ?_ ?_
  · refine ⟨(0), ⟨rfl, rfl, trivial⟩, ?_, rfl⟩
    exact ⟨by omega, fun k hk => by omega⟩
  rintro i q ⟨hi, hD⟩
  show Tw _ _ _ _ ([q 0, some (.ptr σ.length 0), q 2, q 3, q 4, q 5, q 6, q 7, q 8, q 9, some (.int .i64 i), q 11, q 12, q 13, q 14, q 15, q 16, q 17, q 18, q 19, q 20, q 21, q 22, q 23, q 24, q 25, q 26, q 27, q 28, q 29, q 30, q 31, q 32, q 33, q 34, q 35, q 36, q 37, q 38, q 39, q 40, q 41, q 42, q 43, q 44, q 45, q 46, q 47, q 48, q 49, q 50, q 51, q 52, q 53, q 54, q 55, q 56, q 57, q 58, q 59, q 60, q 61, q 62, q 63, q 64, q 65, q 66, q 67, q 68, q 69, q 70, q 71, q 72, q 73, q 74, q 75, q 76, q 77, q 78, q 79, q 80, q 81, q 82, q 83, q 84, q 85, q 86, q 87, q 88, q 89, q 90, q 91, q 92, q 93, q 94, q 95, q 96, q 97, q 98, q 99, q 100, q 101]) (σ ++ [.cells (cfgC c)])
  have FK := zdum; have FD := zdum; have FL := zdum; have cA := @refport_walk
  refine walk ?_
  (repeat' first | exact Lv.nil | apply Lv.cons) <;> (intros; clear cA FL FD FK)
  all_goals try (exact congrArg checkTV (check_ports hh hpa hM hwi hli (i := i) (by omega) hD (by assumption)).symm)
  all_goals try (refine ⟨i + 1, ?_, ⟨rfl, rfl, trivial⟩, ⟨?_, upto hD ?_⟩, (by first | rfl | trivial)⟩ <;> first | omega | assumption)
  have hpo : ∀ k, k < c.ports.l.length → portS c k = 0 := fun k hk => hD k (by omega)
  clear hD hi
  refine T_each (α := Nat) (fun i => [none, some (some (.ptr σ.length 0)), none, none, none, none, none, none, none, none, none, none, some (some (.int .i64 i)), none, none, none, none, none, none, none, none, none, none, none, none, none, none, none, none, none, none, none, none, none, none, none, none, none, none, none, none, none, none, none, none, none, none, none, none, none, none, none, none, none, none, none, none, none, none, none, none, none, none, none, none, none, none, none, none, none, none, none, none, none, none, none, none, none, none, none, none, none, none, none, none, none, none, none, none, none, none, none, none, none, none, none, none, none, none, none, none, none]) (fun i => i ≤ c.hosts.toNat ∧ ∀ k, k < i → lateS c k = 0) (fun i => c.hosts.toNat - i) (fun i => σ ++ [.cells (cfgC c)]) ?_ ?_
  · refine ⟨(0), ⟨rfl, rfl, trivial⟩, ?_, rfl⟩
    exact ⟨by omega, fun k hk => by omega⟩
  rintro i q ⟨hi, hE⟩
  show Tw _ _ _ _ ([q 0, some (.ptr σ.length 0), q 2, q 3, q 4, q 5, q 6, q 7, q 8, q 9, q 10, q 11, some (.int .i64 i), q 13, q 14, q 15, q 16, q 17, q 18, q 19, q 20, q 21, q 22, q 23, q 24, q 25, q 26, q 27, q 28, q 29, q 30, q 31, q 32, q 33, q 34, q 35, q 36, q 37, q 38, q 39, q 40, q 41, q 42, q 43, q 44, q 45, q 46, q 47, q 48, q 49, q 50, q 51, q 52, q 53, q 54, q 55, q 56, q 57, q 58, q 59, q 60, q 61, q 62, q 63, q 64, q 65, q 66, q 67, q 68, q 69, q 70, q 71, q 72, q 73, q 74, q 75, q 76, q 77, q 78, q 79, q 80, q 81, q 82, q 83, q 84, q 85, q 86, q 87, q 88, q 89, q 90, q 91, q 92, q 93, q 94, q 95, q 96, q 97, q 98, q 99, q 100, q 101]) (σ ++ [.cells (cfgC c)])
  have FK := zdum; have FD := zdum; have FL := zdum; have cA := @refjitter_walk
  refine walk ?_
  (repeat' first | exact Lv.nil | apply Lv.cons) <;> (intros; clear cA FL FD FK)
  all_goals try (exact congrArg checkTV (check_late hh hpa hM hwi hli hpo (i := i) (by omega) hE (by unfold lateS; rw [if_pos (by omega)]; decide)).symm)
  all_goals try (refine ⟨i + 1, ?_, ⟨rfl, rfl, trivial⟩, ⟨?_, upto hE ?_⟩, (by first | rfl | trivial)⟩ <;> first | omega | (unfold lateS; rw [if_neg (by omega)]))
  all_goals try (exact congrArg checkTV (check_ok hh hpa hM hwi hli hpo fun k hk => hE k (by omega)).symm)
  all_goals trace_state

theorem refcheck_walk (c : Cfg) (h : FewC c) (σ : TS) : TPure Try.prog 29 [cfgTV c] σ (checkTV (checkS c)) := refcheck_big c h.big σ
end Go.Proofs.Ytgkcackpffimmaa
