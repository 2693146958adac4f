/- The partition that is active. -/
import Derived.Test.YtbhhmnfjjnnkiaaGreatQ9
import Derived.Test.YtbhhmnfjjnnkiaaGreatG1
import Derived.Test.YtbhhmnfjjnnkiaaGreatK1
import Derived.Test.YtbhhmnfjjnnkiaaGreatN0
set_option linter.unusedVariables false
set_option linter.unusedSimpArgs false
set_option maxRecDepth 10000
set_option maxHeartbeats 4000000
namespace Go.Proofs.YtbhhmnfjjnnkiaaGreat
open Go.TM

theorem awake23 (σ : TS) : TPure Tryz.prog 10 [] σ (.bool true) := TPure.any_bool knk22 σ
theorem KerP.app {σ : TS} {c : Cfg} {host now' : Int} {k tx rx room lm cl : Nat} {ms : List (Int × Int × Nat)} (h : KerP σ c host k tx rx room lm now' ms cl) (ρ : TS) : KerP (σ ++ ρ) c host k tx rx room lm now' ms cl :=
  ⟨by rw [get_old (lt_of_get h.hk)]; exact h.hk, by rw [get_old (lt_of_get h.hm)]; exact h.hm, h.own⟩

theorem active_walk {σ : TS} {c : Cfg} {host now' : Int} {k tx rx room lm cl : Nat} {ms : List (Int × Int × Nat)} (h : KerP σ c host k tx rx room lm now' ms cl) (hf : FewC c) (hok : OkC c) (now : Int) (hn : I64 now) :
    TPure Tryz.prog 12 [.ptr k 0, .int .i64 now] σ (actTV (actA c host now)) := by
  have hk := h.hk
  have hkl := lt_of_get hk
  have hw := hok.wins
  have hM := hok.major
  have hlw : c.wins.l.length ≤ 260 := hf.wins
  obtain ⟨n1, n2⟩ := hn
  by_cases hr : 0 ≤ now ∧ now ≤ 1099511627776
  · have hM0 : ¬ c.major = 0 := by omega
    have hmod : now.tmod c.major = now % c.major := Int.tmod_eq_emod_of_nonneg hr.1
    have ha1 := Int.emod_nonneg now hM0
    have ha2 := Int.emod_lt_of_pos now (show 0 < c.major by omega)
    have ht : ∀ ρ, TPure Tryz.prog 25 [.int .i64 now] ρ (.bool true) := fun ρ => by
      have := timed_walk now ρ
      rwa [decide_eq_true hr] at this
    refine pure_of [] [.tmp 4, .tmp 5, .tmp 6] Tryz.func12 (by kernel_rfl) rfl (by kernel_rfl) fun X hR hN => ?_
    show Tw _ _ _ _ ([some _, some _] ++ List.replicate 63 none) _
    simp only [List.replicate, List.cons_append, List.nil_append]
    have FK := And.intro @hk (And.intro @hM0 (@hmod)); have FD := zdum; have FL := zdum; have cA := @ht
    refine walk ?_
    (repeat' first | exact Lv.nil | apply Lv.cons) <;> (intros; clear cA FL FD FK)
    refine T_each (α := Nat × TS) (fun (i, ρ) => [some (some (.ptr k 0)), some (some (.int .i64 now)), none, none, none, none, none, some (some (.int .i64 (now % c.major))), none, none, none, none, none, none, none, none, none, none, none, none, none, none, none, none, none, none, none, none, some (some (rowTV winC c.wins)), some (some (.int .i64 c.wins.l.length)), some (some (.int .i64 i)), none, none, none, none, none, none, none, none, none, none, none, none, none, none, none, none, none, none, none, none, none, none, none, none, none, none, none, none, none, none, none, none, none, none]) (fun (i, ρ) => i ≤ c.wins.l.length ∧ ∀ j, j < i → ¬ OpenW c host (now % c.major) (nth c.wins.l j)) (fun (i, ρ) => c.wins.l.length - i) (fun (i, ρ) => σ ++ ρ) ?_ ?_
    · refine ⟨(0, []), ⟨rfl, rfl, rfl, rfl, rfl, rfl, trivial⟩, ⟨by omega, fun j hj => by omega⟩, by simp⟩
    · rintro ⟨i, ρ⟩ q ⟨hi, hno⟩
      show Tw _ _ _ _ ([some (.ptr k 0), some (.int .i64 now), q 2, q 3, q 4, q 5, q 6, some (.int .i64 (now % c.major)), q 8, q 9, q 10, q 11, q 12, q 13, q 14, q 15, q 16, q 17, q 18, q 19, q 20, q 21, q 22, q 23, q 24, q 25, q 26, q 27, some (rowTV winC c.wins), some (.int .i64 c.wins.l.length), some (.int .i64 i), q 31, q 32, q 33, q 34, q 35, q 36, q 37, q 38, q 39, q 40, q 41, q 42, q 43, q 44, q 45, q 46, q 47, q 48, q 49, q 50, q 51, q 52, q 53, q 54, q 55, q 56, q 57, q 58, q 59, q 60, q 61, q 62, q 63, q 64]) (σ ++ ρ)
      have hown := fun ρ' => kown_walk (h.app ρ') (nth c.wins.l i).part
      rcases Nat.lt_or_ge i c.wins.l.length with hlt | hge
      · have hz := winS_zero (hw i hlt)
        have hin : ¬ (now < 0 ∨ now > 1099511627776) := by omega
        have hyes : OpenW c host (now % c.major) (nth c.wins.l i) → actA c host now = ((nth c.wins.l i).part, now - now % c.major + (nth c.wins.l i).begin_ + (nth c.wins.l i).long, true) := fun ho => by
          rw [actA, if_neg hin, act_of hw hlt ho]
        have hnext : ¬ OpenW c host (now % c.major) (nth c.wins.l i) → ∀ j, j < i + 1 → ¬ OpenW c host (now % c.major) (nth c.wins.l j) := fun ho => upto hno ho
        have FK := zdum; have FD := zdum; have FL := zdum; have cA := @hown
        refine walk ?_
        (repeat' first | exact Lv.nil | apply Lv.cons) <;> (intros; clear cA FL FD FK)
        · rw [hyes ⟨by assumption, by assumption, by assumption⟩]
        all_goals
          refine ⟨(i + 1, _), ?_, ⟨rfl, rfl, rfl, rfl, rfl, rfl, trivial⟩, ⟨by omega, hnext fun e => ?_⟩, rfl⟩
          · dsimp only; omega
          · obtain ⟨e1, e2, e3⟩ := e
            first | omega | contradiction
      · have hin : ¬ (now < 0 ∨ now > 1099511627776) := by omega
        have he : actA c host now = (0, 0, false) := by
          rw [actA, if_neg hin, act_none fun j hj => hno j (by omega)]
        have FK := zdum; have FD := zdum; have FL := zdum
        refine walk ?_
        (repeat' first | exact Lv.nil | apply Lv.cons) <;> (intros; clear FL FD FK)
        rw [he]
  · have ht : ∀ ρ, TPure Tryz.prog 25 [.int .i64 now] ρ (.bool false) := fun ρ => by
      have := timed_walk now ρ
      rwa [decide_eq_false hr] at this
    have he : actA c host now = (0, 0, false) := if_pos (by omega)
    rw [he]
    refine pure_of [] [.tmp 4, .tmp 5, .tmp 6] Tryz.func12 (by kernel_rfl) rfl (by kernel_rfl) fun X hR hN => ?_
    show Tw _ _ _ _ ([some _, some _] ++ List.replicate 63 none) _
    simp only [List.replicate, List.cons_append, List.nil_append]
    have FK := zdum; have FD := zdum; have FL := zdum; have cA := @ht
    refine walk ?_
    (repeat' first | exact Lv.nil | apply Lv.cons) <;> (intros; clear cA FL FD FK)
theorem actA_open {c : Cfg} {host now : Int} (hw : ∀ k, k < c.wins.l.length → winS c k = 0) (hr : 0 ≤ now ∧ now ≤ 1099511627776) {i : Nat} (hi : i < c.wins.l.length) (ho : OpenW c host (now % c.major) (nth c.wins.l i)) :
    actA c host now = ((nth c.wins.l i).part, now - now % c.major + (nth c.wins.l i).begin_ + (nth c.wins.l i).long, true) := by
  rw [actA, if_neg (by omega), act_of hw hi ho]
theorem actA_none {c : Cfg} {host now : Int} (h : ∀ k, k < c.wins.l.length → ¬ OpenW c host (now % c.major) (nth c.wins.l k)) : actA c host now = (0, 0, false) := by
  rw [actA]
  split
  · rfl
  · rw [act_none h]
end Go.Proofs.YtbhhmnfjjnnkiaaGreat
