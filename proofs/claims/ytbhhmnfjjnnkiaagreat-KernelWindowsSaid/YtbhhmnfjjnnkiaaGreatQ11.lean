/- KernelWindows, walked. -/
import Derived.Test.YtbhhmnfjjnnkiaaGreatQ10
import Derived.Test.YtbhhmnfjjnnkiaaGreatK1
import Derived.Test.YtbhhmnfjjnnkiaaGreatN0
set_option linter.unusedVariables false
set_option linter.unusedSimpArgs false
set_option maxRecDepth 10000
set_option maxHeartbeats 4000000
namespace Go.Proofs.YtbhhmnfjjnnkiaaGreat
open Go.TM

theorem awake23 (σ : TS) : TPure Tryz.prog 10 [] σ (.bool true) := TPure.any_bool knk22 σ
theorem windows_walk (c : Cfg) (hc : c.ok) (host now : Int) (hh : I64 host) (hn : I64 now) : TCalls Tryz.prog 3 [cfgTV c, .int .i64 host, .int .i64 now] [] fun v _ => v = .bool true := by
  have haw := awake23
  obtain ⟨n1, n2⟩ := id hn
  by_cases h : FewP c
  · have hf := h.few hc
    have hfew : ∀ σ, TPure Tryz.prog 9 [cfgTV c] σ (.bool true) := fun σ => by
      have := few_walk c hc σ
      rwa [decide_eq_true h] at this
    by_cases he : (checkS c).2.2 = 0
    · have hok := okC_of he
      have hw := hok.wins
      have hM := hok.major
      have hlw : c.wins.l.length ≤ 260 := hf.wins
      have hlp : c.parts.l.length ≤ 70 := hf.parts
      by_cases hhost : 0 ≤ host ∧ host < c.hosts
      · refine calls_of [] [.tmp 6] Tryz.func3 (by kernel_rfl) rfl (by kernel_rfl) fun X hR hN => ?_
        show Tw _ _ _ _ ([some _, some _, some _] ++ List.replicate 175 none) _
        simp only [List.replicate, List.cons_append, List.nil_append]
        have FK := zdum; have FD := zdum; have FL := zdum; have cA := @hfew
        refine walk ?_
        (repeat' first | exact Lv.nil | apply Lv.cons) <;> (intros; clear cA FL FD FK)
        refine WL_do fun Cw cw => ?_
        (with_reducible first | apply O_callF | apply O_call); (repeat rfl); (try simp only [List.nil_append, List.append_nil, List.cons_append])
        refine (kernel_new c hf host hh _ (fun _ => 0) hok hhost).mono ?_
        rintro u1 τ ⟨k, tx, rx, room, lm, ms, cl, lab, locs, rl, rlocs, rfl, hK, hG, hMo⟩
        have hb := hG.get (i := 0) rfl (fun e => e)
        have hker := hK.ker
        clear hG hMo hK
        have hact1 := fun ρ => active_walk (hker.app ρ) hf hok now hn
        obtain ⟨a1, a2, a3, ha⟩ : ∃ a1 a2 a3, actA c host now = (a1, a2, a3) := ⟨_, _, _, rfl⟩
        rw [ha] at hact1
        have hact0 := hact1 []
        rw [List.append_nil] at hact0
        have hbl := lt_of_get hb
        (with_reducible apply cw); (focus ((try simp only [tput, List.set_cons_zero, List.set_cons_succ]); exact rfl)); clear cw Cw
        by_cases hr : 0 ≤ now ∧ now ≤ 549755813888
        · have hM0 : ¬ c.major = 0 := by omega
          have hmod : now.tmod c.major = now % c.major := Int.tmod_eq_emod_of_nonneg hr.1
          have ht1 := Int.emod_nonneg now hM0
          have ht2 := Int.emod_lt_of_pos now (show 0 < c.major by omega)
          have hact2 := fun ρ => active_walk (hker.app ρ) hf hok (now + c.major) ⟨by omega, by omega⟩
          have hmod2 : (now + c.major) % c.major = now % c.major := by rw [Int.add_emod_right]
          have FK := And.intro @hb (And.intro @hM0 (@hmod)); have FD := zdum; have FL := zdum; have cA := @haw; have cB := @hact0
          refine walk ?_
          (repeat' first | exact Lv.nil | apply Lv.cons) <;> (intros; clear cB cA FL FD FK)
          refine T_each (α := Nat × Int × TS) (fun (i, n, ρ) => [none, some (some (.int .i64 host)), some (some (.int .i64 now)), some (some (.ptr 0 0)), none, none, none, some (some (.ptr k 0)), none, some (some (.int .i64 a1)), some (some (.int .i64 a2)), some (some (.bool a3)), some (some (.int .i64 (now % c.major))), some (some (.int .i64 n)), some (some (.int .i64 i)), none, none, none, none, none, none, none, none, none, none, none, none, none, none, none, none, none, none, none, none, none, none, none, none, none, none, none, none, none, none, none, none, none, none, none, none, none, none, none, none, none, none, none, none, none, none, none, none, none, none, none, none, none, none, none, none, none, none, none, none, none, none, none, none, none, none, none, none, none, none, none, none, none, none, none, none, none, none, none, none, none, none, none, none, none, none, none, none, none, none, none, none, none, none, none, none, none, none, none, none, none, none, none, none, none, none, none, none, none, none, none, none, none, none, none, none, none, none, none, none, none, none, none, none, none, none, none, none, none, none, none, none, none, none, none, none, none, none, none, none, none, none, none, none, none, none, none, none, none, none, none, none, none, none, none, none, none, none, none, none, none, none, none]) (fun (i, n, ρ) => i ≤ c.wins.l.length ∧ ((n = 0 ∧ ∀ j, j < i → ¬ OpenW c host (now % c.major) (nth c.wins.l j)) ∨ (n = 1 ∧ ∃ j, j < i ∧ OpenW c host (now % c.major) (nth c.wins.l j)))) (fun (i, n, ρ) => c.wins.l.length - i) (fun (i, n, ρ) => τ ++ ρ) ?_ ?_
          · refine ⟨(0, 0, []), ⟨rfl, rfl, rfl, rfl, rfl, rfl, rfl, rfl, rfl, rfl, trivial⟩, ⟨by omega, .inl ⟨rfl, fun j hj => by omega⟩⟩, by simp⟩
          · rintro ⟨i, n, ρ⟩ q ⟨hi, hop⟩
            show Tw _ _ _ _ ([q 0, some (.int .i64 host), some (.int .i64 now), some (.ptr 0 0), q 4, q 5, q 6, some (.ptr k 0), q 8, some (.int .i64 a1), some (.int .i64 a2), some (.bool a3), some (.int .i64 (now % c.major)), some (.int .i64 n), some (.int .i64 i), q 15, q 16, q 17, q 18, q 19, q 20, q 21, q 22, q 23, q 24, q 25, q 26, q 27, q 28, q 29, q 30, q 31, q 32, q 33, q 34, q 35, q 36, q 37, q 38, q 39, q 40, q 41, q 42, q 43, q 44, q 45, q 46, q 47, q 48, q 49, q 50, q 51, q 52, q 53, q 54, q 55, q 56, q 57, q 58, q 59, q 60, q 61, q 62, q 63, q 64, q 65, q 66, q 67, q 68, q 69, q 70, q 71, q 72, q 73, q 74, q 75, q 76, q 77, q 78, q 79, q 80, q 81, q 82, q 83, q 84, q 85, q 86, q 87, q 88, q 89, q 90, q 91, q 92, q 93, q 94, q 95, q 96, q 97, q 98, q 99, q 100, q 101, q 102, q 103, q 104, q 105, q 106, q 107, q 108, q 109, q 110, q 111, q 112, q 113, q 114, q 115, q 116, q 117, q 118, q 119, q 120, q 121, q 122, q 123, q 124, q 125, q 126, q 127, q 128, q 129, q 130, q 131, q 132, q 133, q 134, q 135, q 136, q 137, q 138, q 139, q 140, q 141, q 142, q 143, q 144, q 145, q 146, q 147, q 148, q 149, q 150, q 151, q 152, q 153, q 154, q 155, q 156, q 157, q 158, q 159, q 160, q 161, q 162, q 163, q 164, q 165, q 166, q 167, q 168, q 169, q 170, q 171, q 172, q 173, q 174, q 175, q 176, q 177]) (τ ++ ρ)
            rcases Nat.lt_or_ge i c.wins.l.length with hlt | hge
            · have hz := winS_zero (hw i hlt)
              by_cases ho : OpenW c host (now % c.major) (nth c.wins.l i)
              · have hn0 : n = 0 := by
                  rcases hop with h1 | ⟨_, j, hj, h1⟩
                  · exact h1.1
                  · have := open_one hw (by omega) hlt h1 ho; omega
                have e := actA_open hw (by omega) hlt ho
                rw [ha] at e
                simp only [Prod.mk.injEq] at e
                obtain ⟨e1, e2, e3⟩ := e
                subst e3
                obtain ⟨⟨o1, o2⟩, o3, o4⟩ := id ho
                have FK := @hb; have FD := zdum; have FL := zdum
                refine walk ?_
                (repeat' first | exact Lv.nil | apply Lv.cons) <;> (intros; clear FL FD FK)
                refine ⟨(i + 1, 1, _), ?_, ⟨rfl, rfl, rfl, rfl, rfl, rfl, rfl, rfl, by rw [hn0]; rfl, rfl, trivial⟩, ⟨by omega, .inr ⟨rfl, i, by omega, ho⟩⟩, rfl⟩
                dsimp only; omega
              · have hno : ¬ (nth c.parts.l (nth c.wins.l i).part.toNat = host ∧ (nth c.wins.l i).begin_ ≤ now % c.major ∧ now % c.major < (nth c.wins.l i).begin_ + (nth c.wins.l i).long) := fun e => ho ⟨⟨hz.2.1, e.1⟩, e.2⟩
                have hop' : (n = 0 ∧ ∀ j, j < i + 1 → ¬ OpenW c host (now % c.major) (nth c.wins.l j)) ∨ (n = 1 ∧ ∃ j, j < i + 1 ∧ OpenW c host (now % c.major) (nth c.wins.l j)) := by
                  rcases hop with ⟨h1, h2⟩ | ⟨h1, j, hj, h2⟩
                  · exact .inl ⟨h1, upto h2 ho⟩
                  · exact .inr ⟨h1, j, by omega, h2⟩
                have FK := @hb; have FD := zdum; have FL := zdum
                refine walk ?_
                (repeat' first | exact Lv.nil | apply Lv.cons) <;> (intros; clear FL FD FK)
                all_goals
                  refine ⟨(i + 1, n, _), ?_, ⟨rfl, rfl, rfl, rfl, rfl, rfl, rfl, rfl, rfl, rfl, trivial⟩, ⟨by omega, hop'⟩, rfl⟩
                  dsimp only; omega
            · rcases hop with ⟨h1, h2⟩ | ⟨h1, j, hj, h2⟩
              · have e1 := actA_none (fun j hj => h2 j (by omega))
                have e2 : actA c host (now + c.major) = (0, 0, false) := actA_none (fun j hj => by rw [hmod2]; exact h2 j (by omega))
                rw [e2] at hact2
                rw [ha] at e1
                simp only [Prod.mk.injEq] at e1
                obtain ⟨rfl, rfl, rfl⟩ := e1
                subst h1
                have FK := @hb; have FD := zdum; have FL := zdum; have cA := @haw; have cB := @hact2
                refine walk ?_
                (repeat' first | exact Lv.nil | apply Lv.cons) <;> (intros; clear cB cA FL FD FK)
              · have hzj := winS_zero (hw j (by omega))
                have e1 := actA_open (i := j) hw (by omega) (by omega) h2
                have e2 := actA_open (i := j) (now := now + c.major) hw (by omega) (by omega) (by rw [hmod2]; exact h2)
                rw [e2, hmod2] at hact2
                rw [ha] at e1
                simp only [Prod.mk.injEq] at e1
                obtain ⟨rfl, e1b, rfl⟩ := e1
                subst h1
                have FK := @hb; have FD := zdum; have FL := zdum; have cA := @haw; have cB := @hact2
                refine walk ?_
                (repeat' first | exact Lv.nil | apply Lv.cons) <;> (intros; clear cB cA FL FD FK)
        · by_cases hneg : now < 0
          · have e1 : actA c host now = (0, 0, false) := if_pos (.inl hneg)
            rw [ha] at e1
            simp only [Prod.mk.injEq] at e1
            obtain ⟨rfl, rfl, rfl⟩ := e1
            have FK := @hb; have FD := zdum; have FL := zdum; have cA := @haw; have cB := @hact0
            refine walk ?_
            (repeat' first | exact Lv.nil | apply Lv.cons) <;> (intros; clear cB cA FL FD FK)
          · have FK := @hb; have FD := zdum; have FL := zdum; have cA := @haw; have cB := @hact0
            refine walk ?_
            (repeat' first | exact Lv.nil | apply Lv.cons) <;> (intros; clear cB cA FL FD FK)
      · have h1 := fun τ => kernel_out c hf host τ hok hhost
        refine calls_of [] [.tmp 6] Tryz.func3 (by kernel_rfl) rfl (by kernel_rfl) fun X hR hN => ?_
        show Tw _ _ _ _ ([some _, some _, some _] ++ List.replicate 175 none) _
        simp only [List.replicate, List.cons_append, List.nil_append]
        have FK := zdum; have FD := zdum; have FL := zdum; have cA := @hfew; have cB := @haw; have cC := @h1
        refine walk ?_
        (repeat' first | exact Lv.nil | apply Lv.cons) <;> (intros; clear cC cB cA FL FD FK)
    · have h1 := fun τ => kernel_bad c hf host τ he
      have he2 : ((checkS c).2.2 != 0) = true := by simpa using he
      refine calls_of [] [.tmp 6] Tryz.func3 (by kernel_rfl) rfl (by kernel_rfl) fun X hR hN => ?_
      show Tw _ _ _ _ ([some _, some _, some _] ++ List.replicate 175 none) _
      simp only [List.replicate, List.cons_append, List.nil_append]
      have FK := @he2; have FD := zdum; have FL := zdum; have cA := @hfew; have cB := @haw; have cC := @h1
      refine walk ?_
      (repeat' first | exact Lv.nil | apply Lv.cons) <;> (intros; clear cC cB cA FL FD FK)
  · have hfew : ∀ σ, TPure Tryz.prog 9 [cfgTV c] σ (.bool false) := fun σ => by
      have := few_walk c hc σ
      rwa [decide_eq_false h] at this
    refine calls_of [] [.tmp 6] Tryz.func3 (by kernel_rfl) rfl (by kernel_rfl) fun X hR hN => ?_
    show Tw _ _ _ _ ([some _, some _, some _] ++ List.replicate 175 none) _
    simp only [List.replicate, List.cons_append, List.nil_append]
    have FK := zdum; have FD := zdum; have FL := zdum; have cA := @hfew; have cB := @haw
    refine walk ?_
    (repeat' first | exact Lv.nil | apply Lv.cons) <;> (intros; clear cB cA FL FD FK)
end Go.Proofs.YtbhhmnfjjnnkiaaGreat
