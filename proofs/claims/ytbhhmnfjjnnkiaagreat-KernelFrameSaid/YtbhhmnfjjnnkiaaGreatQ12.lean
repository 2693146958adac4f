/- KernelFrame, walked. -/
import Derived.Test.YtbhhmnfjjnnkiaaGreatQ10
set_option linter.unusedVariables false
set_option linter.unusedSimpArgs false
set_option maxRecDepth 10000
set_option maxHeartbeats 4000000
namespace Go.Proofs.YtbhhmnfjjnnkiaaGreat
open Go.TM

theorem actN_le (c : Cfg) (host p : Int) : ∀ t : Nat, 0 ≤ actN c host p t ∧ actN c host p t ≤ t
  | 0 => by simp [actN]
  | t + 1 => by
    have := actN_le c host p t
    rw [actN]
    split
    · split <;> omega
    · omega
theorem longN_up {c : Cfg} {host p : Int} (hw : ∀ k, k < c.wins.l.length → winS c k = 0) : ∀ k n, k + n ≤ c.wins.l.length → longN c host p k ≤ longN c host p (k + n)
  | k, 0, _ => Int.le_refl _
  | k, n + 1, h => by
    have h1 := longN_up (host := host) (p := p) hw k n (by omega)
    have h2 := winS_zero (hw (k + n) (by omega))
    rw [← Nat.add_assoc, longN]
    split <;> omega
/-- The ticks that were counted. -/
def Ticks (c : Cfg) (host : Int) (t : Nat) (ms : List (Int × Int × Nat)) : Prop := ∀ p, (mGet ms p).getD 0 = actN c host p t
theorem ticks_none {c : Cfg} {host : Int} {t : Nat} {ms : List (Int × Int × Nat)} (h : Ticks c host t ms) (ha : actW c host t = none) : Ticks c host (t + 1) ms := fun p => by
  rw [h p, actN, ha]; simp
theorem ticks_some {c : Cfg} {host : Int} {t cl : Nat} {ms : List (Int × Int × Nat)} {w : Win} (h : Ticks c host t ms) (ha : actW c host t = some w) : Ticks c host (t + 1) (mPut ms cl w.part ((mGet ms w.part).getD 0 + 1)) := fun p => by
  rw [mGet_put, actN, ha]
  by_cases hp : p = w.part
  · subst hp
    rw [if_pos rfl, Option.getD_some, h]
    simp
  · rw [if_neg hp, h p]
    simp only
    rw [if_neg (fun e => hp e.symm)]
    omega

theorem frame_walk (c : Cfg) (hc : c.ok) (host : Int) (hh : I64 host) : TCalls Tryz.prog 4 [cfgTV c, .int .i64 host] [] fun v _ => v = .bool true := by
  have haw := awake23
  by_cases h : FewP c
  · have hf := h.few hc
    have hfew : ∀ σ, TPure Tryz.prog 9 [cfgTV c] σ (.bool true) := fun σ => by
      have := few_walk c hc σ
      rwa [decide_eq_true h] at this
    by_cases h5 : c.major > 5000
    · refine calls_of [] [.tmp 4] Tryz.func4 (by kernel_rfl) rfl (by kernel_rfl) fun X hR hN => ?_
      show Tw _ _ _ _ ([some _, some _] ++ List.replicate 108 none) _
      simp only [List.replicate, List.cons_append, List.nil_append]
      have FK := zdum; have FD := zdum; have FL := zdum; have cA := @hfew; have cB := @haw
      refine walk ?_
      (repeat' first | exact Lv.nil | apply Lv.cons) <;> (intros; clear cB cA FL FD FK)
    by_cases he : (checkS c).2.2 = 0
    · have hok := okC_of he
      have hw := hok.wins
      have hM := hok.major
      have hlw : c.wins.l.length ≤ 260 := hf.wins
      have hlp : c.parts.l.length ≤ 70 := hf.parts
      by_cases hhost : 0 ≤ host ∧ host < c.hosts
      · refine calls_of [] [.tmp 4] Tryz.func4 (by kernel_rfl) rfl (by kernel_rfl) fun X hR hN => ?_
        show Tw _ _ _ _ ([some _, some _] ++ List.replicate 108 none) _
        simp only [List.replicate, List.cons_append, List.nil_append]
        have FK := zdum; have FD := zdum; have FL := zdum; have cA := @hfew
        refine walk ?_
        (repeat' first | exact Lv.nil | apply Lv.cons) <;> (intros; clear cA FL FD FK)
        refine WL_do fun Cw cw => ?_
        (with_reducible first | apply O_callF | apply O_call); (repeat rfl); (try simp only [List.nil_append, List.append_nil, List.cons_append])
        refine (kernel_new c hf host hh _ (fun _ => 0) hok hhost).mono ?_
        rintro u1 τ ⟨k, tx, rx, room, lm, ms0, cl0, lab, locs, rl, rlocs, rfl, hK, hG, hMo⟩
        have hb := hG.get (i := 0) rfl (fun e => e)
        have hker := hK.ker
        clear hG hMo hK
        have hbl := lt_of_get hb
        (with_reducible apply cw); (focus ((try simp only [tput, List.set_cons_zero, List.set_cons_succ]); exact rfl)); clear cw Cw
        have FK := @hb; have FD := zdum; have FL := zdum; have cA := @haw
        refine walk ?_
        (repeat' first | exact Lv.nil | apply Lv.cons) <;> (intros; clear cA FL FD FK)
        refine T_each (α := Nat × List (Int × Int × Nat) × Nat) (fun (t, ms, cl) => [none, some (some (.int .i64 host)), some (some (.ptr 0 0)), none, none, some (some (.ptr k 0)), none, some (some (.map τ.length)), some (some (.int .i64 t)), none, none, none, none, none, none, none, none, none, none, none, none, none, none, none, none, none, none, none, none, none, none, none, none, none, none, none, none, none, none, none, none, none, none, none, none, none, none, none, none, none, none, none, none, none, none, none, none, none, none, none, none, none, none, none, none, none, none, none, none, none, none, none, none, none, none, none, none, none, none, none, none, none, none, none, none, none, none, none, none, none, none, none, none, none, none, none, none, none, none, none, none, none, none, none, none, none, none, none, none, none]) (fun (t, ms, cl) => (t : Int) ≤ c.major ∧ Ticks c host t ms) (fun (t, ms, cl) => c.major.toNat - t) (fun (t, ms, cl) => τ ++ [.map (mEnt kI kI ms) cl]) ?_ ?_
        · refine ⟨(0, [], 0), ⟨rfl, rfl, rfl, rfl, rfl, trivial⟩, ⟨by omega, fun p => rfl⟩, rfl⟩
        · rintro ⟨t, ms, cl⟩ q ⟨ht, hT⟩
          show Tw _ _ _ _ ([q 0, some (.int .i64 host), some (.ptr 0 0), q 3, q 4, some (.ptr k 0), q 6, some (.map τ.length), some (.int .i64 t), q 9, q 10, q 11, q 12, q 13, q 14, q 15, q 16, q 17, q 18, q 19, q 20, q 21, q 22, q 23, q 24, q 25, q 26, q 27, q 28, q 29, q 30, q 31, q 32, q 33, q 34, q 35, q 36, q 37, q 38, q 39, q 40, q 41, q 42, q 43, q 44, q 45, q 46, q 47, q 48, q 49, q 50, q 51, q 52, q 53, q 54, q 55, q 56, q 57, q 58, q 59, q 60, q 61, q 62, q 63, q 64, q 65, q 66, q 67, q 68, q 69, q 70, q 71, q 72, q 73, q 74, q 75, q 76, q 77, q 78, q 79, q 80, q 81, q 82, q 83, q 84, q 85, q 86, q 87, q 88, q 89, q 90, q 91, q 92, q 93, q 94, q 95, q 96, q 97, q 98, q 99, q 100, q 101, q 102, q 103, q 104, q 105, q 106, q 107, q 108, q 109]) (τ ++ [.map (mEnt kI kI ms) cl])
          have hact := active_walk (hker.app [.map (mEnt kI kI ms) cl]) hf hok (t : Int) ⟨by omega, by omega⟩
          have hm : (τ ++ [TObj.map (mEnt kI kI ms) cl])[τ.length]? = some (.map (mEnt kI kI ms) cl) := by simp
          have hlook : ∀ p, tlookup (mkTab Tryz.prog) (τ ++ [.map (mEnt kI kI ms) cl]) 39 (.map τ.length) (.int .i64 p) false = some (.int .i64 ((mGet ms p).getD 0)) := fun p => by
            rw [mapLook (z := .int .i64 0) tab39 rfl tab3 rfl kI_law hm false]
            cases mGet ms p <;> rfl
          rcases Int.lt_or_le (t : Int) c.major with hlt | hge
          · have hmod : (t : Int) % c.major = t := Int.emod_eq_of_lt (by omega) hlt
            have hput : ∀ p v, tmapUpdate (mkTab Tryz.prog) (τ ++ [.map (mEnt kI kI ms) cl]) 39 (.map τ.length) (.int .i64 p) (.int .i64 v) = some (τ ++ [.map (mEnt kI kI (mPut ms cl p v)) (mClock ms cl p)]) := fun p v => by
              have := mapPut (kf := kI) (vf := kI) (a := p) (v := v) tab39 rfl kI_law hm
              rw [set_app0] at this
              exact this
            cases ha : actW c host t with
            | none =>
              have e : actA c host t = (0, 0, false) := by rw [actA, if_neg (by omega), hmod, ha]
              rw [e] at hact
              have FK := @hb; have FD := zdum; have FL := zdum; have cA := @hact
              refine walk ?_
              (repeat' first | exact Lv.nil | apply Lv.cons) <;> (intros; clear cA FL FD FK)
              refine ⟨(t + 1, ms, cl), ?_, ⟨rfl, rfl, rfl, rfl, rfl, trivial⟩, ⟨by omega, ticks_none hT ha⟩, rfl⟩
              dsimp only; omega
            | some w =>
              have e : actA c host t = (w.part, t - t + w.begin_ + w.long, true) := by rw [actA, if_neg (by omega), hmod, ha]
              rw [e] at hact
              have hv := actN_le c host w.part t
              rw [← hT w.part] at hv
              have FK := @hb; have FD := And.intro @hlook (@hput); have FL := zdum; have cA := @hact
              refine walk ?_
              (repeat' first | exact Lv.nil | apply Lv.cons) <;> (intros; clear cA FL FD FK)
              refine ⟨(t + 1, _, _), ?_, ⟨rfl, rfl, rfl, rfl, rfl, trivial⟩, ⟨by omega, ticks_some hT ha⟩, rfl⟩
              dsimp only; omega
          · have htm : t = c.major.toNat := by omega
            subst htm
            have hall : ∀ p, (mGet ms p).getD 0 = longN c host p c.wins.l.length := fun p => by rw [hT p, actN_long hw (by omega)]
            have hsm : ∀ p, longN c host p c.wins.l.length ≤ 5000 := fun p => by
              have := actN_le c host p c.major.toNat
              rw [actN_long hw (by omega)] at this
              omega
            clear hact
            have FK := @hb; have FD := zdum; have FL := zdum
            refine walk ?_
            (repeat' first | exact Lv.nil | apply Lv.cons) <;> (intros; clear FL FD FK)
            refine T_each (α := Nat) (fun i => [none, some (some (.int .i64 host)), some (some (.ptr 0 0)), none, none, none, none, some (some (.map τ.length)), none, none, none, none, some (some (.int .i64 i)), none, none, none, none, none, none, none, none, none, none, none, none, none, none, none, none, none, none, none, none, none, none, none, none, none, none, none, none, none, none, none, none, none, none, none, none, none, none, none, none, none, none, none, none, none, none, none, none, none, none, none, none, none, none, none, none, none, none, none, none, none, none, none, none, none, none, none, none, none, none, none, none, none, none, none, none, none, none, none, none, none, none, none, none, none, none, none, none, none, none, none, none, none, none, none, none, none]) (fun i => i ≤ c.parts.l.length) (fun i => c.parts.l.length - i) (fun i => τ ++ [.map (mEnt kI kI ms) cl]) ?_ ?_
            · refine ⟨(0), ⟨rfl, rfl, rfl, rfl, trivial⟩, ?_, rfl⟩
              omega
            · rintro i q hi
              show Tw _ _ _ _ ([q 0, some (.int .i64 host), some (.ptr 0 0), q 3, q 4, q 5, q 6, some (.map τ.length), q 8, q 9, q 10, q 11, some (.int .i64 i), q 13, q 14, q 15, q 16, q 17, q 18, q 19, q 20, q 21, q 22, q 23, q 24, q 25, q 26, q 27, q 28, q 29, q 30, q 31, q 32, q 33, q 34, q 35, q 36, q 37, q 38, q 39, q 40, q 41, q 42, q 43, q 44, q 45, q 46, q 47, q 48, q 49, q 50, q 51, q 52, q 53, q 54, q 55, q 56, q 57, q 58, q 59, q 60, q 61, q 62, q 63, q 64, q 65, q 66, q 67, q 68, q 69, q 70, q 71, q 72, q 73, q 74, q 75, q 76, q 77, q 78, q 79, q 80, q 81, q 82, q 83, q 84, q 85, q 86, q 87, q 88, q 89, q 90, q 91, q 92, q 93, q 94, q 95, q 96, q 97, q 98, q 99, q 100, q 101, q 102, q 103, q 104, q 105, q 106, q 107, q 108, q 109]) (τ ++ [.map (mEnt kI kI ms) cl])
              rcases Nat.lt_or_ge i c.parts.l.length with hil | hig
              · have FK := @hb; have FD := zdum; have FL := zdum
                refine walk ?_
                (repeat' first | exact Lv.nil | apply Lv.cons) <;> (intros; clear FL FD FK)
                refine T_each (α := Nat) (fun n => [none, some (some (.int .i64 host)), some (some (.ptr 0 0)), none, none, none, none, some (some (.map τ.length)), none, none, none, none, some (some (.int .i64 i)), some (some (.int .i64 (longN c host i n))), some (some (.int .i64 n)), none, none, none, none, none, none, none, none, none, none, none, none, none, none, none, none, none, none, none, none, none, none, none, none, none, none, none, none, none, none, none, none, none, none, none, none, none, none, none, none, none, none, none, none, none, none, none, none, none, none, none, none, none, none, none, none, none, none, none, none, none, none, none, none, none, none, none, none, none, none, none, none, none, none, none, none, none, none, none, none, none, none, none, none, none, none, none, none, none, none, none, none, none, none, none]) (fun n => n ≤ c.wins.l.length) (fun n => c.wins.l.length - n) (fun n => τ ++ [.map (mEnt kI kI ms) cl]) ?_ ?_
                · refine ⟨(0), ⟨rfl, rfl, rfl, rfl, rfl, rfl, trivial⟩, ?_, rfl⟩
                  omega
                · rintro n q hn
                  show Tw _ _ _ _ ([q 0, some (.int .i64 host), some (.ptr 0 0), q 3, q 4, q 5, q 6, some (.map τ.length), q 8, q 9, q 10, q 11, some (.int .i64 i), some (.int .i64 (longN c host i n)), some (.int .i64 n), q 15, q 16, q 17, q 18, q 19, q 20, q 21, q 22, q 23, q 24, q 25, q 26, q 27, q 28, q 29, q 30, q 31, q 32, q 33, q 34, q 35, q 36, q 37, q 38, q 39, q 40, q 41, q 42, q 43, q 44, q 45, q 46, q 47, q 48, q 49, q 50, q 51, q 52, q 53, q 54, q 55, q 56, q 57, q 58, q 59, q 60, q 61, q 62, q 63, q 64, q 65, q 66, q 67, q 68, q 69, q 70, q 71, q 72, q 73, q 74, q 75, q 76, q 77, q 78, q 79, q 80, q 81, q 82, q 83, q 84, q 85, q 86, q 87, q 88, q 89, q 90, q 91, q 92, q 93, q 94, q 95, q 96, q 97, q 98, q 99, q 100, q 101, q 102, q 103, q 104, q 105, q 106, q 107, q 108, q 109]) (τ ++ [.map (mEnt kI kI ms) cl])
                  have hup := longN_up (host := host) (p := (i : Int)) hw n (c.wins.l.length - n) (by omega)
                  rw [show n + (c.wins.l.length - n) = c.wins.l.length by omega] at hup
                  have hlo := longN_up (host := host) (p := (i : Int)) hw 0 n (by omega)
                  rw [Nat.zero_add, show longN c host i 0 = 0 from rfl] at hlo
                  have hs := hsm i
                  rcases Nat.lt_or_ge n c.wins.l.length with hnl | hng
                  · have hz := winS_zero (hw n hnl)
                    have hst : longN c host i (n + 1) = longN c host i n + if (nth c.wins.l n).part = i ∧ nth c.parts.l i = host then (nth c.wins.l n).long else 0 := rfl
                    have FK := @hb; have FD := zdum; have FL := zdum
                    refine walk ?_
                    (repeat' first | exact Lv.nil | apply Lv.cons) <;> (intros; clear FL FD FK)
                    · have e : longN c host i (n + 1) = longN c host i n + (nth c.wins.l n).long := by rw [hst, if_pos ⟨by assumption, by assumption⟩]
                      refine ⟨n + 1, ?_, ⟨rfl, rfl, rfl, rfl, (by rw [e]), rfl, trivial⟩, ?_, trivial⟩ <;> omega
                    all_goals
                      have e : longN c host i (n + 1) = longN c host i n := by
                        rw [hst, if_neg (by rintro ⟨e1, e2⟩; omega)]; omega
                      refine ⟨n + 1, ?_, ⟨rfl, rfl, rfl, rfl, (by rw [e]), rfl, trivial⟩, ?_, trivial⟩ <;> omega
                  · have hne : n = c.wins.l.length := by omega
                    subst hne
                    have hl := hlook i
                    rw [hall i] at hl
                    have FK := @hb; have FD := @hl; have FL := zdum
                    refine walk ?_
                    (repeat' first | exact Lv.nil | apply Lv.cons) <;> (intros; clear FL FD FK)
                    refine ⟨(i + 1), ?_, ⟨rfl, rfl, rfl, rfl, trivial⟩, ?_, (by first | rfl | trivial)⟩
                    all_goals (try dsimp only)
                    all_goals (omega)
              · have FK := @hb; have FD := zdum; have FL := zdum; have cA := @haw
                refine walk ?_
                (repeat' first | exact Lv.nil | apply Lv.cons) <;> (intros; clear cA FL FD FK)
      · have h1 := fun τ => kernel_out c hf host τ hok hhost
        refine calls_of [] [.tmp 4] Tryz.func4 (by kernel_rfl) rfl (by kernel_rfl) fun X hR hN => ?_
        show Tw _ _ _ _ ([some _, some _] ++ List.replicate 108 none) _
        simp only [List.replicate, List.cons_append, List.nil_append]
        have FK := zdum; have FD := zdum; have FL := zdum; have cA := @hfew; have cB := @haw; have cC := @h1
        refine walk ?_
        (repeat' first | exact Lv.nil | apply Lv.cons) <;> (intros; clear cC cB cA FL FD FK)
    · have h1 := fun τ => kernel_bad c hf host τ he
      have he2 : ((checkS c).2.2 != 0) = true := by simpa using he
      refine calls_of [] [.tmp 4] Tryz.func4 (by kernel_rfl) rfl (by kernel_rfl) fun X hR hN => ?_
      show Tw _ _ _ _ ([some _, some _] ++ List.replicate 108 none) _
      simp only [List.replicate, List.cons_append, List.nil_append]
      have FK := @he2; have FD := zdum; have FL := zdum; have cA := @hfew; have cB := @haw; have cC := @h1
      refine walk ?_
      (repeat' first | exact Lv.nil | apply Lv.cons) <;> (intros; clear cC cB cA FL FD FK)
  · have hfew : ∀ σ, TPure Tryz.prog 9 [cfgTV c] σ (.bool false) := fun σ => by
      have := few_walk c hc σ
      rwa [decide_eq_false h] at this
    refine calls_of [] [.tmp 4] Tryz.func4 (by kernel_rfl) rfl (by kernel_rfl) fun X hR hN => ?_
    show Tw _ _ _ _ ([some _, some _] ++ List.replicate 108 none) _
    simp only [List.replicate, List.cons_append, List.nil_append]
    have FK := zdum; have FD := zdum; have FL := zdum; have cA := @hfew; have cB := @haw
    refine walk ?_
    (repeat' first | exact Lv.nil | apply Lv.cons) <;> (intros; clear cB cA FL FD FK)
end Go.Proofs.YtbhhmnfjjnnkiaaGreat
