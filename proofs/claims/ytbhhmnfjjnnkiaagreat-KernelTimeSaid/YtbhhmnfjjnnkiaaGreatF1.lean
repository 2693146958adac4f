/- What config's own small functions compute. -/
import Derived.Test.YtbhhmnfjjnnkiaaGreatD1
import Derived.Test.YtbhhmnfjjnnkiaaGreatT50
set_option linter.unusedVariables false
set_option linter.unusedSimpArgs false
set_option maxRecDepth 10000
set_option maxHeartbeats 2000000
namespace Go.Proofs.YtbhhmnfjjnnkiaaGreat
open Go.TM

/-- A network that is looked at, as it lies in the heap. -/
abbrev netC (c : Cfg) (lm : Nat) : List TV := [.int .i64 c.hosts, rowTV intC c.parts, .int .i64 c.major, rowTV winC c.wins, rowTV linkC c.vls, rowTV portC c.ports, .map lm]
attribute [go_sem] netC

abbrev Btw (n a b : Int) : Prop := a ≤ n ∧ n ≤ b

theorem between_walk (n a b : Int) (σ : TS) : TPure Tryz.prog 29 [.int .i64 n, .int .i64 a, .int .i64 b] σ (.bool (decide (Btw n a b))) := by
  refine pure_of [] [.tmp 6] Tryz.func29 (by kernel_rfl) rfl (by kernel_rfl) fun X hR hN => ?_
  show Tw _ _ _ _ ([some _, some _, some _] ++ List.replicate 12 none) _
  simp only [List.replicate, List.cons_append, List.nil_append]
  have FK := zdum; have FD := zdum; have FL := zdum
  refine walk ?_
  (repeat' first | exact Lv.nil | apply Lv.cons) <;> (intros; clear FL FD FK)
  all_goals ((first | refine congrArg TV.bool (bool_eq ?_) | refine bool_eq ?_); simp only [decide_eq_true_eq, Bool.false_eq_true, false_iff, true_iff, Btw]; omega)

theorem largest_walk (n : Int) (σ : TS) (h : -9223372036854775000 ≤ n) (h2 : n ≤ 9223372036854775807) : TPure Tryz.prog 83 [.int .i64 n] σ (.int .i64 (n - 47)) := by
  refine pure_of [] [.tmp 2] Tryz.func83 (by kernel_rfl) rfl (by kernel_rfl) fun X hR hN => ?_
  show Tw _ _ _ _ ([some _] ++ List.replicate 4 none) _
  simp only [List.replicate, List.cons_append, List.nil_append]
  have FK := zdum; have FD := zdum; have FL := zdum
  refine walk ?_
  (repeat' first | exact Lv.nil | apply Lv.cons) <;> (intros; clear FL FD FK)
  all_goals rfl

theorem host_walk (c : Cfg) (l lm : Nat) (n : Int) (σ : TS) (hn : σ[l]? = some (.cells (netC c lm))) (h1 : -9223372036854775000 ≤ c.hosts) (h2 : c.hosts ≤ 9223372036854775807) : TPure Tryz.prog 31 [.ptr l 0, .int .i64 n] σ (.bool (decide (IsHost c n))) := by
  refine pure_of [] [.tmp 4] Tryz.func31 (by kernel_rfl) rfl (by kernel_rfl) fun X hR hN => ?_
  show Tw _ _ _ _ ([some _, some _] ++ List.replicate 11 none) _
  simp only [List.replicate, List.cons_append, List.nil_append]
  have FK := @hn; have FD := zdum; have FL := zdum; have cA := @between_walk
  refine walk ?_
  (repeat' first | exact Lv.nil | apply Lv.cons) <;> (intros; clear cA FL FD FK)
  all_goals ((first | refine congrArg TV.bool (bool_eq ?_) | refine bool_eq ?_); simp only [decide_eq_true_eq, Bool.false_eq_true, false_iff, true_iff, Btw, IsHost]; omega)

theorem part_walk (c : Cfg) (l lm : Nat) (n : Int) (σ : TS) (hn : σ[l]? = some (.cells (netC c lm))) (hp : c.parts.l.length ≤ 9223372036854775807) : TPure Tryz.prog 58 [.ptr l 0, .int .i64 n] σ (.bool (decide (IsPart c n))) := by
  refine pure_of [] [.tmp 4] Tryz.func58 (by kernel_rfl) rfl (by kernel_rfl) fun X hR hN => ?_
  show Tw _ _ _ _ ([some _, some _] ++ List.replicate 12 none) _
  simp only [List.replicate, List.cons_append, List.nil_append]
  have FK := @hn; have FD := zdum; have FL := zdum; have cA := @between_walk
  refine walk ?_
  (repeat' first | exact Lv.nil | apply Lv.cons) <;> (intros; clear cA FL FD FK)
  all_goals ((first | refine congrArg TV.bool (bool_eq ?_) | refine bool_eq ?_); simp only [decide_eq_true_eq, Bool.false_eq_true, false_iff, true_iff, Btw, IsPart]; omega)

/-- Where a number is first in a row; -1: nowhere. -/
theorem index_walk (r : Row Int) (x : Int) (σ : TS) (hl : r.l.length ≤ 9223372036854775806) : ∃ n : Int, (0 ≤ n ↔ r.l.contains x = true) ∧ TPure Tryz.prog 103 [rowTV intC r, .int .i64 x] σ (.int .i64 n) := by
  by_cases hx : ∃ k, k < r.l.length ∧ nth r.l k = x ∧ ∀ j, j < k → nth r.l j ≠ x
  · obtain ⟨k, hk, hx, hno⟩ := hx
    refine ⟨k, ⟨fun _ => contains_first hk hx, fun _ => by omega⟩, ?_⟩
    refine pure_of [] [.tmp 4] Tryz.func103 (by kernel_rfl) rfl (by kernel_rfl) fun X hR hN => ?_
    show Tw _ _ _ _ ([some _, some _] ++ List.replicate 17 none) _
    simp only [List.replicate, List.cons_append, List.nil_append]
    have FK := zdum; have FD := zdum; have FL := zdum
    refine walk ?_
    (repeat' first | exact Lv.nil | apply Lv.cons) <;> (intros; clear FL FD FK)
    refine T_each (α := Nat) (fun i => [some (some (rowTV intC r)), some (some (.int .i64 x)), none, none, none, none, none, some (some (.int .i64 r.l.length)), some (some (.int .i64 i)), none, none, none, none, none, none, none, none, none, none]) (fun i => i ≤ k) (fun i => r.l.length - i) (fun i => σ) ?_ ?_
    · refine ⟨(0), ⟨rfl, rfl, rfl, rfl, trivial⟩, ?_, rfl⟩
      omega
    · rintro i q hi
      show Tw _ _ _ _ ([some (rowTV intC r), some (.int .i64 x), q 2, q 3, q 4, q 5, q 6, some (.int .i64 r.l.length), some (.int .i64 i), q 9, q 10, q 11, q 12, q 13, q 14, q 15, q 16, q 17, q 18]) (σ)
      have hno' : i < k → nth r.l i ≠ x := hno i
      have FK := zdum; have FD := zdum; have FL := zdum
      refine walk ?_
      (repeat' first | exact Lv.nil | apply Lv.cons) <;> (intros; clear FL FD FK)
      · have : i = k := by
          rcases Nat.lt_or_ge i k with h | h
          · exact absurd (Eq.symm (by assumption)) (hno' h)
          · omega
        subst this; rfl
      · refine ⟨(i + 1), ?_, ⟨rfl, rfl, rfl, rfl, trivial⟩, ?_, (by first | rfl | trivial)⟩
        all_goals (try dsimp only)
        · omega
        · rcases Nat.lt_or_ge i k with h | h
          · omega
          · exfalso
            obtain rfl : i = k := by omega
            exact absurd hx.symm (by assumption)
  · have hno : ∀ k, k < r.l.length → nth r.l k ≠ x := by
      intro k hk he
      have : ∀ k, k < r.l.length → nth r.l k ≠ x := by
        intro k
        induction k using Nat.strongRecOn with
        | _ k ih => exact fun hk he => hx ⟨k, hk, he, fun j hj => ih j hj (by omega)⟩
      exact this k hk he
    refine ⟨-1, ⟨fun h => by omega, fun h => by rw [contains_none hno] at h; cases h⟩, ?_⟩
    refine pure_of [] [.tmp 4] Tryz.func103 (by kernel_rfl) rfl (by kernel_rfl) fun X hR hN => ?_
    show Tw _ _ _ _ ([some _, some _] ++ List.replicate 17 none) _
    simp only [List.replicate, List.cons_append, List.nil_append]
    have FK := zdum; have FD := zdum; have FL := zdum
    refine walk ?_
    (repeat' first | exact Lv.nil | apply Lv.cons) <;> (intros; clear FL FD FK)
    refine T_each (α := Nat) (fun i => [some (some (rowTV intC r)), some (some (.int .i64 x)), none, none, none, none, none, some (some (.int .i64 r.l.length)), some (some (.int .i64 i)), none, none, none, none, none, none, none, none, none, none]) (fun i => i ≤ r.l.length) (fun i => r.l.length - i) (fun i => σ) ?_ ?_
    · refine ⟨(0), ⟨rfl, rfl, rfl, rfl, trivial⟩, ?_, rfl⟩
      omega
    · rintro i q hi
      show Tw _ _ _ _ ([some (rowTV intC r), some (.int .i64 x), q 2, q 3, q 4, q 5, q 6, some (.int .i64 r.l.length), some (.int .i64 i), q 9, q 10, q 11, q 12, q 13, q 14, q 15, q 16, q 17, q 18]) (σ)
      have hno' : i < r.l.length → nth r.l i ≠ x := hno i
      have FK := zdum; have FD := zdum; have FL := zdum
      refine walk ?_
      (repeat' first | exact Lv.nil | apply Lv.cons) <;> (intros; clear FL FD FK)
      · refine ⟨(i + 1), ?_, ⟨rfl, rfl, rfl, rfl, trivial⟩, ?_, (by first | rfl | trivial)⟩
        all_goals (try dsimp only)
        · omega
        · omega

theorem contains_walk (r : Row Int) (x : Int) (σ : TS) (hl : r.l.length ≤ 9223372036854775806) : TPure Tryz.prog 81 [rowTV intC r, .int .i64 x] σ (.bool (r.l.contains x)) := by
  obtain ⟨n, hn, hc⟩ := index_walk r x σ hl
  refine pure_of [] [.tmp 4] Tryz.func81 (by kernel_rfl) rfl (by kernel_rfl) fun X hR hN => ?_
  show Tw _ _ _ _ ([some _, some _] ++ List.replicate 7 none) _
  simp only [List.replicate, List.cons_append, List.nil_append]
  have FK := zdum; have FD := zdum; have FL := zdum; have cA := @hc
  refine walk ?_
  (repeat' first | exact Lv.nil | apply Lv.cons) <;> (intros; clear cA FL FD FK)
  · congr 1
    rw [Bool.eq_iff_iff, ← hn]
    simp


/-- What is wrong with where a port's link goes. -/
def endsS (p : Port) (v : Link) : Int :=
  if p.out = true then (if v.host ≠ p.host then 20 else if p.sub < 0 ∨ p.sub > v.subs - 1 then 1 else 0)
  else if v.to.l.contains p.host = false then 20 else if p.sub < 0 ∨ p.sub > 0 then 1 else 0

theorem ends_walk (p : Port) (v : Link) (σ : TS) (hv : v.to.l.length ≤ 9223372036854775806) (hs : 1 ≤ v.subs ∧ v.subs ≤ 4) : TPure Tryz.prog 61 [portTV p, linkTV v] σ (.int .i64 (endsS p v)) := by
  cases ho : p.out with
  | true =>
    refine pure_of [] [.tmp 4] Tryz.func61 (by kernel_rfl) rfl (by kernel_rfl) fun X hR hN => ?_
    show Tw _ _ _ _ ([some _, some _] ++ List.replicate 37 none) _
    simp only [List.replicate, List.cons_append, List.nil_append]
    have FK := @ho; have FD := zdum; have FL := zdum; have cA := @between_walk; have cB := @contains_walk
    refine walk ?_
    (repeat' first | exact Lv.nil | apply Lv.cons) <;> (intros; clear cB cA FL FD FK)
    all_goals (unfold endsS; rw [if_pos ho])
    all_goals first | (rw [if_pos (by assumption)]; done) | (rw [if_neg (by omega), if_pos (by omega)]; done) | (rw [if_neg (by omega), if_neg (by omega)]; done)
  | false =>
    cases hc : v.to.l.contains p.host with
    | true =>
      refine pure_of [] [.tmp 4] Tryz.func61 (by kernel_rfl) rfl (by kernel_rfl) fun X hR hN => ?_
      show Tw _ _ _ _ ([some _, some _] ++ List.replicate 37 none) _
      simp only [List.replicate, List.cons_append, List.nil_append]
      have FK := And.intro @ho (@hc); have FD := zdum; have FL := zdum; have cA := @between_walk; have cB := @contains_walk
      refine walk ?_
      (repeat' first | exact Lv.nil | apply Lv.cons) <;> (intros; clear cB cA FL FD FK)
      all_goals (unfold endsS; rw [if_neg (by rw [ho]; decide), hc, if_neg (by decide)])
      all_goals first | (rw [if_pos (by omega)]; done) | (rw [if_neg (by omega)]; done)
    | false =>
      refine pure_of [] [.tmp 4] Tryz.func61 (by kernel_rfl) rfl (by kernel_rfl) fun X hR hN => ?_
      show Tw _ _ _ _ ([some _, some _] ++ List.replicate 37 none) _
      simp only [List.replicate, List.cons_append, List.nil_append]
      have FK := And.intro @ho (@hc); have FD := zdum; have FL := zdum; have cA := @between_walk; have cB := @contains_walk
      refine walk ?_
      (repeat' first | exact Lv.nil | apply Lv.cons) <;> (intros; clear cB cA FL FD FK)
      all_goals (unfold endsS; rw [if_neg (by rw [ho]; decide), hc, if_pos rfl])

/-- What is wrong with what a sampling port alone has. -/
def sampS (p : Port) (v : Link) : Int :=
  if p.depth ≠ 0 ∨ (p.out = true ∧ p.fresh ≠ 0) ∨ (p.out = false ∧ (p.fresh < 1 ∨ p.fresh > 1099511627776)) then 1
  else if p.size > v.smax - 47 then 11 else 0

theorem sampling_walk (p : Port) (v : Link) (σ : TS) (hs : 0 ≤ v.smax ∧ v.smax ≤ 10000) : TPure Tryz.prog 62 [portTV p, linkTV v] σ (.int .i64 (sampS p v)) := by
  cases ho : p.out with
  | true =>
    refine pure_of [] [.tmp 4] Tryz.func62 (by kernel_rfl) rfl (by kernel_rfl) fun X hR hN => ?_
    show Tw _ _ _ _ ([some _, some _] ++ List.replicate 34 none) _
    simp only [List.replicate, List.cons_append, List.nil_append]
    have FK := @ho; have FD := zdum; have FL := zdum; have cA := @between_walk; have cB := @largest_walk
    refine walk ?_
    (repeat' first | exact Lv.nil | apply Lv.cons) <;> (intros; clear cB cA FL FD FK)
    all_goals (unfold sampS; simp only [ho, true_and, Bool.true_eq_false, false_and, or_false])
    all_goals first | (rw [if_pos (by omega)]; done) | (rw [if_neg (by omega), if_pos (by omega)]; done) | (rw [if_neg (by omega), if_neg (by omega)]; done)
  | false =>
    refine pure_of [] [.tmp 4] Tryz.func62 (by kernel_rfl) rfl (by kernel_rfl) fun X hR hN => ?_
    show Tw _ _ _ _ ([some _, some _] ++ List.replicate 34 none) _
    simp only [List.replicate, List.cons_append, List.nil_append]
    have FK := @ho; have FD := zdum; have FL := zdum; have cA := @between_walk; have cB := @largest_walk
    refine walk ?_
    (repeat' first | exact Lv.nil | apply Lv.cons) <;> (intros; clear cB cA FL FD FK)
    all_goals (unfold sampS; simp only [ho, true_and, Bool.false_eq_true, false_and, false_or])
    all_goals first | (rw [if_pos (by omega)]; done) | (rw [if_neg (by omega), if_pos (by omega)]; done) | (rw [if_neg (by omega), if_neg (by omega)]; done)

end Go.Proofs.YtbhhmnfjjnnkiaaGreat
