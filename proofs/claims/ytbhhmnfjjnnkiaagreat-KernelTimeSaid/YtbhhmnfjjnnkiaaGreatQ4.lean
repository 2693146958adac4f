/- The kernel's reading of its windows. -/
import Derived.Test.YtbhhmnfjjnnkiaaGreatQ1
import Derived.Test.YtbhhmnfjjnnkiaaGreatF2
set_option linter.unusedVariables false
set_option linter.unusedSimpArgs false
set_option maxRecDepth 10000
set_option maxHeartbeats 4000000
namespace Go.Proofs.YtbhhmnfjjnnkiaaGreat
open Go.TM

abbrev kerC (c : Cfg) (host : Int) (tx rx room lm : Nat) (now : Int) : List TV := cfgC c ++ [.int .i64 host, .ptr tx 0, .ptr rx 0, .ptr room 0, .map lm, .int .i64 now]
attribute [go_sem] kerC
/-- A kernel's own cells, and its modes. -/
structure KerP (σ : TS) (c : Cfg) (host : Int) (k tx rx room lm : Nat) (now : Int) (ms : List (Int × Int × Nat)) (cl : Nat) : Prop where
  hk : σ[k]? = some (.cells (kerC c host tx rx room lm now))
  hm : σ[lm]? = some (.map (mEnt kI kI ms) cl)
  own : ∀ p, (mGet ms p).isSome = true ↔ Owns c host p

/-- What Active answers. -/
def actA (c : Cfg) (host now : Int) : Int × Int × Bool :=
  if now < 0 ∨ now > 1099511627776 then (0, 0, false)
  else match actW c host (now % c.major) with
    | some w => (w.part, now - now % c.major + w.begin_ + w.long, true)
    | none => (0, 0, false)
abbrev actTV (x : Int × Int × Bool) : TV := .tup [.int .i64 x.1, .int .i64 x.2.1, .bool x.2.2]

section
variable {σ : TS} {c : Cfg} {host now' : Int} {k tx rx room lm cl : Nat} {ms : List (Int × Int × Nat)} (h : KerP σ c host k tx rx room lm now' ms cl)
include h
theorem lookM (p : Int) (ρ : TS) (ok : Bool) : tlookup (mkTab Tryz.prog) (σ ++ ρ) 39 (.map lm) (.int .i64 p) ok =
    some (if ok = true then .tup [.int .i64 ((mGet ms p).getD 0), .bool (mGet ms p).isSome] else .int .i64 ((mGet ms p).getD 0)) := by
  rw [mapLook (z := .int .i64 0) tab39 rfl tab3 rfl kI_law (by rw [get_old (lt_of_get h.hm)]; exact h.hm) ok]
  cases mGet ms p <;> cases ok <;> rfl
theorem kown_walk (p : Int) : TPure Tryz.prog 26 [.ptr k 0, .int .i64 p] σ (.bool (decide (Owns c host p))) := by
  have hk := h.hk
  have hl := lookM h p [] true
  rw [List.append_nil] at hl
  have ho : (mGet ms p).isSome = decide (Owns c host p) := by
    rw [Bool.eq_iff_iff, decide_eq_true_eq]; exact h.own p
  refine pure_of [] [.tmp 4] Tryz.func26 (by kernel_rfl) rfl (by kernel_rfl) fun X hR hN => ?_
  show Tw _ _ _ _ ([some _, some _] ++ List.replicate 15 none) _
  simp only [List.replicate, List.cons_append, List.nil_append]
  have FK := @hk; have FD := @hl; have FL := zdum
  refine walk ?_
  (repeat' first | exact Lv.nil | apply Lv.cons) <;> (intros; clear FL FD FK)
  all_goals (rw [ho])
theorem kmode_walk (p : Int) : TPure Tryz.prog 19 [.ptr k 0, .int .i64 p] σ (.int .i64 ((mGet ms p).getD 0)) := by
  have hk := h.hk
  have hl := lookM h p [] false
  rw [List.append_nil] at hl
  refine pure_of [] [.tmp 4] Tryz.func19 (by kernel_rfl) rfl (by kernel_rfl) fun X hR hN => ?_
  show Tw _ _ _ _ ([some _, some _] ++ List.replicate 11 none) _
  simp only [List.replicate, List.cons_append, List.nil_append]
  have FK := @hk; have FD := @hl; have FL := zdum
  refine walk ?_
  (repeat' first | exact Lv.nil | apply Lv.cons) <;> (intros; clear FL FD FK)
end
theorem timed_walk (now : Int) (σ : TS) : TPure Tryz.prog 25 [.int .i64 now] σ (.bool (decide (0 ≤ now ∧ now ≤ 1099511627776))) := by
  refine pure_of [] [.tmp 2] Tryz.func25 (by kernel_rfl) rfl (by kernel_rfl) fun X hR hN => ?_
  show Tw _ _ _ _ ([some _] ++ List.replicate 8 none) _
  simp only [List.replicate, List.cons_append, List.nil_append]
  have FK := zdum; have FD := zdum; have FL := zdum
  refine walk ?_
  (repeat' first | exact Lv.nil | apply Lv.cons) <;> (intros; clear FL FD FK)
  all_goals ((first | refine congrArg TV.bool (bool_eq ?_) | refine bool_eq ?_); simp only [decide_eq_true_eq, Bool.false_eq_true, false_iff, true_iff]; omega)
end Go.Proofs.YtbhhmnfjjnnkiaaGreat
