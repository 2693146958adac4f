/- What the parts of end systems are when they begin. -/
import Derived.Test.YtkmcbaihemaoeaaGreatD2
import Derived.Test.YtkmcbaihemaoeaaGreatD1
set_option linter.unusedVariables false
set_option linter.unusedSimpArgs false
set_option maxRecDepth 10000
set_option maxHeartbeats 4000000
namespace Go.Proofs.YtkmcbaihemaoeaaGreat
open Go.TM

abbrev line0C : List TV := [.nils, .int .i64 0, .int .i64 0]
theorem mux_new (σ : TS) : TDoes Tryz.prog 125 [] σ (.ptr σ.length 0) (σ ++ [.cells line0C]) := by
  refine calls_of [] [.tmp 0] Tryz.func125 (by kernel_rfl) rfl (by kernel_rfl) fun X hR hN => ?_
  show Tw _ _ _ _ ([] ++ List.replicate 3 none) _
  simp only [List.replicate, List.cons_append, List.nil_append]
  have FK := zdum; have FD := zdum; have FL := zdum
  refine walk ?_
  (repeat' first | exact Lv.nil | apply Lv.cons) <;> (intros; clear FL FD FK)
  all_goals first | exact ⟨rfl, rfl⟩ | exact ⟨rfl, trivial⟩ | exact ⟨trivial, rfl⟩ | trivial
abbrev queues0C (many depth : Int) : List TV := [.nils, .nils, .nils, .nils, .int .i64 many, .int .i64 depth, .int .i64 0, .int .i64 0]
theorem subvl_new (many depth : Int) (h1 : 1 ≤ many ∧ many ≤ 4) (h2 : 1 ≤ depth ∧ depth ≤ 1024) (σ : TS) :
    TDoes Tryz.prog 126 [.int .i64 many, .int .i64 depth] σ (.tup [.ptr σ.length 0, .int .i64 0]) (σ ++ [.cells (queues0C many depth)]) := by
  refine calls_of [] [.tmp 4, .tmp 5] Tryz.func126 (by kernel_rfl) rfl (by kernel_rfl) fun X hR hN => ?_
  show Tw _ _ _ _ ([some _, some _] ++ List.replicate 22 none) _
  simp only [List.replicate, List.cons_append, List.nil_append]
  have FK := zdum; have FD := zdum; have FL := zdum
  refine walk ?_
  (repeat' first | exact Lv.nil | apply Lv.cons) <;> (intros; clear FL FD FK)
  all_goals first | exact ⟨rfl, rfl⟩ | exact ⟨rfl, trivial⟩ | exact ⟨trivial, rfl⟩ | trivial
abbrev gate0C (bag : Int) : List TV := [.int .u64 bag, .bool false, .int .i64 0, .int .i64 0, .int .i64 0]
theorem bagmay_walk (b : Int) (σ : TS) : TPure Tryz.prog 122 [.int .i64 b] σ (.bool (decide (0 ≤ b ∧ b ≤ 7))) := by
  refine pure_of [] [.tmp 2] Tryz.func122 (by kernel_rfl) rfl (by kernel_rfl) fun X hR hN => ?_
  show Tw _ _ _ _ ([some _] ++ List.replicate 8 none) _
  simp only [List.replicate, List.cons_append, List.nil_append]
  have FK := zdum; have FD := zdum; have FL := zdum
  refine walk ?_
  (repeat' first | exact Lv.nil | apply Lv.cons) <;> (intros; clear FL FD FK)
  all_goals ((first | refine congrArg TV.bool (bool_eq ?_) | refine bool_eq ?_); simp only [decide_eq_true_eq, Bool.false_eq_true, false_iff, true_iff]; omega)
theorem bag_new (bag : Int) (h1 : 0 ≤ bag ∧ bag ≤ 7) (σ : TS) : TDoes Tryz.prog 127 [.int .i64 bag] σ (.tup [.ptr σ.length 0, .int .i64 0]) (σ ++ [.cells (gate0C bag)]) := by
  refine calls_of [] [.tmp 2, .tmp 3] Tryz.func127 (by kernel_rfl) rfl (by kernel_rfl) fun X hR hN => ?_
  show Tw _ _ _ _ ([some _] ++ List.replicate 10 none) _
  simp only [List.replicate, List.cons_append, List.nil_append]
  have FK := @wrapU64_of; have FD := zdum; have FL := zdum; have cA := @bagmay_walk
  refine walk ?_
  (repeat' first | exact Lv.nil | apply Lv.cons) <;> (intros; clear cA FL FD FK)
  all_goals first | exact ⟨rfl, rfl⟩ | exact ⟨rfl, trivial⟩ | exact ⟨trivial, rfl⟩ | trivial
abbrev judge0C : List TV := [.bool false, .int .i64 0, .int .i64 0, .bool false, .int .i64 0, .int .i64 0]
theorem integ_new (σ : TS) : TDoes Tryz.prog 164 [] σ (.ptr σ.length 0) (σ ++ [.cells judge0C]) := by
  refine calls_of [] [.tmp 0] Tryz.func164 (by kernel_rfl) rfl (by kernel_rfl) fun X hR hN => ?_
  show Tw _ _ _ _ ([] ++ List.replicate 3 none) _
  simp only [List.replicate, List.cons_append, List.nil_append]
  have FK := zdum; have FD := zdum; have FL := zdum
  refine walk ?_
  (repeat' first | exact Lv.nil | apply Lv.cons) <;> (intros; clear FL FD FK)
  all_goals first | exact ⟨rfl, rfl⟩ | exact ⟨rfl, trivial⟩ | exact ⟨trivial, rfl⟩ | trivial
abbrev filter0C (skew : Int) : List TV := [.nils, .int .i64 skew, .int .i64 0, .int .i64 0, .int .i64 0, .int .i64 0]
theorem redund_new (skew : Int) (h1 : 0 ≤ skew ∧ skew ≤ 1073741824) (σ : TS) : TDoes Tryz.prog 165 [.int .i64 skew] σ (.tup [.ptr σ.length 0, .int .i64 0]) (σ ++ [.cells (filter0C skew)]) := by
  refine calls_of [] [.tmp 2, .tmp 3] Tryz.func165 (by kernel_rfl) rfl (by kernel_rfl) fun X hR hN => ?_
  show Tw _ _ _ _ ([some _] ++ List.replicate 12 none) _
  simp only [List.replicate, List.cons_append, List.nil_append]
  have FK := zdum; have FD := zdum; have FL := zdum
  refine walk ?_
  (repeat' first | exact Lv.nil | apply Lv.cons) <;> (intros; clear FL FD FK)
  all_goals first | exact ⟨rfl, rfl⟩ | exact ⟨rfl, trivial⟩ | exact ⟨trivial, rfl⟩ | trivial
abbrev table0C (m : Nat) (most wait now : Int) : List TV := [.map m, .nils, .int .i64 most, .int .i64 wait, .int .i64 now, .int .i64 0]
theorem reasm_new (most wait : Int) (h1 : 1 ≤ most ∧ most ≤ 64) (h2 : 0 ≤ wait ∧ wait ≤ 1125899906842624) (σ : TS) :
    TDoes Tryz.prog 56 [.int .i64 most, .int .i64 wait] σ (.tup [.ptr (σ.length + 1) 0, .int .i64 0]) (σ ++ [.map [] 0, .cells (table0C σ.length most wait 0)]) := by
  refine calls_of [] [.tmp 4, .tmp 5] Tryz.func56 (by kernel_rfl) rfl (by kernel_rfl) fun X hR hN => ?_
  show Tw _ _ _ _ ([some _, some _] ++ List.replicate 23 none) _
  simp only [List.replicate, List.cons_append, List.nil_append]
  have FK := zdum; have FD := zdum; have FL := zdum
  refine walk ?_
  (repeat' first | exact Lv.nil | apply Lv.cons) <;> (intros; clear FL FD FK)
  all_goals first | exact ⟨rfl, rfl⟩ | exact ⟨rfl, trivial⟩ | exact ⟨trivial, rfl⟩ | trivial
theorem reasm_pass0 {σ : TS} {t m : Nat} {most wait now0 : Int} (ht : σ[t]? = some (.cells (table0C m most wait now0))) (now : Int) (h1 : now0 ≤ now ∧ now ≤ 1125899906842624) :
    TDoes Tryz.prog 151 [.ptr t 0, .int .i64 now] σ (.int .i64 0) (σ.set t (.cells (table0C m most wait now))) := by
  have hl := lt_of_get ht
  refine calls_of [] [.tmp 4] Tryz.func151 (by kernel_rfl) rfl (by kernel_rfl) fun X hR hN => ?_
  show Tw _ _ _ _ ([some _, some _] ++ List.replicate 57 none) _
  simp only [List.replicate, List.cons_append, List.nil_append]
  have FK := @ht; have FD := zdum; have FL := zdum
  refine walk ?_
  (repeat' first | exact Lv.nil | apply Lv.cons) <;> (intros; clear FL FD FK)
  refine T_open 1 ?_
  have FK := @ht; have FD := zdum; have FL := zdum; have eA : Eord 8 [(0, 0), (1, 0), (2, 0), (3, 1), (4, 0), (5, 0), (6, 0), (7, 0), (8, 0), (9, 0), (10, 0), (11, 1), (12, 0), (13, 0), (14, 0), (15, 1), (16, 0), (17, 1), (18, 1), (19, 0), (20, 0), (21, 1), (22, 0), (23, 0), (24, 0), (25, 0), (26, 1), (27, 0), (28, 0)] := ⟨trivial⟩
  refine walk ?_
  (repeat' first | exact Lv.nil | apply Lv.cons) <;> (intros; clear eA FL FD FK)
  all_goals first | exact ⟨rfl, rfl⟩ | exact ⟨rfl, trivial⟩ | exact ⟨trivial, rfl⟩ | trivial
theorem table_walk (now : Int) (h1 : 0 ≤ now ∧ now ≤ 1125899906842624) (σ : TS) :
    TDoes Tryz.prog 162 [.int .i64 now] σ (.tup [.ptr (σ.length + 1) 0, .int .i64 0]) (σ ++ [.map [] 0, .cells (table0C σ.length 64 1099511627776 now)]) := by
  have hp : TDoes Tryz.prog 151 [.ptr (σ.length + 1) 0, .int .i64 now] (σ ++ [.map [] 0, .cells (table0C σ.length 64 1099511627776 0)]) (.int .i64 0) (σ ++ [.map [] 0, .cells (table0C σ.length 64 1099511627776 now)]) := by
    have := reasm_pass0 (σ := σ ++ [.map [] 0, .cells (table0C σ.length 64 1099511627776 0)]) (t := σ.length + 1) (m := σ.length) (most := 64) (wait := 1099511627776) (now0 := 0) (by rw [get_app]; rfl) now h1
    rwa [set_app] at this
  refine calls_of [] [.tmp 2, .tmp 3] Tryz.func162 (by kernel_rfl) rfl (by kernel_rfl) fun X hR hN => ?_
  show Tw _ _ _ _ ([some _] ++ List.replicate 16 none) _
  simp only [List.replicate, List.cons_append, List.nil_append]
  have FK := zdum; have FD := zdum; have FL := zdum; have dA := @reasm_new; have dB := @hp
  refine walk ?_
  (repeat' first | exact Lv.nil | apply Lv.cons) <;> (intros; clear dB dA FL FD FK)
  all_goals first | exact ⟨rfl, rfl⟩ | exact ⟨rfl, trivial⟩ | exact ⟨trivial, rfl⟩ | trivial
end Go.Proofs.YtkmcbaihemaoeaaGreat
