/- The receiving end system: a nil one. -/
import Derived.Test.YtkmcbaihemaoeaaGreatY3
import Derived.Test.YtkmcbaihemaoeaaGreatN0
import Derived.Test.YtkmcbaihemaoeaaGreatTab
set_option linter.unusedVariables false
set_option linter.unusedSimpArgs false
set_option maxRecDepth 10000
set_option maxHeartbeats 4000000
namespace Go.Proofs.YtkmcbaihemaoeaaGreat
open Go.TM
theorem awake21 (σ : TS) : TPure Tryz.prog 63 [] σ (.bool true) := TPure.any_bool rxk17 σ
abbrev msgTV (p a : Int) (s : List UInt8) : TV := .agg [.int .i64 p, .int .i64 a, .str (B s)]
theorem take21_nil (n p : Int) (s : ByteArray) (σ : TS) : TPure Tryz.prog 68 [.nilp, .int .i64 n, .int .i64 p, .str s] σ (.tup [msgTV 0 0 [], .bool false, .int .i64 2]) := by
  refine pure_of [] [.cell 8 147, .tmp 9, .tmp 10] Tryz.func68 (by kernel_rfl) rfl (by kernel_rfl) fun X hR hN => ?_
  show Tw _ _ _ _ ([some _, some _, some _, some _] ++ List.replicate 68 none) _
  simp only [List.replicate, List.cons_append, List.nil_append]
  have FK := zdum; have FD := zdum; have FL := zdum
  refine walk ?_
  (repeat' first | exact Lv.nil | apply Lv.cons) <;> (intros; clear FL FD FK)
theorem count21_nil (n : Int) (σ : TS) : TPure Tryz.prog 71 [.nilp, .int .i64 n] σ (.int .i64 0) := by
  refine pure_of [] [.tmp 4] Tryz.func71 (by kernel_rfl) rfl (by kernel_rfl) fun X hR hN => ?_
  show Tw _ _ _ _ ([some _, some _] ++ List.replicate 11 none) _
  simp only [List.replicate, List.cons_append, List.nil_append]
  have FK := zdum; have FD := zdum; have FL := zdum
  refine walk ?_
  (repeat' first | exact Lv.nil | apply Lv.cons) <;> (intros; clear FL FD FK)
theorem lost21_nil (n m : Int) (σ : TS) : TPure Tryz.prog 77 [.nilp, .int .i64 n, .int .i64 m] σ (.int .i64 0) := by
  refine pure_of [] [.tmp 6] Tryz.func77 (by kernel_rfl) rfl (by kernel_rfl) fun X hR hN => ?_
  show Tw _ _ _ _ ([some _, some _, some _] ++ List.replicate 35 none) _
  simp only [List.replicate, List.cons_append, List.nil_append]
  have FK := zdum; have FD := zdum; have FL := zdum
  refine walk ?_
  (repeat' first | exact Lv.nil | apply Lv.cons) <;> (intros; clear FL FD FK)
theorem through21_nil (n : Int) (σ : TS) : TPure Tryz.prog 72 [.nilp, .int .i64 n] σ (.int .i64 0) := by
  refine pure_of [] [.tmp 4] Tryz.func72 (by kernel_rfl) rfl (by kernel_rfl) fun X hR hN => ?_
  show Tw _ _ _ _ ([some _, some _] ++ List.replicate 24 none) _
  simp only [List.replicate, List.cons_append, List.nil_append]
  have FK := zdum; have FD := zdum; have FL := zdum
  refine walk ?_
  (repeat' first | exact Lv.nil | apply Lv.cons) <;> (intros; clear FL FD FK)
theorem reset21_nil (σ : TS) : TPure Tryz.prog 70 [.nilp] σ (.tup []) := by
  refine pure_of [] [] Tryz.func70 (by kernel_rfl) rfl (by kernel_rfl) fun X hR hN => ?_
  show Tw _ _ _ _ ([some _] ++ List.replicate 47 none) _
  simp only [List.replicate, List.cons_append, List.nil_append]
  have FK := zdum; have FD := zdum; have FL := zdum
  refine walk ?_
  (repeat' first | exact Lv.nil | apply Lv.cons) <;> (intros; clear FL FD FK)
theorem msg_eq (cst : Bool) : tbin (mkTab Tryz.prog) cst .eql 147 (msgTV 0 0 []) (msgTV 0 0 []) = some (.bool true) := by
  simp only [msgTV, tbin, TV.isInt, TV.isStr, Bool.and_self, Bool.or_self, Bool.false_eq_true, if_false, teqIn, tab147, tab3, tab9, if_true, tall, tpart, Nat.mul_one, List.length_cons, List.length_nil, List.drop_zero, List.drop_succ_cons, teq1, TK.isAgg, List.getElem?_cons_zero, List.getElem?_cons_succ, List.take_succ_cons, List.take_zero]
  simp [bytes_refl]
theorem nil21_walk (n m : Int) (s : List UInt8) (hs : s.length ≤ 9223372036854775807) : TPure Tryz.prog 18 [.int .i64 n, .int .i64 m, .str (B s)] [] (.bool true) := by
  refine pure_of [] [.tmp 6] Tryz.func18 (by kernel_rfl) rfl (by kernel_rfl) fun X hR hN => ?_
  show Tw _ _ _ _ ([some _, some _, some _] ++ List.replicate 55 none) _
  simp only [List.replicate, List.cons_append, List.nil_append]
  have FK := zdum; have FD := @msg_eq; have FL := @be_len; have cA := @take21_nil; have cB := @count21_nil; have cC := @lost21_nil; have cD := @through21_nil; have cE := @reset21_nil; have cF := @awake21
  refine walk ?_
  (repeat' first | exact Lv.nil | apply Lv.cons) <;> (intros; clear cF cE cD cC cB cA FL FD FK)
  all_goals trace_state
end Go.Proofs.YtkmcbaihemaoeaaGreat
