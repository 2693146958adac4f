/- The T-machine, part 16: the words by which a walk opens operations, as one simp set. -/
import Derived.Test.YtgkcackpffimmaaT15
import Derived.Attr
set_option linter.unusedVariables false
namespace Go.TM

/-- One operation, with its guard. -/
def tStep (P : Program) (wn : List Tmp) (ops : Array Oper) (m : TL) (o : Oper) (σ : TS) (K : Option TV → TS → Prop) : Prop :=
  match twanted ops m o with
  | some true => tOper P wn m o σ K
  | some false => K (some (.tup [])) σ
  | none => False

/-- One operation, what comes behind it held as a word. -/
theorem twL_step {P : Program} {wn : List Tmp} {ops : Array Oper} {Q : TL → TS → Prop} {o : Oper} {rest : List Oper} {m : TL} {σ : TS}
    (h : ∀ K : Option TV → TS → Prop, (∀ r σ', twL P wn ops Q rest (tput m o.dst r) σ' → K r σ') → tStep P wn ops m o σ K) : twL P wn ops Q (o :: rest) m σ := by
  have h1 := h (fun r σ' => twL P wn ops Q rest (tput m o.dst r) σ') fun _ _ h => h
  rw [twL]
  unfold tStep at h1
  split at h1 <;> rename_i e <;> rw [e]
  · exact h1
  · exact h1
  · exact h1.elim

attribute [go_sem ↓] bin_add bin_sub bin_mul bin_quo bin_rem bin_and bin_or bin_xor bin_andNot bin_shl bin_shr bin_eql bin_neq bin_lss bin_leq bin_gtr bin_geq
attribute [go_sem ↓] un_neg un_xor un_not str_eql str_neq
attribute [go_sem] tyield tOper tOp ev evs evParts evB constV const1 vres sres ures tput isC sound tload tcells tpart tstore tfieldAddr tfield tindexAddr
attribute [go_sem] tindex tslice tbin tconv tslcells tlen tbuiltin tlenOp tminmax tbuild tbuildSlice tfill tplaces tbox talloc tappend tsrc tright TV.one
attribute [go_sem] TV.cells TV.isInt TV.isStr teqIn teq1 TK.isAgg List.getElem?_cons_zero List.getElem?_cons_succ List.set_cons_zero List.set_cons_succ
attribute [go_sem] List.contains_cons List.contains_nil Option.bind_some Option.bind_none Option.map_some Option.getD_some Option.getD_none Bool.false_eq_true
attribute [go_sem] Bool.or_self Bool.and_self Bool.or_false Bool.or_true Bool.false_or Bool.true_or Bool.and_true Bool.true_and Bool.and_false Bool.false_and
attribute [go_sem] Bool.not_true Bool.not_false if_true if_false ite_true ite_false List.all_cons List.all_nil List.length_cons List.length_nil List.append_nil
attribute [go_sem] List.nil_append List.drop_zero List.drop_succ_cons List.take_zero List.take_succ_cons Int.reduceLT Int.reduceLE Int.reduceEq Int.reduceGT
attribute [go_sem] Int.reduceGE Nat.reduceLT Nat.reduceAdd Nat.reduceSub Nat.reduceMul Nat.reduceEqDiff decide_true decide_false and_self not_false_eq_true
attribute [go_sem] not_true_eq_false true_and and_true false_and and_false ne_eq reduceCtorEq Nat.reducePow Nat.reduceLeDiff Nat.reduceBEq rowZero_one List.reduceReplicate
attribute [go_sem] Nat.zero_add List.cons_append Nat.mul_one Int.toNat_natCast Int.natCast_nonneg Int.ofNat_lt Int.ofNat_le Nat.zero_le eq_self beq_self_eq_true
attribute [go_sem] bne_self_eq_false tStep twanted List.toList_toArray beq_true beq_false Int.reduceBEq Int.reduceBNe List.getElem?_toArray

attribute [go_sem] tmakeMap tlookup tmapUpdate tmapEntry tentryStore tdelete ttypeAssert tentries

/-- An operation without what is beside it. -/
def tO (P : Program) (wn : List Tmp) (m : TL) (dst : Option Tmp) (op : Op) (σ : TS) (K : Option TV → TS → Prop) : Prop :=
  tOper P wn m { dst := dst, op := op, type := 0, pos := "", after := #[], guard := none } σ K

theorem twL_go {P : Program} {wn : List Tmp} {ops : Array Oper} {Q : TL → TS → Prop} {dst : Option Tmp} {op : Op} {ty : TypeId} {pos : String} {after : Array Edge} {rest : List Oper} {m : TL} {σ : TS}
    (h : ∀ K : Option TV → TS → Prop, (∀ r σ', twL P wn ops Q rest (tput m dst r) σ' → K r σ') → tO P wn m dst op σ K) :
    twL P wn ops Q ({ dst := dst, op := op, type := ty, pos := pos, after := after, guard := none } :: rest) m σ := by
  have h1 := h (fun r σ' => twL P wn ops Q rest (tput m dst r) σ') fun _ _ h => h
  rw [twL]
  exact h1

theorem twL_yes {P : Program} {wn : List Tmp} {ops : Array Oper} {Q : TL → TS → Prop} {dst : Option Tmp} {op : Op} {ty : TypeId} {pos : String} {after : Array Edge} {j : Nat} {want : Bool} {rest : List Oper} {m : TL} {σ : TS}
    (hg : tyield ops m j = some (some want))
    (h : ∀ K : Option TV → TS → Prop, (∀ r σ', twL P wn ops Q rest (tput m dst r) σ' → K r σ') → tO P wn m dst op σ K) :
    twL P wn ops Q ({ dst := dst, op := op, type := ty, pos := pos, after := after, guard := some (j, want) } :: rest) m σ := by
  have h1 := h (fun r σ' => twL P wn ops Q rest (tput m dst r) σ') fun _ _ h => h
  rw [twL]
  simp only [twanted, hg, beq_self_eq_true]
  exact h1

theorem twL_no {P : Program} {wn : List Tmp} {ops : Array Oper} {Q : TL → TS → Prop} {dst : Option Tmp} {op : Op} {ty : TypeId} {pos : String} {after : Array Edge} {j : Nat} {want : Bool} {rest : List Oper} {m : TL} {σ : TS}
    (y : Option Bool) (hg : tyield ops m j = some y) (hy : (y == some want) = false)
    (h : twL P wn ops Q rest (tput m dst (some (.tup []))) σ) :
    twL P wn ops Q ({ dst := dst, op := op, type := ty, pos := pos, after := after, guard := some (j, want) } :: rest) m σ := by
  rw [twL]
  cases y with
  | none => simp only [twanted, hg]; exact h
  | some b =>
    have hb : (b == want) = false := by cases b <;> cases want <;> first | rfl | (cases hy; done)
    simp only [twanted, hg, hb]
    exact h
attribute [go_sem] tO

end Go.TM
