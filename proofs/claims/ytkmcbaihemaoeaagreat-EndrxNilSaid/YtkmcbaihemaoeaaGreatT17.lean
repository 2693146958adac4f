/- The T-machine, part 13: regions as lists, and the words by which a walk over trees goes on. -/
import Derived.Test.YtkmcbaihemaoeaaGreatT12
import Derived.Attr
import Derived.Orders
set_option linter.unusedSimpArgs false
set_option linter.unusedVariables false
namespace Go.TM

/-- A region's operations, in the order of the text, as a list. -/
def twL (P : Program) (wn : List Tmp) (ops : Array Oper) (Q : TL → TS → Prop) : List Oper → TL → TS → Prop
  | [], m, σ => Q m σ
  | o :: rest, m, σ => match twanted ops m o with
    | some true => tOper P wn m o σ fun r σ' => twL P wn ops Q rest (tput m o.dst r) σ'
    | some false => twL P wn ops Q rest (tput m o.dst (some (.tup []))) σ
    | none => False

theorem tOper_mono {P : Program} {wn : List Tmp} {m : TL} {o : Oper} {σ : TS} {K K' : Option TV → TS → Prop} (h : tOper P wn m o σ K) (hk : ∀ r σ', K r σ' → K' r σ') : tOper P wn m o σ K' := by
  unfold tOper at h ⊢
  split at h
  · split at h
    · exact h.mono fun tv σ' q => hk _ _ q
    · exact TYields.mono h fun tv σ' q => hk _ _ q
    · exact h.elim
  · split at h
    · obtain ⟨k, h1, h2⟩ := h
      exact ⟨k, h1, h2.mono fun tv σ' q => hk _ _ q⟩
    · exact h.elim
  · split at h
    · exact tnext_mono h hk
    · exact h.elim
  · refine h.imp (fun h => ?_) fun ⟨s, x, st, xt, v, σ', h1, h2, h3, h4⟩ => ⟨s, x, st, xt, v, σ', h1, h2, h3, hk _ _ h4⟩
    split at h
    · exact hk _ _ h
    · exact h.elim
  · split at h
    · exact hk _ _ h
    · exact h.elim

theorem twOps_of_twL {P : Program} {wn : List Tmp} {ops : Array Oper} {Q : TL → TS → Prop} : ∀ (n k : Nat) (l : List Oper) (m : TL) (σ : TS), (∀ i, i < n → ops[k + i]? = l[i]?) → l.length = n → twL P wn ops Q l m σ → twOps P wn ops Q (List.range' k n) m σ
  | 0, k, l, m, σ, hl, hn, h => by
    obtain rfl := List.eq_nil_of_length_eq_zero hn
    exact h
  | n + 1, k, [], m, σ, hl, hn, h => by simp at hn
  | n + 1, k, o :: l, m, σ, hl, hn, h => by
    simp only [List.range'_succ, twOps]
    have h0 := hl 0 (by omega)
    simp only [Nat.add_zero, List.getElem?_cons_zero] at h0
    rw [h0]
    simp only [twL] at h
    have ih := fun m σ h => twOps_of_twL (P := P) (wn := wn) (ops := ops) (Q := Q) n (k + 1) l m σ (fun i hi => by
      have := hl (i + 1) (by omega)
      rw [show k + 1 + i = k + (i + 1) by omega]
      simpa using this) (by simpa using hn) h
    split at h
    · rename_i hw
      simp only [hw]
      exact tOper_mono h fun r σ' q => ih _ _ q
    · rename_i hw
      simp only [hw]
      exact ih _ _ h
    · exact h.elim

theorem tw_reg {P : Program} {wn : List Tmp} {id : Nat} {ops : Array Oper} {Q : TX → TL → TS → Prop} {m : TL} {σ : TS} (h : twL P wn ops (Q .normal) ops.toList m σ) : tw P wn (.region id ops false) Q m σ := by
  simp only [tw, Bool.false_eq_true, if_false]
  left
  rw [List.range_eq_range']
  exact twOps_of_twL ops.size 0 ops.toList m σ (fun i hi => by simp) (by simp) h

theorem tw_seq {P : Program} {wn : List Tmp} {x y : Code} {Q : TX → TL → TS → Prop} {m : TL} {σ : TS} (h : tw P wn x (TX.then (tw P wn y Q) Q) m σ) : tw P wn (.seq x y) Q m σ := h
theorem tw_block {P : Program} {wn : List Tmp} {id : Nat} {c : Code} {Q : TX → TL → TS → Prop} {m : TL} {σ : TS} (h : tw P wn c (TX.inBlock id Q) m σ) : tw P wn (.block id c) Q m σ := h
theorem tw_cond {P : Program} {wn : List Tmp} {c : Operand} {x y : Code} {Q : TX → TL → TS → Prop} {m : TL} {σ : TS} {t : Bool} (hc : ev m c = some (.bool t)) (h1 : t = true → tw P wn x Q m σ) (h2 : t = false → tw P wn y Q m σ) : tw P wn (.cond c x y) Q m σ := by
  simp only [tw, hc]
  cases t with
  | true => exact h1 rfl
  | false => exact h2 rfl

theorem tw_mono {P : Program} {wn : List Tmp} : ∀ (c : Code) {Q Q' : TX → TL → TS → Prop} {m : TL} {σ : TS}, tw P wn c Q m σ → (∀ x m σ, Q x m σ → Q' x m σ) → tw P wn c Q' m σ := by
  have ops : ∀ {ops : Array Oper} {Q Q' : TL → TS → Prop} (l : List Nat) (m : TL) (σ : TS), twOps P wn ops Q l m σ → (∀ m σ, Q m σ → Q' m σ) → twOps P wn ops Q' l m σ := by
    intro ops Q Q' l
    induction l with
    | nil => intro m σ h hq; exact hq _ _ h
    | cons i l ih =>
      intro m σ h hq
      simp only [twOps] at h ⊢
      split at h
      · exact ih _ _ h hq
      · split at h
        · exact tOper_mono h fun r σ' q => ih _ _ q hq
        · exact ih _ _ h hq
        · exact h.elim
  intro c
  induction c with
  | skip => intro Q Q' m σ h hq; exact hq _ _ _ h
  | region id os draw =>
    intro Q Q' m σ h hq
    simp only [tw] at h ⊢
    rcases h with h | h
    case inr => exact .inr (h.mono hq)
    left
    split at h
    · rename_i hd
      rw [if_pos hd]
      exact fun t => ops _ _ _ (h t) fun m σ q => hq _ _ _ q
    · rename_i hd
      rw [if_neg hd]
      exact ops _ _ _ h fun m σ q => hq _ _ _ q
  | seq x y ihx ihy =>
    intro Q Q' m σ h hq
    simp only [tw] at h ⊢
    refine ihx h fun x m σ q => ?_
    cases x with
    | normal => exact ihy q hq
    | exit id => exact hq _ _ _ q
    | goto l => exact hq _ _ _ q
    | ret => exact hq _ _ _ q
  | cond c x y ihx ihy =>
    intro Q Q' m σ h hq
    simp only [tw] at h ⊢
    split at h
    · rename_i t hc
      split at h
      · rename_i ht; simp only [ht, if_true]; exact ihx h hq
      · rename_i ht; simp only [ht, Bool.false_eq_true, if_false]; exact ihy h hq
    · exact h.elim
  | block id c ih =>
    intro Q Q' m σ h hq
    simp only [tw] at h ⊢
    refine ih h fun x m σ q => ?_
    cases x with
    | normal => exact hq _ _ _ q
    | exit id' =>
      simp only [TX.inBlock] at q ⊢
      split at q
      · rename_i he; rw [if_pos he]; exact hq _ _ _ q
      · rename_i he; rw [if_neg he]; exact hq _ _ _ q
    | goto l => exact hq _ _ _ q
    | ret => exact hq _ _ _ q
  | loop c ih =>
    intro Q Q' m σ h hq
    simp only [tw] at h ⊢
    obtain ⟨n, h⟩ := h
    refine ⟨n, ?_⟩
    induction n generalizing m σ with
    | zero => exact h.elim
    | succ n ihn =>
      simp only [rounds] at h ⊢
      refine ih h fun x m σ q => ?_
      cases x with
      | normal => exact ihn q
      | exit id => exact hq _ _ _ q
      | goto l => exact hq _ _ _ q
      | ret => exact hq _ _ _ q
  | exit id => intro Q Q' m σ h hq; exact hq _ _ _ h
  | ret => intro Q Q' m σ h hq; exact hq _ _ _ h
  | label l => intro Q Q' m σ h hq; exact hq _ _ _ h
  | goto l => intro Q Q' m σ h hq; exact hq _ _ _ h
  | scope c ih =>
    intro Q Q' m σ h hq
    simp only [tw] at h ⊢
    refine h.imp (fun h => ?_) fun h => h.mono hq
    refine ih h fun x m σ q => ?_
    cases x with
    | normal => exact hq _ _ _ q
    | exit id => exact hq _ _ _ q
    | goto l => exact q
    | ret => exact hq _ _ _ q
  | rangeFunc f p a b => intro Q Q' m σ h hq; exact h.mono hq
  | refuse w => intro Q Q' m σ h hq; exact h.elim

/-- A LOOP: what holds at each round's head, by a number that each round lowers. -/
theorem tw_loop {P : Program} {wn : List Tmp} {c : Code} {Q : TX → TL → TS → Prop} (J : Nat → TL → TS → Prop) {n : Nat} {m : TL} {σ : TS} (h0 : J n m σ)
    (round : ∀ n m σ, J n m σ → tw P wn c (TX.then (fun m' σ' => ∃ k, k < n ∧ J k m' σ') Q) m σ) : tw P wn (.loop c) Q m σ := by
  simp only [tw]
  have mono : ∀ {j k : Nat}, j ≤ k → ∀ {m σ}, rounds (tw P wn c) Q j m σ → rounds (tw P wn c) Q k m σ := by
    intro j
    induction j with
    | zero => intro k _ m σ h; exact h.elim
    | succ j ihj =>
      intro k hk m σ h
      obtain ⟨k', rfl⟩ : ∃ k', k = k' + 1 := ⟨k - 1, by omega⟩
      simp only [rounds] at h ⊢
      refine tw_mono c h fun x m σ q => ?_
      cases x with
      | normal => exact ihj (by omega) q
      | exit id => exact q
      | goto l => exact q
      | ret => exact q
  have key : ∀ n m σ, J n m σ → rounds (tw P wn c) Q (n + 1) m σ := by
    intro n
    induction n using Nat.strongRecOn with
    | _ n ih =>
      intro m σ hj
      simp only [rounds]
      refine tw_mono c (round n m σ hj) fun x m σ q => ?_
      cases x with
      | normal =>
        obtain ⟨k, hk, hj'⟩ := q
        exact mono (by omega) (ih k hk m σ hj')
      | exit id => exact q
      | goto l => exact q
      | ret => exact q
  exact ⟨n + 1, key n m σ h0⟩

/-- THE STEPS OF A WALK: what goes on behind stands behind a name. -/
theorem tw_seq_k {P : Program} {wn : List Tmp} {x y : Code} {Q : TX → TL → TS → Prop} {m : TL} {σ : TS} (h : ∀ K : TL → TS → Prop, (∀ m σ, tw P wn y Q m σ → K m σ) → tw P wn x (TX.then K Q) m σ) : tw P wn (.seq x y) Q m σ :=
  h _ fun _ _ h => h

/-- A region that goes on. -/
theorem tw_reg_seq {P : Program} {wn : List Tmp} {id : Nat} {ops : Array Oper} {y : Code} {Q : TX → TL → TS → Prop} {m : TL} {σ : TS} (h : ∀ K : TL → TS → Prop, (∀ m σ, tw P wn y Q m σ → K m σ) → twL P wn ops K ops.toList m σ) :
    tw P wn (.seq (.region id ops false) y) Q m σ :=
  tw_seq_k fun K hK => tw_reg (h K hK)

/-- A region at a way's end. -/
theorem tw_reg_end {P : Program} {wn : List Tmp} {id : Nat} {ops : Array Oper} {Q : TX → TL → TS → Prop} {m : TL} {σ : TS} (h : ∀ K : TL → TS → Prop, (∀ m σ, Q .normal m σ → K m σ) → twL P wn ops K ops.toList m σ) :
    tw P wn (.region id ops false) Q m σ :=
  tw_reg (h _ fun _ _ h => h)

theorem tw_cond_seq {P : Program} {wn : List Tmp} {c : Operand} {x y z : Code} {Q : TX → TL → TS → Prop} {m : TL} {σ : TS} {t : Bool} (hc : ev m c = some (.bool t))
    (h1 : t = true → tw P wn (.seq x z) Q m σ) (h2 : t = false → tw P wn (.seq y z) Q m σ) : tw P wn (.seq (.cond c x y) z) Q m σ :=
  tw_seq (tw_cond hc (fun h => h1 h) (fun h => h2 h))

theorem tw_seq_assoc {P : Program} {wn : List Tmp} {x y z : Code} {Q : TX → TL → TS → Prop} {m : TL} {σ : TS} (h : tw P wn (.seq x (.seq y z)) Q m σ) : tw P wn (.seq (.seq x y) z) Q m σ := by
  simp only [tw] at h ⊢
  refine tw_mono x h fun e m σ q => ?_
  cases e with
  | normal => exact q
  | exit id => exact q
  | goto l => exact q
  | ret => exact q

theorem tw_skip_seq {P : Program} {wn : List Tmp} {y : Code} {Q : TX → TL → TS → Prop} {m : TL} {σ : TS} (h : tw P wn y Q m σ) : tw P wn (.seq .skip y) Q m σ := h
theorem tw_ret_seq {P : Program} {wn : List Tmp} {y : Code} {Q : TX → TL → TS → Prop} {m : TL} {σ : TS} (h : Q .ret m σ) : tw P wn (.seq .ret y) Q m σ := h
theorem tw_exit_seq {P : Program} {wn : List Tmp} {id : Nat} {y : Code} {Q : TX → TL → TS → Prop} {m : TL} {σ : TS} (h : Q (.exit id) m σ) : tw P wn (.seq (.exit id) y) Q m σ := h

/-- A block: what goes on behind it, and behind its exits. -/
theorem tw_block_seq {P : Program} {wn : List Tmp} {id : Nat} {c y : Code} {Q : TX → TL → TS → Prop} {m : TL} {σ : TS}
    (h : ∀ K : TL → TS → Prop, (∀ m σ, tw P wn y Q m σ → K m σ) → tw P wn c (TX.inBlock id (TX.then K Q)) m σ) : tw P wn (.seq (.block id c) y) Q m σ :=
  tw_seq_k fun K hK => tw_block (h K hK)

/-- A call of a function that is known, as an operation. -/
theorem twL_call {P : Program} {wn : List Tmp} {ops : Array Oper} {Q : TL → TS → Prop} {o : Oper} {rest : List Oper} {m : TL} {σ : TS} {f : FuncId} {xs : Array Operand} {ts : Array TypeId} {vs : List TV} (hop : o.op = .call { callee := .value (.func f), args := xs, argTypes := ts }) (hg : o.guard = none)
    (hvs : evs m xs.toList = some vs) (h : TCalls P f vs σ fun tv σ' => twL P wn ops Q rest (tput m o.dst (some tv)) σ') : twL P wn ops Q (o :: rest) m σ := by
  simp only [twL, twanted, hg, tOper, hop, ev, hvs, List.nil_append, List.append_nil]
  exact h

end Go.TM

/- The T-machine, part 14: what the operators on numbers and texts come to. -/
set_option linter.unusedVariables false
namespace Go.TM

section
variable (t : TypeId) (k : IntKind) (a b : Int)
theorem bin_add : ofSem (binOp .add t (.int k a) (.int k b)) = some (.int k (k.wrap (a + b))) := by simp [binOp, ofSem, const1, Op.intArith]; rfl
theorem bin_sub : ofSem (binOp .sub t (.int k a) (.int k b)) = some (.int k (k.wrap (a - b))) := by simp [binOp, ofSem, const1, Op.intArith]; rfl
theorem bin_mul : ofSem (binOp .mul t (.int k a) (.int k b)) = some (.int k (k.wrap (a * b))) := by simp [binOp, ofSem, const1, Op.intArith]; rfl
theorem bin_quo : ofSem (binOp .quo t (.int k a) (.int k b)) = if b = 0 then none else some (.int k (k.wrap (a.tdiv b))) := by
  by_cases h : b = 0 <;> simp [binOp, ofSem, const1, Op.intDiv, h]
  all_goals rfl
theorem bin_rem : ofSem (binOp .rem t (.int k a) (.int k b)) = if b = 0 then none else some (.int k (a.tmod b)) := by
  by_cases h : b = 0 <;> simp [binOp, ofSem, const1, Op.intDiv, h]
  all_goals rfl
def iand (k : IntKind) (a b : Int) : Int := k.wrap (BitVec.ofInt k.bits a &&& BitVec.ofInt k.bits b).toNat
def ior (k : IntKind) (a b : Int) : Int := k.wrap (BitVec.ofInt k.bits a ||| BitVec.ofInt k.bits b).toNat
def ixor (k : IntKind) (a b : Int) : Int := k.wrap (BitVec.ofInt k.bits a ^^^ BitVec.ofInt k.bits b).toNat
def iandNot (k : IntKind) (a b : Int) : Int := k.wrap (BitVec.ofInt k.bits a &&& ~~~BitVec.ofInt k.bits b).toNat
theorem bin_and : ofSem (binOp .and t (.int k a) (.int k b)) = some (.int k (iand k a b)) := by simp [binOp, ofSem, const1, Op.intBits, iand]; rfl
theorem bin_or : ofSem (binOp .or t (.int k a) (.int k b)) = some (.int k (ior k a b)) := by simp [binOp, ofSem, const1, Op.intBits, ior]; rfl
theorem bin_xor : ofSem (binOp .xor t (.int k a) (.int k b)) = some (.int k (ixor k a b)) := by simp [binOp, ofSem, const1, Op.intBits, ixor]; rfl
theorem bin_andNot : ofSem (binOp .andNot t (.int k a) (.int k b)) = some (.int k (iandNot k a b)) := by simp [binOp, ofSem, const1, Op.intBits, iandNot]; rfl
def ishl (k : IntKind) (a b : Int) : Int := k.wrap (a * 2 ^ min b.toNat k.bits)
def ishr (k : IntKind) (a b : Int) : Int := a.fdiv (2 ^ min b.toNat k.bits)
theorem bin_shl (j : IntKind) : ofSem (binOp .shl t (.int k a) (.int j b)) = if b < 0 then none else some (.int k (ishl k a b)) := by
  by_cases h : b < 0 <;> simp [binOp, ofSem, const1, Op.shift, h, ishl]
  all_goals rfl
theorem bin_shr (j : IntKind) : ofSem (binOp .shr t (.int k a) (.int j b)) = if b < 0 then none else some (.int k (ishr k a b)) := by
  by_cases h : b < 0 <;> simp [binOp, ofSem, const1, Op.shift, h, ishr]
  all_goals rfl
theorem bin_eql : ofSem (binOp .eql t (.int k a) (.int k b)) = some (.bool (a == b)) := by simp [binOp, ofSem, const1, Op.intCmp]; rfl
theorem bin_neq : ofSem (binOp .neq t (.int k a) (.int k b)) = some (.bool (a != b)) := by simp [binOp, ofSem, const1, Op.intCmp]; rfl
theorem bin_lss : ofSem (binOp .lss t (.int k a) (.int k b)) = some (.bool (decide (a < b))) := by simp [binOp, ofSem, const1, Op.intCmp]; rfl
theorem bin_leq : ofSem (binOp .leq t (.int k a) (.int k b)) = some (.bool (decide (a ≤ b))) := by simp [binOp, ofSem, const1, Op.intCmp]; rfl
theorem bin_gtr : ofSem (binOp .gtr t (.int k a) (.int k b)) = some (.bool (decide (a > b))) := by simp [binOp, ofSem, const1, Op.intCmp]; rfl
theorem bin_geq : ofSem (binOp .geq t (.int k a) (.int k b)) = some (.bool (decide (a ≥ b))) := by simp [binOp, ofSem, const1, Op.intCmp]; rfl
theorem un_neg : tun .neg (.int k a) = some (.int k (k.wrap (0 - a))) := by simp [tun, ofSem, Op.unary, Op.intArith, const1]; rfl
theorem un_xor : tun .xor (.int k a) = some (.int k (ixor k (if k.signed then -1 else k.max) a)) := by simp [tun, ofSem, Op.unary, Op.intBits, const1, ixor]; rfl
theorem un_not (x : Bool) : tun .not (.bool x) = some (.bool (!x)) := by simp [tun, ofSem, Op.unary, const1]; rfl
end

theorem beq_str (a b : ByteArray) : (a.toList == b.toList) = decide (a = b) := by
  rw [ByteArray.toList_eq, ByteArray.toList_eq]
  obtain ⟨⟨x⟩⟩ := a
  obtain ⟨⟨y⟩⟩ := b
  rw [Bool.eq_iff_iff]
  simp

theorem str_eql (a b : ByteArray) : ofSem (Op.stringOp .eql a b) = some (.bool (decide (a = b))) := by
  rw [← beq_str]; rfl
theorem str_neq (a b : ByteArray) : ofSem (Op.stringOp .neq a b) = some (.bool (!decide (a = b))) := by
  rw [← beq_str]; rfl
theorem str_add (a b : ByteArray) : ofSem (Op.stringOp .add a b) = if ((a.size + b.size : Nat) : Int) > IntKind.i64.max then none else some (.str (a ++ b)) := by
  simp only [Op.stringOp]
  split <;> rfl

theorem wrap64_of {n : Int} (h1 : -9223372036854775808 ≤ n) (h2 : n ≤ 9223372036854775807) : IntKind.i64.wrap n = n := by
  unfold IntKind.wrap
  simp only [IntKind.bits, IntKind.signed, Bool.true_and]
  split
  · rename_i h
    simp only [ge_iff_le, decide_eq_true_eq] at h
    omega
  · rename_i h
    simp only [ge_iff_le, decide_eq_true_eq] at h
    omega

theorem wrapU8_of {n : Int} (h1 : 0 ≤ n) (h2 : n ≤ 255) : IntKind.u8.wrap n = n := by
  unfold IntKind.wrap
  simp only [IntKind.bits, IntKind.signed, Bool.false_and, Bool.false_eq_true, if_false]
  omega
theorem wrapU16_of {n : Int} (h1 : 0 ≤ n) (h2 : n ≤ 65535) : IntKind.u16.wrap n = n := by
  unfold IntKind.wrap
  simp only [IntKind.bits, IntKind.signed, Bool.false_and, Bool.false_eq_true, if_false]
  omega
theorem wrapU32_of {n : Int} (h1 : 0 ≤ n) (h2 : n ≤ 4294967295) : IntKind.u32.wrap n = n := by
  unfold IntKind.wrap
  simp only [IntKind.bits, IntKind.signed, Bool.false_and, Bool.false_eq_true, if_false]
  omega
theorem wrapU64_of {n : Int} (h1 : 0 ≤ n) (h2 : n ≤ 18446744073709551615) : IntKind.u64.wrap n = n := by
  unfold IntKind.wrap
  simp only [IntKind.bits, IntKind.signed, Bool.false_and, Bool.false_eq_true, if_false]
  omega

theorem rowZero_one (z : TV) (n : Nat) : rowZero [z] n = List.replicate n z := by
  unfold rowZero
  rw [List.eq_replicate_iff]
  refine ⟨by simp, fun b hb => ?_⟩
  rw [List.mem_map] at hb
  obtain ⟨i, _, rfl⟩ := hb
  simp [Nat.mod_one]

theorem twL_nil {P : Program} {wn : List Tmp} {ops : Array Oper} {Q : TL → TS → Prop} {m : TL} {σ : TS} : twL P wn ops Q [] m σ ↔ Q m σ := by
  rw [twL]

end Go.TM

/- The T-machine, part 15: what a law's arguments are, by their types. -/
set_option linter.unusedVariables false
namespace Go.TM

theorem cells_one {a x : TV} (h : a.cells = [x]) (hn : a.isAggV = false) : a = x := by
  cases a <;> first | (simp only [TV.cells, List.cons.injEq, and_true] at h; exact h) | cases hn

section
variable {T : Tab} {d : Nat} {t : TypeId} {i : TI} {a : TV}

theorem TyV_str (e : T t = some i) (hk : i.k = .str) (h : TyV T (d + 1) t a) : ∃ s, a = .str s ∧ s.size ≤ 9223372036854775807 := by
  obtain ⟨h1, h2⟩ := h
  simp only [Ty, e, hk] at h1
  obtain ⟨s, hs, hz⟩ := h1
  exact ⟨s, cells_one hs (by rw [h2 i e, hk]; rfl), hz⟩

theorem TyV_int {k : IntKind} (e : T t = some i) (hk : i.k = .int k) (h : TyV T (d + 1) t a) : ∃ n, a = .int k n ∧ k.min ≤ n ∧ n ≤ k.max := by
  obtain ⟨h1, h2⟩ := h
  simp only [Ty, e, hk] at h1
  obtain ⟨s, hs, hz⟩ := h1
  exact ⟨s, cells_one hs (by rw [h2 i e, hk]; rfl), hz⟩

theorem TyV_bool (e : T t = some i) (hk : i.k = .bool) (h : TyV T (d + 1) t a) : ∃ b, a = .bool b := by
  obtain ⟨h1, h2⟩ := h
  simp only [Ty, e, hk] at h1
  obtain ⟨s, hs⟩ := h1
  exact ⟨s, cells_one hs (by rw [h2 i e, hk]; rfl)⟩

theorem TyV_slice {el : TypeId} {j : TI} (e : T t = some i) (hk : i.k = .slice el) (e2 : T el = some j) (h : TyV T (d + 1) t a) :
    a = .nils ∨ ∃ len xs, a = .sl none len xs ∧ len ≤ 9223372036854775807 ∧ xs.length = len * j.size ∧ xs.all TV.one = true ∧ ∀ i, i < len → Ty T d el ((xs.drop (i * j.size)).take j.size) := by
  obtain ⟨h1, h2⟩ := h
  have hn : a.isAggV = false := by rw [h2 i e, hk]; rfl
  simp only [Ty, e, hk, e2] at h1
  rcases h1 with h1 | ⟨len, xs, h1, h3, h4, h5, h6⟩
  · exact .inl (cells_one h1 hn)
  · exact .inr ⟨len, xs, cells_one h1 hn, h3, h4, h5, h6⟩

theorem row_of {α : Type} {f : α → TV} {p : α → Prop} : ∀ (n : Nat) (xs : List TV), xs.length = n → (∀ i, i < n → ∃ x, (xs.drop i).take 1 = [f x] ∧ p x) → ∃ ls : List α, ls.length = n ∧ xs = ls.map f ∧ ∀ x ∈ ls, p x
  | 0, xs, h, _ => ⟨[], rfl, by simpa using List.eq_nil_of_length_eq_zero h, by simp⟩
  | n + 1, [], h, _ => by simp at h
  | n + 1, x :: xs, h, k => by
    obtain ⟨y, hy, hp⟩ := k 0 (by omega)
    obtain ⟨ls, h1, h2, h3⟩ := row_of n xs (by simpa using h) fun i hi => by simpa using k (i + 1) (by omega)
    simp only [List.drop_zero, List.take_succ_cons, List.take_zero, List.cons.injEq, and_true] at hy
    refine ⟨y :: ls, by simp [h1], by rw [hy, h2]; rfl, ?_⟩
    intro z hz
    rcases List.mem_cons.1 hz with rfl | hz
    · exact hp
    · exact h3 z hz

theorem TyV_strs {el : TypeId} {j : TI} (e : T t = some i) (hk : i.k = .slice el) (e2 : T el = some j) (hj : j.k = .str) (hz : j.size = 1) (h : TyV T (d + 2) t a) :
    a = .nils ∨ ∃ ls : List ByteArray, a = .sl none ls.length (ls.map .str) ∧ ls.length ≤ 9223372036854775807 ∧ ∀ s ∈ ls, s.size ≤ 9223372036854775807 := by
  rcases TyV_slice e hk e2 h with h | ⟨len, xs, rfl, h1, h2, h3, h4⟩
  · exact .inl h
  · rw [hz, Nat.mul_one] at h2
    obtain ⟨ls, q1, q2, q3⟩ := row_of (f := TV.str) (p := fun s => s.size ≤ 9223372036854775807) len xs h2 fun i hi => by
      have := h4 i hi
      simp only [Ty, e2, hj, hz, Nat.mul_one] at this
      exact this
    exact .inr ⟨ls, by rw [q1, q2], by omega, q3⟩

theorem TyV_bytes {el : TypeId} {j : TI} (e : T t = some i) (hk : i.k = .slice el) (e2 : T el = some j) (hj : j.k = .int .u8) (hz : j.size = 1) (h : TyV T (d + 2) t a) :
    a = .nils ∨ ∃ ls : List UInt8, a = .sl none ls.length (ls.map fun b => .int .u8 b.toNat) ∧ ls.length ≤ 9223372036854775807 := by
  rcases TyV_slice e hk e2 h with h | ⟨len, xs, rfl, h1, h2, h3, h4⟩
  · exact .inl h
  · rw [hz, Nat.mul_one] at h2
    obtain ⟨ls, q1, q2, q3⟩ := row_of (f := fun b : UInt8 => TV.int .u8 b.toNat) (p := fun _ => True) len xs h2 fun i hi => by
      have := h4 i hi
      simp only [Ty, e2, hj, hz, Nat.mul_one] at this
      obtain ⟨n, q, q1, q2⟩ := this
      have q3 : (0 : Int) ≤ n := q1
      have q4 : n ≤ 255 := q2
      refine ⟨UInt8.ofNat n.toNat, ?_, trivial⟩
      rw [q]
      congr 2
      rw [UInt8.toNat_ofNat']
      omega
    exact .inr ⟨ls, by rw [q1, q2], by omega⟩
theorem TyAll_cons {ts : List TypeId} {tvs : List TV} (h : TyAll T d (t :: ts) tvs) : ∃ v vs, tvs = v :: vs ∧ TyV T d t v ∧ TyAll T d ts vs := by
  cases tvs with
  | nil => exact h.elim
  | cons v vs => exact ⟨v, vs, rfl, h.1, h.2⟩
theorem TyAll_nil {tvs : List TV} (h : TyAll T d [] tvs) : tvs = [] := by
  cases tvs with
  | nil => rfl
  | cons v vs => exact h.elim
end

end Go.TM

/- The T-machine, part 16: the words by which a walk opens operations, as one simp set. -/
set_option linter.unusedVariables false
namespace Go.TM

/-- One operation, with its guard. -/
def tStep (P : Program) (wn : List Tmp) (ops : Array Oper) (m : TL) (o : Oper) (σ : TS) (K : Option TV → TS → Prop) : Prop :=
  match twanted ops m o with
  | some true => tOper P wn m o σ K
  | some false => K (some (.tup [])) σ
  | none => False

/-- One operation, what comes behind it held as a word. -/
theorem twL_step {P : Program} {wn : List Tmp} {ops : Array Oper} {Q : TL → TS → Prop} {o : Oper} {rest : List Oper} {m : TL} {σ : TS}
    (h : ∀ K : Option TV → TS → Prop, (∀ r σ', twL P wn ops Q rest (tput m o.dst r) σ' → K r σ') → tStep P wn ops m o σ K) : twL P wn ops Q (o :: rest) m σ := by
  have h1 := h (fun r σ' => twL P wn ops Q rest (tput m o.dst r) σ') fun _ _ h => h
  rw [twL]
  unfold tStep at h1
  split at h1 <;> rename_i e <;> (try rw [e])
  · exact h1
  · exact h1
  · exact h1.elim

attribute [go_sem ↓] bin_add bin_sub bin_mul bin_quo bin_rem bin_and bin_or bin_xor bin_andNot bin_shl bin_shr bin_eql bin_neq bin_lss bin_leq bin_gtr bin_geq
attribute [go_sem ↓] un_neg un_xor un_not str_eql str_neq
attribute [go_sem] tyield tOper tOp ev evs evParts evB constV const1 vres sres ures tput isC sound tload tcells tpart tstore tfieldAddr tfield tindexAddr
attribute [go_sem] tindex tslice tbin tconv tslcells tlen tbuiltin tlenOp tminmax tbuild tbuildSlice tfill tplaces tbox talloc tappend tsrc tright TV.one
attribute [go_sem] TV.cells TV.isInt TV.isStr teqIn teq1 TK.isAgg List.getElem?_cons_zero List.getElem?_cons_succ List.set_cons_zero List.set_cons_succ
attribute [go_sem] List.contains_cons List.contains_nil Option.bind_some Option.bind_none Option.map_some Option.getD_some Option.getD_none Bool.false_eq_true
attribute [go_sem] Bool.or_self Bool.and_self Bool.or_false Bool.or_true Bool.false_or Bool.true_or Bool.and_true Bool.true_and Bool.and_false Bool.false_and
attribute [go_sem] Bool.not_true Bool.not_false if_true if_false ite_true ite_false List.all_cons List.all_nil List.length_cons List.length_nil List.append_nil
attribute [go_sem] List.nil_append List.drop_zero List.drop_succ_cons List.take_zero List.take_succ_cons Int.reduceLT Int.reduceLE Int.reduceEq Int.reduceGT
attribute [go_sem] Int.reduceGE Nat.reduceLT Nat.reduceAdd Nat.reduceSub Nat.reduceMul Nat.reduceEqDiff decide_true decide_false and_self not_false_eq_true
attribute [go_sem] not_true_eq_false true_and and_true false_and and_false ne_eq reduceCtorEq Nat.reducePow Nat.reduceLeDiff Nat.reduceBEq rowZero_one List.reduceReplicate
attribute [go_sem] Nat.zero_add List.cons_append Nat.mul_one Int.toNat_natCast Int.natCast_nonneg Int.ofNat_lt Int.ofNat_le Nat.zero_le eq_self beq_self_eq_true
attribute [go_sem] bne_self_eq_false tStep twanted List.toList_toArray beq_true beq_false Int.reduceBEq Int.reduceBNe List.getElem?_toArray

attribute [go_sem] tmakeMap tlookup tmapUpdate tmapEntry tentryStore tdelete ttypeAssert tentries

/-- An operation without what is beside it. -/
def tO (P : Program) (wn : List Tmp) (m : TL) (dst : Option Tmp) (op : Op) (σ : TS) (K : Option TV → TS → Prop) : Prop :=
  tOper P wn m { dst := dst, op := op, type := 0, pos := "", after := #[], guard := none } σ K

theorem twL_go {P : Program} {wn : List Tmp} {ops : Array Oper} {Q : TL → TS → Prop} {dst : Option Tmp} {op : Op} {ty : TypeId} {pos : String} {after : Array Edge} {rest : List Oper} {m : TL} {σ : TS}
    (h : ∀ K : Option TV → TS → Prop, (∀ r σ', twL P wn ops Q rest (tput m dst r) σ' → K r σ') → tO P wn m dst op σ K) :
    twL P wn ops Q ({ dst := dst, op := op, type := ty, pos := pos, after := after, guard := none } :: rest) m σ := by
  have h1 := h (fun r σ' => twL P wn ops Q rest (tput m dst r) σ') fun _ _ h => h
  rw [twL]
  exact h1

theorem twL_yes {P : Program} {wn : List Tmp} {ops : Array Oper} {Q : TL → TS → Prop} {dst : Option Tmp} {op : Op} {ty : TypeId} {pos : String} {after : Array Edge} {j : Nat} {want : Bool} {rest : List Oper} {m : TL} {σ : TS}
    (hg : tyield ops m j = some (some want))
    (h : ∀ K : Option TV → TS → Prop, (∀ r σ', twL P wn ops Q rest (tput m dst r) σ' → K r σ') → tO P wn m dst op σ K) :
    twL P wn ops Q ({ dst := dst, op := op, type := ty, pos := pos, after := after, guard := some (j, want) } :: rest) m σ := by
  have h1 := h (fun r σ' => twL P wn ops Q rest (tput m dst r) σ') fun _ _ h => h
  rw [twL]
  simp only [twanted, hg, beq_self_eq_true]
  exact h1

theorem twL_no {P : Program} {wn : List Tmp} {ops : Array Oper} {Q : TL → TS → Prop} {dst : Option Tmp} {op : Op} {ty : TypeId} {pos : String} {after : Array Edge} {j : Nat} {want : Bool} {rest : List Oper} {m : TL} {σ : TS}
    (y : Option Bool) (hg : tyield ops m j = some y) (hy : (y == some want) = false)
    (h : twL P wn ops Q rest (tput m dst (some (.tup []))) σ) :
    twL P wn ops Q ({ dst := dst, op := op, type := ty, pos := pos, after := after, guard := some (j, want) } :: rest) m σ := by
  rw [twL]
  cases y with
  | none => simp only [twanted, hg]; exact h
  | some b =>
    have hb : (b == want) = false := by cases b <;> cases want <;> first | rfl | (cases hy; done)
    simp only [twanted, hg, hb]
    exact h
attribute [go_sem] tO

end Go.TM

/- The T-machine, part 17: regions whose order of evaluation the language leaves open: one order is walked; what is read ahead is held against what comes between. -/
set_option linter.unusedVariables false
set_option linter.unusedSimpArgs false
namespace Go.TM
open Go (getD_set_ne ready_mono mem_ready linearise_go_acc)

section
variable {P : Program} {wn : List Tmp} {ops : Array Oper}

/- what an operation looks at -/
theorem ev_put {m : TL} {dst : Option Tmp} {r : Option TV} {x : Operand} (h : ∀ d, dst = some d → x ≠ .tmp d) : ev (tput m dst r) x = ev m x := by
  cases dst with
  | none => rfl
  | some d =>
    cases x with
    | tmp t =>
      have hne : d ≠ t := fun e => h d rfl (e ▸ rfl)
      simp only [ev, tput, List.getElem?_set_ne hne]
    | _ => rfl

theorem evs_congr {m m' : TL} : ∀ {xs : List Operand}, (∀ x ∈ xs, ev m x = ev m' x) → evs m xs = evs m' xs
  | [], _ => rfl
  | x :: xs, h => by
    simp only [evs]
    rw [h x (by simp), evs_congr fun y hy => h y (by simp [hy])]

theorem evParts_congr {m m' : TL} : ∀ {xs : List (Nat × Operand)}, (∀ x ∈ xs, ev m x.2 = ev m' x.2) → evParts m xs = evParts m' xs
  | [], _ => rfl
  | (i, x) :: xs, h => by
    simp only [evParts]
    rw [h (i, x) (by simp), evParts_congr fun y hy => h y (by simp [hy])]

theorem evB_congr {m m' : TL} {x : Option Operand} (h : ∀ y, x = some y → ev m y = ev m' y) : evB m x = evB m' x := by
  cases x with
  | none => rfl
  | some y => simp only [evB, h y rfl]

theorem tOp_congr {T : Tab} {m m' : TL} {o : Oper} {σ : TS} (h : ∀ x ∈ o.op.operands, ev m x = ev m' x) : tOp T wn m o σ = tOp T wn m' o σ := by
  obtain ⟨dst, op, type, pos, after, guard⟩ := o
  cases op <;> simp only [Op.operands] at h <;> simp only [tOp]
  case build t ps => rw [evParts_congr (m' := m') fun x hx => h x.2 (by simp; exact ⟨x.1, by simpa using hx⟩)]
  case buildSlice t n ps => rw [evParts_congr (m' := m') fun x hx => h x.2 (by simp; exact ⟨x.1, by simpa using hx⟩)]
  case makeFunc fn first captured =>
    rw [evs_congr (m' := m') (xs := first.toList) fun x hx => h x (by simp at hx; simp [hx]), evs_congr (m' := m') (xs := captured.toList) fun x hx => h x (by simp at hx; simp [hx])]
  case pick c a b =>
    rw [h c (by simp)]
    split
    · rename_i t _
      cases t
      · simp only [Bool.false_eq_true, if_false]; rw [h b (by simp)]
      · simp only [if_true]; rw [h a (by simp)]
    · rfl
  case slice t x lo hi mx =>
    rw [h x (by simp), evB_congr (m' := m') (x := lo) fun y e => h y (by subst e; simp), evB_congr (m' := m') (x := hi) fun y e => h y (by subst e; simp), evB_congr (m' := m') (x := mx) fun y e => h y (by subst e; simp)]
  case call c =>
    obtain ⟨callee, args, ts⟩ := c
    cases callee with
    | builtin b => simp only; rw [evs_congr (m' := m') (xs := args.toList) fun x hx => h x (by simp at hx; simp [Call.operands, hx])]
    | _ => rfl
  case makeMap t r => cases r <;> rfl
  all_goals (first | rfl | (simp_all; done))

theorem tOper_congr {m m' : TL} {o : Oper} {σ : TS} {K : Option TV → TS → Prop} (h : ∀ x ∈ o.op.operands, ev m x = ev m' x) : tOper P wn m o σ K ↔ tOper P wn m' o σ K := by
  unfold tOper
  rw [tOp_congr h]
  split
  · rename_i f xs ts hop
    rw [hop] at h
    rw [h f (by simp [Op.operands, Call.operands]), evs_congr (m' := m') fun x hx => h x (by simp at hx; simp [Op.operands, Call.operands, hx])]
  · rename_i r name xs ts hop
    rw [hop] at h
    rw [h r (by simp [Op.operands, Call.operands]), evs_congr (m' := m') fun x hx => h x (by simp at hx; simp [Op.operands, Call.operands, hx])]
  · rename_i it hop
    rw [hop] at h
    rw [h it (by simp [Op.operands])]
  · rename_i xs ts hop
    rw [hop] at h
    rw [evs_congr (m' := m') fun x hx => h x (by simp at hx; simp [Op.operands, Call.operands, hx])]
  · exact Iff.rfl

theorem tyield_put {m : TL} {dst : Option Tmp} {r : Option TV} {g : Nat} (h : ∀ d, dst = some d → (ops[g]?).bind (·.dst) ≠ some d) : tyield ops (tput m dst r) g = tyield ops m g := by
  cases dst with
  | none => rfl
  | some d =>
    unfold tyield
    cases ht : (ops[g]?).bind (·.dst) with
    | none => rfl
    | some t =>
      have hne : d ≠ t := fun e => h d rfl (by rw [ht, e])
      simp only [Option.bind_some, tput, List.getElem?_set_ne hne]

theorem tStep_put {m : TL} {dst : Option Tmp} {r : Option TV} {o : Oper} {σ : TS} {K : Option TV → TS → Prop} (h : ∀ d, dst = some d → d ∉ o.looksAt ops) :
    tStep P wn ops (tput m dst r) o σ K ↔ tStep P wn ops m o σ K := by
  have hw : twanted ops (tput m dst r) o = twanted ops m o := by
    unfold twanted
    cases hg : o.guard with
    | none => rfl
    | some gw =>
      obtain ⟨g, want⟩ := gw
      simp only
      rw [tyield_put fun d hd he => h d hd (by simp [Oper.looksAt, hg, he])]
  unfold tStep
  rw [hw]
  split
  · exact tOper_congr fun x hx => ev_put fun d hd hxd => h d hd (by
      subst hxd
      exact List.mem_append_left _ (List.mem_filterMap.2 ⟨.tmp d, by simpa using hx, rfl⟩))
  · exact Iff.rfl
  · exact Iff.rfl

theorem tStep_mono {m : TL} {o : Oper} {σ : TS} {K K' : Option TV → TS → Prop} (h : tStep P wn ops m o σ K) (hk : ∀ r σ', K r σ' → K' r σ') : tStep P wn ops m o σ K' := by
  unfold tStep at h ⊢
  split at h
  · exact tOper_mono h hk
  · exact hk _ _ h
  · exact h.elim

theorem tput_comm (m : TL) {x y : Option Tmp} (v u : Option TV) (h : ∀ d, x = some d → y ≠ some d) : tput (tput m x v) y u = tput (tput m y u) x v := by
  cases x with
  | none => rfl
  | some d =>
    cases y with
    | none => rfl
    | some e =>
      have hne : d ≠ e := fun q => h d rfl (by rw [q])
      simp only [tput]
      rw [List.set_comm _ _ hne]

/- every order -/
abbrev Held := List (Nat × (TS → Prop))

def isAfter (ops : Array Oper) (j k : Nat) : Bool := match ops[j]? with
  | some o => o.after.toList.any fun e => Region.binds .any e && e.on == k
  | none => false

def keep (ops : Array Oper) (j : Nat) (pend : Held) : Held := pend.filter fun p => !isAfter ops j p.1

def stepT (P : Program) (wn : List Tmp) (ops : Array Oper) (i : Nat) (K : TL → TS → Prop) (m : TL) (σ : TS) : Prop :=
  match ops[i]? with
  | none => K m σ
  | some o => tStep P wn ops m o σ fun r σ' => K (tput m o.dst r) σ'

theorem stepT_mono {i : Nat} {m : TL} {σ : TS} {K K' : TL → TS → Prop} (h : stepT P wn ops i K m σ) (hk : ∀ m' σ', K m' σ' → K' m' σ') : stepT P wn ops i K' m σ := by
  unfold stepT at h ⊢
  split at h
  · exact hk _ _ h
  · exact tStep_mono h fun r σ' q => hk _ _ q

def anyH (P : Program) (wn : List Tmp) (ops : Array Oper) (Q : TL → TS → Prop) : Nat → Held → Array Bool → TL → TS → Prop
  | 0, pend, listed, m, σ => (∀ p ∈ pend, p.2 σ) ∧ Region.ready .any ops listed = [] ∧ Q m σ
  | fuel + 1, pend, listed, m, σ => (∀ p ∈ pend, p.2 σ) ∧ (Region.ready .any ops listed = [] → Q m σ) ∧
      ∀ i ∈ Region.ready .any ops listed, stepT P wn ops i (anyH P wn ops Q fuel (keep ops i pend) (listed.setIfInBounds i true)) m σ

variable {Q : TL → TS → Prop}

theorem anyH_sub : ∀ (fuel : Nat) {pend pend' : Held} {listed : Array Bool} {m : TL} {σ : TS}, (∀ p, p ∈ pend' → p ∈ pend ∨ ∀ τ, p.2 τ) → anyH P wn ops Q fuel pend listed m σ → anyH P wn ops Q fuel pend' listed m σ
  | 0, pend, pend', listed, m, σ, hs, h => ⟨fun p hp => (hs p hp).elim (h.1 p) (fun q => q σ), h.2⟩
  | fuel + 1, pend, pend', listed, m, σ, hs, h => ⟨fun p hp => (hs p hp).elim (h.1 p) (fun q => q σ), h.2.1, fun i hi => stepT_mono (h.2.2 i hi) fun m' σ' q =>
      anyH_sub fuel (fun p hp => by
        simp only [keep, List.mem_filter] at hp ⊢
        exact (hs p hp.1).imp (fun q => ⟨q, hp.2⟩) id) q⟩

theorem anyH_sound : ∀ (fuel t : Nat) (pend : Held) (listed : Array Bool) (m : TL) (σ : TS), anyH P wn ops Q fuel pend listed m σ →
    twOps P wn ops Q (Region.linearise.go .any ops fuel t listed []) m σ := by
  intro fuel
  induction fuel with
  | zero => intro t pend listed m σ h; simpa [Region.linearise.go, twOps] using h.2.2
  | succ fuel ih =>
    intro t pend listed m σ h
    obtain ⟨-, h₀, h₁⟩ := h
    simp only [Region.linearise.go]
    change twOps P wn ops Q (match (Region.ready .any ops listed)[t % (Region.ready .any ops listed).length]? with
      | some i => Region.linearise.go .any ops fuel (t / (Region.ready .any ops listed).length) (listed.setIfInBounds i true) [i]
      | none => [].reverse) m σ
    cases hi : (Region.ready .any ops listed)[t % (Region.ready .any ops listed).length]? with
    | none =>
      have hnil : Region.ready .any ops listed = [] := by
        cases hr : Region.ready .any ops listed with
        | nil => rfl
        | cons x xs =>
          rw [hr] at hi
          have hlt : t % (x :: xs).length < (x :: xs).length := Nat.mod_lt _ (by simp)
          simp at hi
          simp at hlt
          omega
      simpa [twOps] using h₀ hnil
    | some i =>
      simp only []
      rw [linearise_go_acc, List.reverse_singleton, List.singleton_append]
      have h2 := h₁ i (List.mem_of_getElem? hi)
      unfold stepT at h2
      simp only [twOps]
      split at h2
      · rename_i hn
        simp only [hn]
        exact ih _ _ _ _ _ h2
      · rename_i o ho
        simp only [ho]
        unfold tStep at h2
        split at h2
        · rename_i hw; simp only [hw]; exact tOper_mono h2 fun r σ' q => ih _ _ _ _ _ q
        · rename_i hw; simp only [hw]; exact ih _ _ _ _ _ h2
        · exact h2.elim

/-- An operation that only reads may be taken ahead of the others. -/
theorem anyH_take {i : Nat} {oi : Oper} {r : Option TV} (hi : ops[i]? = some oi) (H : TS → Prop) :
    ∀ (fuel : Nat) (pend : Held) (listed : Array Bool) (m : TL) (σ : TS),
      (∀ j oj, ops[j]? = some oj → j ≠ i → listed.getD j true = false → (∀ e ∈ oj.after, Region.binds .any e = true → e.on ≠ i) → oi.apart ops oj = true) →
      i ∈ Region.ready .any ops listed → (∀ τ, H τ → ∀ K : Option TV → TS → Prop, K r τ → tStep P wn ops m oi τ K) →
      anyH P wn ops Q fuel ((i, H) :: pend) (listed.setIfInBounds i true) (tput m oi.dst r) σ → anyH P wn ops Q (fuel + 1) pend listed m σ := by
  intro fuel
  induction fuel with
  | zero =>
    intro pend listed m σ _ hr hy h
    have hh := h.1 (i, H) (by simp)
    refine ⟨fun p hp => h.1 p (by simp [hp]), fun e => (by rw [e] at hr; cases hr), fun j hj => ?_⟩
    by_cases hji : j = i
    · subst hji
      unfold stepT
      simp only [hi]
      exact hy σ hh _ (anyH_sub 0 (fun p hp => .inl (by simp only [keep, List.mem_filter] at hp; simp [hp.1])) h)
    · have := ready_mono hj hji
      rw [h.2.1] at this
      cases this
  | succ fuel ih =>
    intro pend listed m σ hfree hr hy h
    have hh := h.1 (i, H) (by simp)
    refine ⟨fun p hp => h.1 p (by simp [hp]), fun e => (by rw [e] at hr; cases hr), fun j hj => ?_⟩
    by_cases hji : j = i
    · subst hji
      unfold stepT
      simp only [hi]
      exact hy σ hh _ (anyH_sub _ (fun p hp => .inl (by simp only [keep, List.mem_filter] at hp; simp [hp.1])) h)
    · have h1 := h.2.2 j (ready_mono hj hji)
      obtain ⟨hjun, oj, hoj, hall⟩ := mem_ready.1 hj
      have hnot : ∀ e ∈ oj.after, Region.binds .any e = true → e.on ≠ i := fun e he hb heq => by
        have h1 := hall e he hb
        have h0 := (mem_ready.1 hr).1
        rw [heq] at h1
        rcases Nat.lt_or_ge i listed.size with h' | h'
        · simp [h'] at h0 h1; rw [h0] at h1; cases h1
        · simp [Array.getElem?_eq_none h'] at h1
      obtain ⟨a1, a2, a3⟩ := Oper.apart_spec (hfree j oj hoj hji hjun hnot)
      have hkeep : keep ops j ((i, H) :: pend) = (i, H) :: keep ops j pend := by
        unfold keep
        rw [List.filter_cons, if_pos]
        simp only [isAfter, hoj, Bool.not_eq_true']
        rw [Bool.eq_false_iff]
        intro he
        obtain ⟨e, he, hb⟩ := List.any_eq_true.1 he
        simp only [Bool.and_eq_true, beq_iff_eq] at hb
        exact hnot e (by simpa using he) hb.1 hb.2
      rw [hkeep] at h1
      unfold stepT at h1 ⊢
      simp only [hoj] at h1 ⊢
      rw [tStep_put a1] at h1
      refine tStep_mono h1 fun r' σ' q => ?_
      have hfree' : ∀ k ok, ops[k]? = some ok → k ≠ i → (listed.setIfInBounds j true).getD k true = false →
          (∀ e ∈ ok.after, Region.binds .any e = true → e.on ≠ i) → oi.apart ops ok = true := fun k ok hk hki hun hno => by
        refine hfree k ok hk hki ?_ hno
        by_cases hjk : j = k
        · subst hjk; exact hjun
        · rw [getD_set_ne true hjk] at hun; exact hun
      refine ih _ _ _ _ hfree' (ready_mono hr (Ne.symm hji)) (fun τ ht K hK => (tStep_put a3).2 (hy τ ht K hK)) ?_
      rw [Array.setIfInBounds_comm _ _ hji, ← tput_comm m r r' a2]
      exact q

/-- Of what kind an operation is for the order: 0: it hangs on nothing but its operands; 1: it may look at the heap; 2: it may turn it. -/
def kindOf (o : Oper) : Nat := match o.op with
  | .move _ | .assign _ | .pick .. | .build .. | .nilCheck _ | .binOp .. | .unOp .. | .makeInterface .. | .makeFunc .. | .slice .. | .fieldAddr .. | .field .. | .indexAddr .. | .index .. | .extract .. | .typeAssert .. | .sliceToArrayPointer .. => 0
  | .call { callee := .builtin .len, .. } | .call { callee := .builtin .min, .. } | .call { callee := .builtin .max, .. } => 0
  | .load .. | .convert .. | .buildSlice .. | .lookup .. | .entry .. => 1
  | _ => 2

theorem vres_pure {x : Option TV} {σ σ' : TS} {r : Option TV} (e : vres x σ = some (r, σ')) : σ' = σ ∧ ∀ τ, vres x τ = some (r, τ) := by
  obtain ⟨v, rfl, rfl, rfl⟩ := vres_some e
  exact ⟨rfl, fun _ => rfl⟩

theorem tbuiltin_pure {T : Tab} {b : Builtin} {w : Bool} {ts : List TypeId} {xs : List TV} {σ σ' : TS} {r : Option TV} (hb : b = .len ∨ b = .min ∨ b = .max) (h : tbuiltin T w σ b ts xs = some (r, σ')) :
    σ' = σ ∧ ∀ τ, tbuiltin T w τ b ts xs = some (r, τ) := by
  rcases hb with rfl | rfl | rfl
  · match ts, xs, h with
    | [t], [x], h => exact vres_pure h
  · match xs, h with
    | x :: ys, h => exact vres_pure h
  · match xs, h with
    | x :: ys, h => exact vres_pure h

theorem tOp_pure {T : Tab} {m : TL} {o : Oper} {σ σ' : TS} {r : Option TV} (hk : kindOf o = 0) (h : tOp T wn m o σ = some (r, σ')) : σ' = σ ∧ ∀ τ, tOp T wn m o τ = some (r, τ) := by
  obtain ⟨dst, op, type, pos, after, guard⟩ := o
  cases op
  case call c =>
    obtain ⟨callee, args, ts⟩ := c
    cases callee with
    | builtin b =>
      have hb : b = .len ∨ b = .min ∨ b = .max := by cases b <;> first | (simp [kindOf] at hk; done) | simp
      simp only [tOp] at h ⊢
      split at h
      · exact tbuiltin_pure hb h
      · cases h
    | _ => simp [kindOf] at hk
  case nilCheck x =>
    simp only [tOp] at h ⊢
    split at h
    · split at h
      · rename_i hs
        cases h
        exact ⟨rfl, fun τ => by rw [if_pos hs]⟩
      · cases h
    · cases h
  all_goals first
    | (simp [kindOf] at hk; done)
    | (simp only [tOp] at h ⊢
       first
         | exact vres_pure h
         | (split at h <;> first | exact vres_pure h | (cases h; done) | (split at h <;> first | exact vres_pure h | (cases h; exact ⟨rfl, fun _ => rfl⟩) | (cases h; done)) | (cases h; exact ⟨rfl, fun _ => rfl⟩)))

theorem tStep_det {m : TL} {o : Oper} {σ : TS} {C : Option TV → TS → Prop} (hk : kindOf o < 2) (h : tStep P wn ops m o σ C) :
    ∃ r σ', C r σ' ∧ (∀ K : Option TV → TS → Prop, K r σ' → tStep P wn ops m o σ K) ∧ (kindOf o = 0 → σ' = σ ∧ ∀ τ, ∀ K : Option TV → TS → Prop, K r τ → tStep P wn ops m o τ K) := by
  unfold tStep at h ⊢
  split at h
  · unfold tOper at h ⊢
    split at h
    · rename_i hop; exfalso; revert hk; simp [kindOf, hop]
    · rename_i hop; exfalso; revert hk; simp [kindOf, hop]
    · rename_i hop; exfalso; revert hk; simp [kindOf, hop]
    · rename_i hop; exfalso; revert hk; simp [kindOf, hop]
    · split at h
      · rename_i r σ' e
        refine ⟨r, σ', h, fun K hK => hK, fun k0 => ?_⟩
        obtain ⟨rfl, e2⟩ := tOp_pure k0 e
        exact ⟨rfl, fun τ K hK => by rw [e2 τ]; exact hK⟩
      · exact h.elim
  · exact ⟨_, _, h, fun K hK => hK, fun _ => ⟨rfl, fun τ K hK => hK⟩⟩
  · exact h.elim

def runD (P : Program) (wn : List Tmp) (ops : Array Oper) (Q : TL → TS → Prop) : List (Nat × Oper) → Held → TL → TS → Prop
  | [], pend, m, σ => Q m σ
  | (i, o) :: ord, pend, m, σ => tStep P wn ops m o σ fun r σ' =>
      if kindOf o = 0 then runD P wn ops Q ord pend (tput m o.dst r) σ'
      else if kindOf o = 1 then σ' = σ ∧ runD P wn ops Q ord ((i, fun τ => ∀ K : Option TV → TS → Prop, K r τ → tStep P wn ops m o τ K) :: pend) (tput m o.dst r) σ'
      else (∀ p ∈ keep ops i pend, p.2 σ') ∧ runD P wn ops Q ord (keep ops i pend) (tput m o.dst r) σ'

/-- An order that may stand for all: each operation is ready at its time; those that turn the heap have no choice. -/
def okOrd (ops : Array Oper) : Array Bool → List Nat → Bool
  | listed, [] => (Region.ready .any ops listed).isEmpty
  | listed, i :: ord => (match ops[i]? with
    | some o => if kindOf o < 2 then (Region.ready .any ops listed).contains i && Region.free .any ops listed i else Region.ready .any ops listed == [i]
    | none => false) && okOrd ops (listed.setIfInBounds i true) ord

def pairs (ops : Array Oper) : List Nat → List (Nat × Oper)
  | [] => []
  | i :: ord => match ops[i]? with
    | some o => (i, o) :: pairs ops ord
    | none => []

theorem runD_any : ∀ (ord : List Nat) (pend : Held) (listed : Array Bool) (m : TL) (σ : TS), okOrd ops listed ord = true → (∀ p ∈ pend, p.2 σ) → runD P wn ops Q (pairs ops ord) pend m σ →
    anyH P wn ops Q ord.length pend listed m σ
  | [], pend, listed, m, σ, ho, hp, h => ⟨hp, by simpa [okOrd] using ho, h⟩
  | i :: ord, pend, listed, m, σ, ho, hp, h => by
    simp only [okOrd, Bool.and_eq_true] at ho
    obtain ⟨h1, h2⟩ := ho
    cases hi : ops[i]? with
    | none => simp [hi] at h1
    | some o =>
      simp only [hi] at h1
      simp only [pairs, hi, runD] at h
      by_cases k0 : kindOf o = 0
      · rw [if_pos (by omega)] at h1
        simp only [Bool.and_eq_true, List.contains_iff_mem] at h1
        simp only [k0, if_true] at h
        obtain ⟨r, σ', h3, -, h4⟩ := tStep_det (by omega) h
        obtain ⟨rfl, q1⟩ := h4 k0
        refine anyH_take hi (fun _ => True) ord.length pend listed m _ (Region.free_spec hi h1.2) h1.1 (fun τ _ K hK => q1 τ K hK) ?_
        exact anyH_sub _ (fun p hp => by
          rcases List.mem_cons.1 hp with rfl | hp
          · exact .inr fun _ => trivial
          · exact .inl hp) (runD_any ord pend _ _ _ h2 hp h3)
      · by_cases k1 : kindOf o = 1
        · rw [if_pos (by omega)] at h1
          simp only [Bool.and_eq_true, List.contains_iff_mem] at h1
          simp only [k1, if_true, Nat.succ_ne_zero, if_false] at h
          obtain ⟨r, _, ⟨rfl, q2⟩, q1, -⟩ := tStep_det (by omega) h
          refine anyH_take hi (fun τ => ∀ K : Option TV → TS → Prop, K r τ → tStep P wn ops m o τ K) ord.length pend listed m _ (Region.free_spec hi h1.2) h1.1 (fun τ ht K hK => ht K hK) ?_
          exact runD_any ord _ _ _ _ h2 (fun p hp' => by
            rcases List.mem_cons.1 hp' with rfl | hp'
            · exact q1
            · exact hp p hp') q2
        · have k2 : ¬ kindOf o < 2 := by omega
          rw [if_neg k2] at h1
          have h1 : Region.ready .any ops listed = [i] := by simpa using h1
          simp only [k0, k1, if_false] at h
          refine ⟨hp, fun e => (by rw [h1] at e; cases e), fun j hj => ?_⟩
          rw [h1] at hj
          obtain rfl : j = i := by simpa using hj
          unfold stepT
          simp only [hi]
          exact tStep_mono h fun r σ' q => runD_any ord _ _ _ _ h2 q.1 q.2

theorem tw_drawn {id : Nat} {X : TX → TL → TS → Prop} {m : TL} {σ : TS} (hm : P.follows .mixedOrders = true) (ord : List Nat) (hn : ord.length = ops.size) (ho : okOrd ops (Array.replicate ops.size false) ord = true)
    (h : runD P wn ops (X .normal) (pairs ops ord) [] m σ) : tw P wn (.region id ops true) X m σ := by
  simp only [tw, if_true]
  left
  intro t
  simp only [Region.schedule, hm, Bool.true_or, if_true]
  unfold Region.linearise
  refine anyH_sound ops.size t [] _ m σ ?_
  rw [← hn] at ho ⊢
  exact runD_any ord [] _ m σ ho (by simp) h

/- the words of the walk -/
theorem tw_draw_seq {id : Nat} {y : Code} {X : TX → TL → TS → Prop} {m : TL} {σ : TS} (hm : P.follows .mixedOrders = true) (ord : List Nat) (hn : ord.length = ops.size) (ho : okOrd ops (Array.replicate ops.size false) ord = true)
    (h : ∀ K : TL → TS → Prop, (∀ m σ, tw P wn y X m σ → K m σ) → runD P wn ops K (pairs ops ord) [] m σ) : tw P wn (.seq (.region id ops true) y) X m σ :=
  tw_seq (tw_drawn hm ord hn ho (h _ fun _ _ h => h))
theorem tw_draw_end {id : Nat} {X : TX → TL → TS → Prop} {m : TL} {σ : TS} (hm : P.follows .mixedOrders = true) (ord : List Nat) (hn : ord.length = ops.size) (ho : okOrd ops (Array.replicate ops.size false) ord = true)
    (h : ∀ K : TL → TS → Prop, (∀ m σ, X .normal m σ → K m σ) → runD P wn ops K (pairs ops ord) [] m σ) : tw P wn (.region id ops true) X m σ :=
  tw_drawn hm ord hn ho (h _ fun _ _ h => h)

theorem runD_nil {pend : Held} {m : TL} {σ : TS} : runD P wn ops Q [] pend m σ ↔ Q m σ := by
  rw [runD]

/-- An operation that looks at no heap. -/
theorem runD_0 {i : Nat} {o : Oper} {ord : List (Nat × Oper)} {pend : Held} {m : TL} {σ : TS} (hk : kindOf o = 0)
    (h : ∀ K : Option TV → TS → Prop, (∀ r σ', runD P wn ops Q ord pend (tput m o.dst r) σ' → K r σ') → tStep P wn ops m o σ K) : runD P wn ops Q ((i, o) :: ord) pend m σ := by
  rw [runD]
  simp only [hk, if_true]
  exact h _ fun _ _ h => h
/-- One that may look at it. -/
theorem runD_1 {i : Nat} {o : Oper} {ord : List (Nat × Oper)} {pend : Held} {m : TL} {σ : TS} (hk : kindOf o = 1)
    (h : ∀ K : Option TV → TS → Prop, (∀ r, runD P wn ops Q ord ((i, fun τ => ∀ K : Option TV → TS → Prop, K r τ → tStep P wn ops m o τ K) :: pend) (tput m o.dst r) σ → K r σ) → tStep P wn ops m o σ K) : runD P wn ops Q ((i, o) :: ord) pend m σ := by
  rw [runD]
  simp only [hk, if_true, Nat.succ_ne_zero, if_false]
  exact h _ fun _ h => ⟨rfl, h⟩
/-- One that may turn it. -/
theorem runD_2 {i : Nat} {o : Oper} {ord : List (Nat × Oper)} {pend : Held} {m : TL} {σ : TS} (hk : kindOf o = 2)
    (h : ∀ K : Option TV → TS → Prop, (∀ r σ', (∀ p ∈ keep ops i pend, p.2 σ') ∧ runD P wn ops Q ord (keep ops i pend) (tput m o.dst r) σ' → K r σ') → tStep P wn ops m o σ K) : runD P wn ops Q ((i, o) :: ord) pend m σ := by
  rw [runD]
  simp only [hk, show (2 : Nat) ≠ 0 by decide, show (2 : Nat) ≠ 1 by decide, if_false]
  exact h _ fun _ _ h => h
end

end Go.TM

/- bundles of rules, for short walks -/
namespace Go.TM
theorem zp : (∀ (m : TL) (d : Tmp) (v : Option TV), tput m (some d) v = m.set d v) ∧ (∀ (m : TL) (v : Option TV), tput m none v = m) ∧
    (∀ (x : Option TV) (l : TL) (b : Option TV), (x :: l).set 0 b = b :: l) ∧ (∀ (x : Option TV) (l : TL) (n : Nat) (b : Option TV), (x :: l).set (n + 1) b = x :: l.set n b) :=
  ⟨fun _ _ _ => rfl, fun _ _ => rfl, fun _ _ _ => rfl, fun _ _ _ _ => rfl⟩
theorem zl {α : Type} : (∀ l : List α, l.toArray.toList = l) ∧ (∀ a b : List α, List.append a b = a ++ b) ∧ (∀ (x : α) (a b : List α), (x :: a) ++ b = x :: (a ++ b)) ∧ (∀ a : List α, [] ++ a = a) :=
  ⟨fun _ => rfl, fun _ _ => rfl, fun _ _ _ => rfl, fun _ => rfl⟩
theorem za {α : Type} : (∀ a : List α, [] ++ a = a) ∧ (∀ a : List α, a ++ [] = a) ∧ (∀ (x : α) (a b : List α), (x :: a) ++ b = x :: (a ++ b)) :=
  ⟨fun _ => rfl, List.append_nil, fun _ _ _ => rfl⟩
theorem zc {α : Type} [BEq α] : (∀ a : α, ([] : List α).contains a = false) ∧ (∀ (a b : α) (l : List α), (a :: l).contains b = (b == a || l.contains b)) :=
  ⟨fun _ => rfl, fun _ _ _ => List.contains_cons⟩
theorem zo : (∀ b : Bool, (b || false) = b) ∧ (∀ b : Bool, (false || b) = b) ∧ (∀ b : Bool, (b || b) = b) ∧ (∀ b : Bool, (b || true) = true) ∧ (∀ b : Bool, (true || b) = true) :=
  ⟨Bool.or_false, Bool.false_or, Bool.or_self, Bool.or_true, Bool.true_or⟩
theorem zb : ((!true) = false) ∧ ((!false) = true) ∧ ((true = false) = False) ∧ ((false = true) = False) :=
  ⟨rfl, rfl, by simp, by simp⟩
theorem zg : (∀ (p : Prop) [Decidable p], (decide p = true) = p) ∧ (∀ (p : Prop) [Decidable p], (decide p = false) = ¬ p) ∧ ((!true) = false) ∧ ((!false) = true) ∧
    (∀ b : Bool, ((!b) = true) = (b = false)) ∧ (∀ b : Bool, ((!b) = false) = (b = true)) ∧ (∀ a b : Bool, ((a && b) = true) = (a = true ∧ b = true)) ∧ (∀ a b : Bool, ((a || b) = true) = (a = true ∨ b = true)) ∧
    (∀ a b : Bool, ((a || b) = false) = (a = false ∧ b = false)) ∧ (∀ a b : Bool, ((a && b) = false) = (a = false ∨ b = false)) ∧
    (∀ (p : Prop) [Decidable p], (¬ ¬ p) = p) ∧ (∀ a b : Int, (¬ a < b) = (b ≤ a)) ∧ (∀ a b : Int, (¬ a ≤ b) = (b < a)) ∧ (∀ a b : Nat, (¬ a < b) = (b ≤ a)) ∧ (∀ a b : Nat, (¬ a ≤ b) = (b < a)) :=
  ⟨fun _ _ => propext decide_eq_true_iff, fun _ _ => propext decide_eq_false_iff_not, rfl, rfl, fun b => by simp, fun b => by simp, fun a b => by simp, fun a b => by simp, fun a b => by simp, fun a b => by cases a <;> cases b <;> simp,
    fun _ _ => propext Decidable.not_not, fun _ _ => propext Int.not_lt, fun _ _ => propext Int.not_le, fun _ _ => propext Nat.not_lt, fun _ _ => propext Nat.not_le⟩
theorem zq {α : Type} [BEq α] [LawfulBEq α] : (∀ a b : α, ((a == b) = true) = (a = b)) ∧ (∀ a b : α, ((a != b) = true) = ¬ (a = b)) ∧ (∀ a b : α, ((a == b) = false) = ¬ (a = b)) ∧ (∀ a b : α, ((a != b) = false) = (a = b)) :=
  ⟨fun a b => by simp, fun a b => by simp, fun a b => by simp, fun a b => by simp⟩
theorem zi {α : Type} : (∀ a b : α, (if True then a else b) = a) ∧ (∀ a b : α, (if False then a else b) = b) := ⟨fun _ _ => rfl, fun _ _ => rfl⟩
theorem eq_id {α : Type} {a b : α} (h : a = b) : a = b := h
end Go.TM
