/- The T-machine, part 13: regions as lists, and the words by which a walk over trees goes on. -/
import Derived.Test.YtgkcackpffimmaaT12
set_option linter.unusedVariables false
namespace Go.TM

/-- A region's operations, in the order of the text, as a list. -/
def twL (P : Program) (wn : List Tmp) (ops : Array Oper) (Q : TL → TS → Prop) : List Oper → TL → TS → Prop
  | [], m, σ => Q m σ
  | o :: rest, m, σ => match twanted ops m o with
    | some true => tOper P wn m o σ fun r σ' => twL P wn ops Q rest (tput m o.dst r) σ'
    | some false => twL P wn ops Q rest (tput m o.dst (some (.tup []))) σ
    | none => False

theorem tOper_mono {P : Program} {wn : List Tmp} {m : TL} {o : Oper} {σ : TS} {K K' : Option TV → TS → Prop} (h : tOper P wn m o σ K) (hk : ∀ r σ', K r σ' → K' r σ') : tOper P wn m o σ K' := by
  unfold tOper at h ⊢
  split at h
  · split at h
    · exact h.mono fun tv σ' q => hk _ _ q
    · exact h.elim
  · split at h
    · obtain ⟨k, h1, h2⟩ := h
      exact ⟨k, h1, h2.mono fun tv σ' q => hk _ _ q⟩
    · exact h.elim
  · split at h
    · exact hk _ _ h
    · exact h.elim

theorem twOps_of_twL {P : Program} {wn : List Tmp} {ops : Array Oper} {Q : TL → TS → Prop} : ∀ (n k : Nat) (l : List Oper) (m : TL) (σ : TS), (∀ i, i < n → ops[k + i]? = l[i]?) → l.length = n → twL P wn ops Q l m σ → twOps P wn ops Q (List.range' k n) m σ
  | 0, k, l, m, σ, hl, hn, h => by
    obtain rfl := List.eq_nil_of_length_eq_zero hn
    exact h
  | n + 1, k, [], m, σ, hl, hn, h => by simp at hn
  | n + 1, k, o :: l, m, σ, hl, hn, h => by
    simp only [List.range'_succ, twOps]
    have h0 := hl 0 (by omega)
    simp only [Nat.add_zero, List.getElem?_cons_zero] at h0
    rw [h0]
    simp only [twL] at h
    have ih := fun m σ h => twOps_of_twL (P := P) (wn := wn) (ops := ops) (Q := Q) n (k + 1) l m σ (fun i hi => by
      have := hl (i + 1) (by omega)
      rw [show k + 1 + i = k + (i + 1) by omega]
      simpa using this) (by simpa using hn) h
    split at h
    · rename_i hw
      simp only [hw]
      exact tOper_mono h fun r σ' q => ih _ _ q
    · rename_i hw
      simp only [hw]
      exact ih _ _ h
    · exact h.elim

theorem tw_reg {P : Program} {wn : List Tmp} {id : Nat} {ops : Array Oper} {Q : TX → TL → TS → Prop} {m : TL} {σ : TS} (h : twL P wn ops (Q .normal) ops.toList m σ) : tw P wn (.region id ops false) Q m σ := by
  simp only [tw, Bool.false_eq_true, if_false]
  rw [List.range_eq_range']
  exact twOps_of_twL ops.size 0 ops.toList m σ (fun i hi => by simp) (by simp) h

theorem tw_seq {P : Program} {wn : List Tmp} {x y : Code} {Q : TX → TL → TS → Prop} {m : TL} {σ : TS} (h : tw P wn x (TX.then (tw P wn y Q) Q) m σ) : tw P wn (.seq x y) Q m σ := h
theorem tw_block {P : Program} {wn : List Tmp} {id : Nat} {c : Code} {Q : TX → TL → TS → Prop} {m : TL} {σ : TS} (h : tw P wn c (TX.inBlock id Q) m σ) : tw P wn (.block id c) Q m σ := h
theorem tw_cond {P : Program} {wn : List Tmp} {c : Operand} {x y : Code} {Q : TX → TL → TS → Prop} {m : TL} {σ : TS} {t : Bool} (hc : ev m c = some (.bool t)) (h1 : t = true → tw P wn x Q m σ) (h2 : t = false → tw P wn y Q m σ) : tw P wn (.cond c x y) Q m σ := by
  simp only [tw, hc]
  cases t with
  | true => exact h1 rfl
  | false => exact h2 rfl

theorem tw_mono {P : Program} {wn : List Tmp} : ∀ (c : Code) {Q Q' : TX → TL → TS → Prop} {m : TL} {σ : TS}, tw P wn c Q m σ → (∀ x m σ, Q x m σ → Q' x m σ) → tw P wn c Q' m σ := by
  have ops : ∀ {ops : Array Oper} {Q Q' : TL → TS → Prop} (l : List Nat) (m : TL) (σ : TS), twOps P wn ops Q l m σ → (∀ m σ, Q m σ → Q' m σ) → twOps P wn ops Q' l m σ := by
    intro ops Q Q' l
    induction l with
    | nil => intro m σ h hq; exact hq _ _ h
    | cons i l ih =>
      intro m σ h hq
      simp only [twOps] at h ⊢
      split at h
      · exact ih _ _ h hq
      · split at h
        · exact tOper_mono h fun r σ' q => ih _ _ q hq
        · exact ih _ _ h hq
        · exact h.elim
  intro c
  induction c with
  | skip => intro Q Q' m σ h hq; exact hq _ _ _ h
  | region id os draw =>
    intro Q Q' m σ h hq
    simp only [tw] at h ⊢
    split at h
    · rename_i hd
      rw [if_pos hd]
      exact fun t => ops _ _ _ (h t) fun m σ q => hq _ _ _ q
    · rename_i hd
      rw [if_neg hd]
      exact ops _ _ _ h fun m σ q => hq _ _ _ q
  | seq x y ihx ihy =>
    intro Q Q' m σ h hq
    simp only [tw] at h ⊢
    refine ihx h fun x m σ q => ?_
    cases x with
    | normal => exact ihy q hq
    | exit id => exact hq _ _ _ q
    | goto l => exact hq _ _ _ q
    | ret => exact hq _ _ _ q
  | cond c x y ihx ihy =>
    intro Q Q' m σ h hq
    simp only [tw] at h ⊢
    split at h
    · rename_i t hc
      split at h
      · rename_i ht; simp only [ht, if_true]; exact ihx h hq
      · rename_i ht; simp only [ht, Bool.false_eq_true, if_false]; exact ihy h hq
    · exact h.elim
  | block id c ih =>
    intro Q Q' m σ h hq
    simp only [tw] at h ⊢
    refine ih h fun x m σ q => ?_
    cases x with
    | normal => exact hq _ _ _ q
    | exit id' =>
      simp only [TX.inBlock] at q ⊢
      split at q
      · rename_i he; rw [if_pos he]; exact hq _ _ _ q
      · rename_i he; rw [if_neg he]; exact hq _ _ _ q
    | goto l => exact hq _ _ _ q
    | ret => exact hq _ _ _ q
  | loop c ih =>
    intro Q Q' m σ h hq
    simp only [tw] at h ⊢
    obtain ⟨n, h⟩ := h
    refine ⟨n, ?_⟩
    induction n generalizing m σ with
    | zero => exact h.elim
    | succ n ihn =>
      simp only [rounds] at h ⊢
      refine ih h fun x m σ q => ?_
      cases x with
      | normal => exact ihn q
      | exit id => exact hq _ _ _ q
      | goto l => exact hq _ _ _ q
      | ret => exact hq _ _ _ q
  | exit id => intro Q Q' m σ h hq; exact hq _ _ _ h
  | ret => intro Q Q' m σ h hq; exact hq _ _ _ h
  | label l => intro Q Q' m σ h hq; exact hq _ _ _ h
  | goto l => intro Q Q' m σ h hq; exact hq _ _ _ h
  | scope c ih =>
    intro Q Q' m σ h hq
    simp only [tw] at h ⊢
    refine ih h fun x m σ q => ?_
    cases x with
    | normal => exact hq _ _ _ q
    | exit id => exact hq _ _ _ q
    | goto l => exact q
    | ret => exact hq _ _ _ q
  | rangeFunc f p a b => intro Q Q' m σ h hq; exact h.elim
  | refuse w => intro Q Q' m σ h hq; exact h.elim

/-- A LOOP: what holds at each round's head, by a number that each round lowers. -/
theorem tw_loop {P : Program} {wn : List Tmp} {c : Code} {Q : TX → TL → TS → Prop} (J : Nat → TL → TS → Prop) {n : Nat} {m : TL} {σ : TS} (h0 : J n m σ)
    (round : ∀ n m σ, J n m σ → tw P wn c (TX.then (fun m' σ' => ∃ k, k < n ∧ J k m' σ') Q) m σ) : tw P wn (.loop c) Q m σ := by
  simp only [tw]
  have mono : ∀ {j k : Nat}, j ≤ k → ∀ {m σ}, rounds (tw P wn c) Q j m σ → rounds (tw P wn c) Q k m σ := by
    intro j
    induction j with
    | zero => intro k _ m σ h; exact h.elim
    | succ j ihj =>
      intro k hk m σ h
      obtain ⟨k', rfl⟩ : ∃ k', k = k' + 1 := ⟨k - 1, by omega⟩
      simp only [rounds] at h ⊢
      refine tw_mono c h fun x m σ q => ?_
      cases x with
      | normal => exact ihj (by omega) q
      | exit id => exact q
      | goto l => exact q
      | ret => exact q
  have key : ∀ n m σ, J n m σ → rounds (tw P wn c) Q (n + 1) m σ := by
    intro n
    induction n using Nat.strongRecOn with
    | _ n ih =>
      intro m σ hj
      simp only [rounds]
      refine tw_mono c (round n m σ hj) fun x m σ q => ?_
      cases x with
      | normal =>
        obtain ⟨k, hk, hj'⟩ := q
        exact mono (by omega) (ih k hk m σ hj')
      | exit id => exact q
      | goto l => exact q
      | ret => exact q
  exact ⟨n + 1, key n m σ h0⟩

/-- THE STEPS OF A WALK: what goes on behind stands behind a name. -/
theorem tw_seq_k {P : Program} {wn : List Tmp} {x y : Code} {Q : TX → TL → TS → Prop} {m : TL} {σ : TS} (h : ∀ K : TL → TS → Prop, (∀ m σ, tw P wn y Q m σ → K m σ) → tw P wn x (TX.then K Q) m σ) : tw P wn (.seq x y) Q m σ :=
  h _ fun _ _ h => h

/-- A region that goes on. -/
theorem tw_reg_seq {P : Program} {wn : List Tmp} {id : Nat} {ops : Array Oper} {y : Code} {Q : TX → TL → TS → Prop} {m : TL} {σ : TS} (h : ∀ K : TL → TS → Prop, (∀ m σ, tw P wn y Q m σ → K m σ) → twL P wn ops K ops.toList m σ) :
    tw P wn (.seq (.region id ops false) y) Q m σ :=
  tw_seq_k fun K hK => tw_reg (h K hK)

/-- A region at a way's end. -/
theorem tw_reg_end {P : Program} {wn : List Tmp} {id : Nat} {ops : Array Oper} {Q : TX → TL → TS → Prop} {m : TL} {σ : TS} (h : ∀ K : TL → TS → Prop, (∀ m σ, Q .normal m σ → K m σ) → twL P wn ops K ops.toList m σ) :
    tw P wn (.region id ops false) Q m σ :=
  tw_reg (h _ fun _ _ h => h)

theorem tw_cond_seq {P : Program} {wn : List Tmp} {c : Operand} {x y z : Code} {Q : TX → TL → TS → Prop} {m : TL} {σ : TS} {t : Bool} (hc : ev m c = some (.bool t))
    (h1 : t = true → tw P wn (.seq x z) Q m σ) (h2 : t = false → tw P wn (.seq y z) Q m σ) : tw P wn (.seq (.cond c x y) z) Q m σ :=
  tw_seq (tw_cond hc (fun h => h1 h) (fun h => h2 h))

theorem tw_seq_assoc {P : Program} {wn : List Tmp} {x y z : Code} {Q : TX → TL → TS → Prop} {m : TL} {σ : TS} (h : tw P wn (.seq x (.seq y z)) Q m σ) : tw P wn (.seq (.seq x y) z) Q m σ := by
  simp only [tw] at h ⊢
  refine tw_mono x h fun e m σ q => ?_
  cases e with
  | normal => exact q
  | exit id => exact q
  | goto l => exact q
  | ret => exact q

theorem tw_skip_seq {P : Program} {wn : List Tmp} {y : Code} {Q : TX → TL → TS → Prop} {m : TL} {σ : TS} (h : tw P wn y Q m σ) : tw P wn (.seq .skip y) Q m σ := h
theorem tw_ret_seq {P : Program} {wn : List Tmp} {y : Code} {Q : TX → TL → TS → Prop} {m : TL} {σ : TS} (h : Q .ret m σ) : tw P wn (.seq .ret y) Q m σ := h
theorem tw_exit_seq {P : Program} {wn : List Tmp} {id : Nat} {y : Code} {Q : TX → TL → TS → Prop} {m : TL} {σ : TS} (h : Q (.exit id) m σ) : tw P wn (.seq (.exit id) y) Q m σ := h

/-- A block: what goes on behind it, and behind its exits. -/
theorem tw_block_seq {P : Program} {wn : List Tmp} {id : Nat} {c y : Code} {Q : TX → TL → TS → Prop} {m : TL} {σ : TS}
    (h : ∀ K : TL → TS → Prop, (∀ m σ, tw P wn y Q m σ → K m σ) → tw P wn c (TX.inBlock id (TX.then K Q)) m σ) : tw P wn (.seq (.block id c) y) Q m σ :=
  tw_seq_k fun K hK => tw_block (h K hK)

/-- A call of a function that is known, as an operation. -/
theorem twL_call {P : Program} {wn : List Tmp} {ops : Array Oper} {Q : TL → TS → Prop} {o : Oper} {rest : List Oper} {m : TL} {σ : TS} {f : FuncId} {xs : Array Operand} {ts : Array TypeId} {vs : List TV} (hop : o.op = .call { callee := .value (.func f), args := xs, argTypes := ts }) (hg : o.guard = none)
    (hvs : evs m xs.toList = some vs) (h : TCalls P f vs σ fun tv σ' => twL P wn ops Q rest (tput m o.dst (some tv)) σ') : twL P wn ops Q (o :: rest) m σ := by
  simp only [twL, twanted, hg, tOper, hop, ev, hvs, List.nil_append, List.append_nil]
  exact h

end Go.TM
