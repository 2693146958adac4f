/- The T-machine, part 20: regions of which no operation turns the heap, in any order; heaps that grow at their end; contracts that leave the heap as it was. -/
import Derived.Test.YtgkcackpffimmaaT19
set_option linter.unusedVariables false
set_option linter.unusedSimpArgs false
namespace Go.TM

section
variable {P : Program} {wn : List Tmp} {ops : Array Oper} {Q : TL → TS → Prop}

/-- The text's order is one of those that may be taken, each operation free. -/
def okText (ops : Array Oper) : Array Bool → List Nat → Bool
  | listed, [] => (Region.ready .any ops listed).isEmpty
  | listed, i :: ord => (Region.ready .any ops listed).contains i && Region.free .any ops listed i && okText ops (listed.setIfInBounds i true) ord

/-- Operations of which each one answers one value and leaves the heap. -/
def twP (P : Program) (wn : List Tmp) (ops : Array Oper) (Q : TL → TS → Prop) : List Oper → TL → TS → Prop
  | [], m, σ => Q m σ
  | o :: rest, m, σ => ∃ r, (∀ K : Option TV → TS → Prop, K r σ → tStep P wn ops m o σ K) ∧ twP P wn ops Q rest (tput m o.dst r) σ

def twPI (P : Program) (wn : List Tmp) (ops : Array Oper) (Q : TL → TS → Prop) (σ : TS) : List Nat → TL → Prop
  | [], m => Q m σ
  | i :: rest, m => ∃ o, ops[i]? = some o ∧ ∃ r, (∀ K : Option TV → TS → Prop, K r σ → tStep P wn ops m o σ K) ∧ twPI P wn ops Q σ rest (tput m o.dst r)

theorem twPI_of {σ : TS} : ∀ (n k : Nat) (l : List Oper) (m : TL), (∀ i, i < n → ops[k + i]? = l[i]?) → l.length = n → twP P wn ops Q l m σ → twPI P wn ops Q σ (List.range' k n) m
  | 0, k, l, m, hl, hn, h => by
    obtain rfl := List.eq_nil_of_length_eq_zero hn
    exact h
  | n + 1, k, [], m, hl, hn, h => by simp at hn
  | n + 1, k, o :: l, m, hl, hn, h => by
    simp only [List.range'_succ, twPI]
    have h0 := hl 0 (by omega)
    simp only [Nat.add_zero, List.getElem?_cons_zero] at h0
    obtain ⟨r, h1, h2⟩ := h
    exact ⟨o, h0, r, h1, twPI_of n (k + 1) l _ (fun i hi => by
      have := hl (i + 1) (by omega)
      rw [show k + 1 + i = k + (i + 1) by omega]
      simpa using this) (by simpa using hn) h2⟩

theorem twPI_any {σ : TS} : ∀ (ord : List Nat) (pend : Held) (listed : Array Bool) (m : TL), okText ops listed ord = true → (∀ p ∈ pend, p.2 σ) → twPI P wn ops Q σ ord m →
    anyH P wn ops Q ord.length pend listed m σ
  | [], pend, listed, m, ho, hp, h => ⟨hp, by simpa [okText] using ho, h⟩
  | i :: ord, pend, listed, m, ho, hp, h => by
    simp only [okText, Bool.and_eq_true, List.contains_iff_mem] at ho
    obtain ⟨⟨h1, h2⟩, h3⟩ := ho
    obtain ⟨o, hi, r, h4, h5⟩ := h
    refine anyH_take hi (fun τ => τ = σ) ord.length pend listed m σ (Region.free_spec hi h2) h1 (fun τ ht K hK => by subst ht; exact h4 K hK) ?_
    exact twPI_any ord _ _ _ h3 (fun p hp' => by
      rcases List.mem_cons.1 hp' with rfl | hp'
      · rfl
      · exact hp p hp') h5

theorem tw_pure {id : Nat} {X : TX → TL → TS → Prop} {m : TL} {σ : TS} (hm : P.follows .mixedOrders = true) (ho : okText ops (Array.replicate ops.size false) (List.range' 0 ops.size) = true)
    (h : twP P wn ops (X .normal) ops.toList m σ) : tw P wn (.region id ops true) X m σ := by
  simp only [tw, if_true]
  intro t
  simp only [Region.schedule, hm, Bool.true_or, if_true]
  unfold Region.linearise
  refine anyH_sound ops.size t [] _ m σ ?_
  have h1 := twPI_of (P := P) (wn := wn) (ops := ops) (Q := X .normal) ops.size 0 ops.toList m (fun i hi => by simp) (by simp) h
  have h2 := twPI_any (List.range' 0 ops.size) [] _ m ho (by simp) h1
  simpa using h2

theorem tw_pure_seq {id : Nat} {y : Code} {X : TX → TL → TS → Prop} {m : TL} {σ : TS} (hm : P.follows .mixedOrders = true) (ho : okText ops (Array.replicate ops.size false) (List.range' 0 ops.size) = true)
    (h : ∀ K : TL → TS → Prop, (∀ m σ, tw P wn y X m σ → K m σ) → twP P wn ops K ops.toList m σ) : tw P wn (.seq (.region id ops true) y) X m σ :=
  tw_seq (tw_pure hm ho (h _ fun _ _ h => h))
theorem tw_pure_end {id : Nat} {X : TX → TL → TS → Prop} {m : TL} {σ : TS} (hm : P.follows .mixedOrders = true) (ho : okText ops (Array.replicate ops.size false) (List.range' 0 ops.size) = true)
    (h : ∀ K : TL → TS → Prop, (∀ m σ, X .normal m σ → K m σ) → twP P wn ops K ops.toList m σ) : tw P wn (.region id ops true) X m σ :=
  tw_pure hm ho (h _ fun _ _ h => h)

theorem twP_nil {m : TL} {σ : TS} : twP P wn ops Q [] m σ ↔ Q m σ := by rw [twP]

variable {dst : Option Tmp} {op : Op} {ty : TypeId} {pos : String} {after : Array Edge} {j : Nat} {want : Bool} {rest : List Oper} {m : TL} {σ : TS}

theorem twP_go {r : Option TV} (h : ∀ K : Option TV → TS → Prop, K r σ → tO P wn m dst op σ K) (h2 : twP P wn ops Q rest (tput m dst r) σ) :
    twP P wn ops Q ({ dst := dst, op := op, type := ty, pos := pos, after := after, guard := none } :: rest) m σ := by
  rw [twP]
  exact ⟨r, fun K hK => h K hK, h2⟩

theorem twP_if (b : Bool) (hg : tyield ops m j = some (some b))
    (hy : b = want → twP P wn ops Q ({ dst := dst, op := op, type := ty, pos := pos, after := after, guard := none } :: rest) m σ)
    (hn : b = (!want) → twP P wn ops Q rest (tput m dst (some (.tup []))) σ) :
    twP P wn ops Q ({ dst := dst, op := op, type := ty, pos := pos, after := after, guard := some (j, want) } :: rest) m σ := by
  rw [twP]
  by_cases h : b = want
  · subst h
    have h1 := hy rfl
    rw [twP] at h1
    obtain ⟨r, h2, h3⟩ := h1
    refine ⟨r, fun K hK => ?_, h3⟩
    have h4 := h2 K hK
    unfold tStep
    simp only [twanted, hg, beq_self_eq_true]
    exact h4
  · have h' : b = !want := by
      revert h
      cases b <;> cases want <;> intro h <;> first | rfl | exact absurd rfl h
    refine ⟨some (.tup []), fun K hK => ?_, hn h'⟩
    unfold tStep
    have hb : (b == want) = false := by rw [h']; cases want <;> rfl
    simp only [twanted, hg, hb]
    exact hK

theorem twP_un (hg : tyield ops m j = some none) (h : twP P wn ops Q rest (tput m dst (some (.tup []))) σ) :
    twP P wn ops Q ({ dst := dst, op := op, type := ty, pos := pos, after := after, guard := some (j, want) } :: rest) m σ := by
  rw [twP]
  refine ⟨some (.tup []), fun K hK => ?_, h⟩
  unfold tStep
  simp only [twanted, hg]
  exact hK
end

/- heaps that grow at their end -/
section
variable {α : Type} {σ l : List α} {k n : Nat} {x : α}
theorem get_app0 : (σ ++ l)[σ.length]? = l[0]? := by rw [List.getElem?_append_right (Nat.le_refl _), Nat.sub_self]
theorem get_app : (σ ++ l)[σ.length + k]? = l[k]? := by rw [List.getElem?_append_right (by omega)]; congr 1; omega
theorem set_app0 : (σ ++ l).set σ.length x = σ ++ l.set 0 x := by rw [List.set_append_right _ _ (Nat.le_refl _), Nat.sub_self]
theorem set_app : (σ ++ l).set (σ.length + k) x = σ ++ l.set k x := by rw [List.set_append_right _ _ (by omega)]; congr 2; omega
theorem get_old (h : n < σ.length) : (σ ++ l)[n]? = σ[n]? := List.getElem?_append_left h
theorem set_old (h : n < σ.length) : (σ ++ l).set n x = σ.set n x ++ l := List.set_append_left _ _ h
theorem get_none : ([] : List α)[k]? = none := rfl
end
attribute [go_sem ↓] get_app0 get_app set_app0 set_app get_old set_old
attribute [go_sem] List.append_assoc List.length_append List.length_set Nat.add_assoc Nat.add_zero get_none

/- contracts -/
section
variable {P : Program} {f : FuncId} {fn : Func} {c : Code} {args : List TV} {σ : TS} {v : TV}

/-- What a call ends with that leaves the heap that was as it was. -/
def Ends (σ : TS) (v : TV) (tv : TV) (s : TS) : Prop := (∃ τ, s = σ ++ τ) ∧ TV.fits 0 tv.free = true ∧ tv.free = v

/-- A body's walk with its end behind a word. -/
theorem tcalls_x {Q : TV → TS → Prop} (wn : List Tmp) (rs : List ResultVar) (hf : P.funcs[f]? = some fn) (hn : (fn.name == "runtime.NumGoroutine") = false) (hb : fn.body = some c) (hr : fn.results.toList = rs)
    (h : ∀ X : TX → TL → TS → Prop, (∀ m s, (∀ C : Option TV → Prop, (∀ tv, Q tv s → C (some tv)) → C (tresults (mkTab P) m s rs)) → X .ret m s) →
      (∀ m s, (∀ C : Option TV → Prop, (∀ tv, Q tv s → C (some tv)) → C (tresults (mkTab P) m s rs)) → X .normal m s) → tw P wn c X (tinit fn.ntmps args) σ) : TCalls P f args σ Q := by
  have key : ∀ m s, (∀ C : Option TV → Prop, (∀ tv, Q tv s → C (some tv)) → C (tresults (mkTab P) m s rs)) → match tresults (mkTab P) m s fn.results.toList with
      | some v => Q v s
      | none => False := by
    intro m s hc
    rw [hr]
    refine hc (fun o => match o with | some v => Q v s | none => False) fun tv q => q
  exact tcalls_of wn hf hn hb (h (tpost P fn Q) (fun m s hc => key m s hc) (fun m s hc => key m s hc))

theorem TPure.of (wn : List Tmp) (rs : List ResultVar) (hf : P.funcs[f]? = some fn) (hn : (fn.name == "runtime.NumGoroutine") = false) (hb : fn.body = some c) (hr : fn.results.toList = rs)
    (h : ∀ X : TX → TL → TS → Prop, (∀ m s, (∀ C : Option TV → Prop, (∀ tv, Ends σ v tv s → C (some tv)) → C (tresults (mkTab P) m s rs)) → X .ret m s) →
      (∀ m s, (∀ C : Option TV → Prop, (∀ tv, Ends σ v tv s → C (some tv)) → C (tresults (mkTab P) m s rs)) → X .normal m s) → tw P wn c X (tinit fn.ntmps args) σ) : TPure P f args σ v :=
  TCalls.pure (tcalls_x wn rs hf hn hb hr h) fun tv s q => ⟨q.1, q.2.1, q.2.2, rfl⟩

theorem tw_ret {P : Program} {wn : List Tmp} {X : TX → TL → TS → Prop} {m : TL} {σ : TS} (h : X .ret m σ) : tw P wn .ret X m σ := h
theorem tw_skip {P : Program} {wn : List Tmp} {X : TX → TL → TS → Prop} {m : TL} {σ : TS} (h : X .normal m σ) : tw P wn .skip X m σ := h
theorem tw_exit {P : Program} {wn : List Tmp} {id : Nat} {X : TX → TL → TS → Prop} {m : TL} {σ : TS} (h : X (.exit id) m σ) : tw P wn (.exit id) X m σ := h
theorem tw_for {P : Program} {wn : List Tmp} {c : Code} {Q : TX → TL → TS → Prop} (J : Nat → TL → TS → Prop) {m : TL} {σ : TS} (h0 : ∃ n, J n m σ)
    (round : ∀ n m σ, J n m σ → tw P wn c (TX.then (fun m' σ' => ∃ k, k < n ∧ J k m' σ') Q) m σ) : tw P wn (.loop c) Q m σ := by
  obtain ⟨n, h0⟩ := h0
  exact tw_loop J h0 round
theorem Ends.same {tv : TV} (h : TV.fits 0 tv.free = true) (e : tv.free = v) : Ends σ v tv σ := ⟨⟨[], (List.append_nil _).symm⟩, h, e⟩
theorem Ends.more {tv : TV} {τ : TS} (h : TV.fits 0 tv.free = true) (e : tv.free = v) : Ends σ v tv (σ ++ τ) := ⟨⟨τ, rfl⟩, h, e⟩
end

attribute [go_sem] tresults tresultL tresult1
end Go.TM

