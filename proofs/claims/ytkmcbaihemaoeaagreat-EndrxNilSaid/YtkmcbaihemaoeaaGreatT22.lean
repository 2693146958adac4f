/- The T-machine, part 19: the words of a walk that goes on by itself: guards that are split, loops that are opened, calls that are known. -/
import Derived.Test.YtkmcbaihemaoeaaGreatT17
set_option linter.unusedSimpArgs false
set_option linter.unusedVariables false
namespace Go.TM

section
variable {P : Program} {wn : List Tmp} {ops : Array Oper} {Q : TL → TS → Prop} {dst : Option Tmp} {op : Op} {ty : TypeId} {pos : String} {after : Array Edge} {j : Nat} {want : Bool} {rest : List Oper} {m : TL} {σ : TS}

/-- A guarded operation: done where its guard says so, else left out. -/
theorem twL_if (b : Bool) (hg : tyield ops m j = some (some b))
    (hy : b = want → twL P wn ops Q ({ dst := dst, op := op, type := ty, pos := pos, after := after, guard := none } :: rest) m σ)
    (hn : b = (!want) → twL P wn ops Q rest (tput m dst (some (.tup []))) σ) :
    twL P wn ops Q ({ dst := dst, op := op, type := ty, pos := pos, after := after, guard := some (j, want) } :: rest) m σ := by
  by_cases h : b = want
  · subst h
    refine twL_yes hg fun K hK => ?_
    have h1 := hy rfl
    rw [twL] at h1
    have h2 : tO P wn m dst op σ fun r σ' => twL P wn ops Q rest (tput m dst r) σ' := h1
    exact tOper_mono h2 fun r σ' q => hK r σ' q
  · have h' : b = !want := by
      revert h
      cases b <;> cases want <;> intro h <;> first | rfl | exact absurd rfl h
    refine twL_no (some b) hg ?_ (hn h')
    rw [h']
    cases want <;> rfl

theorem twL_un (hg : tyield ops m j = some none) (h : twL P wn ops Q rest (tput m dst (some (.tup []))) σ) :
    twL P wn ops Q ({ dst := dst, op := op, type := ty, pos := pos, after := after, guard := some (j, want) } :: rest) m σ :=
  twL_no none hg rfl h

end

section
variable {P : Program} {wn : List Tmp}

theorem rounds_mono {c : Code} {Q : TX → TL → TS → Prop} : ∀ {j k : Nat}, j ≤ k → ∀ {m σ}, rounds (tw P wn c) Q j m σ → rounds (tw P wn c) Q k m σ := by
  intro j
  induction j with
  | zero => intro k _ m σ h; exact h.elim
  | succ j ihj =>
    intro k hk m σ h
    obtain ⟨k', rfl⟩ : ∃ k', k = k' + 1 := ⟨k - 1, by omega⟩
    simp only [rounds] at h ⊢
    refine tw_mono c h fun x m σ q => ?_
    cases x with
    | normal => exact ihj (by omega) q
    | exit id => exact q
    | goto l => exact q
    | ret => exact q

/-- A loop's first round alone. The ends of a round that go on each tell their own number of rounds: finitely many do, so this takes a bound from without. -/
theorem tw_unroll {c : Code} {Q : TX → TL → TS → Prop} {m : TL} {σ : TS} (n : Nat) (h : tw P wn c (TX.then (fun m' σ' => rounds (tw P wn c) Q n m' σ') Q) m σ) : tw P wn (.loop c) Q m σ := by
  simp only [tw]
  exact ⟨n + 1, by simpa only [rounds] using h⟩

theorem rounds_step {c : Code} {Q : TX → TL → TS → Prop} {m : TL} {σ : TS} {n : Nat} (h : tw P wn c (TX.then (fun m' σ' => rounds (tw P wn c) Q n m' σ') Q) m σ) : rounds (tw P wn c) Q (n + 1) m σ := by
  simpa only [rounds] using h

/-- A call's contract whose answer is one value and that leaves the heap as it was. -/
def TPure (P : Program) (f : FuncId) (args : List TV) (σ : TS) (v : TV) : Prop := TCalls P f args σ fun r σ' => r = v ∧ σ' = σ

theorem TPure.go {f : FuncId} {args : List TV} {σ : TS} {v : TV} {Q : TV → TS → Prop} (h : TPure P f args σ v) (k : Q v σ) : TCalls P f args σ Q :=
  TCalls.mono h fun _ _ q => by obtain ⟨rfl, rfl⟩ := q; exact k

/-- Arguments that let rights go. -/
theorem TCalls.bare {f : FuncId} {args : List TV} {σ : TS} {Q : TV → TS → Prop} (h : TCalls P f (TV.bareL args) σ Q) : TCalls P f args σ Q :=
  ⟨h.1, fun g w va hw hv => h.2 g w va hw hv.bareL⟩

end

/-- One of a row, or a default. -/
def nth {α : Type} [Inhabited α] (xs : List α) (i : Nat) : α := xs.getD i default

theorem nth_eq {α : Type} [Inhabited α] {xs : List α} {i : Nat} (h : i < xs.length) : nth xs i = xs[i] := by
  unfold nth
  rw [List.getD_eq_getElem?_getD, List.getElem?_eq_getElem h, Option.getD_some]

theorem nth_get {α : Type} [Inhabited α] {xs : List α} {i : Nat} (h : i < xs.length) : xs[i]? = some (nth xs i) := by
  rw [nth_eq h, List.getElem?_eq_getElem h]

theorem nth_mem {α : Type} [Inhabited α] {xs : List α} {i : Nat} (h : i < xs.length) : nth xs i ∈ xs := by
  rw [nth_eq h]; exact List.getElem_mem h

theorem nth_append_left {α : Type} [Inhabited α] {xs ys : List α} {i : Nat} (h : i < xs.length) : nth (xs ++ ys) i = nth xs i := by
  rw [nth_eq h, nth_eq (by simp; omega), List.getElem_append_left h]

theorem nth_take {α : Type} [Inhabited α] {xs : List α} {i n : Nat} (h : i < n) : nth (xs.take n) i = nth xs i := by
  unfold nth
  rw [List.getD_eq_getElem?_getD, List.getD_eq_getElem?_getD, List.getElem?_take, if_pos h]

/-- A row's cells from one of its things on. -/
theorem flat_drop {α : Type} [Inhabited α] {f : α → List TV} {k : Nat} (hf : ∀ x, (f x).length = k) : ∀ {xs : List α} {i : Nat}, i < xs.length → (xs.flatMap f).drop (i * k) = f (nth xs i) ++ (xs.drop (i + 1)).flatMap f
  | x :: xs, 0, _ => by simp [nth]
  | x :: xs, i + 1, h => by
    have := flat_drop hf (xs := xs) (i := i) (by simpa using h)
    rw [List.flatMap_cons, Nat.succ_mul, Nat.add_comm, List.drop_append, List.drop_of_length_le (by rw [hf]; omega), hf, Nat.add_sub_cancel_left, this]
    simp [nth]

theorem flat_length {α : Type} {f : α → List TV} {k : Nat} (hf : ∀ x, (f x).length = k) (xs : List α) : (xs.flatMap f).length = xs.length * k := by
  induction xs with
  | nil => simp
  | cons x xs ih => rw [List.flatMap_cons, List.length_append, hf, ih, List.length_cons, Nat.succ_mul, Nat.add_comm]

theorem flat_one {α : Type} {f : α → List TV} (hf : ∀ x, (f x).all TV.one = true) (xs : List α) : (xs.flatMap f).all TV.one = true := by
  rw [List.all_eq_true]
  intro v hv
  obtain ⟨x, hx, hv⟩ := List.mem_flatMap.1 hv
  exact List.all_eq_true.1 (hf x) v hv

theorem flat_take {α : Type} {f : α → List TV} {k : Nat} (hf : ∀ x, (f x).length = k) : ∀ (xs : List α) (i : Nat), (xs.flatMap f).take (i * k) = (xs.take i).flatMap f
  | [], i => by simp
  | x :: xs, 0 => by simp
  | x :: xs, i + 1 => by
    rw [List.flatMap_cons, Nat.succ_mul, Nat.add_comm, List.take_append, List.take_of_length_le (by rw [hf]; omega), hf, Nat.add_sub_cancel_left, flat_take hf xs i]
    simp

theorem flat_skip {α : Type} {f : α → List TV} {k : Nat} (hf : ∀ x, (f x).length = k) : ∀ (xs : List α) (i : Nat), (xs.flatMap f).drop (i * k) = (xs.drop i).flatMap f
  | [], i => by simp
  | x :: xs, 0 => by simp
  | x :: xs, i + 1 => by
    rw [List.flatMap_cons, Nat.succ_mul, Nat.add_comm, List.drop_append, List.drop_of_length_le (by rw [hf]; omega), hf, Nat.add_sub_cancel_left, flat_skip hf xs i]
    simp

end Go.TM

/- The T-machine, part 20: regions of which no operation turns the heap, in any order; heaps that grow at their end; contracts that leave the heap as it was. -/
set_option linter.unusedVariables false
set_option linter.unusedSimpArgs false
namespace Go.TM

section
variable {P : Program} {wn : List Tmp} {ops : Array Oper} {Q : TL → TS → Prop}

/-- The text's order is one of those that may be taken, each operation free. -/
def okText (ops : Array Oper) : Array Bool → List Nat → Bool
  | listed, [] => (Region.ready .any ops listed).isEmpty
  | listed, i :: ord => (Region.ready .any ops listed).contains i && Region.free .any ops listed i && okText ops (listed.setIfInBounds i true) ord

/-- Operations of which each one answers one value and leaves the heap. -/
def twP (P : Program) (wn : List Tmp) (ops : Array Oper) (Q : TL → TS → Prop) : List Oper → TL → TS → Prop
  | [], m, σ => Q m σ
  | o :: rest, m, σ => ∃ r, (∀ K : Option TV → TS → Prop, K r σ → tStep P wn ops m o σ K) ∧ twP P wn ops Q rest (tput m o.dst r) σ

def twPI (P : Program) (wn : List Tmp) (ops : Array Oper) (Q : TL → TS → Prop) (σ : TS) : List Nat → TL → Prop
  | [], m => Q m σ
  | i :: rest, m => ∃ o, ops[i]? = some o ∧ ∃ r, (∀ K : Option TV → TS → Prop, K r σ → tStep P wn ops m o σ K) ∧ twPI P wn ops Q σ rest (tput m o.dst r)

theorem twPI_of {σ : TS} : ∀ (n k : Nat) (l : List Oper) (m : TL), (∀ i, i < n → ops[k + i]? = l[i]?) → l.length = n → twP P wn ops Q l m σ → twPI P wn ops Q σ (List.range' k n) m
  | 0, k, l, m, hl, hn, h => by
    obtain rfl := List.eq_nil_of_length_eq_zero hn
    exact h
  | n + 1, k, [], m, hl, hn, h => by simp at hn
  | n + 1, k, o :: l, m, hl, hn, h => by
    simp only [List.range'_succ, twPI]
    have h0 := hl 0 (by omega)
    simp only [Nat.add_zero, List.getElem?_cons_zero] at h0
    obtain ⟨r, h1, h2⟩ := h
    exact ⟨o, h0, r, h1, twPI_of n (k + 1) l _ (fun i hi => by
      have := hl (i + 1) (by omega)
      rw [show k + 1 + i = k + (i + 1) by omega]
      simpa using this) (by simpa using hn) h2⟩

theorem twPI_any {σ : TS} : ∀ (ord : List Nat) (pend : Held) (listed : Array Bool) (m : TL), okText ops listed ord = true → (∀ p ∈ pend, p.2 σ) → twPI P wn ops Q σ ord m →
    anyH P wn ops Q ord.length pend listed m σ
  | [], pend, listed, m, ho, hp, h => ⟨hp, by simpa [okText] using ho, h⟩
  | i :: ord, pend, listed, m, ho, hp, h => by
    simp only [okText, Bool.and_eq_true, List.contains_iff_mem] at ho
    obtain ⟨⟨h1, h2⟩, h3⟩ := ho
    obtain ⟨o, hi, r, h4, h5⟩ := h
    refine anyH_take hi (fun τ => τ = σ) ord.length pend listed m σ (Region.free_spec hi h2) h1 (fun τ ht K hK => by subst ht; exact h4 K hK) ?_
    exact twPI_any ord _ _ _ h3 (fun p hp' => by
      rcases List.mem_cons.1 hp' with rfl | hp'
      · rfl
      · exact hp p hp') h5

theorem tw_pure {id : Nat} {X : TX → TL → TS → Prop} {m : TL} {σ : TS} (hm : P.follows .mixedOrders = true) (ho : okText ops (Array.replicate ops.size false) (List.range' 0 ops.size) = true)
    (h : twP P wn ops (X .normal) ops.toList m σ) : tw P wn (.region id ops true) X m σ := by
  simp only [tw, if_true]
  left
  intro t
  simp only [Region.schedule, hm, Bool.true_or, if_true]
  unfold Region.linearise
  refine anyH_sound ops.size t [] _ m σ ?_
  have h1 := twPI_of (P := P) (wn := wn) (ops := ops) (Q := X .normal) ops.size 0 ops.toList m (fun i hi => by simp) (by simp) h
  have h2 := twPI_any (List.range' 0 ops.size) [] _ m ho (by simp) h1
  simpa using h2

theorem tw_pure_seq {id : Nat} {y : Code} {X : TX → TL → TS → Prop} {m : TL} {σ : TS} (hm : P.follows .mixedOrders = true) (ho : okText ops (Array.replicate ops.size false) (List.range' 0 ops.size) = true)
    (h : ∀ K : TL → TS → Prop, (∀ m σ, tw P wn y X m σ → K m σ) → twP P wn ops K ops.toList m σ) : tw P wn (.seq (.region id ops true) y) X m σ :=
  tw_seq (tw_pure hm ho (h _ fun _ _ h => h))
theorem tw_pure_end {id : Nat} {X : TX → TL → TS → Prop} {m : TL} {σ : TS} (hm : P.follows .mixedOrders = true) (ho : okText ops (Array.replicate ops.size false) (List.range' 0 ops.size) = true)
    (h : ∀ K : TL → TS → Prop, (∀ m σ, X .normal m σ → K m σ) → twP P wn ops K ops.toList m σ) : tw P wn (.region id ops true) X m σ :=
  tw_pure hm ho (h _ fun _ _ h => h)

theorem twP_nil {m : TL} {σ : TS} : twP P wn ops Q [] m σ ↔ Q m σ := by rw [twP]

variable {dst : Option Tmp} {op : Op} {ty : TypeId} {pos : String} {after : Array Edge} {j : Nat} {want : Bool} {rest : List Oper} {m : TL} {σ : TS}

theorem twP_go {r : Option TV} (h : ∀ K : Option TV → TS → Prop, K r σ → tO P wn m dst op σ K) (h2 : twP P wn ops Q rest (tput m dst r) σ) :
    twP P wn ops Q ({ dst := dst, op := op, type := ty, pos := pos, after := after, guard := none } :: rest) m σ := by
  rw [twP]
  exact ⟨r, fun K hK => h K hK, h2⟩

theorem twP_if (b : Bool) (hg : tyield ops m j = some (some b))
    (hy : b = want → twP P wn ops Q ({ dst := dst, op := op, type := ty, pos := pos, after := after, guard := none } :: rest) m σ)
    (hn : b = (!want) → twP P wn ops Q rest (tput m dst (some (.tup []))) σ) :
    twP P wn ops Q ({ dst := dst, op := op, type := ty, pos := pos, after := after, guard := some (j, want) } :: rest) m σ := by
  rw [twP]
  by_cases h : b = want
  · subst h
    have h1 := hy rfl
    rw [twP] at h1
    obtain ⟨r, h2, h3⟩ := h1
    refine ⟨r, fun K hK => ?_, h3⟩
    have h4 := h2 K hK
    unfold tStep
    simp only [twanted, hg, beq_self_eq_true]
    exact h4
  · have h' : b = !want := by
      revert h
      cases b <;> cases want <;> intro h <;> first | rfl | exact absurd rfl h
    refine ⟨some (.tup []), fun K hK => ?_, hn h'⟩
    unfold tStep
    have hb : (b == want) = false := by rw [h']; cases want <;> rfl
    simp only [twanted, hg, hb]
    exact hK

theorem twP_un (hg : tyield ops m j = some none) (h : twP P wn ops Q rest (tput m dst (some (.tup []))) σ) :
    twP P wn ops Q ({ dst := dst, op := op, type := ty, pos := pos, after := after, guard := some (j, want) } :: rest) m σ := by
  rw [twP]
  refine ⟨some (.tup []), fun K hK => ?_, h⟩
  unfold tStep
  simp only [twanted, hg]
  exact hK
end

/- heaps that grow at their end -/
section
variable {α : Type} {σ l : List α} {k n : Nat} {x : α}
theorem get_app0 : (σ ++ l)[σ.length]? = l[0]? := by rw [List.getElem?_append_right (Nat.le_refl _), Nat.sub_self]
theorem get_app : (σ ++ l)[σ.length + k]? = l[k]? := by rw [List.getElem?_append_right (by omega)]; congr 1; omega
theorem set_app0 : (σ ++ l).set σ.length x = σ ++ l.set 0 x := by rw [List.set_append_right _ _ (Nat.le_refl _), Nat.sub_self]
theorem set_app : (σ ++ l).set (σ.length + k) x = σ ++ l.set k x := by rw [List.set_append_right _ _ (by omega)]; congr 2; omega
theorem get_old (h : n < σ.length) : (σ ++ l)[n]? = σ[n]? := List.getElem?_append_left h
theorem set_old (h : n < σ.length) : (σ ++ l).set n x = σ.set n x ++ l := List.set_append_left _ _ h
theorem get_none : ([] : List α)[k]? = none := rfl
end
attribute [go_sem ↓] get_app0 get_app set_app0 set_app get_old set_old
attribute [go_sem] List.append_assoc List.length_append List.length_set Nat.add_assoc Nat.add_zero get_none

/- contracts -/
section
variable {P : Program} {f : FuncId} {fn : Func} {c : Code} {args : List TV} {σ : TS} {v : TV}

/-- What a call ends with that leaves the heap that was as it was. -/
def Ends (σ : TS) (v : TV) (tv : TV) (s : TS) : Prop := (∃ τ, s = σ ++ τ) ∧ TV.fits 0 tv.free = true ∧ tv.free = v

/-- A body's walk with its end behind a word. -/
theorem tcalls_x {Q : TV → TS → Prop} (wn : List Tmp) (rs : List ResultVar) (hf : P.funcs[f]? = some fn) (hn : (fn.name == "runtime.NumGoroutine") = false) (hb : fn.body = some c) (hr : fn.results.toList = rs)
    (h : ∀ X : TX → TL → TS → Prop, (∀ m s, (∀ C : Option TV → Prop, (∀ tv, Q tv s → C (some tv)) → C (tresults (mkTab P) m s rs)) → X .ret m s) →
      (∀ m s, (∀ C : Option TV → Prop, (∀ tv, Q tv s → C (some tv)) → C (tresults (mkTab P) m s rs)) → X .normal m s) → tw P wn c X (tinit fn.ntmps args) σ) : TCalls P f args σ Q := by
  have key : ∀ m s, (∀ C : Option TV → Prop, (∀ tv, Q tv s → C (some tv)) → C (tresults (mkTab P) m s rs)) → match tresults (mkTab P) m s fn.results.toList with
      | some v => Q v s
      | none => False := by
    intro m s hc
    rw [hr]
    refine hc (fun o => match o with | some v => Q v s | none => False) fun tv q => q
  exact tcalls_of wn hf hn hb (h (tpost P fn Q) (fun m s hc => key m s hc) (fun m s hc => key m s hc))

theorem TPure.of (wn : List Tmp) (rs : List ResultVar) (hf : P.funcs[f]? = some fn) (hn : (fn.name == "runtime.NumGoroutine") = false) (hb : fn.body = some c) (hr : fn.results.toList = rs)
    (h : ∀ X : TX → TL → TS → Prop, (∀ m s, (∀ C : Option TV → Prop, (∀ tv, Ends σ v tv s → C (some tv)) → C (tresults (mkTab P) m s rs)) → X .ret m s) →
      (∀ m s, (∀ C : Option TV → Prop, (∀ tv, Ends σ v tv s → C (some tv)) → C (tresults (mkTab P) m s rs)) → X .normal m s) → tw P wn c X (tinit fn.ntmps args) σ) : TPure P f args σ v :=
  TCalls.pure (tcalls_x wn rs hf hn hb hr h) fun tv s q => ⟨q.1, q.2.1, q.2.2, rfl⟩

theorem tw_ret {P : Program} {wn : List Tmp} {X : TX → TL → TS → Prop} {m : TL} {σ : TS} (h : X .ret m σ) : tw P wn .ret X m σ := h
theorem tw_skip {P : Program} {wn : List Tmp} {X : TX → TL → TS → Prop} {m : TL} {σ : TS} (h : X .normal m σ) : tw P wn .skip X m σ := h
theorem tw_exit {P : Program} {wn : List Tmp} {id : Nat} {X : TX → TL → TS → Prop} {m : TL} {σ : TS} (h : X (.exit id) m σ) : tw P wn (.exit id) X m σ := h
theorem tw_for {P : Program} {wn : List Tmp} {c : Code} {Q : TX → TL → TS → Prop} (J : Nat → TL → TS → Prop) {m : TL} {σ : TS} (h0 : ∃ n, J n m σ)
    (round : ∀ n m σ, J n m σ → tw P wn c (TX.then (fun m' σ' => ∃ k, k < n ∧ J k m' σ') Q) m σ) : tw P wn (.loop c) Q m σ := by
  obtain ⟨n, h0⟩ := h0
  exact tw_loop J h0 round
theorem Ends.same {tv : TV} (h : TV.fits 0 tv.free = true) (e : tv.free = v) : Ends σ v tv σ := ⟨⟨[], (List.append_nil _).symm⟩, h, e⟩
theorem Ends.more {tv : TV} {τ : TS} (h : TV.fits 0 tv.free = true) (e : tv.free = v) : Ends σ v tv (σ ++ τ) := ⟨⟨τ, rfl⟩, h, e⟩
end

attribute [go_sem] tresults tresultL tresult1
end Go.TM

/- The T-machine, part 21: slices that are read alone, as rows of data. -/
set_option linter.unusedVariables false
set_option linter.unusedSimpArgs false
namespace Go.TM

/-- A slice's data: the nil one is empty. -/
structure Row (α : Type) where
  nil : Bool
  l : List α
  ok : nil = true → l = []

instance {α : Type} : Inhabited (Row α) := ⟨⟨true, [], fun _ => rfl⟩⟩

def Row.none {α : Type} : Row α := ⟨true, [], fun _ => rfl⟩
def Row.some {α : Type} (l : List α) : Row α := ⟨false, l, fun h => by cases h⟩
/-- A row's first ones, its later ones. -/
def Row.cut {α : Type} (r : Row α) (lo hi : Nat) : Row α := ⟨r.nil, (r.l.take hi).drop lo, fun h => by rw [r.ok h]; simp⟩

def rowTV {α : Type} (f : α → List TV) (r : Row α) : TV := if r.nil then .nils else .sl none r.l.length (r.l.flatMap f)

section
variable {α : Type} {f : α → List TV} {r : Row α} {T : Tab} {t e : TypeId} {i j : TI} {k : Nat}

theorem rowTV_nil (h : r.nil = true) : rowTV f r = .nils := by unfold rowTV; rw [if_pos h]
theorem rowTV_some (h : r.nil = false) : rowTV f r = .sl none r.l.length (r.l.flatMap f) := by unfold rowTV; rw [if_neg (by rw [h]; simp)]
theorem rowTV_mk (l : List α) : rowTV f (Row.some l) = .sl none l.length (l.flatMap f) := rfl
theorem rowTV_none : rowTV f Row.none = .nils := rfl

theorem rowTV_one : (rowTV f r).one = true := by unfold rowTV; split <;> rfl
theorem rowTV_cells : (rowTV f r).cells = [rowTV f r] := by unfold rowTV; split <;> rfl
theorem rowTV_fits {n : Nat} (hf : ∀ x, TV.fitsL n (f x) = true) : TV.fits n (rowTV f r) = true := by
  unfold rowTV
  split
  · rfl
  · simp only [TV.fits, Bool.true_and]
    induction r.l with
    | nil => rfl
    | cons x xs ih =>
      rw [List.flatMap_cons]
      have happ : ∀ (a b : List TV), TV.fitsL n a = true → TV.fitsL n b = true → TV.fitsL n (a ++ b) = true := by
        intro a b ha hb
        induction a with
        | nil => exact hb
        | cons y ys ih =>
          simp only [TV.fitsL, Bool.and_eq_true, List.cons_append] at ha ⊢
          exact ⟨ha.1, ih ha.2⟩
      exact happ _ _ (hf x) ih
theorem rowTV_bare : (rowTV f r).bare = rowTV f r := by unfold rowTV; split <;> rfl
theorem rowTV_bare1 : (rowTV f r).bare1 = rowTV f r := by unfold rowTV; split <;> rfl
theorem rowTV_free : (rowTV f r).free = rowTV f r := by unfold rowTV; split <;> rfl

theorem tlen_row (hT : T t = some i) (hk : i.k = .slice e) : tlenOp T t (rowTV f r) = some (.int .i64 r.l.length) := by
  cases hn : r.nil with
  | true =>
    rw [rowTV_nil hn, r.ok hn]
    unfold tlenOp
    simp only [hT, hk]
    rfl
  | false =>
    rw [rowTV_some hn]
    unfold tlenOp
    simp only [hT, hk]

theorem tix_row [Inhabited α] (hT : T t = some i) (hk : i.k = .slice e) (hE : T e = some j) (hf : ∀ x, (f x).length = j.size) (hj : 0 < j.size) {ik : IntKind} {n : Int} (h0 : 0 ≤ n) (h1 : n < r.l.length) :
    tindexAddr T t (rowTV f r) (.int ik n) = some (.cp (f (nth r.l n.toNat) ++ (r.l.drop (n.toNat + 1)).flatMap f)) := by
  have hn : r.nil = false := by
    cases hq : r.nil with
    | false => rfl
    | true => rw [r.ok hq] at h1; simp at h1; omega
  rw [rowTV_some hn]
  have hlt : n.toNat < r.l.length := by omega
  have hcl := flat_length hf r.l
  have hmul : n.toNat * j.size < (r.l.flatMap f).length := by
    rw [hcl]; exact Nat.mul_lt_mul_of_pos_right hlt hj
  unfold tindexAddr
  simp only [hT, hk, hE]
  rw [if_pos ⟨h0, h1, hmul⟩, flat_drop hf hlt]

theorem tslice_row (hT : T t = some i) (hk : i.k = .slice e) (hE : T e = some j) (hf : ∀ x, (f x).length = j.size) {lo hi : Nat} (h0 : lo ≤ hi) (h1 : hi ≤ r.l.length) :
    tslice T t (rowTV f r) (.some lo) (.some hi) .none = some (rowTV f (r.cut lo hi)) := by
  unfold tslice
  simp only [hT, hk]
  cases hn : r.nil with
  | true =>
    have hl := r.ok hn
    rw [hl] at h1
    simp at h1
    rw [rowTV_nil hn, rowTV_nil (r := r.cut lo hi) hn]
    have : lo = 0 := by omega
    subst this h1
    simp [hE]
  | false =>
    rw [rowTV_some hn, rowTV_some (r := r.cut lo hi) hn]
    have hcl := flat_length hf r.l
    have hle : hi * j.size ≤ r.l.length * j.size := Nat.mul_le_mul_right _ h1
    simp only [hE, Option.getD_some, Option.getD_none, Option.isSome_none, Bool.false_eq_true, false_implies, true_and]
    rw [if_pos ⟨h0, h1, Nat.le_refl _, by rw [hcl]; exact hle⟩]
    simp only [Row.cut]
    rw [flat_skip hf, flat_take hf, ite_self]
    congr 2
    · simp; omega
    · rw [List.drop_take]

theorem tslice_row_hi (hT : T t = some i) (hk : i.k = .slice e) (hE : T e = some j) (hf : ∀ x, (f x).length = j.size) {hi : Nat} (h1 : hi ≤ r.l.length) :
    tslice T t (rowTV f r) .none (.some hi) .none = some (rowTV f (r.cut 0 hi)) := by
  have := tslice_row (f := f) hT hk hE hf (Nat.zero_le hi) h1
  unfold tslice at this ⊢
  simpa only [Option.getD_some, Option.getD_none] using this

theorem tslice_row_lo (hT : T t = some i) (hk : i.k = .slice e) (hE : T e = some j) (hf : ∀ x, (f x).length = j.size) {lo : Nat} (h1 : lo ≤ r.l.length) :
    tslice T t (rowTV f r) (.some lo) .none .none = some (rowTV f (r.cut lo r.l.length)) := by
  rw [← tslice_row (f := f) hT hk hE hf h1 (Nat.le_refl _)]
  unfold tslice
  cases hn : r.nil with
  | true =>
    rw [rowTV_nil hn, r.ok hn]
    simp [hT, hk, hE]
  | false =>
    rw [rowTV_some hn]
    simp only [hT, hk, hE, Option.getD_some, Option.getD_none, Option.isSome_none, Bool.false_eq_true, false_implies]

theorem tslcells_row {σ : TS} : tslcells σ (rowTV f r) = some (r.l.flatMap f) := by
  unfold rowTV
  split
  · rename_i h
    rw [r.ok h]
    rfl
  · rfl
theorem tlenV_row : tlen (rowTV f r) = some r.l.length := by
  unfold rowTV
  split
  · rename_i h
    rw [r.ok h]
    rfl
  · rfl

theorem tlen_str (hT : T t = some i) (hk : i.k = .str) (s : ByteArray) : tlenOp T t (.str s) = some (.int .i64 s.size) := by
  unfold tlenOp
  simp only [hT, hk]
end

attribute [go_sem ↓] rowTV_one rowTV_cells tslcells_row tlenV_row rowTV_bare

/-- Numbers as cells. -/
abbrev intC (n : Int) : List TV := [.int .i64 n]

/-- What a row of a law's argument is. -/
theorem TyRow {T : Tab} {d : Nat} {t el : TypeId} {i j : TI} {a : TV} {α : Type} [Inhabited α] {f : α → List TV} {p : α → Prop} (e : T t = some i) (hk : i.k = .slice el) (e2 : T el = some j) (hf : ∀ x, (f x).length = j.size)
    (hel : ∀ cs, Ty T d el cs → cs.length = j.size → ∃ x, cs = f x ∧ p x) (h : TyV T (d + 1) t a) :
    ∃ r : Row α, a = rowTV f r ∧ r.l.length ≤ 9223372036854775807 ∧ ∀ x ∈ r.l, p x := by
  rcases TyV_slice e hk e2 h with rfl | ⟨len, xs, rfl, h1, h2, h3, h4⟩
  · exact ⟨Row.none, rfl, by simp [Row.none], by simp [Row.none]⟩
  · have key : ∀ (n : Nat) (xs : List TV), xs.length = n * j.size → (∀ i, i < n → Ty T d el ((xs.drop (i * j.size)).take j.size)) → ∃ l : List α, l.length = n ∧ xs = l.flatMap f ∧ ∀ x ∈ l, p x := by
      intro n
      induction n with
      | zero => intro xs hx _; exact ⟨[], rfl, by simpa using hx, by simp⟩
      | succ n ih =>
        intro xs hx hq
        have h0 := hq 0 (by omega)
        rw [Nat.zero_mul, List.drop_zero] at h0
        have hl : (xs.take j.size).length = j.size := by rw [List.length_take, hx, Nat.succ_mul]; omega
        obtain ⟨x, h5, h6⟩ := hel _ h0 hl
        obtain ⟨l, q1, q2, q3⟩ := ih (xs.drop j.size) (by rw [List.length_drop, hx, Nat.succ_mul]; omega) fun i hi => by
          have := hq (i + 1) (by omega)
          rw [List.drop_drop, Nat.add_comm, ← Nat.succ_mul]
          exact this
        refine ⟨x :: l, by simp [q1], ?_, ?_⟩
        · rw [List.flatMap_cons, ← q2, ← h5, List.take_append_drop]
        · intro y hy
          rcases List.mem_cons.1 hy with rfl | hy
          · exact h6
          · exact q3 y hy
    obtain ⟨l, q1, q2, q3⟩ := key len xs h2 h4
    exact ⟨Row.some l, by rw [rowTV_mk, q1, q2], by simpa [Row.some, q1] using h1, q3⟩

theorem ints_of {T : Tab} {d : Nat} {t : TypeId} {i : TI} {k : IntKind} (e : T t = some i) (hk : i.k = .int k) : ∀ cs, Ty T (d + 1) t cs → ∃ n, cs = [.int k n] ∧ k.min ≤ n ∧ n ≤ k.max := by
  intro cs h
  simp only [Ty, e, hk] at h
  exact h

end Go.TM

/- The T-machine, part 22: one operation at a time, its operands read first: what is left for the simp set is the operation alone, without the frame. -/
set_option linter.unusedVariables false
set_option linter.unusedSimpArgs false
namespace Go.TM

/-- What goes on with an answer. -/
def res (o : Option TV) (C : TV → Prop) : Prop := match o with
  | some v => C v
  | none => False
def resS (o : Option (TV × TS)) (C : TV → TS → Prop) : Prop := match o with
  | some (v, σ) => C v σ
  | none => False
def resH (o : Option TS) (C : TS → Prop) : Prop := match o with
  | some σ => C σ
  | none => False
theorem res_some {v : TV} {C : TV → Prop} : res (some v) C = C v := rfl
theorem resS_some {v : TV} {σ : TS} {C : TV → TS → Prop} : resS (some (v, σ)) C = C v σ := rfl
theorem resH_some {σ : TS} {C : TS → Prop} : resH (some σ) C = C σ := rfl
attribute [go_sem] res_some resS_some resH_some

section
variable {P : Program} {wn : List Tmp} {m : TL} {dst : Option Tmp} {σ : TS} {K : Option TV → TS → Prop} {x y z : Operand} {a b c : TV} {t s d e ty : TypeId} {n : Nat}

theorem tO_move (hx : ev m x = some a) (h : K (some a) σ) : tO P wn m dst (.move x) σ K := by
  simp only [tO, tOper, tOp, hx, vres]; exact h
theorem tO_assign (hx : ev m x = some a) (h : K (some a) σ) : tO P wn m dst (.assign x) σ K := by
  simp only [tO, tOper, tOp, hx, vres]; exact h
theorem tO_pickT (hx : ev m x = some (.bool true)) (hy : ev m y = some a) (h : K (some a) σ) : tO P wn m dst (.pick x y z) σ K := by
  simp only [tO, tOper, tOp, hx, if_true, hy, vres]; exact h
theorem tO_pickF (hx : ev m x = some (.bool false)) (hy : ev m z = some a) (h : K (some a) σ) : tO P wn m dst (.pick x y z) σ K := by
  simp only [tO, tOper, tOp, hx, Bool.false_eq_true, if_false, hy, vres]; exact h
theorem tO_alloc (h : resS (talloc (mkTab P) σ t) fun v τ => K (some v) τ) : tO P wn m dst (.alloc t) σ K := by
  simp only [tO, tOper, tOp, sres]
  unfold resS at h
  split at h
  · rename_i e; simp only [e]; exact h
  · exact h.elim
theorem tO_box (hx : ev m x = some a) (h : resS (tbox σ a) fun v τ => K (some v) τ) : tO P wn m dst (.box t x) σ K := by
  simp only [tO, tOper, tOp, hx, sres]
  unfold resS at h
  split at h
  · rename_i e; simp only [e]; exact h
  · exact h.elim
theorem res_v {o : Option TV} (h : res o fun v => K (some v) σ) : match vres o σ with | some (r, σ') => K r σ' | none => False := by
  unfold res at h
  split at h
  · exact h
  · exact h.elim
theorem res_s {o : Option (TV × TS)} (h : resS o fun v τ => K (some v) τ) : match sres o with | some (r, σ') => K r σ' | none => False := by
  unfold resS at h
  split at h
  · exact h
  · exact h.elim
theorem res_h {o : Option TS} (h : resH o fun τ => K none τ) : match ures o with | some (r, σ') => K r σ' | none => False := by
  unfold resH at h
  split at h
  · exact h
  · exact h.elim
theorem tO_build {ps : Array (Nat × Operand)} {vs : List (Nat × TV)} (hx : evParts m ps.toList = some vs) (h : res (tbuild (mkTab P) t vs) fun v => K (some v) σ) : tO P wn m dst (.build t ps) σ K := by
  simp only [tO, tOper, tOp, hx]; exact res_v h
theorem tO_buildSlice {ps : Array (Nat × Operand)} {vs : List (Nat × TV)} (hx : evParts m ps.toList = some vs) (h : resS (tbuildSlice (mkTab P) (match dst with | some d => wn.contains d | none => false) σ t n vs) fun v τ => K (some v) τ) : tO P wn m dst (.buildSlice t n ps) σ K := by
  simp only [tO, tOper, tOp, hx]; exact res_s h
theorem tO_load (hx : ev m x = some a) (h : res (tload (mkTab P) σ t a) fun v => K (some v) σ) : tO P wn m dst (.load t x) σ K := by
  simp only [tO, tOper, tOp, hx]; exact res_v h
theorem tO_store (hx : ev m x = some a) (hy : ev m y = some b) (h : resH (tstore (mkTab P) σ t a b) fun τ => K none τ) : tO P wn m dst (.store t x y) σ K := by
  simp only [tO, tOper, tOp, hx, hy]; exact res_h h
theorem tO_nilCheck (hx : ev m x = some a) (hs : sound a = true) (h : K (some a) σ) : tO P wn m dst (.nilCheck x) σ K := by
  simp only [tO, tOper, tOp, hx, hs, if_true]; exact h
theorem tO_bin {op : BinOp} (hx : ev m x = some a) (hy : ev m y = some b) (h : res (tbin (mkTab P) (isC x || isC y) op t a b) fun v => K (some v) σ) : tO P wn m dst (.binOp op t x y ty) σ K := by
  simp only [tO, tOper, tOp, hx, hy]; exact res_v h
theorem tO_un {op : UnOp} (hx : ev m x = some a) (h : res (tun op a) fun v => K (some v) σ) : tO P wn m dst (.unOp op t x) σ K := by
  simp only [tO, tOper, tOp, hx]; exact res_v h
theorem tO_convert (hx : ev m x = some a) (h : resS (tconv (mkTab P) (match dst with | some d => wn.contains d | none => false) (match dst with | some d => wn.contains (d + 1000000) | none => false) σ s d a) fun v τ => K (some v) τ) : tO P wn m dst (.convert s d x) σ K := by
  simp only [tO, tOper, tOp, hx]; exact res_s h
theorem tO_makeInterface {i : TI} (hx : ev m x = some a) (ht : mkTab P t = some i) (hk : (match i.k with | .iface _ => false | _ => true) = true) (h : K (some (.iface t a)) σ) : tO P wn m dst (.makeInterface t x) σ K := by
  simp only [tO, tOper, tOp, hx, ht]
  split
  · rename_i e
    split at e
    · cases e
    · cases e; exact h
  · rename_i e
    split at e
    · rename_i e2; rw [e2] at hk; cases hk
    · cases e
theorem tO_makeFunc {fn : Fn} {first captured : Array Operand} {as bs : List TV} (hx : evs m first.toList = some as) (hy : evs m captured.toList = some bs) (h : K (some (.func fn as bs)) σ) : tO P wn m dst (.makeFunc fn first captured) σ K := by
  simp only [tO, tOper, tOp, hx, hy]; exact h
theorem tO_slice {lo hi mx : Option Operand} {l h' k : Option Nat} (hx : ev m x = some a) (hl : evB m lo = some l) (hh : evB m hi = some h') (hm : evB m mx = some k) (h : res (tslice (mkTab P) t a l h' k) fun v => K (some v) σ) : tO P wn m dst (.slice t x lo hi mx) σ K := by
  simp only [tO, tOper, tOp, hx, hl, hh, hm]; exact res_v h
theorem tO_fieldAddr (hx : ev m x = some a) (h : res (tfieldAddr (mkTab P) t a n) fun v => K (some v) σ) : tO P wn m dst (.fieldAddr t x n) σ K := by
  simp only [tO, tOper, tOp, hx]; exact res_v h
theorem tO_field (hx : ev m x = some a) (h : res (tfield (mkTab P) t a n) fun v => K (some v) σ) : tO P wn m dst (.field t x n) σ K := by
  simp only [tO, tOper, tOp, hx]; exact res_v h
theorem tO_indexAddr (hx : ev m x = some a) (hy : ev m y = some b) (h : res (tindexAddr (mkTab P) t a b) fun v => K (some v) σ) : tO P wn m dst (.indexAddr t x y) σ K := by
  simp only [tO, tOper, tOp, hx, hy]; exact res_v h
theorem tO_index (hx : ev m x = some a) (hy : ev m y = some b) (h : res (tindex (mkTab P) t a b) fun v => K (some v) σ) : tO P wn m dst (.index t x y) σ K := by
  simp only [tO, tOper, tOp, hx, hy]; exact res_v h
theorem tO_extract {vs : List TV} (hx : ev m x = some (.tup vs)) (hy : vs[n]? = some a) (h : K (some a) σ) : tO P wn m dst (.extract x n) σ K := by
  simp only [tO, tOper, tOp, hx, hy, vres]; exact h
theorem tO_len {xs : Array Operand} {ts : Array TypeId} (hx : evs m xs.toList = some [a]) (ht : ts.toList = [t]) (h : res (tlenOp (mkTab P) t a) fun v => K (some v) σ) : tO P wn m dst (.call { callee := .builtin .len, args := xs, argTypes := ts }) σ K := by
  simp only [tO, tOper, tOp, hx, ht, tbuiltin]; exact res_v h
/-- An append to a row of one's own. -/
theorem tO_appendR {xs : Array Operand} {ts : Array TypeId} {a b : TV} {t s : TypeId} (hx : evs m xs.toList = some [a, b]) (ht : ts.toList = [t, s]) (h : resS (tappendR (mkTab P) σ t s a b) fun v τ => K (some v) τ) : tO P wn m dst (.call { callee := .builtin .append, args := xs, argTypes := ts }) σ K := by
  unfold resS at h
  split at h
  · rename_i v τ e
    exact .inr ⟨a, b, t, s, v, τ, hx, ht, e, h⟩
  · exact h.elim
theorem tO_builtin {bu : Builtin} {xs : Array Operand} {ts : Array TypeId} {vs : List TV} {us : List TypeId} (hx : evs m xs.toList = some vs) (ht : ts.toList = us)
    (h : match tbuiltin (mkTab P) (match dst with | some d => wn.contains d | none => false) σ bu us vs with | some (r, σ') => K r σ' | none => False) : tO P wn m dst (.call { callee := .builtin bu, args := xs, argTypes := ts }) σ K := by
  by_cases hb : bu = .append
  · subst hb
    simp only [tO, tOper, tOp, hx, ht]; exact .inl h
  · cases bu <;> first | exact absurd rfl hb | (simp only [tO, tOper, tOp, hx, ht]; exact h)
theorem tO_call {f : Operand} {k : FuncId} {first captured vs : List TV} {xs : Array Operand} {ts : Array TypeId} (hf : ev m f = some (.func (.func k) first captured)) (hx : evs m xs.toList = some vs)
    (h : TCalls P k (first ++ vs ++ captured) σ fun v τ => K (some v) τ) : tO P wn m dst (.call { callee := .value f, args := xs, argTypes := ts }) σ K := by
  simp only [tO, tOper, hf, hx]; exact h
theorem tO_callF {k : FuncId} {vs : List TV} {xs : Array Operand} {ts : Array TypeId} (hx : evs m xs.toList = some vs)
    (h : TCalls P k vs σ fun v τ => K (some v) τ) : tO P wn m dst (.call { callee := .value (.func k), args := xs, argTypes := ts }) σ K := by
  simp only [tO, tOper, ev, hx, List.nil_append, List.append_nil]; exact h
theorem tO_invoke {r : Operand} {name : String} {l off : Nat} {k : FuncId} {vs : List TV} {xs : Array Operand} {ts : Array TypeId} (hr : ev m r = some (.iface t (.ptr l off))) (hx : evs m xs.toList = some vs) (hm : TMeth P t name k)
    (h : TCalls P k (.ptr l off :: vs) σ fun v τ => K (some v) τ) : tO P wn m dst (.call { callee := .invoke r name, args := xs, argTypes := ts }) σ K := by
  simp only [tO, tOper, hr, hx]; exact ⟨k, hm, h⟩
theorem tO_makeMap (h : K (some (.map σ.length)) (σ ++ [.map [] 0])) : tO P wn m dst (.makeMap t none) σ K := by
  simp only [tO, tOper, tOp, tmakeMap]; exact h
theorem tO_lookup {ok : Bool} (hx : ev m x = some a) (hy : ev m y = some b) (h : res (tlookup (mkTab P) σ t a b ok) fun v => K (some v) σ) : tO P wn m dst (.lookup t x y ok) σ K := by
  simp only [tO, tOper, tOp, hx, hy]; exact res_v h
theorem tO_mapUpdate (hx : ev m x = some a) (hy : ev m y = some b) (hz : ev m z = some c) (h : resH (tmapUpdate (mkTab P) σ t a b c) fun τ => K none τ) : tO P wn m dst (.mapUpdate t x y z) σ K := by
  simp only [tO, tOper, tOp, hx, hy, hz]; exact res_h h
theorem tO_mapEntry (hx : ev m x = some a) (hy : ev m y = some b) (h : resS (tmapEntry (mkTab P) σ t a b) fun v τ => K (some v) τ) : tO P wn m dst (.mapEntry t x y) σ K := by
  simp only [tO, tOper, tOp, hx, hy]; exact res_s h
theorem tO_entryStore (hx : ev m x = some a) (hy : ev m y = some b) (hz : ev m z = some c) (h : resH (tentryStore σ a b c) fun τ => K none τ) : tO P wn m dst (.entryStore t x y z) σ K := by
  simp only [tO, tOper, tOp, hx, hy, hz]; exact res_h h
theorem tO_range (hx : ev m x = some a) (h : resS (trange (mkTab P) σ t a) fun v τ => K (some v) τ) : tO P wn m dst (.range t x) σ K := by
  simp only [tO, tOper, tOp, hx]; exact res_s h
theorem tO_entry (hx : ev m x = some a) (h : res (tentry σ a) fun v => K (some v) σ) : tO P wn m dst (.entry x) σ K := by
  simp only [tO, tOper, tOp, hx]; exact res_v h
theorem tO_next {r : Nat} (hx : ev m x = some (.ptr r 0)) (h : tnext σ r K) : tO P wn m dst (.next x false) σ K := by
  simp only [tO, tOper, hx]; exact h
theorem tO_typeAssert {ok : Bool} (hx : ev m x = some a) (h : res (ttypeAssert (mkTab P) a t ok) fun v => K (some v) σ) : tO P wn m dst (.typeAssert x s t ok) σ K := by
  simp only [tO, tOper, tOp, hx]; exact res_v h
end

section
variable {P : Program} {wn : List Tmp} {ops : Array Oper} {Q : TL → TS → Prop} {dst : Option Tmp} {op : Op} {ty : TypeId} {pos : String} {after : Array Edge} {rest : List Oper} {m : TL} {σ : TS} {K : Option TV → TS → Prop}
theorem twL_do (h : ∀ K : Option TV → TS → Prop, (∀ r σ' m', tput m dst r = m' → twL P wn ops Q rest m' σ' → K r σ') → tO P wn m dst op σ K) :
    twL P wn ops Q ({ dst := dst, op := op, type := ty, pos := pos, after := after, guard := none } :: rest) m σ :=
  twL_go fun K hK => h K fun r σ' m' e q => hK r σ' (by rw [e]; exact q)
theorem twP_do {r : Option TV} {m' : TL} (h : ∀ K : Option TV → TS → Prop, K r σ → tO P wn m dst op σ K) (e : tput m dst r = m') (h2 : twP P wn ops Q rest m' σ) :
    twP P wn ops Q ({ dst := dst, op := op, type := ty, pos := pos, after := after, guard := none } :: rest) m σ :=
  twP_go h (by rw [e]; exact h2)
theorem tO_pick {x y z : Operand} {t : Bool} {a b : TV} (hx : ev m x = some (.bool t)) (hy : ev m y = some a) (hz : ev m z = some b) (h1 : t = true → K (some a) σ) (h2 : t = false → K (some b) σ) : tO P wn m dst (.pick x y z) σ K := by
  cases t with
  | true => exact tO_pickT hx hy (h1 rfl)
  | false => exact tO_pickF hx hz (h2 rfl)
end

/- loops: a frame's slots that count, the others whatever they are -/
def Fits : List (Option (Option TV)) → TL → Prop
  | [], [] => True
  | some v :: p, x :: m => x = v ∧ Fits p m
  | none :: p, _ :: m => Fits p m
  | _, _ => False

def fillN (q : Nat → Option TV) : Nat → List (Option (Option TV)) → TL
  | _, [] => []
  | i, some v :: p => v :: fillN q (i + 1) p
  | i, none :: p => q i :: fillN q (i + 1) p

theorem fillN_congr {q q' : Nat → Option TV} : ∀ (p : List (Option (Option TV))) (i : Nat), (∀ k, i ≤ k → q k = q' k) → fillN q i p = fillN q' i p
  | [], _, _ => rfl
  | some v :: p, i, h => by simp only [fillN, fillN_congr p (i + 1) fun k hk => h k (by omega)]
  | none :: p, i, h => by simp only [fillN, fillN_congr p (i + 1) fun k hk => h k (by omega), h i (Nat.le_refl _)]

theorem Fits.fill : ∀ {p : List (Option (Option TV))} {m : TL} (i : Nat), Fits p m → ∃ q : Nat → Option TV, m = fillN q i p
  | [], [], _, _ => ⟨fun _ => none, rfl⟩
  | some v :: p, x :: m, i, h => by
    obtain ⟨rfl, h⟩ := h
    obtain ⟨q, rfl⟩ := Fits.fill (i + 1) h
    exact ⟨q, rfl⟩
  | none :: p, x :: m, i, h => by
    obtain ⟨q, e⟩ := Fits.fill (m := m) (p := p) (i + 1) h
    refine ⟨fun k => if k = i then x else q k, ?_⟩
    simp only [fillN, if_true]
    rw [e]
    congr 1
    refine fillN_congr p (i + 1) fun k hk => ?_
    rw [if_neg (by omega)]
  | [], _ :: _, _, h => h.elim
  | some _ :: _, [], _, h => h.elim
  | none :: _, [], _, h => h.elim

theorem tw_each {P : Program} {wn : List Tmp} {c : Code} {Q : TX → TL → TS → Prop} {m : TL} {σ : TS} {α : Type} (p : α → List (Option (Option TV))) (facts : α → Prop) (meas : α → Nat) (heap : α → TS)
    (h0 : ∃ x, Fits (p x) m ∧ facts x ∧ heap x = σ)
    (round : ∀ (x : α) (q : Nat → Option TV), facts x → tw P wn c (TX.then (fun m' σ' => ∃ x', meas x' < meas x ∧ Fits (p x') m' ∧ facts x' ∧ heap x' = σ') Q) (fillN q 0 (p x)) (heap x)) : tw P wn (.loop c) Q m σ := by
  obtain ⟨x0, h1, h2, h3⟩ := h0
  refine tw_loop (fun n m s => ∃ x, Fits (p x) m ∧ facts x ∧ heap x = s ∧ n = meas x) (n := meas x0) ⟨x0, h1, h2, h3, rfl⟩ ?_
  rintro _ m s ⟨x, h4, h5, rfl, rfl⟩
  obtain ⟨q, rfl⟩ := h4.fill 0
  refine tw_mono c (round x q h5) fun e m' s' h => ?_
  cases e with
  | normal =>
    obtain ⟨x', h6, h7, h8, h9⟩ := h
    exact ⟨_, h6, x', h7, h8, h9, rfl⟩
  | exit id => exact h
  | goto l => exact h
  | ret => exact h

end Go.TM
