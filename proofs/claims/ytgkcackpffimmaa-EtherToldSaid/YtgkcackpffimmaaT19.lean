/- The T-machine, part 19: the words of a walk that goes on by itself: guards that are split, loops that are opened, calls that are known. -/
import Derived.Test.YtgkcackpffimmaaT17
set_option linter.unusedVariables false
namespace Go.TM

section
variable {P : Program} {wn : List Tmp} {ops : Array Oper} {Q : TL → TS → Prop} {dst : Option Tmp} {op : Op} {ty : TypeId} {pos : String} {after : Array Edge} {j : Nat} {want : Bool} {rest : List Oper} {m : TL} {σ : TS}

/-- A guarded operation: done where its guard says so, else left out. -/
theorem twL_if (b : Bool) (hg : tyield ops m j = some (some b))
    (hy : b = want → twL P wn ops Q ({ dst := dst, op := op, type := ty, pos := pos, after := after, guard := none } :: rest) m σ)
    (hn : b = (!want) → twL P wn ops Q rest (tput m dst (some (.tup []))) σ) :
    twL P wn ops Q ({ dst := dst, op := op, type := ty, pos := pos, after := after, guard := some (j, want) } :: rest) m σ := by
  by_cases h : b = want
  · subst h
    refine twL_yes hg fun K hK => ?_
    have h1 := hy rfl
    rw [twL] at h1
    have h2 : tO P wn m dst op σ fun r σ' => twL P wn ops Q rest (tput m dst r) σ' := h1
    exact tOper_mono h2 fun r σ' q => hK r σ' q
  · have h' : b = !want := by
      revert h
      cases b <;> cases want <;> intro h <;> first | rfl | exact absurd rfl h
    refine twL_no (some b) hg ?_ (hn h')
    rw [h']
    cases want <;> rfl

theorem twL_un (hg : tyield ops m j = some none) (h : twL P wn ops Q rest (tput m dst (some (.tup []))) σ) :
    twL P wn ops Q ({ dst := dst, op := op, type := ty, pos := pos, after := after, guard := some (j, want) } :: rest) m σ :=
  twL_no none hg rfl h

end

section
variable {P : Program} {wn : List Tmp}

theorem rounds_mono {c : Code} {Q : TX → TL → TS → Prop} : ∀ {j k : Nat}, j ≤ k → ∀ {m σ}, rounds (tw P wn c) Q j m σ → rounds (tw P wn c) Q k m σ := by
  intro j
  induction j with
  | zero => intro k _ m σ h; exact h.elim
  | succ j ihj =>
    intro k hk m σ h
    obtain ⟨k', rfl⟩ : ∃ k', k = k' + 1 := ⟨k - 1, by omega⟩
    simp only [rounds] at h ⊢
    refine tw_mono c h fun x m σ q => ?_
    cases x with
    | normal => exact ihj (by omega) q
    | exit id => exact q
    | goto l => exact q
    | ret => exact q

/-- A loop's first round alone. The ends of a round that go on each tell their own number of rounds: finitely many do, so this takes a bound from without. -/
theorem tw_unroll {c : Code} {Q : TX → TL → TS → Prop} {m : TL} {σ : TS} (n : Nat) (h : tw P wn c (TX.then (fun m' σ' => rounds (tw P wn c) Q n m' σ') Q) m σ) : tw P wn (.loop c) Q m σ := by
  simp only [tw]
  exact ⟨n + 1, by simpa only [rounds] using h⟩

theorem rounds_step {c : Code} {Q : TX → TL → TS → Prop} {m : TL} {σ : TS} {n : Nat} (h : tw P wn c (TX.then (fun m' σ' => rounds (tw P wn c) Q n m' σ') Q) m σ) : rounds (tw P wn c) Q (n + 1) m σ := by
  simpa only [rounds] using h

/-- A call's contract whose answer is one value and that leaves the heap as it was. -/
def TPure (P : Program) (f : FuncId) (args : List TV) (σ : TS) (v : TV) : Prop := TCalls P f args σ fun r σ' => r = v ∧ σ' = σ

theorem TPure.go {f : FuncId} {args : List TV} {σ : TS} {v : TV} {Q : TV → TS → Prop} (h : TPure P f args σ v) (k : Q v σ) : TCalls P f args σ Q :=
  TCalls.mono h fun _ _ q => by obtain ⟨rfl, rfl⟩ := q; exact k

/-- Arguments that let rights go. -/
theorem TCalls.bare {f : FuncId} {args : List TV} {σ : TS} {Q : TV → TS → Prop} (h : TCalls P f (TV.bareL args) σ Q) : TCalls P f args σ Q :=
  ⟨h.1, fun g w va hw hv => h.2 g w va hw hv.bareL⟩

end

/-- One of a row, or a default. -/
def nth {α : Type} [Inhabited α] (xs : List α) (i : Nat) : α := xs.getD i default

theorem nth_eq {α : Type} [Inhabited α] {xs : List α} {i : Nat} (h : i < xs.length) : nth xs i = xs[i] := by
  unfold nth
  rw [List.getD_eq_getElem?_getD, List.getElem?_eq_getElem h, Option.getD_some]

theorem nth_get {α : Type} [Inhabited α] {xs : List α} {i : Nat} (h : i < xs.length) : xs[i]? = some (nth xs i) := by
  rw [nth_eq h, List.getElem?_eq_getElem h]

theorem nth_mem {α : Type} [Inhabited α] {xs : List α} {i : Nat} (h : i < xs.length) : nth xs i ∈ xs := by
  rw [nth_eq h]; exact List.getElem_mem h

theorem nth_append_left {α : Type} [Inhabited α] {xs ys : List α} {i : Nat} (h : i < xs.length) : nth (xs ++ ys) i = nth xs i := by
  rw [nth_eq h, nth_eq (by simp; omega), List.getElem_append_left h]

theorem nth_take {α : Type} [Inhabited α] {xs : List α} {i n : Nat} (h : i < n) : nth (xs.take n) i = nth xs i := by
  unfold nth
  rw [List.getD_eq_getElem?_getD, List.getD_eq_getElem?_getD, List.getElem?_take, if_pos h]

/-- A row's cells from one of its things on. -/
theorem flat_drop {α : Type} [Inhabited α] {f : α → List TV} {k : Nat} (hf : ∀ x, (f x).length = k) : ∀ {xs : List α} {i : Nat}, i < xs.length → (xs.flatMap f).drop (i * k) = f (nth xs i) ++ (xs.drop (i + 1)).flatMap f
  | x :: xs, 0, _ => by simp [nth]
  | x :: xs, i + 1, h => by
    have := flat_drop hf (xs := xs) (i := i) (by simpa using h)
    rw [List.flatMap_cons, Nat.succ_mul, Nat.add_comm, List.drop_append, List.drop_of_length_le (by rw [hf]; omega), hf, Nat.add_sub_cancel_left, this]
    simp [nth]

theorem flat_length {α : Type} {f : α → List TV} {k : Nat} (hf : ∀ x, (f x).length = k) (xs : List α) : (xs.flatMap f).length = xs.length * k := by
  induction xs with
  | nil => simp
  | cons x xs ih => rw [List.flatMap_cons, List.length_append, hf, ih, List.length_cons, Nat.succ_mul, Nat.add_comm]

theorem flat_one {α : Type} {f : α → List TV} (hf : ∀ x, (f x).all TV.one = true) (xs : List α) : (xs.flatMap f).all TV.one = true := by
  rw [List.all_eq_true]
  intro v hv
  obtain ⟨x, hx, hv⟩ := List.mem_flatMap.1 hv
  exact List.all_eq_true.1 (hf x) v hv

theorem flat_take {α : Type} {f : α → List TV} {k : Nat} (hf : ∀ x, (f x).length = k) : ∀ (xs : List α) (i : Nat), (xs.flatMap f).take (i * k) = (xs.take i).flatMap f
  | [], i => by simp
  | x :: xs, 0 => by simp
  | x :: xs, i + 1 => by
    rw [List.flatMap_cons, Nat.succ_mul, Nat.add_comm, List.take_append, List.take_of_length_le (by rw [hf]; omega), hf, Nat.add_sub_cancel_left, flat_take hf xs i]
    simp

theorem flat_skip {α : Type} {f : α → List TV} {k : Nat} (hf : ∀ x, (f x).length = k) : ∀ (xs : List α) (i : Nat), (xs.flatMap f).drop (i * k) = (xs.drop i).flatMap f
  | [], i => by simp
  | x :: xs, 0 => by simp
  | x :: xs, i + 1 => by
    rw [List.flatMap_cons, Nat.succ_mul, Nat.add_comm, List.drop_append, List.drop_of_length_le (by rw [hf]; omega), hf, Nat.add_sub_cancel_left, flat_skip hf xs i]
    simp

end Go.TM
