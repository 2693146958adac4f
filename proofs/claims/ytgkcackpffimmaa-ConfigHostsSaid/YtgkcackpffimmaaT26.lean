/- The T-machine, part 25: drawing regions of which some operations turn the heap: one order is walked; what was read ahead is held against what comes between. -/
import Derived.Test.YtgkcackpffimmaaT24
set_option linter.unusedVariables false
set_option linter.unusedSimpArgs false
namespace Go.TM

section
variable {P : Program} {wn : List Tmp} {ops : Array Oper} {Q : TL → TS → Prop}

/-- What an operation answered ahead it answers of this heap too. -/
structure HeldOp (P : Program) (wn : List Tmp) (ops : Array Oper) (m : TL) (o : Oper) (r : Option TV) (τ : TS) : Prop where
  go : ∀ K : Option TV → TS → Prop, K r τ → tStep P wn ops m o τ K

/-- 0: hangs on its operands alone; 1: leaves the heap; 2: may turn it. -/
def twE (P : Program) (wn : List Tmp) (ops : Array Oper) (Q : TL → TS → Prop) : List (Nat × Oper × Nat) → Held → TL → TS → Prop
  | [], pend, m, σ => Q m σ
  | (i, o, 0) :: ord, pend, m, σ => kindOf o = 0 ∧ ∃ r, (∀ K : Option TV → TS → Prop, K r σ → tStep P wn ops m o σ K) ∧ twE P wn ops Q ord pend (tput m o.dst r) σ
  | (i, o, 1) :: ord, pend, m, σ => ∃ r, (∀ K : Option TV → TS → Prop, K r σ → tStep P wn ops m o σ K) ∧ twE P wn ops Q ord ((i, HeldOp P wn ops m o r) :: pend) (tput m o.dst r) σ
  | (i, o, _ + 2) :: ord, pend, m, σ => tStep P wn ops m o σ fun r σ' => (∀ p ∈ keep ops i pend, p.2 σ') ∧ twE P wn ops Q ord (keep ops i pend) (tput m o.dst r) σ'

def okE (ops : Array Oper) : Array Bool → List (Nat × Nat) → Bool
  | listed, [] => (Region.ready .any ops listed).isEmpty
  | listed, (i, k) :: ord => (if k < 2 then (Region.ready .any ops listed).contains i && Region.free .any ops listed i else Region.ready .any ops listed == [i]) && okE ops (listed.setIfInBounds i true) ord

def triples (ops : Array Oper) : List (Nat × Nat) → List (Nat × Oper × Nat)
  | [] => []
  | (i, k) :: ord => match ops[i]? with
    | some o => (i, o, k) :: triples ops ord
    | none => []

theorem tStep_pure0 {m : TL} {o : Oper} {σ : TS} {r : Option TV} (hk : kindOf o = 0) (h : ∀ K : Option TV → TS → Prop, K r σ → tStep P wn ops m o σ K) : ∀ τ, ∀ K : Option TV → TS → Prop, K r τ → tStep P wn ops m o τ K := by
  have h1 := h (fun r' σ' => r' = r ∧ σ' = σ) ⟨rfl, rfl⟩
  obtain ⟨r', σ', ⟨rfl, rfl⟩, _, h4⟩ := tStep_det (by omega) h1
  exact (h4 hk).2

theorem twE_any : ∀ (ord : List (Nat × Nat)) (pend : Held) (listed : Array Bool) (m : TL) (σ : TS), okE ops listed ord = true → (∀ p ∈ pend, p.2 σ) → ord.length = (triples ops ord).length → twE P wn ops Q (triples ops ord) pend m σ →
    anyH P wn ops Q ord.length pend listed m σ
  | [], pend, listed, m, σ, ho, hp, _, h => ⟨hp, by simpa [okE] using ho, h⟩
  | (i, k) :: ord, pend, listed, m, σ, ho, hp, hl, h => by
    simp only [okE, Bool.and_eq_true] at ho
    obtain ⟨h1, h2⟩ := ho
    cases hi : ops[i]? with
    | none => simp [triples, hi] at hl
    | some o =>
      simp only [triples, hi, List.length_cons, Nat.add_right_cancel_iff] at hl h
      match k, h1, h with
      | 0, h1, h =>
        rw [if_pos (by decide)] at h1
        simp only [Bool.and_eq_true, List.contains_iff_mem] at h1
        simp only [twE] at h
        obtain ⟨hk, r, h3, h4⟩ := h
        refine anyH_take hi (fun _ => True) ord.length pend listed m σ (Region.free_spec hi h1.2) h1.1 (fun τ _ K hK => tStep_pure0 hk h3 τ K hK) ?_
        exact anyH_sub _ (fun p hp => by
          rcases List.mem_cons.1 hp with rfl | hp
          · exact .inr fun _ => trivial
          · exact .inl hp) (twE_any ord pend _ _ _ h2 hp hl h4)
      | 1, h1, h =>
        rw [if_pos (by decide)] at h1
        simp only [Bool.and_eq_true, List.contains_iff_mem] at h1
        simp only [twE] at h
        obtain ⟨r, h3, h4⟩ := h
        refine anyH_take hi (HeldOp P wn ops m o r) ord.length pend listed m σ (Region.free_spec hi h1.2) h1.1 (fun τ ht K hK => ht.go K hK) ?_
        exact twE_any ord _ _ _ _ h2 (fun p hp' => by
          rcases List.mem_cons.1 hp' with rfl | hp'
          · exact ⟨h3⟩
          · exact hp p hp') hl h4
      | k + 2, h1, h =>
        have hk : ¬ (k + 2 < 2) := by omega
        rw [if_neg hk] at h1
        have h1 : Region.ready .any ops listed = [i] := by simpa using h1
        simp only [twE] at h
        refine ⟨hp, fun e => (by rw [h1] at e; cases e), fun j hj => ?_⟩
        rw [h1] at hj
        obtain rfl : j = i := by simpa using hj
        unfold stepT
        simp only [hi]
        exact tStep_mono h fun r σ' q => twE_any ord _ _ _ _ h2 q.1 hl q.2

theorem tw_effects {id : Nat} {X : TX → TL → TS → Prop} {m : TL} {σ : TS} (ord : List (Nat × Nat)) (hm : P.follows .mixedOrders = true) (hn : ord.length = ops.size) (hl : ord.length = (triples ops ord).length) (ho : okE ops (Array.replicate ops.size false) ord = true)
    (h : twE P wn ops (X .normal) (triples ops ord) [] m σ) : tw P wn (.region id ops true) X m σ := by
  simp only [tw, if_true]
  left
  intro t
  simp only [Region.schedule, hm, Bool.true_or, if_true]
  unfold Region.linearise
  refine anyH_sound ops.size t [] _ m σ ?_
  rw [← hn] at ho ⊢
  exact twE_any ord [] _ m σ ho (by simp) hl h

/-- What is held may be told otherwise. -/
theorem twE_pend : ∀ (l : List (Nat × Oper × Nat)) {pend pend' : Held} {m : TL} {σ : TS}, (∀ p' ∈ pend', (∃ p ∈ pend, p.1 = p'.1 ∧ ∀ τ, p.2 τ → p'.2 τ) ∨ ∀ τ, p'.2 τ) → twE P wn ops Q l pend m σ → twE P wn ops Q l pend' m σ
  | [], _, _, m, σ, _, h => by simpa only [twE] using h
  | (i, o, 0) :: ord, pend, pend', m, σ, hs, h => by
    simp only [twE] at h ⊢
    obtain ⟨hk, r, h1, h2⟩ := h
    exact ⟨hk, r, h1, twE_pend ord hs h2⟩
  | (i, o, 1) :: ord, pend, pend', m, σ, hs, h => by
    simp only [twE] at h ⊢
    obtain ⟨r, h1, h2⟩ := h
    refine ⟨r, h1, twE_pend ord (fun p' hp' => ?_) h2⟩
    rcases List.mem_cons.1 hp' with rfl | hp'
    · exact .inl ⟨_, List.mem_cons_self .., rfl, fun _ q => q⟩
    · rcases hs p' hp' with ⟨p, hp, e, q⟩ | q
      · exact .inl ⟨p, List.mem_cons_of_mem _ hp, e, q⟩
      · exact .inr q
  | (i, o, k + 2) :: ord, pend, pend', m, σ, hs, h => by
    simp only [twE] at h ⊢
    have hs' : ∀ p' ∈ keep ops i pend', (∃ p ∈ keep ops i pend, p.1 = p'.1 ∧ ∀ τ, p.2 τ → p'.2 τ) ∨ ∀ τ, p'.2 τ := by
      intro p' hp'
      simp only [keep, List.mem_filter] at hp' ⊢
      rcases hs p' hp'.1 with ⟨p, hp, e, q⟩ | q
      · exact .inl ⟨p, ⟨hp, by rw [e]; exact hp'.2⟩, e, q⟩
      · exact .inr q
    refine tStep_mono h fun r σ' q => ⟨fun p' hp' => ?_, twE_pend ord hs' q.2⟩
    rcases hs' p' hp' with ⟨p, hp, e, q'⟩ | q'
    · exact q' _ (q.1 p hp)
    · exact q' _

/-- The walk of such a region, behind a structure. -/
structure WE (P : Program) (wn : List Tmp) (ops : Array Oper) (Q : TL → TS → Prop) (l : List (Nat × Oper × Nat)) (pend : Held) (m : TL) (σ : TS) : Prop where
  go : twE P wn ops Q l pend m σ
/-- What was read ahead holds of the heap that is. -/
structure HeldAt (l : Held) (σ : TS) : Prop where
  go : ∀ p ∈ l, p.2 σ

theorem T_eff_seq {id : Nat} {y : Code} {X : TX → TL → TS → Prop} {m : TL} {σ : TS} (ord : List (Nat × Nat)) (hm : P.follows .mixedOrders = true) (hn : ord.length = ops.size) (hl : ord.length = (triples ops ord).length) (ho : okE ops (Array.replicate ops.size false) ord = true)
    (h : ∀ K : TL → TS → Prop, (∀ m σ, Tw P wn y X m σ → K m σ) → WE P wn ops K (triples ops ord) [] m σ) : Tw P wn (.seq (.region id ops true) y) X m σ :=
  ⟨tw_seq_k fun K hK => tw_effects ord hm hn hl ho (h K fun m σ q => hK m σ q.go).go⟩
theorem T_eff_end {id : Nat} {X : TX → TL → TS → Prop} {m : TL} {σ : TS} (ord : List (Nat × Nat)) (hm : P.follows .mixedOrders = true) (hn : ord.length = ops.size) (hl : ord.length = (triples ops ord).length) (ho : okE ops (Array.replicate ops.size false) ord = true)
    (h : ∀ K : TL → TS → Prop, (∀ m σ, X .normal m σ → K m σ) → WE P wn ops K (triples ops ord) [] m σ) : Tw P wn (.region id ops true) X m σ :=
  ⟨tw_effects ord hm hn hl ho (h (X .normal) fun _ _ q => q).go⟩

theorem HeldAt_nil {σ : TS} : HeldAt [] σ := ⟨fun _ h => by cases h⟩
variable {dst : Option Tmp} {op : Op} {ty : TypeId} {pos : String} {after : Array Edge} {rest : List (Nat × Oper × Nat)} {m m' m1 : TL} {σ : TS} {i j : Nat} {want : Bool} {pend : Held} {r : Option TV}
theorem HeldAt_cons {l : Held} {F : TS → Prop} (h : F σ) (h2 : HeldAt l σ) : HeldAt ((i, F) :: l) σ :=
  ⟨fun p hp => by
    rcases List.mem_cons.1 hp with rfl | hp
    · exact h
    · exact h2.go p hp⟩
theorem HeldOp_of (h : ∀ K : Option TV → TS → Prop, K r σ → WO P wn m dst op σ K) : HeldOp P wn ops m { dst := dst, op := op, type := ty, pos := pos, after := after, guard := none } r σ :=
  ⟨fun K hK => (h K hK).go⟩
theorem HeldOp_un {j : Nat} {want : Bool} (hg : tyield ops m j = some none) (hr : r = some (.tup [])) : HeldOp P wn ops m { dst := dst, op := op, type := ty, pos := pos, after := after, guard := some (j, want) } r σ :=
  ⟨fun K hK => by
    unfold tStep
    simp only [twanted, hg]
    rw [← hr]; exact hK⟩

theorem WE_nil (h : Q m σ) : WE P wn ops Q [] pend m σ := ⟨by simpa only [twE] using h⟩
theorem WE_0 (hk : kindOf { dst := dst, op := op, type := ty, pos := pos, after := after, guard := none } = 0) (h : ∀ K : Option TV → TS → Prop, K r σ → WO P wn m dst op σ K) (e : tput m dst r = m') (h2 : WE P wn ops Q rest pend m' σ) :
    WE P wn ops Q ((i, { dst := dst, op := op, type := ty, pos := pos, after := after, guard := none }, 0) :: rest) pend m σ := by
  refine ⟨?_⟩
  rw [twE]
  exact ⟨hk, r, fun K hK => (h K hK).go, by rw [e]; exact h2.go⟩
theorem WE_1 (h : ∀ K : Option TV → TS → Prop, K r σ → WO P wn m dst op σ K) (e : tput m dst r = m')
    (h2 : ∀ F : TS → Prop, (∀ τ, HeldOp P wn ops m { dst := dst, op := op, type := ty, pos := pos, after := after, guard := none } r τ → F τ) → WE P wn ops Q rest ((i, F) :: pend) m' σ) :
    WE P wn ops Q ((i, { dst := dst, op := op, type := ty, pos := pos, after := after, guard := none }, 1) :: rest) pend m σ := by
  refine ⟨?_⟩
  rw [twE]
  exact ⟨r, fun K hK => (h K hK).go, by rw [e]; exact (h2 _ fun τ q => q).go⟩
theorem WE_2 (h : ∀ K : Option TV → TS → Prop, (∀ r σ' m' pend', keep ops i pend = pend' → tput m dst r = m' → HeldAt pend' σ' → WE P wn ops Q rest pend' m' σ' → K r σ') → WO P wn m dst op σ K) :
    WE P wn ops Q ((i, { dst := dst, op := op, type := ty, pos := pos, after := after, guard := none }, 2) :: rest) pend m σ := by
  refine ⟨?_⟩
  rw [twE]
  exact (h (fun r σ' => (∀ p ∈ keep ops i pend, p.2 σ') ∧ twE P wn ops Q rest (keep ops i pend) (tput m dst r) σ') fun r σ' m' pend' e1 e2 h1 h2 => ⟨by rw [e1]; exact h1.go, by rw [e1, e2]; exact h2.go⟩).go

theorem tStep_yes {K : Option TV → TS → Prop} (hg : tyield ops m j = some (some want)) (h : tStep P wn ops m { dst := dst, op := op, type := ty, pos := pos, after := after, guard := none } σ K) : tStep P wn ops m { dst := dst, op := op, type := ty, pos := pos, after := after, guard := some (j, want) } σ K := by
  unfold tStep at h ⊢
  simp only [twanted, hg, beq_self_eq_true] at h ⊢
  exact h
theorem tStep_no {K : Option TV → TS → Prop} (hg : tyield ops m j = some (some (!want))) (h : K (some (.tup [])) σ) : tStep P wn ops m { dst := dst, op := op, type := ty, pos := pos, after := after, guard := some (j, want) } σ K := by
  unfold tStep
  have hb : ((!want) == want) = false := by cases want <;> rfl
  simp only [twanted, hg, hb]
  exact h
theorem WE_if0 {b : Bool} (hg : tyield ops m j = some (some b)) (hk : kindOf { dst := dst, op := op, type := ty, pos := pos, after := after, guard := none } = 0) (e : tput m dst (some (.tup [])) = m')
    (hy : b = want → WE P wn ops Q ((i, { dst := dst, op := op, type := ty, pos := pos, after := after, guard := none }, 0) :: rest) pend m σ)
    (hn : b = (!want) → WE P wn ops Q rest pend m' σ) :
    WE P wn ops Q ((i, { dst := dst, op := op, type := ty, pos := pos, after := after, guard := some (j, want) }, 0) :: rest) pend m σ := by
  refine ⟨?_⟩
  rw [twE]
  refine ⟨hk, ?_⟩
  by_cases h : b = want
  · subst h
    have h1 := (hy rfl).go
    rw [twE] at h1
    obtain ⟨_, r, h2, h3⟩ := h1
    exact ⟨r, fun K hK => tStep_yes hg (h2 K hK), h3⟩
  · obtain rfl : b = !want := by revert h; cases b <;> cases want <;> simp
    exact ⟨_, fun K hK => tStep_no hg hK, by rw [e]; exact (hn rfl).go⟩
theorem WE_if1 {b : Bool} (hg : tyield ops m j = some (some b)) (e : tput m dst (some (.tup [])) = m')
    (hy : b = want → WE P wn ops Q ((i, { dst := dst, op := op, type := ty, pos := pos, after := after, guard := none }, 1) :: rest) pend m σ)
    (hn : b = (!want) → WE P wn ops Q rest pend m' σ) :
    WE P wn ops Q ((i, { dst := dst, op := op, type := ty, pos := pos, after := after, guard := some (j, want) }, 1) :: rest) pend m σ := by
  refine ⟨?_⟩
  rw [twE]
  by_cases h : b = want
  · subst h
    have h1 := (hy rfl).go
    rw [twE] at h1
    obtain ⟨r, h2, h3⟩ := h1
    refine ⟨r, fun K hK => tStep_yes hg (h2 K hK), twE_pend rest (fun p' hp' => ?_) h3⟩
    rcases List.mem_cons.1 hp' with rfl | hp'
    · exact .inl ⟨_, List.mem_cons_self .., rfl, fun τ q => ⟨fun K hK => tStep_yes hg (q.go K hK)⟩⟩
    · exact .inl ⟨p', List.mem_cons_of_mem _ hp', rfl, fun _ q => q⟩
  · obtain rfl : b = !want := by revert h; cases b <;> cases want <;> simp
    refine ⟨_, fun K hK => tStep_no hg hK, twE_pend rest (fun p' hp' => ?_) (by rw [e]; exact (hn rfl).go)⟩
    rcases List.mem_cons.1 hp' with rfl | hp'
    · exact .inr fun τ => ⟨fun K hK => tStep_no hg hK⟩
    · exact .inl ⟨p', hp', rfl, fun _ q => q⟩
theorem WE_if2 {b : Bool} {pend' : Held} (hg : tyield ops m j = some (some b)) (ek : keep ops i pend = pend') (e : tput m dst (some (.tup [])) = m')
    (hy : b = want → WE P wn ops Q ((i, { dst := dst, op := op, type := ty, pos := pos, after := after, guard := none }, 2) :: rest) pend m σ)
    (hh : b = (!want) → HeldAt pend' σ) (hn : b = (!want) → WE P wn ops Q rest pend' m' σ) :
    WE P wn ops Q ((i, { dst := dst, op := op, type := ty, pos := pos, after := after, guard := some (j, want) }, 2) :: rest) pend m σ := by
  refine ⟨?_⟩
  rw [twE]
  by_cases h : b = want
  · subst h
    have h1 := (hy rfl).go
    rw [twE] at h1
    exact tStep_yes hg h1
  · obtain rfl : b = !want := by revert h; cases b <;> cases want <;> simp
    exact tStep_no hg ⟨by rw [ek]; exact (hh rfl).go, by rw [ek, e]; exact (hn rfl).go⟩
theorem WE_un0 (hk : kindOf { dst := dst, op := op, type := ty, pos := pos, after := after, guard := none } = 0) (hg : tyield ops m j = some none) (e : tput m dst (some (.tup [])) = m') (hn : WE P wn ops Q rest pend m' σ) :
    WE P wn ops Q ((i, { dst := dst, op := op, type := ty, pos := pos, after := after, guard := some (j, want) }, 0) :: rest) pend m σ := by
  refine ⟨?_⟩
  rw [twE]
  refine ⟨hk, some (.tup []), fun K hK => ?_, by rw [e]; exact hn.go⟩
  unfold tStep
  simp only [twanted, hg]
  exact hK
theorem WE_un1 (hg : tyield ops m j = some none) (e : tput m dst (some (.tup [])) = m') (hn : WE P wn ops Q rest pend m' σ) :
    WE P wn ops Q ((i, { dst := dst, op := op, type := ty, pos := pos, after := after, guard := some (j, want) }, 1) :: rest) pend m σ := by
  have hs : ∀ (τ : TS) (K : Option TV → TS → Prop), K (some (.tup [])) τ → tStep P wn ops m { dst := dst, op := op, type := ty, pos := pos, after := after, guard := some (j, want) } τ K := by
    intro τ K hK
    unfold tStep
    simp only [twanted, hg]
    exact hK
  refine ⟨?_⟩
  rw [twE]
  refine ⟨some (.tup []), fun K hK => hs σ K hK, twE_pend rest (fun p' hp' => ?_) (by rw [e]; exact hn.go)⟩
  rcases List.mem_cons.1 hp' with rfl | hp'
  · exact .inr fun τ => ⟨fun K hK => hs τ K hK⟩
  · exact .inl ⟨p', hp', rfl, fun _ q => q⟩
theorem WE_un2 {pend' : Held} (hg : tyield ops m j = some none) (ek : keep ops i pend = pend') (e : tput m dst (some (.tup [])) = m') (hh : HeldAt pend' σ) (hn : WE P wn ops Q rest pend' m' σ) :
    WE P wn ops Q ((i, { dst := dst, op := op, type := ty, pos := pos, after := after, guard := some (j, want) }, 2) :: rest) pend m σ := by
  refine ⟨?_⟩
  rw [twE]
  unfold tStep
  simp only [twanted, hg]
  exact ⟨by rw [ek]; exact hh.go, by rw [ek, e]; exact hn.go⟩
/-- A choice between two values. -/
theorem WE_pick0 {x y z : Operand} {t : Bool} {a b : TV} {m'' : TL} (hx : ev m x = some (.bool t)) (hy : ev m y = some a) (hz : ev m z = some b) (e1 : tput m dst (some a) = m') (e2 : tput m dst (some b) = m'')
    (h1 : t = true → WE P wn ops Q rest pend m' σ) (h2 : t = false → WE P wn ops Q rest pend m'' σ) : WE P wn ops Q ((i, { dst := dst, op := .pick x y z, type := ty, pos := pos, after := after, guard := none }, 0) :: rest) pend m σ := by
  cases t with
  | true => exact WE_0 rfl (fun K hK => O_pickT hx hy hK) e1 (h1 rfl)
  | false => exact WE_0 rfl (fun K hK => O_pickF hx hz hK) e2 (h2 rfl)
end

/-- A call whose answer and whose effect are known. -/
def TDoes (P : Program) (f : FuncId) (args : List TV) (σ : TS) (v : TV) (τ : TS) : Prop := TCalls P f args σ fun r σ' => r = v ∧ σ' = τ
theorem TDoes.go {P : Program} {f : FuncId} {args : List TV} {σ τ : TS} {v : TV} {Q : TV → TS → Prop} (h : TDoes P f args σ v τ) (k : Q v τ) : TCalls P f args σ Q :=
  TCalls.mono h fun _ _ q => by obtain ⟨rfl, rfl⟩ := q; exact k
/-- The heap that was, with things in it turned. -/
structure Turned (σ τ : TS) : Prop where
  len : τ.length = σ.length
  obj : ∀ l : Nat, τ[l]? = σ[l]? ∨ ∃ o, τ[l]? = some o ∧ TObj.fits σ.length o = true
theorem Turned.refl (σ : TS) : Turned σ σ := ⟨rfl, fun _ => .inl rfl⟩
theorem Turned.set {σ τ : TS} (h : Turned σ τ) {l : Nat} {o : TObj} (ho : TObj.fits σ.length o = true) : Turned σ (τ.set l o) := by
  refine ⟨by rw [List.length_set, h.len], fun k => ?_⟩
  rw [List.getElem?_set]
  split
  · split
    · exact .inr ⟨o, rfl, ho⟩
    · rename_i h1 h2
      left
      rw [List.getElem?_eq_none]
      rw [h.len] at h2
      omega
  · exact h.obj k

/-- What a call ends with that turned things in the heap that was. -/
def EndsT (σ τ : TS) (v : TV) (tv : TV) (s : TS) : Prop := (∃ ρ, s = τ ++ ρ) ∧ Turned σ τ ∧ TV.fits σ.length tv.free = true ∧ tv.free = v
theorem EndsT.same {σ τ : TS} {v tv : TV} (ht : Turned σ τ) (h : TV.fits σ.length tv.free = true) (e : tv.free = v) : EndsT σ τ v tv τ := ⟨⟨[], (List.append_nil _).symm⟩, ht, h, e⟩
theorem EndsT.more {σ τ ρ : TS} {v tv : TV} (ht : Turned σ τ) (h : TV.fits σ.length tv.free = true) (e : tv.free = v) : EndsT σ τ v tv (τ ++ ρ) := ⟨⟨ρ, rfl⟩, ht, h, e⟩

theorem EndsT.same' {σ τ τ' : TS} {v tv : TV} (ht : Turned σ τ') (h : TV.fits σ.length tv.free = true) (e : tv.free = v) (eh : τ' = τ) : EndsT σ τ v tv τ' := by subst eh; exact EndsT.same ht h e
theorem EndsT.more' {σ τ τ' ρ : TS} {v tv : TV} (ht : Turned σ τ') (h : TV.fits σ.length tv.free = true) (e : tv.free = v) (eh : τ' = τ) : EndsT σ τ v tv (τ' ++ ρ) := by subst eh; exact EndsT.more ht h e
theorem keep_nil {ops : Array Oper} {i : Nat} : keep ops i [] = [] := rfl
theorem keep_drop {ops : Array Oper} {i k : Nat} {F : TS → Prop} {l l' : Held} (h : isAfter ops i k = true) (e : keep ops i l = l') : keep ops i ((k, F) :: l) = l' := by
  unfold keep at e ⊢
  rw [List.filter_cons, if_neg (by simp [h]), e]
theorem keep_keep {ops : Array Oper} {i k : Nat} {F : TS → Prop} {l l' : Held} (h : isAfter ops i k = false) (e : keep ops i l = l') : keep ops i ((k, F) :: l) = (k, F) :: l' := by
  unfold keep at e ⊢
  rw [List.filter_cons, if_pos (by simp [h]), e]

theorem does_of {P : Program} {f : FuncId} {fn : Func} {c : Code} {args : List TV} {σ τ : TS} {v : TV} (wn : List Tmp) (rs : List ResultVar) (hf : P.funcs[f]? = some fn) (hn : (fn.name == "runtime.NumGoroutine") = false) (hb : fn.body = some c) (hr : fn.results.toList = rs)
    (h : ∀ X : TX → TL → TS → Prop, (∀ m s, (∀ C : TV → Prop, (∀ tv, EndsT σ τ v tv s → C tv) → Res (tresults (mkTab P) m s rs) C) → X .ret m s) →
      (∀ m s, (∀ C : TV → Prop, (∀ tv, EndsT σ τ v tv s → C tv) → Res (tresults (mkTab P) m s rs) C) → X .normal m s) → Tw P wn c X (tinit fn.ntmps args) σ) : TDoes P f args σ v τ :=
  TCalls.trim (calls_of wn rs hf hn hb hr h) fun tv s q => by
    obtain ⟨⟨ρ, rfl⟩, ht, h1, rfl⟩ := q
    exact ⟨τ, ρ, rfl, ht.len, ht.obj, h1, rfl, rfl⟩

/- heaps with things turned in them, and more behind -/
section
variable {α : Type} {σ l : List α} {k n a b c d : Nat} {x y z u : α}
theorem get_app0_1 : (σ.set a x ++ l)[σ.length]? = l[0]? := by rw [List.getElem?_append_right (by simp)]; simp
theorem get_app_1 : (σ.set a x ++ l)[σ.length + k]? = l[k]? := by rw [List.getElem?_append_right (by simp)]; simp
theorem set_app0_1 : (σ.set a x ++ l).set σ.length y = σ.set a x ++ l.set 0 y := by rw [List.set_append_right _ _ (by simp)]; simp
theorem set_app_1 : (σ.set a x ++ l).set (σ.length + k) y = σ.set a x ++ l.set k y := by rw [List.set_append_right _ _ (by simp)]; simp
theorem get_old_1 (h : n < σ.length) : (σ.set a x ++ l)[n]? = (σ.set a x)[n]? := List.getElem?_append_left (by simpa using h)
theorem set_old_1 (h : n < σ.length) : (σ.set a x ++ l).set n y = (σ.set a x).set n y ++ l := List.set_append_left _ _ (by simpa using h)
theorem get_app0_2 : ((σ.set a x).set b y ++ l)[σ.length]? = l[0]? := by rw [List.getElem?_append_right (by simp)]; simp
theorem get_app_2 : ((σ.set a x).set b y ++ l)[σ.length + k]? = l[k]? := by rw [List.getElem?_append_right (by simp)]; simp
theorem set_app0_2 : ((σ.set a x).set b y ++ l).set σ.length z = (σ.set a x).set b y ++ l.set 0 z := by rw [List.set_append_right _ _ (by simp)]; simp
theorem set_app_2 : ((σ.set a x).set b y ++ l).set (σ.length + k) z = (σ.set a x).set b y ++ l.set k z := by rw [List.set_append_right _ _ (by simp)]; simp
theorem get_old_2 (h : n < σ.length) : ((σ.set a x).set b y ++ l)[n]? = ((σ.set a x).set b y)[n]? := List.getElem?_append_left (by simpa using h)
theorem set_old_2 (h : n < σ.length) : ((σ.set a x).set b y ++ l).set n z = ((σ.set a x).set b y).set n z ++ l := List.set_append_left _ _ (by simpa using h)
theorem get_set (h : a < σ.length) : (σ.set a x)[a]? = some x := List.getElem?_set_self h
theorem get_set_ne (h : a ≠ n) : (σ.set a x)[n]? = σ[n]? := List.getElem?_set_ne h
theorem get_set2 (h : a < σ.length) : ((σ.set b y).set a x)[a]? = some x := List.getElem?_set_self (by simpa using h)
end
attribute [go_sem ↓] get_app0_1 get_app_1 set_app0_1 set_app_1 get_old_1 set_old_1 get_app0_2 get_app_2 set_app0_2 set_app_2 get_old_2 set_old_2 get_set get_set_ne get_set2
attribute [go_sem] List.set_set

theorem TPure.does {P : Program} {f : FuncId} {args : List TV} {σ : TS} {v : TV} (h : TPure P f args σ v) : TDoes P f args σ v σ := h

/-- The rounds of a loop that are to come, behind a structure. -/
structure Rd (P : Program) (wn : List Tmp) (c : Code) (Q : TX → TL → TS → Prop) (n : Nat) (m : TL) (σ : TS) : Prop where
  go : rounds (tw P wn c) Q n m σ
theorem T_open {P : Program} {wn : List Tmp} {c : Code} {Q : TX → TL → TS → Prop} {m : TL} {σ : TS} (n : Nat) (h : Tw P wn c (TX.then (fun m' σ' => Rd P wn c Q n m' σ') Q) m σ) : Tw P wn (.loop c) Q m σ :=
  T_unroll n (T_mono h fun x m s q => by
    cases x with
    | normal => exact Rd.go q
    | exit id => exact q
    | goto l => exact q
    | ret => exact q)
theorem T_next {P : Program} {wn : List Tmp} {c : Code} {Q : TX → TL → TS → Prop} {m : TL} {σ : TS} {n : Nat} (h : Tw P wn c (TX.then (fun m' σ' => Rd P wn c Q n m' σ') Q) m σ) : Rd P wn c Q (n + 1) m σ :=
  ⟨T_round (T_mono h fun x m s q => by
    cases x with
    | normal => exact Rd.go q
    | exit id => exact q
    | goto l => exact q
    | ret => exact q)⟩

/-- A choice whose side is known. -/
theorem O_pickV {P : Program} {wn : List Tmp} {m : TL} {dst : Option Tmp} {σ : TS} {K : Option TV → TS → Prop} {x y z : Operand} {a : TV} {t : Bool} (hx : ev m x = some (.bool t)) (hy : (bif t then ev m y else ev m z) = some a) (h : K (some a) σ) : WO P wn m dst (.pick x y z) σ K := by
  cases t with
  | true => exact O_pickT hx hy h
  | false => exact O_pickF hx hy h

/- what the walk's simp set holds beside -/
attribute [go_sem] if_pos if_neg wrap64_of splice Int.reduceToNat Int.reduceAdd Int.reduceSub Int.reduceMul Nat.reduceMul Nat.reduceAdd Nat.reduceSub TV.free TV.bare1 TV.bareL TV.bare TV.fits TV.fitsL List.map_cons List.map_nil TObj.fits
attribute [go_sem ↓] rowTV_bare1 rowTV_free

end Go.TM

/- The T-machine, part 26: what an append answers where there is a right to it, and on the nil slice. -/
set_option linter.unusedVariables false
set_option linter.unusedSimpArgs false
namespace Go.TM

theorem lt_of_get {α : Type} {σ : List α} {l : Nat} {x : α} (h : σ[l]? = some x) : l < σ.length := (List.getElem?_eq_some_iff.1 h).1
theorem set_same {α : Type} {l : List α} {k : Nat} {x : α} (h : l[k]? = some x) : l.set k x = l := by
  apply List.ext_getElem?
  intro m
  rw [List.getElem?_set]
  split
  · rename_i e
    subst e
    rw [if_pos (lt_of_get h), h]
  · rfl

section
variable {T : Tab} {st xt e : TypeId} {i j : TI} {z x : TV} {w : Bool} {σ : TS} {tk n k : Nat} {cs new : List TV}

theorem app_own (hT : T st = some i) (hk : i.k = .slice e) (hE : T e = some j) (hz : j.zero = some z) (hzl : z.cells.length = j.size) (hsrc : tsrc T σ j.size xt x = some (k, new)) (hone : new.all TV.one = true) (hlen : new.length = k * j.size)
    (hr : σ[tk]? = some (.right n j.size)) (hc : cs.length = n * j.size) (hb : (n + k) * j.bytes ≤ 140737488355328) (hb2 : n + k ≤ 9223372036854775807) :
    tappend T w σ st xt (.sl (some (tk, n)) n cs) x = some (.sl (some (tk, n + k)) (n + k) (cs ++ new), σ.set tk (.right (n + k) j.size)) := by
  unfold tappend
  simp only [hT, hk, hE, hz, hsrc]
  rw [if_pos ⟨hzl, hone, hlen⟩, if_pos hc]
  by_cases h0 : k = 0
  · subst h0
    rw [Nat.zero_mul] at hlen
    obtain rfl := List.eq_nil_of_length_eq_zero hlen
    rw [if_pos rfl, Nat.add_zero, List.append_nil, set_same hr]
  · rw [if_neg h0, if_pos ⟨hb, hb2⟩]
    simp only [hr, and_self, if_true]

/-- As app_own, of a row from whose front was taken. -/
theorem app_ownE {en : Nat} (hT : T st = some i) (hk : i.k = .slice e) (hE : T e = some j) (hz : j.zero = some z) (hzl : z.cells.length = j.size) (hsrc : tsrc T σ j.size xt x = some (k, new)) (hone : new.all TV.one = true) (hlen : new.length = k * j.size)
    (hr : σ[tk]? = some (.right en j.size)) (hc : cs.length = n * j.size) (hb : (n + k) * j.bytes ≤ 140737488355328) (hb2 : n + k ≤ 9223372036854775807) :
    tappend T w σ st xt (.sl (some (tk, en)) n cs) x = some (.sl (some (tk, en + k)) (n + k) (cs ++ new), σ.set tk (.right (en + k) j.size)) := by
  unfold tappend
  simp only [hT, hk, hE, hz, hsrc]
  rw [if_pos ⟨hzl, hone, hlen⟩, if_pos hc]
  by_cases h0 : k = 0
  · subst h0
    rw [Nat.zero_mul] at hlen
    obtain rfl := List.eq_nil_of_length_eq_zero hlen
    rw [if_pos rfl, Nat.add_zero, Nat.add_zero, List.append_nil, set_same hr]
  · rw [if_neg h0, if_pos ⟨hb, hb2⟩]
    simp only [hr, and_self, if_true]

theorem app_nil0 (hT : T st = some i) (hk : i.k = .slice e) (hE : T e = some j) (hz : j.zero = some z) (hzl : z.cells.length = j.size) (hsrc : tsrc T σ j.size xt x = some (0, new)) (hone : new.all TV.one = true) (hlen : new.length = 0 * j.size) :
    tappend T w σ st xt .nils x = some (.nils, σ) := by
  unfold tappend
  simp only [hT, hk, hE, hz, hsrc]
  rw [if_pos ⟨hzl, hone, hlen⟩]
  simp
theorem app_nil (hT : T st = some i) (hk : i.k = .slice e) (hE : T e = some j) (hz : j.zero = some z) (hzl : z.cells.length = j.size) (hsrc : tsrc T σ j.size xt x = some (k, new)) (hone : new.all TV.one = true) (hlen : new.length = k * j.size)
    (h0 : k ≠ 0) (hb : k * j.bytes ≤ 140737488355328) (hb2 : k ≤ 9223372036854775807) :
    tappend T true σ st xt .nils x = some (.sl (some (σ.length, k)) k new, σ ++ [.right k j.size]) := by
  unfold tappend
  simp only [hT, hk, hE, hz, hsrc]
  rw [if_pos ⟨hzl, hone, hlen⟩, if_neg h0, if_pos ⟨hb, hb2⟩]
  rfl

theorem src_sl {own : Option (Nat × Nat)} (hX : T xt = some i) (hk : i.k = .slice e) {sz : Nat} (hc : cs.length = n * sz) : tsrc T σ sz xt (.sl own n cs) = some (n, cs) := by
  unfold tsrc
  simp only [hX, hk, tslcells, tlen]
  rw [if_pos (by omega), List.take_of_length_le (by omega)]
theorem src_nils (hX : T xt = some i) (hk : i.k = .slice e) {sz : Nat} : tsrc T σ sz xt .nils = some (0, []) := by
  unfold tsrc
  simp only [hX, hk, tslcells, tlen]
  rw [if_pos (by simp)]
  simp
theorem src_row {α : Type} {f : α → List TV} {r : Row α} (hX : T xt = some i) (hk : i.k = .slice e) {sz : Nat} (hf : ∀ x, (f x).length = sz) : tsrc T σ sz xt (rowTV f r) = some (r.l.length, r.l.flatMap f) := by
  cases hn : r.nil with
  | true => rw [rowTV_nil hn, src_nils hX hk, r.ok hn]; rfl
  | false => rw [rowTV_some hn, src_sl hX hk (flat_length hf _)]
theorem src_str (hX : T xt = some i) (hk : i.k = .str) (s : ByteArray) : tsrc T σ 1 xt (.str s) = some (s.size, byteTVs s) := by
  unfold tsrc
  simp only [hX, hk, if_true]
end
theorem O_arrp {P : Program} {wn : List Tmp} {m : TL} {dst : Option Tmp} {σ : TS} {K : Option TV → TS → Prop} {t : TypeId} {x : Operand} {a : TV} (hx : ev m x = some a) (h : Res (tarrp (mkTab P) t a) fun v => K (some v) σ) : WO P wn m dst (.sliceToArrayPointer t x) σ K := by
  refine ⟨?_⟩
  simp only [tO, tOper, tOp, hx]
  exact res_v h.go
attribute [go_sem] tarrp
end Go.TM
