/- The T-machine, part 27: drawing regions at whose end two operations that turn the heap may stand in either order: both orders are walked. -/
import Derived.Test.YtgkcackpffimmaaT26
set_option linter.unusedVariables false
set_option linter.unusedSimpArgs false
namespace Go.TM

section
variable {P : Program} {wn : List Tmp} {ops : Array Oper} {Q : TL → TS → Prop}

/-- As twE; at the end what is held is told too. -/
def twK (P : Program) (wn : List Tmp) (ops : Array Oper) (K : Held → TL → TS → Prop) : List (Nat × Oper × Nat) → Held → TL → TS → Prop
  | [], pend, m, σ => K pend m σ
  | (i, o, 0) :: ord, pend, m, σ => kindOf o = 0 ∧ ∃ r, (∀ K : Option TV → TS → Prop, K r σ → tStep P wn ops m o σ K) ∧ twK P wn ops K ord pend (tput m o.dst r) σ
  | (i, o, 1) :: ord, pend, m, σ => ∃ r, (∀ K : Option TV → TS → Prop, K r σ → tStep P wn ops m o σ K) ∧ twK P wn ops K ord ((i, HeldOp P wn ops m o r) :: pend) (tput m o.dst r) σ
  | (i, o, _ + 2) :: ord, pend, m, σ => False

def okK (ops : Array Oper) (F : Array Bool → Bool) : Array Bool → List (Nat × Nat) → Bool
  | listed, [] => F listed
  | listed, (i, k) :: ord => ((Region.ready .any ops listed).contains i && Region.free .any ops listed i) && okK ops F (listed.setIfInBounds i true) ord

theorem twK_any {n : Nat} {F : Array Bool → Bool} {K : Held → TL → TS → Prop} (hK : ∀ (pend : Held) (listed : Array Bool) (m : TL) (σ : TS), F listed = true → (∀ p ∈ pend, p.2 σ) → K pend m σ → anyH P wn ops Q n pend listed m σ) :
    ∀ (ord : List (Nat × Nat)) (pend : Held) (listed : Array Bool) (m : TL) (σ : TS), okK ops F listed ord = true → (∀ p ∈ pend, p.2 σ) → ord.length = (triples ops ord).length → twK P wn ops K (triples ops ord) pend m σ →
    anyH P wn ops Q (n + ord.length) pend listed m σ
  | [], pend, listed, m, σ, ho, hp, _, h => hK pend listed m σ ho hp h
  | (i, k) :: ord, pend, listed, m, σ, ho, hp, hl, h => by
    simp only [okK, Bool.and_eq_true] at ho
    obtain ⟨h1, h2⟩ := ho
    cases hi : ops[i]? with
    | none => simp [triples, hi] at hl
    | some o =>
      simp only [triples, hi, List.length_cons, Nat.add_right_cancel_iff] at hl h
      simp only [List.contains_iff_mem] at h1
      match k, h with
      | 0, h =>
        simp only [twK] at h
        obtain ⟨hk, r, h3, h4⟩ := h
        refine anyH_take hi (fun _ => True) (n + ord.length) pend listed m σ (Region.free_spec hi h1.2) h1.1 (fun τ _ K hK => tStep_pure0 hk h3 τ K hK) ?_
        exact anyH_sub _ (fun p hp => by
          rcases List.mem_cons.1 hp with rfl | hp
          · exact .inr fun _ => trivial
          · exact .inl hp) (twK_any hK ord pend _ _ _ h2 hp hl h4)
      | 1, h =>
        simp only [twK] at h
        obtain ⟨r, h3, h4⟩ := h
        refine anyH_take hi (HeldOp P wn ops m o r) (n + ord.length) pend listed m σ (Region.free_spec hi h1.2) h1.1 (fun τ ht K hK => ht.go K hK) ?_
        exact twK_any hK ord _ _ _ _ h2 (fun p hp' => by
          rcases List.mem_cons.1 hp' with rfl | hp'
          · exact ⟨h3⟩
          · exact hp p hp') hl h4
      | k + 2, h => simp only [twK] at h

theorem step_any {i : Nat} {la : List (Nat × Nat)} {pend : Held} {listed : Array Bool} {m : TL} {σ : TS} (hl : la.length + 1 = (triples ops ((i, 2) :: la)).length) (ho : okE ops (listed.setIfInBounds i true) la = true) (h : twE P wn ops Q (triples ops ((i, 2) :: la)) pend m σ) :
    stepT P wn ops i (anyH P wn ops Q la.length (keep ops i pend) (listed.setIfInBounds i true)) m σ := by
  cases hi : ops[i]? with
  | none => simp [triples, hi] at hl
  | some o =>
    simp only [triples, hi, List.length_cons, Nat.add_right_cancel_iff] at hl h
    simp only [twE] at h
    unfold stepT
    simp only [hi]
    exact tStep_mono h fun r σ' q => twE_any la _ _ _ _ ho q.1 hl q.2

def forkF (ops : Array Oper) (i j : Nat) (la lb : List (Nat × Nat)) (listed : Array Bool) : Bool :=
  Region.ready .any ops listed == [i, j] && okE ops (listed.setIfInBounds i true) la && okE ops (listed.setIfInBounds j true) lb
def forkK (P : Program) (wn : List Tmp) (ops : Array Oper) (Q : TL → TS → Prop) (l1 l2 : List (Nat × Oper × Nat)) (pend : Held) (m : TL) (σ : TS) : Prop :=
  WE P wn ops Q l1 pend m σ ∧ WE P wn ops Q l2 pend m σ

theorem fork_any {i j : Nat} {la lb : List (Nat × Nat)} (he : la.length = lb.length) (hla : la.length + 1 = (triples ops ((i, 2) :: la)).length) (hlb : lb.length + 1 = (triples ops ((j, 2) :: lb)).length)
    (pend : Held) (listed : Array Bool) (m : TL) (σ : TS) (ho : forkF ops i j la lb listed = true) (hp : ∀ p ∈ pend, p.2 σ) (h : forkK P wn ops Q (triples ops ((i, 2) :: la)) (triples ops ((j, 2) :: lb)) pend m σ) :
    anyH P wn ops Q (la.length + 1) pend listed m σ := by
  simp only [forkF, Bool.and_eq_true] at ho
  obtain ⟨⟨h1, h2⟩, h3⟩ := ho
  have h1 : Region.ready .any ops listed = [i, j] := by simpa using h1
  refine ⟨hp, fun e => (by rw [h1] at e; cases e), fun k hk => ?_⟩
  rw [h1] at hk
  rcases List.mem_cons.1 hk with rfl | hk
  · exact step_any hla h2 h.1.go
  · obtain rfl : k = j := by simpa using hk
    rw [he]
    exact step_any hlb h3 h.2.go

structure WK (P : Program) (wn : List Tmp) (ops : Array Oper) (K : Held → TL → TS → Prop) (l : List (Nat × Oper × Nat)) (pend : Held) (m : TL) (σ : TS) : Prop where
  go : twK P wn ops K l pend m σ

theorem tw_fork {id : Nat} {X : TX → TL → TS → Prop} {m : TL} {σ : TS} (pre : List (Nat × Nat)) (i j : Nat) (la lb : List (Nat × Nat)) (hm : P.follows .mixedOrders = true) (hn : la.length + 1 + pre.length = ops.size) (he : la.length = lb.length) (hl : pre.length = (triples ops pre).length)
    (hla : la.length + 1 = (triples ops ((i, 2) :: la)).length) (hlb : lb.length + 1 = (triples ops ((j, 2) :: lb)).length) (ho : okK ops (forkF ops i j la lb) (Array.replicate ops.size false) pre = true)
    (h : twK P wn ops (forkK P wn ops (X .normal) (triples ops ((i, 2) :: la)) (triples ops ((j, 2) :: lb))) (triples ops pre) [] m σ) : tw P wn (.region id ops true) X m σ := by
  simp only [tw, if_true]
  intro t
  simp only [Region.schedule, hm, Bool.true_or, if_true]
  unfold Region.linearise
  refine anyH_sound ops.size t [] _ m σ ?_
  rw [← hn] at ho ⊢
  exact twK_any (fork_any he hla hlb) pre [] _ m σ ho (by simp) hl h

theorem T_fork_seq {id : Nat} {y : Code} {X : TX → TL → TS → Prop} {m : TL} {σ : TS} (pre : List (Nat × Nat)) (i j : Nat) (la lb : List (Nat × Nat)) (hm : P.follows .mixedOrders = true) (hn : la.length + 1 + pre.length = ops.size) (he : la.length = lb.length) (hl : pre.length = (triples ops pre).length)
    (hla : la.length + 1 = (triples ops ((i, 2) :: la)).length) (hlb : lb.length + 1 = (triples ops ((j, 2) :: lb)).length) (ho : okK ops (forkF ops i j la lb) (Array.replicate ops.size false) pre = true)
    (h : ∀ K : TL → TS → Prop, (∀ m σ, Tw P wn y X m σ → K m σ) → WK P wn ops (forkK P wn ops K (triples ops ((i, 2) :: la)) (triples ops ((j, 2) :: lb))) (triples ops pre) [] m σ) : Tw P wn (.seq (.region id ops true) y) X m σ :=
  ⟨tw_seq_k fun K hK => tw_fork pre i j la lb hm hn he hl hla hlb ho (h K fun m σ q => hK m σ q.go).go⟩

variable {dst : Option Tmp} {op : Op} {ty : TypeId} {pos : String} {after : Array Edge} {rest l1 l2 : List (Nat × Oper × Nat)} {m m' : TL} {σ : TS} {i : Nat} {pend : Held} {r : Option TV} {K : Held → TL → TS → Prop}
theorem WK_fork (h1 : WE P wn ops Q l1 pend m σ) (h2 : WE P wn ops Q l2 pend m σ) : WK P wn ops (forkK P wn ops Q l1 l2) [] pend m σ := ⟨by rw [twK]; exact ⟨h1, h2⟩⟩
theorem WK_0 (hk : kindOf { dst := dst, op := op, type := ty, pos := pos, after := after, guard := none } = 0) (h : ∀ K : Option TV → TS → Prop, K r σ → WO P wn m dst op σ K) (e : tput m dst r = m') (h2 : WK P wn ops K rest pend m' σ) :
    WK P wn ops K ((i, { dst := dst, op := op, type := ty, pos := pos, after := after, guard := none }, 0) :: rest) pend m σ := by
  refine ⟨?_⟩
  rw [twK]
  exact ⟨hk, r, fun K hK => (h K hK).go, by rw [e]; exact h2.go⟩
theorem WK_1 (h : ∀ K : Option TV → TS → Prop, K r σ → WO P wn m dst op σ K) (e : tput m dst r = m')
    (h2 : ∀ F : TS → Prop, (∀ τ, HeldOp P wn ops m { dst := dst, op := op, type := ty, pos := pos, after := after, guard := none } r τ → F τ) → WK P wn ops K rest ((i, F) :: pend) m' σ) :
    WK P wn ops K ((i, { dst := dst, op := op, type := ty, pos := pos, after := after, guard := none }, 1) :: rest) pend m σ := by
  refine ⟨?_⟩
  rw [twK]
  exact ⟨r, fun K hK => (h K hK).go, by rw [e]; exact (h2 _ fun τ q => q).go⟩
end
end Go.TM
