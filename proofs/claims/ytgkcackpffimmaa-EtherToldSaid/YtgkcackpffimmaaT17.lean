/- The T-machine, part 17: regions whose order of evaluation the language leaves open: one order is walked; what is read ahead is held against what comes between. -/
import Derived.Test.YtgkcackpffimmaaT16
import Derived.Orders
set_option linter.unusedVariables false
set_option linter.unusedSimpArgs false
namespace Go.TM
open Go (getD_set_ne ready_mono mem_ready linearise_go_acc)

section
variable {P : Program} {wn : List Tmp} {ops : Array Oper}

/- what an operation looks at -/
theorem ev_put {m : TL} {dst : Option Tmp} {r : Option TV} {x : Operand} (h : ∀ d, dst = some d → x ≠ .tmp d) : ev (tput m dst r) x = ev m x := by
  cases dst with
  | none => rfl
  | some d =>
    cases x with
    | tmp t =>
      have hne : d ≠ t := fun e => h d rfl (e ▸ rfl)
      simp only [ev, tput, List.getElem?_set_ne hne]
    | _ => rfl

theorem evs_congr {m m' : TL} : ∀ {xs : List Operand}, (∀ x ∈ xs, ev m x = ev m' x) → evs m xs = evs m' xs
  | [], _ => rfl
  | x :: xs, h => by
    simp only [evs]
    rw [h x (by simp), evs_congr fun y hy => h y (by simp [hy])]

theorem evParts_congr {m m' : TL} : ∀ {xs : List (Nat × Operand)}, (∀ x ∈ xs, ev m x.2 = ev m' x.2) → evParts m xs = evParts m' xs
  | [], _ => rfl
  | (i, x) :: xs, h => by
    simp only [evParts]
    rw [h (i, x) (by simp), evParts_congr fun y hy => h y (by simp [hy])]

theorem evB_congr {m m' : TL} {x : Option Operand} (h : ∀ y, x = some y → ev m y = ev m' y) : evB m x = evB m' x := by
  cases x with
  | none => rfl
  | some y => simp only [evB, h y rfl]

theorem tOp_congr {T : Tab} {m m' : TL} {o : Oper} {σ : TS} (h : ∀ x ∈ o.op.operands, ev m x = ev m' x) : tOp T wn m o σ = tOp T wn m' o σ := by
  obtain ⟨dst, op, type, pos, after, guard⟩ := o
  cases op <;> simp only [Op.operands] at h <;> simp only [tOp]
  case build t ps => rw [evParts_congr (m' := m') fun x hx => h x.2 (by simp; exact ⟨x.1, by simpa using hx⟩)]
  case buildSlice t n ps => rw [evParts_congr (m' := m') fun x hx => h x.2 (by simp; exact ⟨x.1, by simpa using hx⟩)]
  case makeFunc fn first captured =>
    rw [evs_congr (m' := m') (xs := first.toList) fun x hx => h x (by simp at hx; simp [hx]), evs_congr (m' := m') (xs := captured.toList) fun x hx => h x (by simp at hx; simp [hx])]
  case pick c a b =>
    rw [h c (by simp)]
    split
    · rename_i t _
      cases t
      · simp only [Bool.false_eq_true, if_false]; rw [h b (by simp)]
      · simp only [if_true]; rw [h a (by simp)]
    · rfl
  case slice t x lo hi mx =>
    rw [h x (by simp), evB_congr (m' := m') (x := lo) fun y e => h y (by subst e; simp), evB_congr (m' := m') (x := hi) fun y e => h y (by subst e; simp), evB_congr (m' := m') (x := mx) fun y e => h y (by subst e; simp)]
  case call c =>
    obtain ⟨callee, args, ts⟩ := c
    cases callee with
    | builtin b => simp only; rw [evs_congr (m' := m') (xs := args.toList) fun x hx => h x (by simp at hx; simp [Call.operands, hx])]
    | _ => rfl
  case makeMap t r => cases r <;> rfl
  all_goals (first | rfl | (simp_all; done))

theorem tOper_congr {m m' : TL} {o : Oper} {σ : TS} {K : Option TV → TS → Prop} (h : ∀ x ∈ o.op.operands, ev m x = ev m' x) : tOper P wn m o σ K ↔ tOper P wn m' o σ K := by
  unfold tOper
  rw [tOp_congr h]
  split
  · rename_i f xs ts hop
    rw [hop] at h
    rw [h f (by simp [Op.operands, Call.operands]), evs_congr (m' := m') fun x hx => h x (by simp at hx; simp [Op.operands, Call.operands, hx])]
  · rename_i r name xs ts hop
    rw [hop] at h
    rw [h r (by simp [Op.operands, Call.operands]), evs_congr (m' := m') fun x hx => h x (by simp at hx; simp [Op.operands, Call.operands, hx])]
  · exact Iff.rfl

theorem tyield_put {m : TL} {dst : Option Tmp} {r : Option TV} {g : Nat} (h : ∀ d, dst = some d → (ops[g]?).bind (·.dst) ≠ some d) : tyield ops (tput m dst r) g = tyield ops m g := by
  cases dst with
  | none => rfl
  | some d =>
    unfold tyield
    cases ht : (ops[g]?).bind (·.dst) with
    | none => rfl
    | some t =>
      have hne : d ≠ t := fun e => h d rfl (by rw [ht, e])
      simp only [Option.bind_some, tput, List.getElem?_set_ne hne]

theorem tStep_put {m : TL} {dst : Option Tmp} {r : Option TV} {o : Oper} {σ : TS} {K : Option TV → TS → Prop} (h : ∀ d, dst = some d → d ∉ o.looksAt ops) :
    tStep P wn ops (tput m dst r) o σ K ↔ tStep P wn ops m o σ K := by
  have hw : twanted ops (tput m dst r) o = twanted ops m o := by
    unfold twanted
    cases hg : o.guard with
    | none => rfl
    | some gw =>
      obtain ⟨g, want⟩ := gw
      simp only
      rw [tyield_put fun d hd he => h d hd (by simp [Oper.looksAt, hg, he])]
  unfold tStep
  rw [hw]
  split
  · exact tOper_congr fun x hx => ev_put fun d hd hxd => h d hd (by
      subst hxd
      exact List.mem_append_left _ (List.mem_filterMap.2 ⟨.tmp d, by simpa using hx, rfl⟩))
  · exact Iff.rfl
  · exact Iff.rfl

theorem tStep_mono {m : TL} {o : Oper} {σ : TS} {K K' : Option TV → TS → Prop} (h : tStep P wn ops m o σ K) (hk : ∀ r σ', K r σ' → K' r σ') : tStep P wn ops m o σ K' := by
  unfold tStep at h ⊢
  split at h
  · exact tOper_mono h hk
  · exact hk _ _ h
  · exact h.elim

theorem tput_comm (m : TL) {x y : Option Tmp} (v u : Option TV) (h : ∀ d, x = some d → y ≠ some d) : tput (tput m x v) y u = tput (tput m y u) x v := by
  cases x with
  | none => rfl
  | some d =>
    cases y with
    | none => rfl
    | some e =>
      have hne : d ≠ e := fun q => h d rfl (by rw [q])
      simp only [tput]
      rw [List.set_comm _ _ hne]

/- every order -/
abbrev Held := List (Nat × (TS → Prop))

def isAfter (ops : Array Oper) (j k : Nat) : Bool := match ops[j]? with
  | some o => o.after.toList.any fun e => Region.binds .any e && e.on == k
  | none => false

def keep (ops : Array Oper) (j : Nat) (pend : Held) : Held := pend.filter fun p => !isAfter ops j p.1

def stepT (P : Program) (wn : List Tmp) (ops : Array Oper) (i : Nat) (K : TL → TS → Prop) (m : TL) (σ : TS) : Prop :=
  match ops[i]? with
  | none => K m σ
  | some o => tStep P wn ops m o σ fun r σ' => K (tput m o.dst r) σ'

theorem stepT_mono {i : Nat} {m : TL} {σ : TS} {K K' : TL → TS → Prop} (h : stepT P wn ops i K m σ) (hk : ∀ m' σ', K m' σ' → K' m' σ') : stepT P wn ops i K' m σ := by
  unfold stepT at h ⊢
  split at h
  · exact hk _ _ h
  · exact tStep_mono h fun r σ' q => hk _ _ q

def anyH (P : Program) (wn : List Tmp) (ops : Array Oper) (Q : TL → TS → Prop) : Nat → Held → Array Bool → TL → TS → Prop
  | 0, pend, listed, m, σ => (∀ p ∈ pend, p.2 σ) ∧ Region.ready .any ops listed = [] ∧ Q m σ
  | fuel + 1, pend, listed, m, σ => (∀ p ∈ pend, p.2 σ) ∧ (Region.ready .any ops listed = [] → Q m σ) ∧
      ∀ i ∈ Region.ready .any ops listed, stepT P wn ops i (anyH P wn ops Q fuel (keep ops i pend) (listed.setIfInBounds i true)) m σ

variable {Q : TL → TS → Prop}

theorem anyH_sub : ∀ (fuel : Nat) {pend pend' : Held} {listed : Array Bool} {m : TL} {σ : TS}, (∀ p, p ∈ pend' → p ∈ pend ∨ ∀ τ, p.2 τ) → anyH P wn ops Q fuel pend listed m σ → anyH P wn ops Q fuel pend' listed m σ
  | 0, pend, pend', listed, m, σ, hs, h => ⟨fun p hp => (hs p hp).elim (h.1 p) (fun q => q σ), h.2⟩
  | fuel + 1, pend, pend', listed, m, σ, hs, h => ⟨fun p hp => (hs p hp).elim (h.1 p) (fun q => q σ), h.2.1, fun i hi => stepT_mono (h.2.2 i hi) fun m' σ' q =>
      anyH_sub fuel (fun p hp => by
        simp only [keep, List.mem_filter] at hp ⊢
        exact (hs p hp.1).imp (fun q => ⟨q, hp.2⟩) id) q⟩

theorem anyH_sound : ∀ (fuel t : Nat) (pend : Held) (listed : Array Bool) (m : TL) (σ : TS), anyH P wn ops Q fuel pend listed m σ →
    twOps P wn ops Q (Region.linearise.go .any ops fuel t listed []) m σ := by
  intro fuel
  induction fuel with
  | zero => intro t pend listed m σ h; simpa [Region.linearise.go, twOps] using h.2.2
  | succ fuel ih =>
    intro t pend listed m σ h
    obtain ⟨-, h₀, h₁⟩ := h
    simp only [Region.linearise.go]
    change twOps P wn ops Q (match (Region.ready .any ops listed)[t % (Region.ready .any ops listed).length]? with
      | some i => Region.linearise.go .any ops fuel (t / (Region.ready .any ops listed).length) (listed.setIfInBounds i true) [i]
      | none => [].reverse) m σ
    cases hi : (Region.ready .any ops listed)[t % (Region.ready .any ops listed).length]? with
    | none =>
      have hnil : Region.ready .any ops listed = [] := by
        cases hr : Region.ready .any ops listed with
        | nil => rfl
        | cons x xs =>
          rw [hr] at hi
          have hlt : t % (x :: xs).length < (x :: xs).length := Nat.mod_lt _ (by simp)
          simp at hi
          simp at hlt
          omega
      simpa [twOps] using h₀ hnil
    | some i =>
      simp only []
      rw [linearise_go_acc, List.reverse_singleton, List.singleton_append]
      have h2 := h₁ i (List.mem_of_getElem? hi)
      unfold stepT at h2
      simp only [twOps]
      split at h2
      · rename_i hn
        simp only [hn]
        exact ih _ _ _ _ _ h2
      · rename_i o ho
        simp only [ho]
        unfold tStep at h2
        split at h2
        · rename_i hw; simp only [hw]; exact tOper_mono h2 fun r σ' q => ih _ _ _ _ _ q
        · rename_i hw; simp only [hw]; exact ih _ _ _ _ _ h2
        · exact h2.elim

/-- An operation that only reads may be taken ahead of the others. -/
theorem anyH_take {i : Nat} {oi : Oper} {r : Option TV} (hi : ops[i]? = some oi) (H : TS → Prop) :
    ∀ (fuel : Nat) (pend : Held) (listed : Array Bool) (m : TL) (σ : TS),
      (∀ j oj, ops[j]? = some oj → j ≠ i → listed.getD j true = false → (∀ e ∈ oj.after, Region.binds .any e = true → e.on ≠ i) → oi.apart ops oj = true) →
      i ∈ Region.ready .any ops listed → (∀ τ, H τ → ∀ K : Option TV → TS → Prop, K r τ → tStep P wn ops m oi τ K) →
      anyH P wn ops Q fuel ((i, H) :: pend) (listed.setIfInBounds i true) (tput m oi.dst r) σ → anyH P wn ops Q (fuel + 1) pend listed m σ := by
  intro fuel
  induction fuel with
  | zero =>
    intro pend listed m σ _ hr hy h
    have hh := h.1 (i, H) (by simp)
    refine ⟨fun p hp => h.1 p (by simp [hp]), fun e => (by rw [e] at hr; cases hr), fun j hj => ?_⟩
    by_cases hji : j = i
    · subst hji
      unfold stepT
      simp only [hi]
      exact hy σ hh _ (anyH_sub 0 (fun p hp => .inl (by simp only [keep, List.mem_filter] at hp; simp [hp.1])) h)
    · have := ready_mono hj hji
      rw [h.2.1] at this
      cases this
  | succ fuel ih =>
    intro pend listed m σ hfree hr hy h
    have hh := h.1 (i, H) (by simp)
    refine ⟨fun p hp => h.1 p (by simp [hp]), fun e => (by rw [e] at hr; cases hr), fun j hj => ?_⟩
    by_cases hji : j = i
    · subst hji
      unfold stepT
      simp only [hi]
      exact hy σ hh _ (anyH_sub _ (fun p hp => .inl (by simp only [keep, List.mem_filter] at hp; simp [hp.1])) h)
    · have h1 := h.2.2 j (ready_mono hj hji)
      obtain ⟨hjun, oj, hoj, hall⟩ := mem_ready.1 hj
      have hnot : ∀ e ∈ oj.after, Region.binds .any e = true → e.on ≠ i := fun e he hb heq => by
        have h1 := hall e he hb
        have h0 := (mem_ready.1 hr).1
        rw [heq] at h1
        rcases Nat.lt_or_ge i listed.size with h' | h'
        · simp [h'] at h0 h1; rw [h0] at h1; cases h1
        · simp [Array.getElem?_eq_none h'] at h1
      obtain ⟨a1, a2, a3⟩ := Oper.apart_spec (hfree j oj hoj hji hjun hnot)
      have hkeep : keep ops j ((i, H) :: pend) = (i, H) :: keep ops j pend := by
        unfold keep
        rw [List.filter_cons, if_pos]
        simp only [isAfter, hoj, Bool.not_eq_true']
        rw [Bool.eq_false_iff]
        intro he
        obtain ⟨e, he, hb⟩ := List.any_eq_true.1 he
        simp only [Bool.and_eq_true, beq_iff_eq] at hb
        exact hnot e (by simpa using he) hb.1 hb.2
      rw [hkeep] at h1
      unfold stepT at h1 ⊢
      simp only [hoj] at h1 ⊢
      rw [tStep_put a1] at h1
      refine tStep_mono h1 fun r' σ' q => ?_
      have hfree' : ∀ k ok, ops[k]? = some ok → k ≠ i → (listed.setIfInBounds j true).getD k true = false →
          (∀ e ∈ ok.after, Region.binds .any e = true → e.on ≠ i) → oi.apart ops ok = true := fun k ok hk hki hun hno => by
        refine hfree k ok hk hki ?_ hno
        by_cases hjk : j = k
        · subst hjk; exact hjun
        · rw [getD_set_ne true hjk] at hun; exact hun
      refine ih _ _ _ _ hfree' (ready_mono hr (Ne.symm hji)) (fun τ ht K hK => (tStep_put a3).2 (hy τ ht K hK)) ?_
      rw [Array.setIfInBounds_comm _ _ hji, ← tput_comm m r r' a2]
      exact q

/-- Of what kind an operation is for the order: 0: it hangs on nothing but its operands; 1: it may look at the heap; 2: it may turn it. -/
def kindOf (o : Oper) : Nat := match o.op with
  | .move _ | .assign _ | .pick .. | .build .. | .nilCheck _ | .binOp .. | .unOp .. | .makeInterface .. | .makeFunc .. | .slice .. | .fieldAddr .. | .field .. | .indexAddr .. | .index .. | .extract .. | .typeAssert .. | .sliceToArrayPointer .. => 0
  | .call { callee := .builtin .len, .. } | .call { callee := .builtin .min, .. } | .call { callee := .builtin .max, .. } => 0
  | .load .. | .convert .. | .buildSlice .. | .lookup .. => 1
  | _ => 2

theorem vres_pure {x : Option TV} {σ σ' : TS} {r : Option TV} (e : vres x σ = some (r, σ')) : σ' = σ ∧ ∀ τ, vres x τ = some (r, τ) := by
  obtain ⟨v, rfl, rfl, rfl⟩ := vres_some e
  exact ⟨rfl, fun _ => rfl⟩

theorem tbuiltin_pure {T : Tab} {b : Builtin} {w : Bool} {ts : List TypeId} {xs : List TV} {σ σ' : TS} {r : Option TV} (hb : b = .len ∨ b = .min ∨ b = .max) (h : tbuiltin T w σ b ts xs = some (r, σ')) :
    σ' = σ ∧ ∀ τ, tbuiltin T w τ b ts xs = some (r, τ) := by
  rcases hb with rfl | rfl | rfl
  · match ts, xs, h with
    | [t], [x], h => exact vres_pure h
  · match xs, h with
    | x :: ys, h => exact vres_pure h
  · match xs, h with
    | x :: ys, h => exact vres_pure h

theorem tOp_pure {T : Tab} {m : TL} {o : Oper} {σ σ' : TS} {r : Option TV} (hk : kindOf o = 0) (h : tOp T wn m o σ = some (r, σ')) : σ' = σ ∧ ∀ τ, tOp T wn m o τ = some (r, τ) := by
  obtain ⟨dst, op, type, pos, after, guard⟩ := o
  cases op
  case call c =>
    obtain ⟨callee, args, ts⟩ := c
    cases callee with
    | builtin b =>
      have hb : b = .len ∨ b = .min ∨ b = .max := by cases b <;> first | (simp [kindOf] at hk; done) | simp
      simp only [tOp] at h ⊢
      split at h
      · exact tbuiltin_pure hb h
      · cases h
    | _ => simp [kindOf] at hk
  case nilCheck x =>
    simp only [tOp] at h ⊢
    split at h
    · split at h
      · rename_i hs
        cases h
        exact ⟨rfl, fun τ => by rw [if_pos hs]⟩
      · cases h
    · cases h
  all_goals first
    | (simp [kindOf] at hk; done)
    | (simp only [tOp] at h ⊢
       first
         | exact vres_pure h
         | (split at h <;> first | exact vres_pure h | (cases h; done) | (split at h <;> first | exact vres_pure h | (cases h; exact ⟨rfl, fun _ => rfl⟩) | (cases h; done)) | (cases h; exact ⟨rfl, fun _ => rfl⟩)))

theorem tStep_det {m : TL} {o : Oper} {σ : TS} {C : Option TV → TS → Prop} (hk : kindOf o < 2) (h : tStep P wn ops m o σ C) :
    ∃ r σ', C r σ' ∧ (∀ K : Option TV → TS → Prop, K r σ' → tStep P wn ops m o σ K) ∧ (kindOf o = 0 → σ' = σ ∧ ∀ τ, ∀ K : Option TV → TS → Prop, K r τ → tStep P wn ops m o τ K) := by
  unfold tStep at h ⊢
  split at h
  · unfold tOper at h ⊢
    split at h
    · rename_i hop; exfalso; revert hk; simp [kindOf, hop]
    · rename_i hop; exfalso; revert hk; simp [kindOf, hop]
    · split at h
      · rename_i r σ' e
        refine ⟨r, σ', h, fun K hK => hK, fun k0 => ?_⟩
        obtain ⟨rfl, e2⟩ := tOp_pure k0 e
        exact ⟨rfl, fun τ K hK => by rw [e2 τ]; exact hK⟩
      · exact h.elim
  · exact ⟨_, _, h, fun K hK => hK, fun _ => ⟨rfl, fun τ K hK => hK⟩⟩
  · exact h.elim

def runD (P : Program) (wn : List Tmp) (ops : Array Oper) (Q : TL → TS → Prop) : List (Nat × Oper) → Held → TL → TS → Prop
  | [], pend, m, σ => Q m σ
  | (i, o) :: ord, pend, m, σ => tStep P wn ops m o σ fun r σ' =>
      if kindOf o = 0 then runD P wn ops Q ord pend (tput m o.dst r) σ'
      else if kindOf o = 1 then σ' = σ ∧ runD P wn ops Q ord ((i, fun τ => ∀ K : Option TV → TS → Prop, K r τ → tStep P wn ops m o τ K) :: pend) (tput m o.dst r) σ'
      else (∀ p ∈ keep ops i pend, p.2 σ') ∧ runD P wn ops Q ord (keep ops i pend) (tput m o.dst r) σ'

/-- An order that may stand for all: each operation is ready at its time; those that turn the heap have no choice. -/
def okOrd (ops : Array Oper) : Array Bool → List Nat → Bool
  | listed, [] => (Region.ready .any ops listed).isEmpty
  | listed, i :: ord => (match ops[i]? with
    | some o => if kindOf o < 2 then (Region.ready .any ops listed).contains i && Region.free .any ops listed i else Region.ready .any ops listed == [i]
    | none => false) && okOrd ops (listed.setIfInBounds i true) ord

def pairs (ops : Array Oper) : List Nat → List (Nat × Oper)
  | [] => []
  | i :: ord => match ops[i]? with
    | some o => (i, o) :: pairs ops ord
    | none => []

theorem runD_any : ∀ (ord : List Nat) (pend : Held) (listed : Array Bool) (m : TL) (σ : TS), okOrd ops listed ord = true → (∀ p ∈ pend, p.2 σ) → runD P wn ops Q (pairs ops ord) pend m σ →
    anyH P wn ops Q ord.length pend listed m σ
  | [], pend, listed, m, σ, ho, hp, h => ⟨hp, by simpa [okOrd] using ho, h⟩
  | i :: ord, pend, listed, m, σ, ho, hp, h => by
    simp only [okOrd, Bool.and_eq_true] at ho
    obtain ⟨h1, h2⟩ := ho
    cases hi : ops[i]? with
    | none => simp [hi] at h1
    | some o =>
      simp only [hi] at h1
      simp only [pairs, hi, runD] at h
      by_cases k0 : kindOf o = 0
      · rw [if_pos (by omega)] at h1
        simp only [Bool.and_eq_true, List.contains_iff_mem] at h1
        simp only [k0, if_true] at h
        obtain ⟨r, σ', h3, -, h4⟩ := tStep_det (by omega) h
        obtain ⟨rfl, q1⟩ := h4 k0
        refine anyH_take hi (fun _ => True) ord.length pend listed m _ (Region.free_spec hi h1.2) h1.1 (fun τ _ K hK => q1 τ K hK) ?_
        exact anyH_sub _ (fun p hp => by
          rcases List.mem_cons.1 hp with rfl | hp
          · exact .inr fun _ => trivial
          · exact .inl hp) (runD_any ord pend _ _ _ h2 hp h3)
      · by_cases k1 : kindOf o = 1
        · rw [if_pos (by omega)] at h1
          simp only [Bool.and_eq_true, List.contains_iff_mem] at h1
          simp only [k1, if_true, Nat.succ_ne_zero, if_false] at h
          obtain ⟨r, _, ⟨rfl, q2⟩, q1, -⟩ := tStep_det (by omega) h
          refine anyH_take hi (fun τ => ∀ K : Option TV → TS → Prop, K r τ → tStep P wn ops m o τ K) ord.length pend listed m _ (Region.free_spec hi h1.2) h1.1 (fun τ ht K hK => ht K hK) ?_
          exact runD_any ord _ _ _ _ h2 (fun p hp' => by
            rcases List.mem_cons.1 hp' with rfl | hp'
            · exact q1
            · exact hp p hp') q2
        · have k2 : ¬ kindOf o < 2 := by omega
          rw [if_neg k2] at h1
          have h1 : Region.ready .any ops listed = [i] := by simpa using h1
          simp only [k0, k1, if_false] at h
          refine ⟨hp, fun e => (by rw [h1] at e; cases e), fun j hj => ?_⟩
          rw [h1] at hj
          obtain rfl : j = i := by simpa using hj
          unfold stepT
          simp only [hi]
          exact tStep_mono h fun r σ' q => runD_any ord _ _ _ _ h2 q.1 q.2

theorem tw_drawn {id : Nat} {X : TX → TL → TS → Prop} {m : TL} {σ : TS} (hm : P.follows .mixedOrders = true) (ord : List Nat) (hn : ord.length = ops.size) (ho : okOrd ops (Array.replicate ops.size false) ord = true)
    (h : runD P wn ops (X .normal) (pairs ops ord) [] m σ) : tw P wn (.region id ops true) X m σ := by
  simp only [tw, if_true]
  intro t
  simp only [Region.schedule, hm, Bool.true_or, if_true]
  unfold Region.linearise
  refine anyH_sound ops.size t [] _ m σ ?_
  rw [← hn] at ho ⊢
  exact runD_any ord [] _ m σ ho (by simp) h

/- the words of the walk -/
theorem tw_draw_seq {id : Nat} {y : Code} {X : TX → TL → TS → Prop} {m : TL} {σ : TS} (hm : P.follows .mixedOrders = true) (ord : List Nat) (hn : ord.length = ops.size) (ho : okOrd ops (Array.replicate ops.size false) ord = true)
    (h : ∀ K : TL → TS → Prop, (∀ m σ, tw P wn y X m σ → K m σ) → runD P wn ops K (pairs ops ord) [] m σ) : tw P wn (.seq (.region id ops true) y) X m σ :=
  tw_seq (tw_drawn hm ord hn ho (h _ fun _ _ h => h))
theorem tw_draw_end {id : Nat} {X : TX → TL → TS → Prop} {m : TL} {σ : TS} (hm : P.follows .mixedOrders = true) (ord : List Nat) (hn : ord.length = ops.size) (ho : okOrd ops (Array.replicate ops.size false) ord = true)
    (h : ∀ K : TL → TS → Prop, (∀ m σ, X .normal m σ → K m σ) → runD P wn ops K (pairs ops ord) [] m σ) : tw P wn (.region id ops true) X m σ :=
  tw_drawn hm ord hn ho (h _ fun _ _ h => h)

theorem runD_nil {pend : Held} {m : TL} {σ : TS} : runD P wn ops Q [] pend m σ ↔ Q m σ := by
  rw [runD]

/-- An operation that looks at no heap. -/
theorem runD_0 {i : Nat} {o : Oper} {ord : List (Nat × Oper)} {pend : Held} {m : TL} {σ : TS} (hk : kindOf o = 0)
    (h : ∀ K : Option TV → TS → Prop, (∀ r σ', runD P wn ops Q ord pend (tput m o.dst r) σ' → K r σ') → tStep P wn ops m o σ K) : runD P wn ops Q ((i, o) :: ord) pend m σ := by
  rw [runD]
  simp only [hk, if_true]
  exact h _ fun _ _ h => h
/-- One that may look at it. -/
theorem runD_1 {i : Nat} {o : Oper} {ord : List (Nat × Oper)} {pend : Held} {m : TL} {σ : TS} (hk : kindOf o = 1)
    (h : ∀ K : Option TV → TS → Prop, (∀ r, runD P wn ops Q ord ((i, fun τ => ∀ K : Option TV → TS → Prop, K r τ → tStep P wn ops m o τ K) :: pend) (tput m o.dst r) σ → K r σ) → tStep P wn ops m o σ K) : runD P wn ops Q ((i, o) :: ord) pend m σ := by
  rw [runD]
  simp only [hk, if_true, Nat.succ_ne_zero, if_false]
  exact h _ fun _ h => ⟨rfl, h⟩
/-- One that may turn it. -/
theorem runD_2 {i : Nat} {o : Oper} {ord : List (Nat × Oper)} {pend : Held} {m : TL} {σ : TS} (hk : kindOf o = 2)
    (h : ∀ K : Option TV → TS → Prop, (∀ r σ', (∀ p ∈ keep ops i pend, p.2 σ') ∧ runD P wn ops Q ord (keep ops i pend) (tput m o.dst r) σ' → K r σ') → tStep P wn ops m o σ K) : runD P wn ops Q ((i, o) :: ord) pend m σ := by
  rw [runD]
  simp only [hk, show (2 : Nat) ≠ 0 by decide, show (2 : Nat) ≠ 1 by decide, if_false]
  exact h _ fun _ _ h => h
end

end Go.TM
