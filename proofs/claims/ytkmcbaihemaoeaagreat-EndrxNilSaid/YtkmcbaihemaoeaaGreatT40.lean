/- The T-machine, part 28: a runner: it runs a program's code on trees, so that a closed run is a reckoning. It proves that what it answers is what every call answers. -/
import Derived.Test.YtkmcbaihemaoeaaGreatT41
set_option linter.unusedVariables false
set_option linter.unusedSimpArgs false
namespace Go.TM

/- trees are told apart -/
mutual
def TV.same : TV → TV → Bool
  | .int k n, .int k' n' => k == k' && n == n'
  | .bool b, .bool b' => b == b'
  | .str s, .str s' => s.data.toList == s'.data.toList
  | .ptr l o, .ptr l' o' => l == l' && o == o'
  | .nilp, .nilp => true
  | .cp cs, .cp cs' => TV.sameL cs cs'
  | .sl own n cs, .sl own' n' cs' => own == own' && n == n' && TV.sameL cs cs'
  | .nils, .nils => true
  | .msl l o n, .msl l' o' n' => l == l' && o == o' && n == n'
  | .rp l o, .rp l' o' => l == l' && o == o'
  | .rs l o n s, .rs l' o' n' s' => l == l' && o == o' && n == n' && s == s'
  | .map l, .map l' => l == l'
  | .yl l, .yl l' => l == l'
  | .nilm, .nilm => true
  | .func f a b, .func f' a' b' => (match f, f' with | .func x, .func y => x == y | _, _ => false) && TV.sameL a a' && TV.sameL b b'
  | .nilf, .nilf => true
  | .iface t v, .iface t' v' => t == t' && TV.same v v'
  | .nili, .nili => true
  | .agg cs, .agg cs' => TV.sameL cs cs'
  | .tup cs, .tup cs' => TV.sameL cs cs'
  | _, _ => false
def TV.sameL : List TV → List TV → Bool
  | [], [] => true
  | x :: xs, y :: ys => TV.same x y && TV.sameL xs ys
  | _, _ => false
end
mutual
theorem TV.same_eq : ∀ (x y : TV), TV.same x y = true → x = y
  | .int k n, y, h => by cases y <;> simp [TV.same] at h; obtain ⟨rfl, rfl⟩ := h; rfl
  | .bool b, y, h => by cases y <;> simp [TV.same] at h; subst h; rfl
  | .str s, y, h => by
    cases y <;> simp only [TV.same, beq_iff_eq, Bool.false_eq_true] at h
    rename_i s'
    obtain ⟨⟨a⟩⟩ := s
    obtain ⟨⟨b⟩⟩ := s'
    exact congrArg (fun l => TV.str ⟨⟨l⟩⟩) h
  | .ptr l o, y, h => by cases y <;> simp [TV.same] at h; obtain ⟨rfl, rfl⟩ := h; rfl
  | .nilp, y, h => by cases y <;> simp [TV.same] at h; rfl
  | .cp cs, y, h => by cases y <;> simp [TV.same] at h; rw [TV.sameL_eq _ _ h]
  | .sl own n cs, y, h => by
    cases y <;> simp [TV.same] at h
    obtain ⟨⟨rfl, rfl⟩, h⟩ := h
    rw [TV.sameL_eq _ _ h]
  | .nils, y, h => by cases y <;> simp [TV.same] at h; rfl
  | .msl l o n, y, h => by cases y <;> simp [TV.same] at h; obtain ⟨⟨rfl, rfl⟩, rfl⟩ := h; rfl
  | .rp l o, y, h => by cases y <;> simp [TV.same] at h; obtain ⟨rfl, rfl⟩ := h; rfl
  | .rs l o n s, y, h => by cases y <;> simp [TV.same] at h; obtain ⟨⟨⟨rfl, rfl⟩, rfl⟩, rfl⟩ := h; rfl
  | .map l, y, h => by cases y <;> simp [TV.same] at h; subst h; rfl
  | .yl l, y, h => by cases y <;> simp [TV.same] at h; subst h; rfl
  | .nilm, y, h => by cases y <;> simp [TV.same] at h; rfl
  | .func f a b, y, h => by
    cases y <;> simp only [TV.same, Bool.and_eq_true, Bool.false_eq_true] at h
    obtain ⟨⟨h1, h2⟩, h3⟩ := h
    rw [TV.sameL_eq _ _ h2, TV.sameL_eq _ _ h3]
    split at h1
    · simp only [beq_iff_eq] at h1; rw [h1]
    · cases h1
  | .nilf, y, h => by cases y <;> simp [TV.same] at h; rfl
  | .iface t v, y, h => by
    cases y <;> simp [TV.same] at h
    obtain ⟨rfl, h⟩ := h
    rw [TV.same_eq _ _ h]
  | .nili, y, h => by cases y <;> simp [TV.same] at h; rfl
  | .agg cs, y, h => by cases y <;> simp [TV.same] at h; rw [TV.sameL_eq _ _ h]
  | .tup cs, y, h => by cases y <;> simp [TV.same] at h; rw [TV.sameL_eq _ _ h]
theorem TV.sameL_eq : ∀ (x y : List TV), TV.sameL x y = true → x = y
  | [], y, h => by cases y <;> simp [TV.sameL] at h; rfl
  | x :: xs, y, h => by
    cases y <;> simp [TV.sameL] at h
    rw [TV.same_eq _ _ h.1, TV.sameL_eq _ _ h.2]
end
def TEntry.same (x y : TEntry) : Bool := TV.same x.key y.key && TV.same x.val y.val && x.born == y.born
def entsSame : List TEntry → List TEntry → Bool
  | [], [] => true
  | x :: xs, y :: ys => x.same y && entsSame xs ys
  | _, _ => false
theorem entsSame_eq : ∀ (x y : List TEntry), entsSame x y = true → x = y
  | [], y, h => by cases y <;> simp [entsSame] at h; rfl
  | ⟨k, v, b⟩ :: xs, y, h => by
    cases y with
    | nil => simp [entsSame] at h
    | cons y ys =>
      obtain ⟨k', v', b'⟩ := y
      simp [entsSame, TEntry.same] at h
      obtain ⟨⟨⟨h1, h2⟩, rfl⟩, h3⟩ := h
      rw [TV.same_eq _ _ h1, TV.same_eq _ _ h2, entsSame_eq _ _ h3]
def TObj.same : TObj → TObj → Bool
  | .cells a, .cells b => TV.sameL a b
  | .right t s, .right t' s' => t == t' && s == s'
  | .map es c, .map es' c' => entsSame es es' && c == c'
  | .iter m a b c, .iter m' a' b' c' => m == m' && a == a' && b == b' && c == c'
  | .row a, .row b => TV.sameL a b
  | .dead, .dead => true
  | _, _ => false
theorem TObj.same_eq (x y : TObj) (h : TObj.same x y = true) : x = y := by
  cases x <;> cases y <;> simp [TObj.same] at h
  · rw [TV.sameL_eq _ _ h]
  · obtain ⟨rfl, rfl⟩ := h; rfl
  · obtain ⟨h, rfl⟩ := h; rw [entsSame_eq _ _ h]
  · obtain ⟨⟨⟨rfl, rfl⟩, rfl⟩, rfl⟩ := h; rfl
  · rw [TV.sameL_eq _ _ h]
  · rfl
def heapSame : TS → TS → Bool
  | [], [] => true
  | x :: xs, y :: ys => x.same y && heapSame xs ys
  | _, _ => false
theorem heapSame_eq : ∀ (x y : TS), heapSame x y = true → x = y
  | [], y, h => by cases y <;> simp [heapSame] at h; rfl
  | x :: xs, y, h => by
    cases y <;> simp [heapSame] at h
    rw [TObj.same_eq _ _ h.1, heapSame_eq _ _ h.2]
def tmpsSame : TL → TL → Bool
  | [], [] => true
  | none :: xs, none :: ys => tmpsSame xs ys
  | some x :: xs, some y :: ys => TV.same x y && tmpsSame xs ys
  | _, _ => false
theorem tmpsSame_eq : ∀ (x y : TL), tmpsSame x y = true → x = y
  | [], y, h => by cases y <;> simp [tmpsSame] at h; rfl
  | none :: xs, y, h => by
    cases y with
    | nil => simp [tmpsSame] at h
    | cons y ys =>
      cases y with
      | none => simp only [tmpsSame] at h; rw [tmpsSame_eq _ _ h]
      | some y => simp [tmpsSame] at h
  | some x :: xs, y, h => by
    cases y with
    | nil => simp [tmpsSame] at h
    | cons y ys =>
      cases y with
      | none => simp [tmpsSame] at h
      | some y =>
        simp only [tmpsSame, Bool.and_eq_true] at h
        rw [TV.same_eq _ _ h.1, tmpsSame_eq _ _ h.2]
def resSame : Option TV → Option TV → Bool
  | none, none => true
  | some x, some y => TV.same x y
  | _, _ => false
theorem resSame_eq {x y : Option TV} (h : resSame x y = true) : x = y := by
  cases x <;> cases y <;> simp [resSame] at h
  · rfl
  · rw [TV.same_eq _ _ h]

/- one operation -/
abbrev XCall := FuncId → List TV → TS → Option (TV × TS)
/-- How a function is run: where rights are wanted, where rows; by what numbers methods are known. -/
structure XHow where
  wn : List Tmp
  rw : List Tmp
  meth : TypeId → String → Option FuncId

def wantsRow (rw : List Tmp) (dst : Option Tmp) (s : TV) : Bool := match s with
  | .rs .. => true
  | .nils => match dst with
    | some d => rw.contains d
    | none => false
  | _ => false

def xOper (P : Program) (call : XCall) (h : XHow) (m : TL) (o : Oper) (σ : TS) : Option (Option TV × TS) :=
  match o.op with
  | .call { callee := .value f, args := xs, .. } => match ev m f, evs m xs.toList with
    | some (.func (.func k) first captured), some vs => sres (call k (first ++ vs ++ captured) σ)
    | _, _ => none
  | .call { callee := .invoke r name, args := xs, .. } => match ev m r, evs m xs.toList with
    | some (.iface t (.ptr l off)), some vs => match h.meth t name with
      | some k => sres (call k (.ptr l off :: vs) σ)
      | none => none
    | _, _ => none
  | .next _ _ => none
  | .call { callee := .builtin .append, args := xs, argTypes := ts } => match evs m xs.toList, ts.toList with
    | some [s, x], [st, xt] => if wantsRow h.rw o.dst s then sres (tappendR (mkTab P) σ st xt s x) else tOp (mkTab P) h.wn m o σ
    | _, _ => none
  | _ => tOp (mkTab P) h.wn m o σ

def CallOk (P : Program) (call : XCall) : Prop := ∀ f vs σ v σ', call f vs σ = some (v, σ') → TCalls P f vs σ fun tv s => tv = v ∧ s = σ'
def MethOk (P : Program) (h : XHow) : Prop := ∀ t name k, h.meth t name = some k → TMeth P t name k

variable {P : Program} {call : XCall} {h : XHow}

theorem xOper_sound (hc : CallOk P call) (hm : MethOk P h) {m : TL} {o : Oper} {σ σ' : TS} {r : Option TV} (e : xOper P call h m o σ = some (r, σ')) {K : Option TV → TS → Prop} (hK : K r σ') : tOper P h.wn m o σ K := by
  unfold xOper at e
  unfold tOper
  split at e
  · rename_i f xs ts hop
    simp only [hop]
    split at e
    · rename_i k first captured vs h1 h2
      obtain ⟨v, q1, rfl⟩ := sres_some e
      simp only [h1, h2]
      exact (hc _ _ _ _ _ q1).mono fun tv s ⟨e1, e2⟩ => by rw [e1, e2]; exact hK
    · cases e
  · rename_i rr name xs ts hop
    simp only [hop]
    split at e
    · rename_i t l off vs h1 h2
      split at e
      · rename_i k h3
        obtain ⟨v, q1, rfl⟩ := sres_some e
        simp only [h1, h2]
        exact ⟨k, hm _ _ _ h3, (hc _ _ _ _ _ q1).mono fun tv s ⟨e1, e2⟩ => by rw [e1, e2]; exact hK⟩
      · cases e
    · cases e
  · cases e
  · rename_i xs ts hop
    simp only [hop]
    split at e
    · rename_i s x st xt h1 h2
      split at e
      · obtain ⟨v, q1, rfl⟩ := sres_some e
        exact .inr ⟨s, x, st, xt, v, σ', h1, h2, q1, hK⟩
      · exact .inl (by rw [e]; exact hK)
    · cases e
  · rename_i n1 n2 n3 n4
    split
    · rename_i f xs ts hop; exact absurd hop (n1 _ _ _)
    · rename_i rr name xs ts hop; exact absurd hop (n2 _ _ _ _)
    · rename_i it hop; exact absurd hop (n3 _ _)
    · rename_i xs ts hop; exact absurd hop (n4 _ _)
    · rw [e]; exact hK

def xStep (P : Program) (call : XCall) (h : XHow) (ops : Array Oper) (m : TL) (o : Oper) (σ : TS) : Option (Option TV × TS) :=
  match twanted ops m o with
  | some true => xOper P call h m o σ
  | some false => some (some (.tup []), σ)
  | none => none

theorem xStep_sound (hc : CallOk P call) (hm : MethOk P h) {ops : Array Oper} {m : TL} {o : Oper} {σ σ' : TS} {r : Option TV} (e : xStep P call h ops m o σ = some (r, σ')) {K : Option TV → TS → Prop} (hK : K r σ') : tStep P h.wn ops m o σ K := by
  unfold xStep at e
  unfold tStep
  split at e
  · rename_i hw; simp only [hw]; exact xOper_sound hc hm e hK
  · rename_i hw; simp only [hw]; cases e; exact hK
  · cases e

/- regions in the text's order -/
def xOps (P : Program) (call : XCall) (h : XHow) (ops : Array Oper) : List Nat → TL → TS → Option (TL × TS)
  | [], m, σ => some (m, σ)
  | i :: rest, m, σ => match ops[i]? with
    | none => xOps P call h ops rest m σ
    | some o => match xStep P call h ops m o σ with
      | some (r, σ') => xOps P call h ops rest (tput m o.dst r) σ'
      | none => none

theorem xOps_sound (hc : CallOk P call) (hm : MethOk P h) {ops : Array Oper} {Q : TL → TS → Prop} : ∀ (l : List Nat) {m m' : TL} {σ σ' : TS}, xOps P call h ops l m σ = some (m', σ') → Q m' σ' → twOps P h.wn ops Q l m σ
  | [], m, m', σ, σ', e, hq => by cases e; exact hq
  | i :: rest, m, m', σ, σ', e, hq => by
    simp only [xOps] at e
    simp only [twOps]
    split at e
    · rename_i hi
      simp only [hi]
      exact xOps_sound hc hm rest e hq
    · rename_i o hi
      simp only [hi]
      split at e
      · rename_i r σ1 h1
        have h2 := xStep_sound (K := fun r σ' => twOps P h.wn ops Q rest (tput m o.dst r) σ') hc hm h1 (xOps_sound hc hm rest e hq)
        unfold tStep at h2
        split at h2
        · rename_i hw; simp only [hw]; exact h2
        · rename_i hw; simp only [hw]; exact h2
        · exact h2.elim
      · cases e

/- regions in any order -/
structure XHeld where
  i : Nat
  o : Oper
  m : TL
  r : Option TV

def xHeldOk (P : Program) (call : XCall) (h : XHow) (ops : Array Oper) (σ : TS) (p : XHeld) : Bool := match xStep P call h ops p.m p.o σ with
  | some (r, σ') => resSame r p.r && heapSame σ' σ
  | none => false
def xKeep (ops : Array Oper) (j : Nat) (pend : List XHeld) : List XHeld := pend.filter fun p => !isAfter ops j p.i

/-- The first operation that is free and leaves the heap: its number, what it answers, whether it is held. -/
def xPick (P : Program) (call : XCall) (h : XHow) (ops : Array Oper) (listed : Array Bool) (m : TL) (σ : TS) : List Nat → Option (Nat × Oper × Option TV × Bool)
  | [] => none
  | i :: l => match ops[i]? with
    | none => none
    | some o => if Region.free .any ops listed i then
        (if kindOf o = 0 then match xStep P call h ops m o σ with
          | some (r, _) => some (i, o, r, false)
          | none => none
        else match o.op with
          | .store .. | .mapUpdate .. | .entryStore .. | .alloc .. | .box .. => xPick P call h ops listed m σ l
          | _ => match xStep P call h ops m o σ with
            | some (r, σ') => if heapSame σ' σ then some (i, o, r, true) else xPick P call h ops listed m σ l
            | none => none)
      else xPick P call h ops listed m σ l

def stSame : Option (TL × TS) → TL × TS → Bool
  | some (m, σ), (m', σ') => tmpsSame m m' && heapSame σ σ'
  | none, _ => false

/-- Two ends are one, under other names. -/
def stCanon (n0 fuel : Nat) (y : Option (TL × TS)) (z : TL × TS) : Bool := match y with
  | some y => stSame (canon n0 fuel y) z
  | none => false

def xAny (P : Program) (call : XCall) (h : XHow) (fuel n0 : Nat) (ops : Array Oper) : Nat → List XHeld → Array Bool → TL → TS → Option (TL × TS)
  | 0, _, listed, m, σ => if (Region.ready .any ops listed).isEmpty then some (m, σ) else none
  | n + 1, pend, listed, m, σ => match Region.ready .any ops listed with
    | [] => some (m, σ)
    | i :: l => match xPick P call h ops listed m σ (i :: l) with
      | some (j, o, r, held) => xAny P call h fuel n0 ops n (if held then ⟨j, o, m, r⟩ :: pend else pend) (listed.setIfInBounds j true) (tput m o.dst r) σ
      | none =>
        let go := fun j => match ops[j]? with
          | none => none
          | some o => match xStep P call h ops m o σ with
            | some (r, σ') => if (xKeep ops j pend).all (xHeldOk P call h ops σ') then xAny P call h fuel n0 ops n (xKeep ops j pend) (listed.setIfInBounds j true) (tput m o.dst r) σ' else none
            | none => none
        match go i with
        | some z => if l.all fun j => stSame (go j) z then some z else match canon n0 fuel z with
          | some z' => if l.all fun j => stCanon n0 fuel (go j) z' then some z' else none
          | none => none
        | none => none

def heldT (P : Program) (wn : List Tmp) (ops : Array Oper) (p : XHeld) : Nat × (TS → Prop) := (p.i, HeldOp P wn ops p.m p.o p.r)

theorem xHeldOk_sound (hc : CallOk P call) (hm : MethOk P h) {ops : Array Oper} {σ : TS} {p : XHeld} (e : xHeldOk P call h ops σ p = true) : HeldOp P h.wn ops p.m p.o p.r σ := by
  unfold xHeldOk at e
  split at e
  · rename_i r σ' h1
    simp only [Bool.and_eq_true] at e
    obtain rfl := resSame_eq e.1
    obtain rfl := heapSame_eq _ _ e.2
    exact ⟨fun K hK => xStep_sound hc hm h1 hK⟩
  · cases e

theorem xPick_sound (hc : CallOk P call) (hm : MethOk P h) {ops : Array Oper} {listed : Array Bool} {m : TL} {σ : TS} : ∀ {l : List Nat} {j : Nat} {o : Oper} {r : Option TV} {held : Bool}, xPick P call h ops listed m σ l = some (j, o, r, held) →
    j ∈ l ∧ ops[j]? = some o ∧ Region.free .any ops listed j = true ∧ HeldOp P h.wn ops m o r σ ∧ (held = false → kindOf o = 0)
  | [], j, o, r, held, e => by cases e
  | i :: l, j, o, r, held, e => by
    simp only [xPick] at e
    split at e
    · cases e
    · rename_i o' hi
      have next : xPick P call h ops listed m σ l = some (j, o, r, held) → j ∈ i :: l ∧ ops[j]? = some o ∧ Region.free .any ops listed j = true ∧ HeldOp P h.wn ops m o r σ ∧ (held = false → kindOf o = 0) := fun e => by
        obtain ⟨h1, h2⟩ := xPick_sound hc hm e
        exact ⟨List.mem_cons_of_mem _ h1, h2⟩
      split at e
      · rename_i hf
        split at e
        · rename_i hk
          split at e
          · rename_i r' σ' h1
            cases e
            refine ⟨List.mem_cons_self .., hi, hf, ?_, fun _ => hk⟩
            have h2 := xStep_sound (K := fun r2 s2 => r2 = r ∧ s2 = σ') hc hm h1 ⟨rfl, rfl⟩
            obtain ⟨r2, s2, ⟨rfl, rfl⟩, h3, h4⟩ := tStep_det (by omega) h2
            obtain ⟨rfl, h5⟩ := h4 hk
            exact ⟨h3⟩
          · cases e
        · split at e
          all_goals first
            | exact next e
            | (split at e
               · rename_i r' σ' h1
                 split at e
                 · rename_i hs
                   cases e
                   obtain rfl := heapSame_eq _ _ hs
                   exact ⟨List.mem_cons_self .., hi, hf, ⟨fun K hK => xStep_sound hc hm h1 hK⟩, fun q => by cases q⟩
                 · exact next e
               · cases e)
      · exact next e

theorem xAny_sound (hc : CallOk P call) (hm : MethOk P h) {fuel n0 : Nat} {ops : Array Oper} {Q : TL → TS → Prop} : ∀ (n : Nat) (pend : List XHeld) (listed : Array Bool) (m : TL) (σ : TS) {m' : TL} {σ' : TS}, (∀ p ∈ pend, HeldOp P h.wn ops p.m p.o p.r σ) →
    xAny P call h fuel n0 ops n pend listed m σ = some (m', σ') → Ren n0 Q m' σ' → anyH P h.wn ops (Ren n0 Q) n (pend.map (heldT P h.wn ops)) listed m σ
  | 0, pend, listed, m, σ, m', σ', hp, e, hq => by
    simp only [xAny] at e
    split at e
    · rename_i hr
      cases e
      refine ⟨fun p hp' => ?_, by simpa using hr, hq⟩
      obtain ⟨q, hq', rfl⟩ := List.mem_map.1 hp'
      exact hp q hq'
    · cases e
  | n + 1, pend, listed, m, σ, m', σ', hp, e, hq => by
    have hpend : ∀ p ∈ pend.map (heldT P h.wn ops), p.2 σ := fun p hp' => by
      obtain ⟨q, hq', rfl⟩ := List.mem_map.1 hp'
      exact hp q hq'
    simp only [xAny] at e
    split at e
    · rename_i hr
      cases e
      exact ⟨hpend, fun _ => hq, fun i hi => by rw [hr] at hi; cases hi⟩
    · rename_i i l hr
      split at e
      · rename_i j o r held h1
        obtain ⟨k1, k2, k3, k4, k5⟩ := xPick_sound hc hm h1
        have hready : j ∈ Region.ready .any ops listed := by rw [hr]; exact k1
        cases held with
        | true =>
          simp only [if_true] at e
          refine anyH_take k2 (HeldOp P h.wn ops m o r) n _ listed m σ (Region.free_spec k2 k3) hready (fun τ ht K hK => ht.go K hK) ?_
          exact xAny_sound hc hm n (⟨j, o, m, r⟩ :: pend) _ _ _ (fun p hp' => by
            rcases List.mem_cons.1 hp' with rfl | hp'
            · exact k4
            · exact hp p hp') e hq
        | false =>
          simp only [Bool.false_eq_true, if_false] at e
          refine anyH_take k2 (fun _ => True) n _ listed m σ (Region.free_spec k2 k3) hready (fun τ _ K hK => tStep_pure0 (k5 rfl) k4.go τ K hK) ?_
          exact anyH_sub _ (fun p hp => by
            rcases List.mem_cons.1 hp with rfl | hp
            · exact .inr fun _ => trivial
            · exact .inl hp) (xAny_sound hc hm n pend _ _ _ hp e hq)
      · rename_i hpick
        have step : ∀ (j : Nat) (z : TL × TS), (match ops[j]? with
            | none => none
            | some o => match xStep P call h ops m o σ with
              | some (r, σ') => if (xKeep ops j pend).all (xHeldOk P call h ops σ') then xAny P call h fuel n0 ops n (xKeep ops j pend) (listed.setIfInBounds j true) (tput m o.dst r) σ' else none
              | none => none) = some z → Ren n0 Q z.1 z.2 → stepT P h.wn ops j (anyH P h.wn ops (Ren n0 Q) n (keep ops j (pend.map (heldT P h.wn ops))) (listed.setIfInBounds j true)) m σ := by
          intro j z e hz
          split at e
          · cases e
          · rename_i o ho
            split at e
            · rename_i r σ1 h1
              split at e
              · rename_i hall
                unfold stepT
                simp only [ho]
                have hk : keep ops j (pend.map (heldT P h.wn ops)) = (xKeep ops j pend).map (heldT P h.wn ops) := by
                  unfold keep xKeep
                  rw [List.filter_map]
                  rfl
                rw [hk]
                refine xStep_sound hc hm h1 ?_
                exact xAny_sound hc hm n _ _ _ _ (fun p hp' => xHeldOk_sound hc hm (List.all_eq_true.1 hall p hp')) (m' := z.1) (σ' := z.2) e hz
              · cases e
            · cases e
        split at e
        · rename_i z hz
          split at e
          · rename_i hall
            cases e
            refine ⟨hpend, fun e => (by rw [hr] at e; cases e), fun j hj => ?_⟩
            rw [hr] at hj
            rcases List.mem_cons.1 hj with rfl | hj
            · exact step _ _ hz hq
            · have h2 := List.all_eq_true.1 hall j hj
              cases hgo : (match ops[j]? with
                | none => none
                | some o => match xStep P call h ops m o σ with
                  | some (r, σ') => if (xKeep ops j pend).all (xHeldOk P call h ops σ') then xAny P call h fuel n0 ops n (xKeep ops j pend) (listed.setIfInBounds j true) (tput m o.dst r) σ' else none
                  | none => none : Option (TL × TS)) with
              | none => rw [hgo] at h2; cases h2
              | some y =>
                rw [hgo] at h2
                simp only [stSame, Bool.and_eq_true] at h2
                have e1 := tmpsSame_eq _ _ h2.1
                have e2 := heapSame_eq _ _ h2.2
                exact step j y hgo (by rw [e1, e2]; exact hq)
          · split at e
            · rename_i z' hz'
              split at e
              · rename_i hall
                cases e
                refine ⟨hpend, fun e => (by rw [hr] at e; cases e), fun j hj => ?_⟩
                rw [hr] at hj
                rcases List.mem_cons.1 hj with rfl | hj
                · exact step _ z hz (Ren.ren (canon_sound (m := z.1) (σ := z.2) hz' hq))
                · have h2 := List.all_eq_true.1 hall j hj
                  cases hgo : (match ops[j]? with
                    | none => none
                    | some o => match xStep P call h ops m o σ with
                      | some (r, σ') => if (xKeep ops j pend).all (xHeldOk P call h ops σ') then xAny P call h fuel n0 ops n (xKeep ops j pend) (listed.setIfInBounds j true) (tput m o.dst r) σ' else none
                      | none => none : Option (TL × TS)) with
                  | none => rw [hgo] at h2; cases h2
                  | some y =>
                    rw [hgo] at h2
                    simp only [stCanon] at h2
                    cases hcy : canon n0 fuel y with
                    | none => rw [hcy] at h2; cases h2
                    | some y' =>
                      rw [hcy] at h2
                      simp only [stSame, Bool.and_eq_true] at h2
                      have e1 := tmpsSame_eq _ _ h2.1
                      have e2 := heapSame_eq _ _ h2.2
                      refine step j y hgo (Ren.ren (canon_sound (m := y.1) (σ := y.2) (m1 := y'.1) (σ1 := y'.2) hcy ?_))
                      rw [e1, e2]; exact hq
              · cases e
            · cases e
        · cases e

theorem Sat.ren {P : Program} {c : Code} {Q : TX → TL → TS → Prop} {m : TL} {σ : TS} (h : Sat P c (fun x m' σ' => match x with | .normal => Ren σ.length (Q .normal) m' σ' | _ => Q x m' σ') m σ) : Sat P c Q m σ := fun g a w hw hm ro n hf =>
  wpIn_mono (h g a w hw hm ro n hf) fun e a' w' ⟨tx, m', σ', g', h0, hd, h1, h2, h3, h4⟩ => by
    cases tx with
    | normal =>
      obtain ⟨m1, σ1, g1, q1, q2, q3, q4⟩ := h4 g σ g' a' w' rfl (fun l b e => (hw.new l b e).2.2) h1 h2 h3
      exact ⟨.normal, m1, σ1, g1, h0, hd, q1, q2, q3, q4⟩
    | exit id => exact ⟨_, m', σ', g', h0, hd, h1, h2, h3, h4⟩
    | goto l => exact ⟨_, m', σ', g', h0, hd, h1, h2, h3, h4⟩
    | ret => exact ⟨_, m', σ', g', h0, hd, h1, h2, h3, h4⟩

/- code -/
def xLoop (F : TL → TS → Option (TX × TL × TS)) : Nat → TL → TS → Option (TX × TL × TS)
  | 0, _, _ => none
  | n + 1, m, σ => match F m σ with
    | some (.normal, m', σ') => xLoop F n m' σ'
    | r => r

def xJumps (F : TL → TS → Option (TX × TL × TS)) (l : Nat) : Nat → Option (TX × TL × TS) → Option (TX × TL × TS)
  | 0, _ => none
  | n + 1, some (.goto l', m, σ) => if l' = l then xJumps F l n (F m σ) else none
  | _ + 1, r => r

def xCode (P : Program) (call : XCall) (h : XHow) (fuel : Nat) : Nat → Code → TL → TS → Option (TX × TL × TS)
  | 0, _, _, _ => none
  | n + 1, c, m, σ => match c with
    | .skip => some (.normal, m, σ)
    | .region _ ops draw => match (if draw then (if P.follows .mixedOrders then xAny P call h fuel σ.length ops ops.size [] (Array.replicate ops.size false) m σ else none) else xOps P call h ops (List.range ops.size) m σ) with
      | some (m', σ') => some (.normal, m', σ')
      | none => none
    | .seq x y => match xCode P call h fuel n x m σ with
      | some (.normal, m', σ') => xCode P call h fuel n y m' σ'
      | r => r
    | .cond c x y => match ev m c with
      | some (.bool t) => if t then xCode P call h fuel n x m σ else xCode P call h fuel n y m σ
      | _ => none
    | .block id c => match xCode P call h fuel n c m σ with
      | some (.exit id', m', σ') => if id' = id then some (.normal, m', σ') else some (.exit id', m', σ')
      | r => r
    | .loop c => xLoop (xCode P call h fuel n c) n m σ
    | .exit id => some (.exit id, m, σ)
    | .ret => some (.ret, m, σ)
    | .label _ => some (.normal, m, σ)
    | .goto l => some (.goto l, m, σ)
    | .scope c => match xCode P call h fuel n c m σ with
      | some (.goto l, m', σ') => match findLabel c l with
        | some rest => xJumps (xCode P call h fuel n rest) l n (xCode P call h fuel n rest m' σ')
        | none => none
      | r => r
    | _ => none

theorem xCode_sound (hc : CallOk P call) (hm : MethOk P h) (fuel : Nat) : ∀ (n : Nat) (c : Code) {m m' : TL} {σ σ' : TS} {x : TX} {Q : TX → TL → TS → Prop}, xCode P call h fuel n c m σ = some (x, m', σ') → Q x m' σ' → Sat P c Q m σ
  | 0, c, m, m', σ, σ', x, Q, e, hq => by cases e
  | n + 1, c, m, m', σ, σ', x, Q, e, hq => by
    cases c <;> simp only [xCode] at e
    case skip => cases e; exact Sat.of (wn := []) hq
    case region id ops draw =>
      split at e
      · rename_i m1 σ1 h1
        cases e
        split at h1
        · rename_i hd
          subst hd
          split at h1
          · rename_i hmix
            refine Sat.ren (Sat.of (wn := h.wn) ?_)
            simp only [tw, if_true]
            left
            intro t
            simp only [Region.schedule, hmix, Bool.true_or, if_true]
            unfold Region.linearise
            exact anyH_sound ops.size t [] _ m σ (xAny_sound hc hm ops.size [] _ m σ (by simp) h1 (Ren.of hq))
          · cases h1
        · rename_i hd
          refine Sat.of (wn := h.wn) ?_
          simp only [tw, if_neg hd]
          left
          exact xOps_sound hc hm _ h1 hq
      · cases e
    case seq a b =>
      refine Sat.seq ?_
      split at e
      · rename_i m1 σ1 h1
        exact xCode_sound hc hm fuel n a h1 (xCode_sound hc hm fuel n b e hq)
      · rename_i hne
        refine xCode_sound hc hm fuel n a e ?_
        cases x with
        | normal => exact absurd e (hne _ _)
        | _ => exact hq
    case cond c a b =>
      split at e
      · rename_i t ht
        refine Sat.cond ht ?_
        cases t with
        | true => exact xCode_sound hc hm fuel n a (by simpa using e) hq
        | false => exact xCode_sound hc hm fuel n b (by simpa using e) hq
      · cases e
    case block id c =>
      refine Sat.block ?_
      split at e
      · rename_i id' m1 σ1 h1
        refine xCode_sound hc hm fuel n c h1 ?_
        simp only [TX.inBlock]
        split at e
        · rename_i he; rw [if_pos he]; cases e; exact hq
        · rename_i he; rw [if_neg he]; cases e; exact hq
      · rename_i hne
        refine xCode_sound hc hm fuel n c e ?_
        cases x with
        | exit id' => exact absurd e (hne _ _ _)
        | _ => exact hq
    case loop c =>
      refine Sat.loop (n := n) (fun k m σ => xLoop (xCode P call h fuel n c) k m σ = some (x, m', σ')) e fun k m σ hk => ?_
      cases k with
      | zero => cases hk
      | succ k =>
        simp only [xLoop] at hk
        split at hk
        · rename_i m1 σ1 h1
          exact xCode_sound hc hm fuel n c h1 ⟨k, Nat.lt_succ_self k, hk⟩
        · rename_i hne
          refine xCode_sound hc hm fuel n c hk ?_
          cases x with
          | normal => exact absurd hk (hne _ _)
          | _ => exact hq
    case rangeFunc => cases e
    case exit id => cases e; exact Sat.of (wn := []) hq
    case ret => cases e; exact Sat.of (wn := []) hq
    case label l => cases e; exact Sat.of (wn := []) hq
    case goto l => cases e; exact Sat.of (wn := []) hq
    case refuse => cases e
    case scope c =>
      split at e
      · rename_i l m1 σ1 h1
        split at e
        · rename_i rest hf
          refine Sat.scope l (fun k m σ => xJumps (xCode P call h fuel n rest) l k (xCode P call h fuel n rest m σ) = some (x, m', σ')) hf (xCode_sound hc hm fuel n c h1 ⟨rfl, n, e⟩) fun k m σ hk => ?_
          cases k with
          | zero => cases hk
          | succ k =>
            cases hr : xCode P call h fuel n rest m σ with
            | none => rw [hr] at hk; cases hk
            | some y =>
              obtain ⟨tx, m2, σ2⟩ := y
              rw [hr] at hk
              cases tx with
              | goto l' =>
                simp only [xJumps] at hk
                split at hk
                · rename_i hl
                  exact xCode_sound hc hm fuel n rest hr ⟨hl, k, Nat.lt_succ_self k, hk⟩
                · cases hk
              | normal => cases hk; exact xCode_sound hc hm fuel n rest hr hq
              | exit id => cases hk; exact xCode_sound hc hm fuel n rest hr hq
              | ret => cases hk; exact xCode_sound hc hm fuel n rest hr hq
        · cases e
      · rename_i hne
        refine Sat.straight (xCode_sound hc hm fuel n c e ?_)
        cases x with
        | goto l => exact absurd e (hne _ _ _)
        | _ => exact hq

/- functions -/
/-- How each function is run. -/
structure XWay where
  how : FuncId → XHow
  known : FuncId → List TV → TS → Option (TV × TS)
  trim : FuncId → Option Bool

def xTrim (n0 fuel : Nat) (how : Option Bool) (v : TV) (σ' : TS) : Option (TV × TS) := match how with
  | none => some (v, σ')
  | some true => canonV n0 fuel v.free σ'
  | some false => canonV n0 fuel v σ'

def xCall (P : Program) (W : XWay) (fuel : Nat) : Nat → XCall
  | 0, _, _, _ => none
  | n + 1, f, args, σ => match W.known f args σ with
    | some r => some r
    | none => match P.funcs[f]? with
      | some fn => match fn.body with
        | some c =>
          match xCode P (xCall P W fuel n) (W.how f) fuel fuel c (tinit fn.ntmps args) σ with
          | some (.normal, m, σ') | some (.ret, m, σ') => match tresults (mkTab P) m σ' fn.results.toList with
            | some v => xTrim σ.length fuel (W.trim f) v σ'
            | none => none
          | _ => none
        | none => none
      | none => none

structure WayOk (P : Program) (W : XWay) : Prop where
  meth : ∀ f, MethOk P (W.how f)
  known : ∀ f args v σ τ, W.known f args σ = some (v, τ) → TDoes P f args σ v τ
  names : P.funcs.all (fun fn => !(fn.name == "runtime.NumGoroutine")) = true

theorem xTrim_sound {P : Program} {f : FuncId} {args : List TV} {σ σ' s : TS} {v u : TV} {fuel : Nat} {how : Option Bool} (hv : TCalls P f args σ fun tv s => tv = v ∧ s = σ') (e : xTrim σ.length fuel how v σ' = some (u, s)) : TCalls P f args σ fun tv s' => tv = u ∧ s' = s := by
  unfold xTrim at e
  split at e
  · cases e; exact hv
  · exact canonV_sound hv (.inr rfl) e
  · exact canonV_sound hv (.inl rfl) e

theorem xCall_sound {P : Program} {W : XWay} (hW : WayOk P W) (fuel : Nat) : ∀ n, CallOk P (xCall P W fuel n)
  | 0 => fun f vs σ v σ' e => by cases e
  | n + 1 => fun f args σ v σ' e => by
    simp only [xCall] at e
    split at e
    · rename_i u hk
      cases e
      exact hW.known _ _ _ _ _ hk
    · split at e
      · rename_i fn hf
        split at e
        · rename_i c hb
          · have hn : (fn.name == "runtime.NumGoroutine") = false := by
              have h1 := Array.all_eq_true_iff_forall_mem.1 hW.names fn (Array.mem_of_getElem? hf)
              simpa using h1
            have fin : ∀ {m : TL} {s : TS} {x : TX}, (x = .normal ∨ x = .ret) → xCode P (xCall P W fuel n) (W.how f) fuel fuel c (tinit fn.ntmps args) σ = some (x, m, s) →
                (match tresults (mkTab P) m s fn.results.toList with
                  | some v => xTrim σ.length fuel (W.trim f) v s
                  | none => none) = some (v, σ') → TCalls P f args σ fun tv s => tv = v ∧ s = σ' := by
              intro m s x hx h1 h2
              split at h2
              · rename_i u hr
                have base : TCalls P f args σ fun tv s' => tv = u ∧ s' = s := by
                  refine tcalls_sat hf hn hb (xCode_sound (xCall_sound hW fuel n) (hW.meth f) fuel fuel c h1 ?_)
                  rcases hx with rfl | rfl <;> (simp only [tpost, hr]; trivial)
                exact xTrim_sound base h2
              · cases h2
            split at e
            · rename_i m s h1; exact fin (.inl rfl) h1 e
            · rename_i m s h1; exact fin (.inr rfl) h1 e
            · cases e
        · cases e
      · cases e

/-- What is known of one call. -/
structure XFact where
  f : FuncId
  args : List TV
  σ : TS
  v : TV
  τ : TS
def xFind : List XFact → FuncId → List TV → TS → Option (TV × TS)
  | [], _, _, _ => none
  | x :: l, f, args, σ => if x.f == f && TV.sameL x.args args && heapSame x.σ σ then some (x.v, x.τ) else xFind l f args σ
theorem xFind_sound {P : Program} : ∀ {l : List XFact}, (∀ x ∈ l, TDoes P x.f x.args x.σ x.v x.τ) → ∀ {f : FuncId} {args : List TV} {σ τ : TS} {v : TV}, xFind l f args σ = some (v, τ) → TDoes P f args σ v τ
  | [], _, _, _, _, _, _, e => by cases e
  | x :: l, h, f, args, σ, τ, v, e => by
    simp only [xFind] at e
    split at e
    · rename_i hc
      cases e
      simp only [Bool.and_eq_true, beq_iff_eq] at hc
      obtain ⟨⟨rfl, h2⟩, h3⟩ := hc
      obtain rfl := TV.sameL_eq _ _ h2
      obtain rfl := heapSame_eq _ _ h3
      exact h x (List.mem_cons_self ..)
    · exact xFind_sound (fun y hy => h y (List.mem_cons_of_mem _ hy)) e
def XWay.more (W : XWay) (l : List XFact) : XWay := { W with known := fun f a σ => match xFind l f a σ with | some r => some r | none => W.known f a σ }
theorem WayOk.more {P : Program} {W : XWay} (hW : WayOk P W) {l : List XFact} (h : ∀ x ∈ l, TDoes P x.f x.args x.σ x.v x.τ) : WayOk P (W.more l) where
  meth := hW.meth
  known f args v σ τ e := by
    change (match xFind l f args σ with | some r => some r | none => W.known f args σ) = some (v, τ) at e
    split at e
    · rename_i r hr
      cases e
      exact xFind_sound h hr
    · exact hW.known _ _ _ _ _ e
  names := hW.names
theorem facts_nil {P : Program} : ∀ x ∈ ([] : List XFact), TDoes P x.f x.args x.σ x.v x.τ := fun x h => by cases h
theorem facts_cons {P : Program} {x : XFact} {l : List XFact} (h : TDoes P x.f x.args x.σ x.v x.τ) (hl : ∀ x ∈ l, TDoes P x.f x.args x.σ x.v x.τ) : ∀ y ∈ x :: l, TDoes P y.f y.args y.σ y.v y.τ := fun y hy => by
  rcases List.mem_cons.1 hy with rfl | hy
  · exact h
  · exact hl y hy

/-- A closed run. -/
theorem xRun {P : Program} {W : XWay} (hW : WayOk P W) (fuel n : Nat) {f : FuncId} {args : List TV} {σ : TS} {v : TV} {τ : TS} (e : xCall P W fuel n f args σ = some (v, τ)) : TDoes P f args σ v τ := xCall_sound hW fuel n f args σ v τ e
end Go.TM
