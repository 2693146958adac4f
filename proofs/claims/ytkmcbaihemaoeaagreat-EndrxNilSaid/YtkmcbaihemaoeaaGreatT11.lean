/- The T-machine, part 10: calls, regions, code: what is shown of trees holds of the model's run. -/
import Derived.Test.YtkmcbaihemaoeaaGreatT9
import Derived.Scope
import Derived.ScopeJumps
import Derived.ProofKit
import Derived.OpenShut
import Derived.ChangeOld
import Derived.RangeFuncSeq
import Derived.RangeFuncLeaves
set_option linter.unusedSimpArgs false
set_option linter.unusedVariables false
namespace Go.TM
open Go.RowKit (Below)

/-- A function that has a body and is entered by a call. -/
def Enters (P : Program) (f : FuncId) : Prop := ∃ fn, P.funcs[f]? = some fn ∧ (fn.name == "runtime.NumGoroutine") = false ∧ fn.body.isNone = false

/-- From every world that stands to σ the call returns a value that stands to a tree that meets Q. -/
def TCalls (P : Program) (f : FuncId) (args : List TV) (σ : TS) (Q : TV → TS → Prop) : Prop :=
  Enters P f ∧ ∀ (g : G) (w : World) (vargs : Array Value), WR g σ w → VRL g σ args vargs.toList →
    Calls P f vargs w fun e w' => ∃ v tv σ' g', e = .returned v ∧ Ext g σ g' σ' ∧ WR g' σ' w' ∧ VR g' σ' tv v ∧ Q tv σ'

theorem TCalls.mono {P : Program} {f : FuncId} {args : List TV} {σ : TS} {Q Q' : TV → TS → Prop} (h : TCalls P f args σ Q) (hq : ∀ tv σ', Q tv σ' → Q' tv σ') : TCalls P f args σ Q' :=
  ⟨h.1, fun g w va hw hv => (h.2 g w va hw hv).mono fun e w' ⟨v, tv, σ', g', h1, h2, h3, h4, h5⟩ => ⟨v, tv, σ', g', h1, h2, h3, h4, hq _ _ h5⟩⟩

theorem callFunc_run {P : Program} {f : FuncId} (h : Enters P f) (args : Array Value) (w : World) : (callFunc f args).run P w = .ok (.enter f args) w := by
  obtain ⟨fn, h1, h2, h3⟩ := h
  simp only [callFunc, Sem.run_bind, run_program, Result.andThen_ok, h1]
  rw [if_neg (by rw [h2]; simp), if_neg (by rw [h3]; simp)]
  rfl

/-- A method behind an interface value whose dynamic value is a pointer. -/
def TMeth (P : Program) (t : TypeId) (name : String) (f : FuncId) : Prop :=
  ∀ (a : Addr) (w : World), (method (P.types.size + Made.depth) t (.pointer (some a)) name).run P w = .ok (f, .pointer (some a)) w

/-- Every function; in a round of a range over a function, or in none. -/
abbrev FR (ro : Option Nat) : Fence := { fn := fun _ => True, depth := none, alive := false, round := ro }

/-- What a call of a loop's yield does. -/
def TYields (P : Program) (l : Nat) (args : List TV) (σ : TS) (Q : TV → TS → Prop) : Prop :=
  ∀ (n : Nat) (ro : Option Nat) (g : G) (b : Nat) (w : World) (vargs : Array Value), g.ρ l = some b → WR g σ w → VRL g σ args vargs.toList →
    YieldAt (FR ro) n P b vargs w fun e w' => ∃ v tv σ' g', e = .returned v ∧ Ext g σ g' σ' ∧ WR g' σ' w' ∧ VR g' σ' tv v ∧ Q tv σ'

theorem TYields.mono {P : Program} {l : Nat} {args : List TV} {σ : TS} {Q Q' : TV → TS → Prop} (h : TYields P l args σ Q) (hq : ∀ tv σ', Q tv σ' → Q' tv σ') : TYields P l args σ Q' :=
  fun n ro g b w va hb hw hv => let ⟨fn, tmps, asg, body, h1, h2⟩ := h n ro g b w va hb hw hv
    ⟨fn, tmps, asg, body, h1, h2.mono fun e w' ⟨v, tv, σ', g', q1, q2, q3, q4, q5⟩ => ⟨v, tv, σ', g', q1, q2, q3, q4, hq _ _ q5⟩⟩

theorem calls_inFR {P : Program} {f : FuncId} {args : Array Value} {w : World} {R : Ending → World → Prop} (h : Calls P f args w R) (ro : Option Nat) (n : Nat) : CallsIn (FR ro) n P f args w R :=
  (callsIn_wide (n := n)).2 h

theorem tOp_defer {T : Tab} {wn : List Tmp} {m : TL} {o : Oper} {σ : TS} {c : Call} (h : o.op = .defer c) : tOp T wn m o σ = none := by
  unfold tOp; rw [h]

def tOper (P : Program) (wn : List Tmp) (m : TL) (o : Oper) (σ : TS) (K : Option TV → TS → Prop) : Prop :=
  match o.op with
  | .call { callee := .value f, args := xs, .. } => match ev m f, evs m xs.toList with
    | some (.func (.func k) first captured), some vs => TCalls P k (first ++ vs ++ captured) σ fun tv σ' => K (some tv) σ'
    | some (.yl l), some vs => TYields P l vs σ fun tv σ' => K (some tv) σ'
    | _, _ => False
  | .call { callee := .invoke r name, args := xs, .. } => match ev m r, evs m xs.toList with
    | some (.iface t (.ptr l off)), some vs => ∃ k, TMeth P t name k ∧ TCalls P k (.ptr l off :: vs) σ fun tv σ' => K (some tv) σ'
    | _, _ => False
  | .next it false => match ev m it with
    | some (.ptr r 0) => tnext σ r K
    | _ => False
  | .call { callee := .builtin .append, args := xs, argTypes := ts } => (match tOp (mkTab P) wn m o σ with
      | some (r, σ') => K r σ'
      | none => False) ∨ ∃ s x st xt v σ', evs m xs.toList = some [s, x] ∧ ts.toList = [st, xt] ∧ tappendR (mkTab P) σ st xt s x = some (v, σ') ∧ K (some v) σ'
  | _ => match tOp (mkTab P) wn m o σ with
    | some (r, σ') => K r σ'
    | none => False

theorem VRL.appendArr {g : G} {σ : TS} {xs ys : List TV} {us vs : Array Value} (h : VRL g σ xs us.toList) (k : VRL g σ ys vs.toList) : VRL g σ (xs ++ ys) (us ++ vs).toList := by
  rw [Array.toList_append]
  exact h.append k

/-- What an operation's run leaves, in the walk's own words. -/
theorem tOper_sound {P : Program} {g : G} {σ : TS} {w : World} {m : TL} {a : Act} {wn : List Tmp} {o : Oper} {K : Option TV → TS → Prop} {next : Act → World → Prop} {Q : Exit → Act → World → Prop}
    (hw : WR g σ w) (hm : TLR g σ m a) (h : tOper P wn m o σ K)
    (hK : ∀ g' σ' w' r v, Ext g σ g' σ' → WR g' σ' w' → (∀ tv, r = some tv → VR g' σ' tv v) → K r σ' → next (a.put o.dst v) w') (ro : Option Nat) (n : Nat) : o.wpIn (FR ro) n P a w next Q := by
  refine ⟨fun _ _ => trivial, ?_⟩
  have plain : (match tOp (mkTab P) wn m o σ with | some (r, σ') => K r σ' | none => False) → o.uponIn (FR ro) n P a next Q ((o.semAt (FR ro).round a.eval).run P w) := by
    intro h
    split at h
    · rename_i r σ' hop
      obtain ⟨g', w', h1, h2, h3⟩ := tOp_ok hw hm hop
      rw [Oper.semAt_eq _ _ _ (fun c e => by rw [tOp_defer e] at hop; cases hop)]
      cases r with
      | some tv =>
        obtain ⟨v, h4, h5⟩ := h3
        rw [h4]
        exact hK g' σ' w' _ v h1 h2 (fun tv' e => by cases e; exact h5) h
      | none =>
        rw [h3]
        exact hK g' σ' w' none undef h1 h2 (fun tv' e => by cases e) h
    · exact h.elim
  unfold tOper at h
  split at h
  · rename_i f xs ts hop
    split at h
    · rename_i k first captured vs hf hvs
      have hfv := ev_sound hm hf
      have hl := evs_sound hm hvs
      simp only [VR] at hfv
      obtain ⟨fa, ca, e1, h1, h2⟩ := hfv
      rw [Oper.semAt_eq _ _ _ (fun c e => by rw [hop] at e; cases e)]
      unfold execOp
      simp only [hop, resolve, e1, Deferred.ofValue, Sem.run_bind, Sem.run_pure, Result.andThen_ok, invoke, callFunc_run h.1, Oper.uponIn]
      have hargs : VRL g σ (first ++ vs ++ captured) (fa ++ xs.map a.eval ++ ca).toList := by
        refine VRL.appendArr (VRL.appendArr h1 ?_) h2
        simpa using hl
      refine ⟨(fun e => by cases e), (calls_inFR (h.2 g w _ hw hargs) ro _).mono fun e w' hq => ?_⟩
      obtain ⟨v, tv, σ', g', rfl, q1, q2, q3, q4⟩ := hq
      exact hK g' σ' w' _ v q1 q2 (fun tv' e => by cases e; exact q3) q4
    · rename_i l vs hf hvs
      have hfv := ev_sound hm hf
      have hl := evs_sound hm hvs
      simp only [VR] at hfv
      obtain ⟨yb, hyb, e1⟩ := hfv
      obtain ⟨fn, tmps, asg, body, y1, y2⟩ := h (n - 1) ro g yb w (xs.map a.eval) hyb hw (by simpa using hl)
      rw [Oper.semAt_eq _ _ _ (fun c e => by rw [hop] at e; cases e)]
      unfold execOp
      simp only [hop, resolve, e1, Deferred.ofValue, Sem.run_bind, Sem.run_pure, Result.andThen_ok, invoke, Array.empty_append, Array.append_empty, y1, Oper.uponIn]
      refine ⟨(fun e => by cases e), y2.mono fun e w' hq => ?_⟩
      obtain ⟨v, tv, σ', g', rfl, q1, q2, q3, q4⟩ := hq
      exact hK g' σ' w' _ v q1 q2 (fun tv' e => by cases e; exact q3) q4
    · exact h.elim
  · rename_i r name xs ts hop
    split at h
    · rename_i t l off vs hr hvs
      obtain ⟨k, hmeth, hcall⟩ := h
      have hrv := ev_sound hm hr
      have hl := evs_sound hm hvs
      simp only [VR] at hrv
      obtain ⟨u, e1, ⟨b, hb, rfl⟩⟩ := hrv
      rw [Oper.semAt_eq _ _ _ (fun c e => by rw [hop] at e; cases e)]
      unfold execOp
      have hex : ∀ v : Value, (#[v] ++ xs.map a.eval).extract 1 (#[v] ++ xs.map a.eval).size = xs.map a.eval := by
        intro v
        apply Array.ext'
        rw [Array.toList_extract, Array.toList_append, List.extract_eq_take_drop]
        simp
        exact List.take_of_length_le (by simp)
      have h0 : ∀ v : Value, (#[v] ++ xs.map a.eval)[0]? = some v := by
        intro v
        rw [← Array.getElem?_toList, Array.toList_append]
        rfl
      simp only [hop, resolve, Sem.run_bind, Sem.run_pure, Result.andThen_ok, invoke, h0, hex, callMethod, e1, run_program, hmeth _ w, callFunc_run hcall.1, Oper.uponIn]
      have hargs : VRL g σ (.ptr l off :: vs) (#[Value.pointer (some ⟨b, off, none⟩)] ++ xs.map a.eval).toList := by
        have e2 : (#[Value.pointer (some ⟨b, off, none⟩)] ++ xs.map a.eval).toList = Value.pointer (some ⟨b, off, none⟩) :: xs.toList.map a.eval := by simp
        rw [e2]
        simp only [VRL]
        exact ⟨_, _, rfl, by simp only [VR]; exact ⟨b, hb, rfl⟩, hl⟩
      refine ⟨(fun e => by cases e), (calls_inFR (hcall.2 g w _ hw hargs) ro _).mono fun e w' hq => ?_⟩
      obtain ⟨v, tv, σ', g', rfl, q1, q2, q3, q4⟩ := hq
      exact hK g' σ' w' _ v q1 q2 (fun tv' e => by cases e; exact q3) q4
    · exact h.elim
  · rename_i it hop
    split at h
    · rename_i r hr
      obtain ⟨σ', w', tv, v, q0, q1, q2, q3, q4⟩ := tnext_run (ty := o.type) hw (ev_sound hm hr) h
      have hrun : (execOp a.eval o).run P w = .ok (.value v) w' := by
        simp only [execOp, hop, Sem.run_bind, Sem.run_pure]
        rw [q0]
        rfl
      rw [Oper.semAt_eq _ _ _ (fun c e => by rw [hop] at e; cases e), hrun]
      exact hK g σ' w' (some tv) v q1 q2 (fun tv' e => by cases e; exact q3) q4
    · exact h.elim
  · rename_i xs ts hop
    rcases h with h | ⟨s, x, st, xt, v, σ', h1, h2, h3, h4⟩
    · exact plain h
    · have hl := evs_sound hm h1
      simp only [VRL] at hl
      obtain ⟨sv, rest, e1, hsv, xv, rest2, e2, hxv, e3⟩ := hl
      subst e3
      have e4 : xs.map a.eval = #[sv, xv] := by
        apply Array.ext'
        rw [Array.toList_map, e1, e2]
      have e5 : ts = #[st, xt] := by
        apply Array.ext'
        rw [h2]
      obtain ⟨g', w', u, q0, q1, q2, q3⟩ := tappendR_ok (P := P) (ty := o.type) hw hsv hxv h3
      have hrun : (execOp a.eval o).run P w = .ok (.value u) w' := by
        simp only [execOp, hop, resolve, Sem.run_bind, Sem.run_pure, Result.andThen_ok, invoke, builtin]
        simp only [e4, e5, q0, Result.andThen_ok, Sem.run_pure]
      rw [Oper.semAt_eq _ _ _ (fun c e => by rw [hop] at e; cases e), hrun]
      exact hK g' σ' w' (some v) u q1 q2 (fun tv' e => by cases e; exact q3) h4
  · exact plain h

/- regions -/
theorem VR_undef {g : G} {σ : TS} : VR g σ (.tup []) undef := by
  simp only [VR, VRL, undef]
  exact ⟨#[], rfl, rfl⟩

def tyield (ops : Array Oper) (m : TL) (j : Nat) : Option (Option Bool) :=
  match ((ops[j]?).bind (·.dst)).bind (m[·]?) with
  | some (some (.bool b)) => some (some b)
  | some (some (.tup [])) => some none
  | _ => none

def twanted (ops : Array Oper) (m : TL) (o : Oper) : Option Bool :=
  match o.guard with
  | none => some true
  | some (j, want) => match tyield ops m j with
    | some (some b) => some (b == want)
    | some none => some false
    | none => none

theorem twanted_sound {g : G} {σ : TS} {m : TL} {a : Act} (hm : TLR g σ m a) {ops : Array Oper} {o : Oper} {b : Bool} (h : twanted ops m o = some b) : Region.wanted o (yielded ops a.tmps) = b := by
  unfold twanted at h
  unfold Region.wanted
  split at h
  · rename_i hg
    cases h
    rw [hg]
  · rename_i j want hg
    rw [hg]
    split at h
    · rename_i b' hy
      cases h
      unfold tyield at hy
      split at hy
      · rename_i b'' hb
        cases hy
        cases hd : (ops[j]?).bind (·.dst) with
        | none => simp [hd] at hb
        | some d =>
          simp only [hd, Option.bind_some] at hb
          obtain ⟨v, h1, h2⟩ := hm.get d _ hb
          simp only [VR] at h2
          subst h2
          simp only [yielded, hd, Option.bind_some, h1]
          cases b' <;> cases want <;> rfl
      · cases hy
      · cases hy
    · rename_i hy
      cases h
      unfold tyield at hy
      split at hy
      · cases hy
      · rename_i hb
        cases hd : (ops[j]?).bind (·.dst) with
        | none => simp [hd] at hb
        | some d =>
          simp only [hd, Option.bind_some] at hb
          obtain ⟨v, h1, h2⟩ := hm.get d _ hb
          simp only [VR, VRL] at h2
          obtain ⟨vs, h2, h3⟩ := h2
          subst h2
          simp only [yielded, hd, Option.bind_some, h1]
          cases want <;> rfl
      · cases hy
    · cases h

def twOps (P : Program) (wn : List Tmp) (ops : Array Oper) (Q : TL → TS → Prop) : List Nat → TL → TS → Prop
  | [], m, σ => Q m σ
  | i :: rest, m, σ =>
    match ops[i]? with
    | none => twOps P wn ops Q rest m σ
    | some o => match twanted ops m o with
      | some true => tOper P wn m o σ fun r σ' => twOps P wn ops Q rest (tput m o.dst r) σ'
      | some false => twOps P wn ops Q rest (tput m o.dst (some (.tup []))) σ
      | none => False

inductive TX where
  | normal
  | exit (id : Nat)
  | goto (l : Nat)
  | ret

def TX.to : TX → Exit
  | .normal => .normal
  | .exit id => .exit id
  | .goto l => .goto l
  | .ret => .ret

/-- What is shown of trees, as what is asked of a run's end. -/
def RQ (D : List Deferred) (g0 : G) (σ0 : TS) (Q : TX → TL → TS → Prop) : Exit → Act → World → Prop := fun e a w =>
  ∃ x m σ g, e = TX.to x ∧ a.defers = D ∧ Ext g0 σ0 g σ ∧ WR g σ w ∧ TLR g σ m a ∧ Q x m σ

/-- Code that may stand in a round: no scope, no range over a function. -/
def Code.flat : Code → Bool
  | .seq x y | .cond _ x y => Code.flat x && Code.flat y
  | .block _ c | .loop c => Code.flat c
  | .scope _ | .rangeFunc .. | .refuse _ => false
  | _ => true

theorem Act.put_defers (a : Act) (d : Option Tmp) (v : Value) : (a.put d v).defers = a.defers := by cases d <;> rfl
theorem twOps_sound {P : Program} {D : List Deferred} {g0 : G} {σ0 : TS} {wn : List Tmp} {ops : Array Oper} {Q : TX → TL → TS → Prop} : ∀ (l : List Nat) (m : TL) (σ : TS) (g : G) (a : Act) (w : World), a.defers = D → Ext g0 σ0 g σ → WR g σ w → TLR g σ m a →
    twOps P wn ops (Q .normal) l m σ → ∀ (ro : Option Nat) (n : Nat), wpOpsIn (FR ro) n P ops (RQ D g0 σ0 Q) l a w
  | [], m, σ, g, a, w, hd, hx, hw, hm, h, ro, n => ⟨.normal, m, σ, g, rfl, hd, hx, hw, hm, h⟩
  | i :: rest, m, σ, g, a, w, hd, hx, hw, hm, h, ro, n => by
    simp only [twOps] at h
    simp only [wpOpsIn]
    split at h
    · rename_i hi
      simp only [hi]
      exact twOps_sound rest m σ g a w hd hx hw hm h ro n
    · rename_i o hi
      simp only [hi]
      split at h
      · rename_i hwant
        rw [if_pos (twanted_sound hm hwant)]
        refine tOper_sound hw hm h (fun g' σ' w' r v h1 h2 h3 h4 => ?_) ro n
        refine twOps_sound rest _ σ' g' _ w' (by rw [Act.put_defers]; exact hd) (hx.trans h1) h2 ?_ h4 ro n
        cases r with
        | some tv => exact (hm.mono h1).put _ (h3 tv rfl)
        | none => exact (hm.mono h1).putNone _ _
      · rename_i hwant
        rw [if_neg (by rw [twanted_sound hm hwant]; simp)]
        exact ⟨fun _ _ => trivial, twOps_sound rest _ σ g _ w (by rw [Act.put_defers]; exact hd) hx hw (hm.put _ VR_undef) h ro n⟩
      · exact h.elim

/- code -/
def TX.then (next : TL → TS → Prop) (Q : TX → TL → TS → Prop) : TX → TL → TS → Prop
  | .normal, m, σ => next m σ
  | x, m, σ => Q x m σ

def TX.inBlock (id : Nat) (Q : TX → TL → TS → Prop) : TX → TL → TS → Prop
  | .exit id', m, σ => if id' = id then Q .normal m σ else Q (.exit id') m σ
  | x, m, σ => Q x m σ

def TX.noGoto (Q : TX → TL → TS → Prop) : TX → TL → TS → Prop
  | .goto _, _, _ => False
  | x, m, σ => Q x m σ

def rounds (F : (TX → TL → TS → Prop) → TL → TS → Prop) (Q : TX → TL → TS → Prop) : Nat → TL → TS → Prop
  | 0, _, _ => False
  | n + 1, m, σ => F (TX.then (rounds F Q n) Q) m σ

/-- From every world that stands to these trees the code ends as Q says. -/
def Sat (P : Program) (c : Code) (Q : TX → TL → TS → Prop) (m : TL) (σ : TS) : Prop := ∀ g a w, WR g σ w → TLR g σ m a → ∀ (ro : Option Nat) (n : Nat), (ro = none ∨ Code.flat c = true) → c.wpIn (FR ro) n P (RQ a.defers g σ Q) a w

def tw (P : Program) (wn : List Tmp) : Code → (TX → TL → TS → Prop) → TL → TS → Prop
  | .skip, Q, m, σ => Q .normal m σ
  | .region id ops draw, Q, m, σ => (if draw then ∀ t, twOps P wn ops (Q .normal) (Region.schedule (P.follows .mixedOrders) ops t) m σ else twOps P wn ops (Q .normal) (List.range ops.size) m σ) ∨ Sat P (.region id ops draw) Q m σ
  | .seq x y, Q, m, σ => tw P wn x (TX.then (tw P wn y Q) Q) m σ
  | .cond c x y, Q, m, σ => match ev m c with
    | some (.bool t) => if t then tw P wn x Q m σ else tw P wn y Q m σ
    | _ => False
  | .block id c, Q, m, σ => tw P wn c (TX.inBlock id Q) m σ
  | .loop c, Q, m, σ => ∃ n, rounds (tw P wn c) Q n m σ
  | .exit id, Q, m, σ => Q (.exit id) m σ
  | .ret, Q, m, σ => Q .ret m σ
  | .label _, Q, m, σ => Q .normal m σ
  | .goto l, Q, m, σ => Q (.goto l) m σ
  | .scope c, Q, m, σ => tw P wn c (TX.noGoto Q) m σ ∨ Sat P (.scope c) Q m σ
  | .rangeFunc f ps x c, Q, m, σ => Sat P (.rangeFunc f ps x c) Q m σ
  | _, _, _, _ => False

theorem min_exists {p : Nat → Prop} (h : ∃ n, p n) : ∃ n, p n ∧ ∀ k, k < n → ¬ p k := by
  obtain ⟨n, hn⟩ := h
  induction n using Nat.strongRecOn with
  | _ n ih =>
    by_cases hk : ∃ k, k < n ∧ p k
    · obtain ⟨k, h1, h2⟩ := hk
      exact ih k h1 h2
    · exact ⟨n, hn, fun k h1 h2 => hk ⟨k, h1, h2⟩⟩

open Classical in
noncomputable def leastOf (p : Nat → Prop) : Nat := if h : ∃ n, p n then Classical.choose (min_exists h) else 0

theorem leastOf_spec {p : Nat → Prop} {n : Nat} (h : p n) : p (leastOf p) ∧ leastOf p ≤ n := by
  have hex : ∃ n, p n := ⟨n, h⟩
  unfold leastOf
  rw [dif_pos hex]
  have hs := Classical.choose_spec (min_exists hex)
  refine ⟨hs.1, ?_⟩
  rcases Nat.lt_or_ge n (Classical.choose (min_exists hex)) with h1 | h1
  · exact absurd h (hs.2 n h1)
  · exact h1

theorem wp_loop_n {P : Program} {c : Code} {Q : Exit → Act → World → Prop} (J : Nat → Act → World → Prop) {n : Nat} {a : Act} {w : World} (h₀ : J n a w) {F : Fence} {r : Nat}
    (round : ∀ n a w, J n a w → c.wpIn F r P (Exit.then (fun a' w' => ∃ k, k < n ∧ J k a' w') Q) a w) : (Code.loop c).wpIn F r P Q a w := by
  refine wpIn_loop (fun a w => ∃ n, J n a w) (fun a w => leastOf fun n => J n a w) ⟨n, h₀⟩ fun a w ⟨k, hk⟩ => ?_
  refine wpIn_mono (round _ a w (leastOf_spec (p := fun n => J n a w) hk).1) fun e a' w' h => ?_
  cases e with
  | normal =>
    obtain ⟨j, h1, h2⟩ := h
    exact ⟨⟨j, h2⟩, Nat.lt_of_le_of_lt (leastOf_spec (p := fun n => J n a' w') h2).2 h1⟩
  | _ => exact h

theorem RQ.ext {D : List Deferred} {g0 g : G} {σ0 σ : TS} {Q : TX → TL → TS → Prop} (hx : Ext g0 σ0 g σ) {e : Exit} {a : Act} {w : World} (h : RQ D g σ Q e a w) : RQ D g0 σ0 Q e a w := by
  obtain ⟨x, m, σ', g', h1, h0, h2, h3⟩ := h
  exact ⟨x, m, σ', g', h1, h0, hx.trans h2, h3⟩

theorem flat_none {ro : Option Nat} {c : Code} (hf : Code.flat c = false) (h : ro = none ∨ Code.flat c = true) : ro = none := by
  rcases h with h | h
  · exact h
  · rw [hf] at h; cases h

theorem tw_sound {P : Program} {wn : List Tmp} : ∀ (c : Code) (Q : TX → TL → TS → Prop) (m : TL) (σ : TS) (g : G) (a : Act) (w : World), WR g σ w → TLR g σ m a → tw P wn c Q m σ → ∀ (ro : Option Nat) (n : Nat), (ro = none ∨ Code.flat c = true) → c.wpIn (FR ro) n P (RQ a.defers g σ Q) a w
  | .skip, Q, m, σ, g, a, w, hw, hm, h, ro, n, hf => wpIn_skip ⟨.normal, m, σ, g, rfl, rfl, Ext.refl _ _, hw, hm, h⟩
  | .region id ops draw, Q, m, σ, g, a, w, hw, hm, h, ro, n, hf => by
    simp only [tw] at h
    rcases h with h | h
    case inr => exact h g a w hw hm ro n hf
    cases draw with
    | false => exact wpIn_region (twOps_sound _ m σ g a w rfl (Ext.refl _ _) hw hm (by simpa using h) ro n)
    | true =>
      simp only [if_true] at h
      exact wpIn_region_draw fun t => twOps_sound _ m σ g a _ rfl (Ext.refl _ _) hw.drew' hm (h t) ro n
  | .seq x y, Q, m, σ, g, a, w, hw, hm, h, ro, n, hf => by
    simp only [tw] at h
    have hfx : ro = none ∨ Code.flat x = true := hf.imp id fun e => by simp only [Code.flat, Bool.and_eq_true] at e; exact e.1
    have hfy : ro = none ∨ Code.flat y = true := hf.imp id fun e => by simp only [Code.flat, Bool.and_eq_true] at e; exact e.2
    refine wpIn_seq (wpIn_mono (tw_sound x _ m σ g a w hw hm h ro n hfx) fun e a' w' hq => ?_)
    obtain ⟨tx, m', σ', g', rfl, h0, h1, h2, h3, h4⟩ := hq
    cases tx with
    | normal => exact wpIn_mono (tw_sound y Q m' σ' g' a' w' h2 h3 h4 ro n hfy) fun e a w hq => by rw [h0] at hq; exact hq.ext h1
    | exit id => exact ⟨.exit id, m', σ', g', rfl, h0, h1, h2, h3, h4⟩
    | goto l => exact ⟨.goto l, m', σ', g', rfl, h0, h1, h2, h3, h4⟩
    | ret => exact ⟨.ret, m', σ', g', rfl, h0, h1, h2, h3, h4⟩
  | .cond c x y, Q, m, σ, g, a, w, hw, hm, h, ro, n, hf => by
    simp only [tw] at h
    split at h
    · rename_i t hc
      have hcv := ev_sound hm hc
      simp only [VR] at hcv
      refine wpIn_cond hcv ?_
      cases t with
      | true => exact tw_sound x Q m σ g a w hw hm (by simpa using h) ro n (hf.imp id fun e => by simp only [Code.flat, Bool.and_eq_true] at e; exact e.1)
      | false => exact tw_sound y Q m σ g a w hw hm (by simpa using h) ro n (hf.imp id fun e => by simp only [Code.flat, Bool.and_eq_true] at e; exact e.2)
    · exact h.elim
  | .block id c, Q, m, σ, g, a, w, hw, hm, h, ro, n, hf => by
    simp only [tw] at h
    refine wpIn_block (wpIn_mono (tw_sound c _ m σ g a w hw hm h ro n hf) fun e a' w' hq => ?_)
    obtain ⟨tx, m', σ', g', rfl, h0, h1, h2, h3, h4⟩ := hq
    cases tx with
    | normal => exact ⟨.normal, m', σ', g', rfl, h0, h1, h2, h3, h4⟩
    | exit id' =>
      simp only [TX.inBlock] at h4
      simp only [TX.to, Exit.inBlock]
      split at h4
      · rename_i he
        rw [if_pos he]
        exact ⟨.normal, m', σ', g', rfl, h0, h1, h2, h3, h4⟩
      · rename_i he
        rw [if_neg he]
        exact ⟨.exit id', m', σ', g', rfl, h0, h1, h2, h3, h4⟩
    | goto l => exact ⟨.goto l, m', σ', g', rfl, h0, h1, h2, h3, h4⟩
    | ret => exact ⟨.ret, m', σ', g', rfl, h0, h1, h2, h3, h4⟩
  | .loop c, Q, m, σ, g, a, w, hw, hm, h, ro, n, hf => by
    simp only [tw] at h
    obtain ⟨k0, h⟩ := h
    refine wp_loop_n (fun k a' w' => ∃ m' σ' g', a'.defers = a.defers ∧ Ext g σ g' σ' ∧ WR g' σ' w' ∧ TLR g' σ' m' a' ∧ rounds (tw P wn c) Q k m' σ') ⟨m, σ, g, rfl, Ext.refl _ _, hw, hm, h⟩ fun k a' w' ⟨m', σ', g', h0, h1, h2, h3, h4⟩ => ?_
    cases k with
    | zero => exact h4.elim
    | succ k =>
      simp only [rounds] at h4
      refine wpIn_mono (tw_sound c _ m' σ' g' a' w' h2 h3 h4 ro n hf) fun e a2 w2 hq => ?_
      obtain ⟨tx, m2, σ2, g2, rfl, q0, q1, q2, q3, q4⟩ := hq
      cases tx with
      | normal => exact ⟨k, Nat.lt_succ_self k, m2, σ2, g2, q0.trans h0, h1.trans q1, q2, q3, q4⟩
      | exit id => exact ⟨.exit id, m2, σ2, g2, rfl, q0.trans h0, h1.trans q1, q2, q3, q4⟩
      | goto l => exact ⟨.goto l, m2, σ2, g2, rfl, q0.trans h0, h1.trans q1, q2, q3, q4⟩
      | ret => exact ⟨.ret, m2, σ2, g2, rfl, q0.trans h0, h1.trans q1, q2, q3, q4⟩
  | .exit id, Q, m, σ, g, a, w, hw, hm, h, ro, n, hf => wpIn_exit ⟨.exit id, m, σ, g, rfl, rfl, Ext.refl _ _, hw, hm, h⟩
  | .ret, Q, m, σ, g, a, w, hw, hm, h, ro, n, hf => wpIn_ret ⟨.ret, m, σ, g, rfl, rfl, Ext.refl _ _, hw, hm, h⟩
  | .label l, Q, m, σ, g, a, w, hw, hm, h, ro, n, hf => wpIn_label ⟨.normal, m, σ, g, rfl, rfl, Ext.refl _ _, hw, hm, h⟩
  | .goto l, Q, m, σ, g, a, w, hw, hm, h, ro, n, hf => wpIn_goto ⟨.goto l, m, σ, g, rfl, rfl, Ext.refl _ _, hw, hm, h⟩
  | .scope c, Q, m, σ, g, a, w, hw, hm, h, ro, n, hf => by
    simp only [tw] at h
    rcases h with h | h
    case inr => exact h g a w hw hm ro n hf
    have hro := flat_none rfl hf
    subst hro
    refine (wpIn_wide (n := n)).2 (wp_scope_straight (wp_mono ((wpIn_wide (n := n)).1 (tw_sound c _ m σ g a w hw hm h none n (.inl rfl))) fun e a' w' hq => ?_))
    obtain ⟨tx, m', σ', g', rfl, h0, h1, h2, h3, h4⟩ := hq
    cases tx with
    | normal => exact ⟨.normal, m', σ', g', rfl, h0, h1, h2, h3, h4⟩
    | exit id' => exact ⟨.exit id', m', σ', g', rfl, h0, h1, h2, h3, h4⟩
    | goto l => exact h4.elim
    | ret => exact ⟨.ret, m', σ', g', rfl, h0, h1, h2, h3, h4⟩
  | .rangeFunc _ _ _ _, _, _, _, g, a, w, hw, hm, h, ro, n, hf => h g a w hw hm ro n hf
  | .refuse _, _, _, _, _, _, _, _, _, h, _, _, _ => h.elim

theorem Sat.of {P : Program} {wn : List Tmp} {c : Code} {Q : TX → TL → TS → Prop} {m : TL} {σ : TS} (h : tw P wn c Q m σ) : Sat P c Q m σ := fun g a w hw hm ro n hf => tw_sound c Q m σ g a w hw hm h ro n hf
theorem Sat.mono {P : Program} {c : Code} {Q Q' : TX → TL → TS → Prop} {m : TL} {σ : TS} (h : Sat P c Q m σ) (hq : ∀ x m σ, Q x m σ → Q' x m σ) : Sat P c Q' m σ := fun g a w hw hm ro n hf =>
  wpIn_mono (h g a w hw hm ro n hf) fun e a' w' ⟨tx, m', σ', g', h0, hd, h1, h2, h3, h4⟩ => ⟨tx, m', σ', g', h0, hd, h1, h2, h3, hq _ _ _ h4⟩
theorem Sat.seq {P : Program} {x y : Code} {Q : TX → TL → TS → Prop} {m : TL} {σ : TS} (h : Sat P x (TX.then (Sat P y Q) Q) m σ) : Sat P (.seq x y) Q m σ := fun g a w hw hm ro n hf => by
  have hfx : ro = none ∨ Code.flat x = true := hf.imp id fun e => by simp only [Code.flat, Bool.and_eq_true] at e; exact e.1
  have hfy : ro = none ∨ Code.flat y = true := hf.imp id fun e => by simp only [Code.flat, Bool.and_eq_true] at e; exact e.2
  refine wpIn_seq (wpIn_mono (h g a w hw hm ro n hfx) fun e a' w' hq => ?_)
  obtain ⟨tx, m', σ', g', rfl, h0, h1, h2, h3, h4⟩ := hq
  cases tx with
  | normal => exact wpIn_mono (h4 g' a' w' h2 h3 ro n hfy) fun e a w hq => by rw [h0] at hq; exact hq.ext h1
  | exit id => exact ⟨.exit id, m', σ', g', rfl, h0, h1, h2, h3, h4⟩
  | goto l => exact ⟨.goto l, m', σ', g', rfl, h0, h1, h2, h3, h4⟩
  | ret => exact ⟨.ret, m', σ', g', rfl, h0, h1, h2, h3, h4⟩
theorem Sat.cond {P : Program} {c : Operand} {x y : Code} {Q : TX → TL → TS → Prop} {m : TL} {σ : TS} {t : Bool} (hc : ev m c = some (.bool t)) (h : if t then Sat P x Q m σ else Sat P y Q m σ) : Sat P (.cond c x y) Q m σ := fun g a w hw hm ro n hf => by
  have hcv := ev_sound hm hc
  simp only [VR] at hcv
  refine wpIn_cond hcv ?_
  cases t with
  | true => exact (show Sat P x Q m σ by simpa using h) g a w hw hm ro n (hf.imp id fun e => by simp only [Code.flat, Bool.and_eq_true] at e; exact e.1)
  | false => exact (show Sat P y Q m σ by simpa using h) g a w hw hm ro n (hf.imp id fun e => by simp only [Code.flat, Bool.and_eq_true] at e; exact e.2)
theorem Sat.block {P : Program} {id : Nat} {c : Code} {Q : TX → TL → TS → Prop} {m : TL} {σ : TS} (h : Sat P c (TX.inBlock id Q) m σ) : Sat P (.block id c) Q m σ := fun g a w hw hm ro n hf => by
  refine wpIn_block (wpIn_mono (h g a w hw hm ro n hf) fun e a' w' hq => ?_)
  obtain ⟨tx, m', σ', g', rfl, h0, h1, h2, h3, h4⟩ := hq
  cases tx with
  | normal => exact ⟨.normal, m', σ', g', rfl, h0, h1, h2, h3, h4⟩
  | exit id' =>
    simp only [TX.inBlock] at h4
    simp only [TX.to, Exit.inBlock]
    split at h4
    · rename_i he
      rw [if_pos he]
      exact ⟨.normal, m', σ', g', rfl, h0, h1, h2, h3, h4⟩
    · rename_i he
      rw [if_neg he]
      exact ⟨.exit id', m', σ', g', rfl, h0, h1, h2, h3, h4⟩
  | goto l => exact ⟨.goto l, m', σ', g', rfl, h0, h1, h2, h3, h4⟩
  | ret => exact ⟨.ret, m', σ', g', rfl, h0, h1, h2, h3, h4⟩
theorem Sat.loop {P : Program} {c : Code} {Q : TX → TL → TS → Prop} {m : TL} {σ : TS} {n : Nat} (J : Nat → TL → TS → Prop) (h : J n m σ)
    (hr : ∀ k m σ, J k m σ → Sat P c (TX.then (fun m' σ' => ∃ i, i < k ∧ J i m' σ') Q) m σ) : Sat P (.loop c) Q m σ := fun g a w hw hm ro r hf => by
  refine wp_loop_n (fun k a' w' => ∃ m' σ' g', a'.defers = a.defers ∧ Ext g σ g' σ' ∧ WR g' σ' w' ∧ TLR g' σ' m' a' ∧ J k m' σ') ⟨m, σ, g, rfl, Ext.refl _ _, hw, hm, h⟩ fun k a' w' ⟨m', σ', g', h0, h1, h2, h3, h4⟩ => ?_
  refine wpIn_mono (hr k m' σ' h4 g' a' w' h2 h3 ro r hf) fun e a2 w2 hq => ?_
  obtain ⟨tx, m2, σ2, g2, rfl, q0, q1, q2, q3, q4⟩ := hq
  cases tx with
  | normal =>
    obtain ⟨i, hi, q4⟩ := q4
    exact ⟨i, hi, m2, σ2, g2, q0.trans h0, h1.trans q1, q2, q3, q4⟩
  | exit id => exact ⟨.exit id, m2, σ2, g2, rfl, q0.trans h0, h1.trans q1, q2, q3, q4⟩
  | goto l => exact ⟨.goto l, m2, σ2, g2, rfl, q0.trans h0, h1.trans q1, q2, q3, q4⟩
  | ret => exact ⟨.ret, m2, σ2, g2, rfl, q0.trans h0, h1.trans q1, q2, q3, q4⟩

theorem Sat.straight {P : Program} {c : Code} {Q : TX → TL → TS → Prop} {m : TL} {σ : TS} (h : Sat P c (TX.noGoto Q) m σ) : Sat P (.scope c) Q m σ := fun g a w hw hm ro n hf => by
  have hro := flat_none rfl hf
  subst hro
  refine (wpIn_wide (n := n)).2 (wp_scope_straight (wp_mono ((wpIn_wide (n := n)).1 (h g a w hw hm none n (.inl rfl))) fun e a' w' hq => ?_))
  obtain ⟨tx, m', σ', g', rfl, h0, h1, h2, h3, h4⟩ := hq
  cases tx with
  | normal => exact ⟨.normal, m', σ', g', rfl, h0, h1, h2, h3, h4⟩
  | exit id' => exact ⟨.exit id', m', σ', g', rfl, h0, h1, h2, h3, h4⟩
  | goto l => exact h4.elim
  | ret => exact ⟨.ret, m', σ', g', rfl, h0, h1, h2, h3, h4⟩

/-- By a goto to l: J; by another one: no way out. -/
def TX.jump (l : Nat) (J : TL → TS → Prop) (Q : TX → TL → TS → Prop) : TX → TL → TS → Prop
  | .goto l', m, σ => l' = l ∧ J m σ
  | x, m, σ => Q x m σ

theorem Sat.scope {P : Program} {c rest : Code} {Q : TX → TL → TS → Prop} {m : TL} {σ : TS} (l : Nat) (J : Nat → TL → TS → Prop) (hf : findLabel c l = some rest)
    (first : Sat P c (TX.jump l (fun m' σ' => ∃ n, J n m' σ') Q) m σ)
    (pass : ∀ k m σ, J k m σ → Sat P rest (TX.jump l (fun m' σ' => ∃ i, i < k ∧ J i m' σ') Q) m σ) : Sat P (.scope c) Q m σ := fun g a w hw hm ro r hfl => by
  have hro := flat_none rfl hfl
  subst hro
  refine (wpIn_wide (n := r)).2 ?_
  obtain ⟨D, hD⟩ : ∃ D, a.defers = D := ⟨_, rfl⟩
  rw [hD]
  have conv : ∀ {g' : G} {σ' : TS} {p : Nat → Prop} {e : Exit} {a : Act} {w : World}, Ext g σ g' σ' → RQ D g' σ' (TX.jump l (fun m' σ' => ∃ i, p i ∧ J i m' σ') Q) e a w →
      Exit.jump l (fun a w => ∃ n, p n ∧ ∃ m' σ' g', a.defers = D ∧ Ext g σ g' σ' ∧ WR g' σ' w ∧ TLR g' σ' m' a ∧ J n m' σ') (RQ D g σ Q) e a w := by
    intro g' σ' p e a w hx hq
    obtain ⟨tx, m2, σ2, g2, rfl, q0, q1, q2, q3, q4⟩ := hq
    cases tx with
    | normal => exact ⟨.normal, m2, σ2, g2, rfl, q0, hx.trans q1, q2, q3, q4⟩
    | exit id => exact ⟨.exit id, m2, σ2, g2, rfl, q0, hx.trans q1, q2, q3, q4⟩
    | goto l' =>
      obtain ⟨rfl, i, hi, q4⟩ := q4
      exact ⟨rfl, i, hi, m2, σ2, g2, q0, hx.trans q1, q2, q3, q4⟩
    | ret => exact ⟨.ret, m2, σ2, g2, rfl, q0, hx.trans q1, q2, q3, q4⟩
  have jm : ∀ {A B : Act → World → Prop} {e : Exit} {a : Act} {w : World}, (∀ a w, A a w → B a w) → Exit.jump l A (RQ D g σ Q) e a w → Exit.jump l B (RQ D g σ Q) e a w := by
    intro A B e a w hab h
    cases e <;> first | exact h | exact ⟨h.1, hab _ _ h.2⟩
  refine wp_scope_jumps l (fun a w => ∃ n, ∃ m' σ' g', a.defers = D ∧ Ext g σ g' σ' ∧ WR g' σ' w ∧ TLR g' σ' m' a ∧ J n m' σ') (fun a w => leastOf fun n => ∃ m' σ' g', a.defers = D ∧ Ext g σ g' σ' ∧ WR g' σ' w ∧ TLR g' σ' m' a ∧ J n m' σ') hf ?_ fun a w ⟨k, hk⟩ => ?_
  · refine wp_mono ((wpIn_wide (n := r)).1 (first g a w hw hm none r (.inl rfl))) fun e a w hq => ?_
    have hq' : RQ D g σ (TX.jump l (fun m' σ' => ∃ i, True ∧ J i m' σ') Q) e a w := by
      rw [hD] at hq
      simpa only [true_and] using hq
    exact jm (fun a w ⟨n, _, h⟩ => ⟨n, h⟩) (conv (Ext.refl _ _) hq')
  · obtain ⟨h1, h2⟩ := leastOf_spec (p := fun n => ∃ m' σ' g', a.defers = D ∧ Ext g σ g' σ' ∧ WR g' σ' w ∧ TLR g' σ' m' a ∧ J n m' σ') hk
    obtain ⟨m', σ', g', q0, q1, q2, q3, q4⟩ := h1
    refine wp_mono ((wpIn_wide (n := r)).1 (pass _ m' σ' q4 g' a w q2 q3 none r (.inl rfl))) fun e a' w' hq => ?_
    rw [show (RQ a.defers g' σ' : (TX → TL → TS → Prop) → Exit → Act → World → Prop) = RQ D g' σ' by rw [q0]] at hq
    refine jm (fun a w ⟨n, hlt, h⟩ => ⟨⟨n, h⟩, ?_⟩) (conv q1 hq)
    exact Nat.lt_of_le_of_lt (leastOf_spec (p := fun n => ∃ m' σ' g', a.defers = D ∧ Ext g σ g' σ' ∧ WR g' σ' w ∧ TLR g' σ' m' a ∧ J n m' σ') h).2 hlt

/-- What is looked at may let rights go. -/
def TV.letgo : TV → TV
  | .sl _ len cs => .sl none len cs
  | v => v
theorem VR.letgo {g : G} {σ : TS} {tv : TV} {v : Value} (h : VR g σ tv v) : VR g σ tv.letgo v := by
  cases tv <;> first | exact h | skip
  simp only [VR, TV.letgo] at h ⊢
  obtain ⟨a, cap, vs, h1, h2, h3, h4, h5, _⟩ := h
  exact ⟨a, cap, vs, h1, h2, h3, h4, h5, trivial⟩
theorem VRL.letgo {g : G} {σ : TS} : ∀ {xs : List TV} {vs : List Value}, VRL g σ xs vs → VRL g σ (xs.map TV.letgo) vs
  | [], _, h => h
  | x :: xs, _, h => by
    simp only [VRL, List.map_cons] at h ⊢
    obtain ⟨v, rest, hv, h1, h2⟩ := h
    exact ⟨v, rest, hv, h1.letgo, VRL.letgo h2⟩
theorem WR.letgo {g : G} {σ : TS} {w : World} {l : Nat} {cs : List TV} (hw : WR g σ w) (hl : σ[l]? = some (.cells cs)) : WR g (σ.set l (.cells (cs.map TV.letgo))) w := by
  have hlt := (List.getElem?_eq_some_iff.1 hl).1
  have hnr : ∀ c, TObj.cells (cs.map TV.letgo) ≠ .row c := by intro _ h; cases h
  have hx : Ext g σ g (σ.set l (.cells (cs.map TV.letgo))) := Ext.set (fun k sz e => by rw [hl] at e; cases e) hnr
  refine ⟨hw.below, hw.keep, ?_, hw.inj, ?_, hw.sep, ?_, hw.tokinj, hw.toksep, fun l' c e => ?_, fun l1 l2 c1 c2 b' x y x' y' e1 e2 => hw.rowinj l1 l2 c1 c2 b' x y x' y' (set_row hnr e1).2 (set_row hnr e2).2⟩
  · intro l' b' e
    by_cases he : l = l'
    · subst he
      rw [List.getElem?_set_self hlt]
      have ho := hw.obj l b' e
      rw [hl] at ho
      obtain ⟨c, e', fz, vs, rest, h1, h2, h3, h4, h5⟩ := ho
      exact ⟨c, e', fz, vs, rest, h1, h2, h3, h4, VRL.mono hx _ _ h5.letgo⟩
    · rw [List.getElem?_set_ne he]
      exact (hw.obj l' b' e).ghost hx
  · intro l' b' e
    have := hw.new l' b' e
    exact ⟨this.1, this.2.1, by simpa using this.2.2⟩
  · intro t b' e n e'
    obtain ⟨h1, h2, k, sz, h3, h4⟩ := hw.tok t b' e n e'
    exact ⟨h1, h2, k, sz, by rw [List.getElem?_set_ne (by rintro rfl; rw [hl] at h3; cases h3)]; exact h3, h4⟩
  · obtain ⟨b', base, n, m1, m2⟩ := hw.row l' c (set_row hnr e).2
    exact ⟨b', base, n, m1, m2.ghost hx m2.κ m2.ρ m2.ω⟩
theorem Sat.letgo {P : Program} {c : Code} {Q : TX → TL → TS → Prop} {m : TL} {σ : TS} {l : Nat} {cs : List TV} (hl : σ[l]? = some (.cells cs)) (h : Sat P c Q m (σ.set l (.cells (cs.map TV.letgo)))) : Sat P c Q m σ := fun g a w hw hm ro n hf => by
  have hx : Ext g σ g (σ.set l (.cells (cs.map TV.letgo))) := Ext.set (fun k sz e => by rw [hl] at e; cases e)
  exact wpIn_mono (h g a w (hw.letgo hl) (hm.mono hx) ro n hf) fun e a w hq => hq.ext hx
theorem tw_letgo {P : Program} {wn : List Tmp} {id : Nat} {ops : Array Oper} {d : Bool} {y : Code} {Q : TX → TL → TS → Prop} {m : TL} {σ : TS} {l : Nat} {cs : List TV} (hl : σ[l]? = some (.cells cs)) (h : tw P wn (.seq (.region id ops d) y) Q m (σ.set l (.cells (cs.map TV.letgo)))) :
    tw P wn (.seq (.region id ops d) y) Q m σ := by
  rw [tw] at h ⊢
  rw [tw]
  exact .inr (Sat.letgo hl (Sat.of h))

/- a function's results -/
def tresult1 (T : Tab) (m : TL) (σ : TS) : ResultVar → Option TV
  | .tmp t => ev m (.tmp t)
  | .cell a t => match ev m (.tmp a) with
    | some p => tload T σ t p
    | none => none

def tresultL (T : Tab) (m : TL) (σ : TS) : List ResultVar → Option (List TV)
  | [] => some []
  | r :: rs => match tresult1 T m σ r, tresultL T m σ rs with
    | some v, some vs => some (v :: vs)
    | _, _ => none

def tresults (T : Tab) (m : TL) (σ : TS) (rs : List ResultVar) : Option TV :=
  match tresultL T m σ rs with
  | some [v] => some v
  | some vs => some (.tup vs)
  | none => none

theorem tload_var {P : Program} {g : G} {σ : TS} {w : World} (hw : WR g σ w) {t : TypeId} {p : TV} {pv : Value} (hp : VR g σ p pv) {tv : TV}
    (h : tload (mkTab P) σ t p = some tv) : ∃ v, (do loadVar t (← asAddr pv) : Sem Value).run P w = .ok v w ∧ VR g σ tv v := by
  obtain ⟨v, h1, h2⟩ := tload_run hw hp h
  refine ⟨v, ?_, h2⟩
  have hpc : ∃ a, pv = .pointer (some a) := by
    unfold tload at h
    cases hc : tcells σ p with
    | none => simp [hc] at h
    | some cs =>
      obtain ⟨b, o, vs, rfl, _⟩ := tcells_sound hw hp hc
      exact ⟨_, rfl⟩
  obtain ⟨ad, rfl⟩ := hpc
  simpa only [Instr.loadAt, Instr.sureAddr, asAddr, Sem.run_bind, Sem.run_pure, Result.andThen_ok] using h1

def resSem (tmps : Array Value) : ResultVar → Sem Value
  | .tmp t => pure (tmps.getD t undef)
  | .cell a t => do loadVar t (← asAddr (tmps.getD a undef))

theorem results_eq (fn : Func) (tmps : Array Value) : results fn tmps = (do
    let vs ← fn.results.mapM (resSem tmps)
    pure (if h : vs.size = 1 then vs[0] else .tuple vs)) := rfl

theorem tresultL_run {P : Program} {g : G} {σ : TS} {w : World} {m : TL} {a : Act} (hw : WR g σ w) (hm : TLR g σ m a) : ∀ {rs : List ResultVar} {vs : List TV}, tresultL (mkTab P) m σ rs = some vs →
    ∃ us : List Value, (rs.mapM (resSem a.tmps) : Sem (List Value)).run P w = .ok us w ∧ VRL g σ vs us
  | [], _, h => by simp only [tresultL] at h; cases h; exact ⟨[], by simp, by simp [VRL]⟩
  | r :: rs, _, h => by
    simp only [tresultL] at h
    split at h
    · rename_i v vs h1 h2
      cases h
      obtain ⟨us, h3, h4⟩ := tresultL_run hw hm h2
      have h5 : ∃ u, (resSem a.tmps r).run P w = .ok u w ∧ VR g σ v u := by
        cases r with
        | tmp t => exact ⟨_, rfl, ev_sound hm (x := .tmp t) h1⟩
        | cell x t =>
          simp only [tresult1] at h1
          split at h1
          · rename_i p hp
            exact tload_var hw (ev_sound hm (x := .tmp x) hp) h1
          · cases h1
      obtain ⟨u, h6, h7⟩ := h5
      refine ⟨u :: us, ?_, by simp only [VRL]; exact ⟨u, us, rfl, h7, h4⟩⟩
      rw [List.mapM_cons, Sem.run_bind, h6, Result.andThen_ok, Sem.run_bind, h3, Result.andThen_ok]
      rfl
    · cases h

theorem tresults_run {P : Program} {g : G} {σ : TS} {w : World} {m : TL} {a : Act} (hw : WR g σ w) (hm : TLR g σ m a) {fn : Func} {tv : TV} (h : tresults (mkTab P) m σ fn.results.toList = some tv) :
    ∃ v, (results fn a.tmps).run P w = .ok v w ∧ VR g σ tv v := by
  unfold tresults at h
  have key : ∀ vs, tresultL (mkTab P) m σ fn.results.toList = some vs → ∃ us : List Value, (results fn a.tmps).run P w = .ok (if h : us.toArray.size = 1 then us.toArray[0] else .tuple us.toArray) w ∧ VRL g σ vs us := by
    intro vs hvs
    obtain ⟨us, h3, h4⟩ := tresultL_run hw hm hvs
    refine ⟨us, ?_, h4⟩
    rw [results_eq, Sem.run_bind, Array.mapM_eq_mapM_toList, Sem.run_map]
    rw [h3]
    rfl
  split at h
  · rename_i v hv
    cases h
    obtain ⟨us, h1, h2⟩ := key _ hv
    simp only [VRL] at h2
    obtain ⟨u, rest, rfl, h3, rfl⟩ := h2
    exact ⟨u, by simpa using h1, h3⟩
  · rename_i vs hne hv
    cases h
    obtain ⟨us, h1, h2⟩ := key _ hv
    have hlen : ¬ us.toArray.size = 1 := by
      intro he
      have := h2.length
      simp at he
      rw [he] at this
      match vs, this with
      | [v], _ => exact hne v rfl
    rw [dif_neg hlen] at h1
    exact ⟨_, h1, by simp only [VR]; exact ⟨_, rfl, by simpa using h2⟩⟩
  · cases h

def tpost (P : Program) (fn : Func) (Q : TV → TS → Prop) : TX → TL → TS → Prop
  | .normal, m, σ | .ret, m, σ => match tresults (mkTab P) m σ fn.results.toList with
    | some v => Q v σ
    | none => False
  | _, _, _ => False

def tinit (n : Nat) (args : List TV) : TL := args.map some ++ List.replicate (n - args.length) none

/-- THE LAW: what is shown of a body's trees holds of its calls. -/
theorem tcalls_sat {P : Program} {f : FuncId} {fn : Func} {c : Code} {args : List TV} {σ : TS} {Q : TV → TS → Prop} (hf : P.funcs[f]? = some fn) (hn : (fn.name == "runtime.NumGoroutine") = false) (hb : fn.body = some c)
    (h : Sat P c (tpost P fn Q) (tinit fn.ntmps args) σ) : TCalls P f args σ Q := by
  refine ⟨⟨fn, hf, hn, by simp [hb]⟩, fun g w va hw hv => ?_⟩
  have hlen : va.size = args.length := by have := hv.length; simpa using this
  have hm : TLR g σ (tinit fn.ntmps args) { tmps := va ++ Array.replicate (fn.ntmps - va.size) undef, defers := [] } := by
    refine ⟨by simp [tinit, hlen], fun t tv e => ?_⟩
    unfold tinit at e
    rcases Nat.lt_or_ge t args.length with hlt | hge
    · rw [List.getElem?_append_left (by simpa using hlt), List.getElem?_map] at e
      cases hq : args[t]? with
      | none => simp [hq] at e
      | some x =>
        simp only [hq, Option.map_some, Option.some.injEq] at e
        subst e
        obtain ⟨v, h1, h2⟩ := hv.get hq
        refine ⟨v, ?_, h2⟩
        rw [Array.getElem?_append_left (by omega), ← Array.getElem?_toList]
        exact h1
    · rw [List.getElem?_append_right (by simpa using hge), List.getElem?_replicate] at e
      split at e <;> cases e
  refine calls_of_wp hf hb (wp_mono ((wpIn_wide (n := 0)).1 (h g _ w hw hm none 0 (.inl rfl))) fun e a w' hq => ?_)
  obtain ⟨tx, m, σ', g', rfl, h0, h1, h2, h3, h4⟩ := hq
  have fin : (match tresults (mkTab P) m σ' fn.results.toList with | some v => Q v σ' | none => False) → a.defers = [] ∧ ∃ v, (results fn a.tmps).run P w' = .ok v w' ∧
      ∃ v' tv σ'' g'', Ending.returned v = .returned v' ∧ Ext g σ g'' σ'' ∧ WR g'' σ'' w' ∧ VR g'' σ'' tv v' ∧ Q tv σ'' := by
    intro h4
    split at h4
    · rename_i tv hr
      obtain ⟨v, h5, h6⟩ := tresults_run h2 h3 hr
      exact ⟨h0, v, h5, v, tv, σ', g', rfl, h1, h2, h6, h4⟩
    · exact h4.elim
  cases tx with
  | normal => exact fin h4
  | ret => exact fin h4
  | exit id => exact h4.elim
  | goto l => exact h4.elim

theorem tcalls_of {P : Program} {f : FuncId} {fn : Func} {c : Code} {args : List TV} {σ : TS} {Q : TV → TS → Prop} (wn : List Tmp) (hf : P.funcs[f]? = some fn) (hn : (fn.name == "runtime.NumGoroutine") = false) (hb : fn.body = some c)
    (h : tw P wn c (tpost P fn Q) (tinit fn.ntmps args) σ) : TCalls P f args σ Q := tcalls_sat hf hn hb (Sat.of h)

end Go.TM

/- The T-machine, part 11: arguments that are read as data are trees; a law's statement out of calls over trees. -/
set_option linter.unusedVariables false
namespace Go.TM
open Go.RowKit (Below)

/-- The ghost of a world at a call's begin: all its cells stay. -/
def g0 (W : World) : G where
  w0 := W
  ρ := fun _ => none
  κ := fun b o => match W.cell? ⟨b, o, none⟩ with
    | some v => if v.oneCell' = true then some v else none
    | none => none
  ω := fun _ => none
  ν := fun _ => none

theorem g0_kept {W : World} {b o : Nat} {v : Value} (h : W.cell? ⟨b, o, none⟩ = some v) (h1 : v.oneCell' = true) : (g0 W).κ b o = some v := by
  simp only [g0, h, h1, if_true]

theorem g0_WR (W : World) : WR (g0 W) [] W where
  below := Below.refl _ _
  keep b o v e := by
    simp only [g0] at e
    split at e
    · rename_i u hu
      split at e
      · cases e; exact ⟨hu, by assumption⟩
      · cases e
    · cases e
  obj l b e := by simp [g0] at e
  inj l l' b e := by simp [g0] at e
  new l b e := by simp [g0] at e
  sep l b e := by simp [g0] at e
  tok t b e n h := by simp [g0] at h
  tokinj t t' b e n e' n' h := by simp [g0] at h
  toksep t l b e n h := by simp [g0] at h
  row l cs e := by simp at e
  rowinj l l' cs cs' b x y x' y' e := by simp at e

def tiles (T : Tab) : List (TypeId × Nat) → Nat → Option Nat
  | [], off => some off
  | (t, o) :: fs, off => match T t with
    | some j => if o = off then tiles T fs (off + j.size) else none
    | none => none

def plainT (T : Tab) : Nat → TypeId → Bool
  | 0, _ => false
  | d + 1, t => match T t with
    | none => false
    | some i => match i.k with
      | .bool => true
      | .int _ => true
      | .str => true
      | .slice e => plainT T d e && (match T e with | some j => j.size != 0 | none => false)
      | .struct fs _ => tiles T fs 0 == some i.size && fs.all fun f => plainT T d f.1
      | .arr n e => plainT T d e && (match T e with | some j => i.size == n * j.size | none => false)
      | _ => false

/-- Cells that are of a type. -/
def Ty (T : Tab) : Nat → TypeId → List TV → Prop
  | 0, _, _ => False
  | d + 1, t, cs => match T t with
    | none => False
    | some i => match i.k with
      | .bool => ∃ b, cs = [.bool b]
      | .int k => ∃ n, cs = [.int k n] ∧ k.min ≤ n ∧ n ≤ k.max
      | .str => ∃ s, cs = [.str s] ∧ s.size ≤ 9223372036854775807
      | .slice e => cs = [.nils] ∨ ∃ len xs, cs = [.sl none len xs] ∧ len ≤ 9223372036854775807 ∧ match T e with
        | some j => xs.length = len * j.size ∧ xs.all TV.one = true ∧ ∀ i, i < len → Ty T d e ((xs.drop (i * j.size)).take j.size)
        | none => False
      | .struct fs _ => cs.length = i.size ∧ ∀ f ∈ fs, match T f.1 with
        | some j => Ty T d f.1 ((cs.drop f.2).take j.size)
        | none => False
      | .arr n e => match T e with
        | some j => cs.length = n * j.size ∧ ∀ i, i < n → Ty T d e ((cs.drop (i * j.size)).take j.size)
        | none => False
      | _ => False

section
variable {P : Program} {W : World} {g : G} {σ : TS}

theorem cellsOf_tab {t : TypeId} {i : TI} (h : mkTab P t = some i) : P.cellsOf t = i.size := by
  obtain ⟨info, d, k1, k2, k3, k4, _⟩ := mkTab_sound h
  simp [Program.cellsOf, k1, k4]

theorem mapM_get {α β : Type} {f : α → Option β} : ∀ {l : List α} {r : List β}, l.mapM f = some r → ∀ {i : Nat} {a : α}, l[i]? = some a → ∃ b, f a = some b ∧ r[i]? = some b
  | [], r, h, i, a, e => by simp at e
  | x :: xs, r, h, i, a, e => by
    simp only [List.mapM_cons, Option.bind_eq_bind, Option.pure_def] at h
    cases hx : f x with
    | none => simp [hx] at h
    | some y =>
      cases hr : xs.mapM f with
      | none => simp [hx, hr] at h
      | some ys =>
        simp [hx, hr] at h
        subst h
        cases i with
        | zero => simp at e; subst e; exact ⟨y, hx, by simp⟩
        | succ i =>
          simp at e
          obtain ⟨b, h1, h2⟩ := mapM_get hr e
          exact ⟨b, h1, by simpa using h2⟩

theorem tile_open (d : Nat) (cs : List Value) (Pd : TypeId → List TV → Prop) : ∀ (fs : List (TypeId × Nat)) (off tot : Nat), tiles (mkTab P) fs off = some tot → tot ≤ cs.length →
    (∀ f ∈ fs, ∀ j, mkTab P f.1 = some j → ∃ tf, VRL g σ tf ((cs.drop f.2).take j.size) ∧ tf.all TV.one = true ∧ Pd f.1 tf) →
    ∃ tcs, VRL g σ tcs ((cs.drop off).take (tot - off)) ∧ tcs.all TV.one = true ∧ off ≤ tot ∧ ∀ f ∈ fs, off ≤ f.2 ∧ ∃ j, mkTab P f.1 = some j ∧ Pd f.1 ((tcs.drop (f.2 - off)).take j.size)
  | [], off, tot, h, hl, _ => by
    simp only [tiles, Option.some.injEq] at h; subst h
    exact ⟨[], by simp [VRL], rfl, Nat.le_refl _, fun f hf => by cases hf⟩
  | (t, o) :: fs, off, tot, h, hl, hf => by
    simp only [tiles] at h
    split at h
    · rename_i j hj
      split at h
      · rename_i ho
        subst ho
        obtain ⟨tcs, h1, h2, h3, h4⟩ := tile_open d cs Pd fs (o + j.size) tot h hl fun f hm j' hj' => hf f (List.mem_cons_of_mem _ hm) j' hj'
        obtain ⟨tf, q1, q2, q3⟩ := hf (t, o) (List.mem_cons_self ..) j hj
        have hlen : tf.length = j.size := by
          have := q1.length
          rw [← this]
          simp
          omega
        have hcat : ((cs.drop o).take j.size) ++ ((cs.drop (o + j.size)).take (tot - (o + j.size))) = (cs.drop o).take (tot - o) := by
          rw [show tot - o = j.size + (tot - (o + j.size)) by omega, List.take_add, List.drop_drop]
        refine ⟨tf ++ tcs, by rw [← hcat]; exact q1.append h1, by rw [List.all_append, q2, h2]; rfl, by omega, fun f hm => ?_⟩
        rcases List.mem_cons.1 hm with rfl | hm
        · refine ⟨Nat.le_refl _, j, hj, ?_⟩
          rw [Nat.sub_self, List.drop_zero, ← hlen, List.take_left]
          exact q3
        · obtain ⟨p1, j', p2, p3⟩ := h4 f hm
          refine ⟨by omega, j', p2, ?_⟩
          have : (tf ++ tcs).drop (f.2 - o) = tcs.drop (f.2 - (o + j.size)) := by
            rw [show f.2 - o = tf.length + (f.2 - (o + j.size)) by omega, ← List.drop_drop, List.drop_left]
          rw [this]
          exact p3
      · cases h
    · cases h

theorem row_open (Pd : List TV → Prop) (sz : Nat) (cell : Nat → List Value) : ∀ (n : Nat), (∀ i, i < n → ∃ tf, VRL g σ tf (cell i) ∧ tf.all TV.one = true ∧ Pd tf ∧ (cell i).length = sz) →
    ∃ tcs vs, VRL g σ tcs vs ∧ tcs.all TV.one = true ∧ tcs.length = n * sz ∧ (∀ i, i < n → Pd ((tcs.drop (i * sz)).take sz)) ∧ (∀ i, i < n → (vs.drop (i * sz)).take sz = cell i)
  | 0, _ => ⟨[], [], by simp [VRL], rfl, by simp, fun i hi => by omega, fun i hi => by omega⟩
  | n + 1, h => by
    obtain ⟨tcs, vs, h1, h2, h3, h4, h5⟩ := row_open Pd sz cell n fun i hi => h i (by omega)
    obtain ⟨tf, q1, q2, q3, q4⟩ := h n (by omega)
    have hlen : tf.length = sz := by rw [← q4]; exact q1.length.symm
    have hvl : vs.length = n * sz := by rw [h1.length]; exact h3
    refine ⟨tcs ++ tf, vs ++ cell n, h1.append q1, by rw [List.all_append, h2, q2]; rfl, by rw [List.length_append, h3, hlen, Nat.add_mul, Nat.one_mul], fun i hi => ?_, fun i hi => ?_⟩
    · rcases Nat.lt_or_ge i n with hlt | hge
      · have hle : i * sz + sz ≤ n * sz := by rw [← Nat.succ_mul]; exact Nat.mul_le_mul_right _ hlt
        rw [List.drop_append_of_le_length (by omega), List.take_append_of_le_length (by simp; omega)]
        exact h4 i hlt
      · obtain rfl : i = n := by omega
        rw [← h3, List.drop_left, ← hlen, List.take_length]
        exact q3
    · rcases Nat.lt_or_ge i n with hlt | hge
      · have hle : i * sz + sz ≤ n * sz := by rw [← Nat.succ_mul]; exact Nat.mul_le_mul_right _ hlt
        rw [List.drop_append_of_le_length (by omega), List.take_append_of_le_length (by simp; omega)]
        exact h5 i hlt
      · obtain rfl : i = n := by omega
        rw [← hvl, List.drop_left, ← q4, List.take_length]

theorem cells_get {w : World} {base : Nat} {a : Addr} {n : Nat} {cs : List Value} (h : w.cells? base a n = some cs) : cs.length = n ∧ ∀ i v, cs[i]? = some v → w.cell? (a.add i) = some v := by
  unfold World.cells? at h
  split at h
  · have hl : cs.length = n := by
      have : ∀ {l : List Nat} {r : List Value}, l.mapM (fun i => w.cell? (a.add i)) = some r → r.length = l.length := by
        intro l
        induction l with
        | nil => intro r h; simp at h; subst h; rfl
        | cons x xs ih =>
          intro r h
          simp only [List.mapM_cons, Option.bind_eq_bind, Option.pure_def] at h
          cases hx : w.cell? (a.add x) with
          | none => simp [hx] at h
          | some y =>
            cases hr : xs.mapM (fun i => w.cell? (a.add i)) with
            | none => simp [hx, hr] at h
            | some ys =>
              simp [hx, hr] at h
              subst h
              simp [ih hr]
      simpa using this h
    refine ⟨hl, fun i v e => ?_⟩
    have hi := (List.getElem?_eq_some_iff.1 e).1
    obtain ⟨b, h1, h2⟩ := mapM_get h (i := i) (a := i) (List.getElem?_range (by omega))
    rw [h2] at e; cases e
    exact h1
  · cases h

theorem open_trod {H : Type} {enc : TypeId × Value → H} {sp : Nat → Bool} : ∀ (d : Nat) (t : TypeId) (fuel : Nat) (cs : List Value) (x : DataW H × List MemPlace), plainT (mkTab P) d t = true →
    DataW.trod enc P W 0 sp true fuel t cs = some x → ∃ tcs, VRL (g0 W) [] tcs cs ∧ tcs.all TV.one = true ∧ Ty (mkTab P) d t tcs
  | 0, _, _, _, _, h, _ => by simp [plainT] at h
  | _, _, 0, _, _, _, h => by simp [DataW.trod] at h
  | d + 1, t, fuel + 1, cs, x, hp, h => by
    simp only [plainT] at hp
    split at hp
    · cases hp
    · rename_i i hi
      obtain ⟨info, ds, k1, k2, k3, k4, k5, k6, k7⟩ := mkTab_sound hi
      simp only [Ty, hi]
      split at hp
      · rename_i hk
        rw [k3] at hk; obtain rfl := TK.of_bool hk
        simp only [DataW.trod, k2] at h
        split at h <;> first | (cases h; done) | skip
        all_goals (try (rename_i heq; cases heq; done))
        all_goals (try (rename_i heq _; cases heq; done))
        rename_i b _
        exact ⟨[.bool b], by simp [VRL, VR], rfl, b, rfl⟩
      · rename_i k hk
        rw [k3] at hk; obtain rfl := TK.of_int hk
        simp only [DataW.trod, k2] at h
        split at h <;> first | (cases h; done) | skip
        all_goals (try (rename_i heq; cases heq; done))
        all_goals (try (rename_i heq _; cases heq; done))
        rename_i k0 k' n heq
        cases heq
        split at h
        · rename_i hw
          obtain ⟨rfl, hwf⟩ := hw
          simp only [Lit.wf, Bool.and_eq_true, decide_eq_true_eq] at hwf
          exact ⟨[.int k' n], by simp [VRL, VR], rfl, n, rfl, hwf.1, hwf.2⟩
        · cases h
      · rename_i hk
        rw [k3] at hk; obtain rfl := TK.of_str hk
        simp only [DataW.trod, k2] at h
        split at h <;> first | (cases h; done) | skip
        all_goals (try (rename_i heq; cases heq; done))
        all_goals (try (rename_i heq _; cases heq; done))
        rename_i s _
        split at h
        · rename_i hs
          exact ⟨[.str s], by simp [VRL, VR], rfl, s, rfl, by simpa [maxLen] using hs⟩
        · cases h
      · rename_i e hk
        rw [k3] at hk; obtain rfl := TK.of_slice hk
        simp only [Bool.and_eq_true] at hp
        obtain ⟨hpe, hsz⟩ := hp
        cases hj : mkTab P e with
        | none => simp [hj] at hsz
        | some j =>
          simp only [hj, bne_iff_ne, ne_eq] at hsz
          dsimp only
          simp only [DataW.trod, k2] at h
          split at h <;> first | (cases h; done) | skip
          all_goals (try (rename_i heq; cases heq; done))
          all_goals (try (rename_i heq _; cases heq; done))
          · exact ⟨[.nils], by simp [VRL, VR], rfl, .inl rfl⟩
          · rename_i e' a len cap heq
            cases heq
            split at h
            · rename_i hc
              obtain ⟨_, hle, hcm⟩ := hc
              cases hel : (List.range len).mapM (fun i => (W.cells? 0 (a.add (i * P.cellsOf e)) (P.cellsOf e)).bind (DataW.trod enc P W 0 sp true fuel e)) with
              | none => simp [hel] at h
              | some els =>
                rw [cellsOf_tab hj] at hel
                have hcell : ∀ i, i < len → ∃ cs, W.cells? 0 (a.add (i * j.size)) j.size = some cs ∧ ∃ y, DataW.trod enc P W 0 sp true fuel e cs = some y := by
                  intro i hi'
                  obtain ⟨b, h1, h2⟩ := mapM_get hel (i := i) (a := i) (List.getElem?_range (by omega))
                  cases hq : W.cells? 0 (a.add (i * j.size)) j.size with
                  | none => simp [hq] at h1
                  | some cs => exact ⟨cs, rfl, b, by simpa [hq] using h1⟩
                let cell : Nat → List Value := fun i => (W.cells? 0 (a.add (i * j.size)) j.size).getD []
                obtain ⟨tcs, vs, q1, q2, q3, q4, q5⟩ := row_open (g := g0 W) (σ := []) (Ty (mkTab P) d e) j.size cell len fun i hi' => by
                  obtain ⟨cs, h1, y, h2⟩ := hcell i hi'
                  obtain ⟨tf, p1, p2, p3⟩ := open_trod d e fuel cs y hpe h2
                  exact ⟨tf, by simp only [cell, h1, Option.getD_some]; exact p1, p2, p3, by simp only [cell, h1, Option.getD_some]; exact (cells_get h1).1⟩
                have hvlen : vs.length = len * j.size := by rw [q1.length]; exact q3
                have hspot : 0 < len → a.spot = none := by
                  intro h0
                  obtain ⟨cs, h1, _⟩ := hcell 0 h0
                  obtain ⟨hl, hg⟩ := cells_get h1
                  have hne : cs[0]? = some cs[0] := List.getElem?_eq_getElem (by omega)
                  have := hg 0 _ hne
                  cases hs : a.spot with
                  | none => rfl
                  | some z =>
                    simp [Addr.add, World.cell?, hs] at this
                    split at this <;> simp at this
                have hcells : ∀ m v, vs[m]? = some v → W.cell? ⟨a.block, a.off + m, none⟩ = some v := by
                  intro m v hm
                  have hlt := (List.getElem?_eq_some_iff.1 hm).1
                  have hj0 : 0 < j.size := Nat.pos_of_ne_zero hsz
                  have hi' : m / j.size < len := by rw [Nat.div_lt_iff_lt_mul hj0]; omega
                  have hr := Nat.mod_lt m hj0
                  have hdm : m / j.size * j.size + m % j.size = m := by rw [Nat.mul_comm]; exact Nat.div_add_mod m j.size
                  have h5 := q5 _ hi'
                  obtain ⟨cs, h1, _⟩ := hcell _ hi'
                  have hc : cell (m / j.size) = cs := by simp [cell, h1]
                  rw [hc] at h5
                  have hget : cs[m % j.size]? = some v := by
                    rw [← h5, List.getElem?_take, if_pos hr, List.getElem?_drop, hdm]
                    exact hm
                  have hs := hspot (Nat.lt_of_le_of_lt (Nat.zero_le _) hi')
                  have := (cells_get h1).2 _ _ hget
                  rw [Addr.add_of hs, Addr.add_lit] at this
                  simpa [Nat.add_assoc, hdm] using this
                refine ⟨[.sl none len tcs], ?_, rfl, .inr ⟨len, tcs, rfl, by simpa [maxLen] using Nat.le_trans hle hcm, q3, q2, q4⟩⟩
                simp only [VRL, VR]
                refine ⟨_, [], rfl, ⟨a, cap, vs, rfl, hle, ?_, ?_, q1, trivial⟩, rfl⟩
                · intro m v hm
                  exact g0_kept (hcells m v hm) (q1.one q2 v (List.mem_of_getElem? hm))
                · rcases Nat.eq_zero_or_pos len with h0 | h0
                  · right
                    subst h0
                    exact List.eq_nil_of_length_eq_zero (by simpa using hvlen)
                  · exact .inl (hspot h0)
            · cases h
      · rename_i fs nm hk
        rw [k3] at hk; obtain ⟨fields, rfl, rfl, _⟩ := TK.of_struct hk
        simp only [Bool.and_eq_true, beq_iff_eq, List.all_eq_true] at hp
        obtain ⟨ht, hall⟩ := hp
        simp only [DataW.trod, k2] at h
        rw [cellsOf_tab hi] at h
        split at h
        · rename_i hlen
          cases hm : fields.toList.mapM (fun f => DataW.trod enc P W 0 sp true fuel f.type ((cs.drop f.offset).take (P.cellsOf f.type))) with
          | none => simp [hm] at h
          | some xs =>
            obtain ⟨tcs, q1, q2, q3, q4⟩ := tile_open (g := g0 W) (σ := []) d cs (Ty (mkTab P) d) _ 0 i.size ht (by omega) fun f hf j hj => by
              obtain ⟨fl, hfl, rfl⟩ := List.mem_map.1 hf
              obtain ⟨n, hn⟩ := List.mem_iff_getElem?.1 hfl
              obtain ⟨y, h1, _⟩ := mapM_get hm hn
              rw [cellsOf_tab hj] at h1
              exact open_trod d fl.type fuel _ y (hall _ hf) h1
            simp only [List.drop_zero, Nat.sub_zero] at q1
            rw [List.take_of_length_le (by omega)] at q1
            refine ⟨tcs, q1, q2, by rw [← q1.length]; exact hlen, fun f hf => ?_⟩
            obtain ⟨_, j, hj, hty⟩ := q4 f hf
            rw [hj]
            simpa using hty
        · cases h
      · rename_i n e hk
        rw [k3] at hk; obtain rfl := TK.of_arr hk
        simp only [Bool.and_eq_true] at hp
        obtain ⟨hpe, hsz⟩ := hp
        cases hj : mkTab P e with
        | none => simp [hj] at hsz
        | some j =>
          simp only [hj, beq_iff_eq] at hsz
          dsimp only
          simp only [DataW.trod, k2] at h
          rw [cellsOf_tab hi, cellsOf_tab hj] at h
          split at h
          · rename_i hlen
            cases hm : (List.range n).mapM (fun i => DataW.trod enc P W 0 sp true fuel e ((cs.drop (i * j.size)).take j.size)) with
            | none => simp [hm] at h
            | some xs =>
              obtain ⟨tcs, vs, q1, q2, q3, q4, q5⟩ := row_open (g := g0 W) (σ := []) (Ty (mkTab P) d e) j.size (fun i => (cs.drop (i * j.size)).take j.size) n fun i hi' => by
                obtain ⟨y, h1, _⟩ := mapM_get hm (i := i) (a := i) (List.getElem?_range (by omega))
                obtain ⟨tf, p1, p2, p3⟩ := open_trod d e fuel _ y hpe h1
                refine ⟨tf, p1, p2, p3, ?_⟩
                have hle : i * j.size + j.size ≤ n * j.size := by rw [← Nat.succ_mul]; exact Nat.mul_le_mul_right _ hi'
                simp
                omega
              have hvs : vs = cs := by
                have hvlen : vs.length = n * j.size := by rw [q1.length]; exact q3
                apply List.ext_getElem?
                intro m
                rcases Nat.lt_or_ge m (n * j.size) with hlt | hge
                · rcases Nat.eq_zero_or_pos j.size with h0 | h0
                  · rw [h0] at hlt; omega
                  · have hi' : m / j.size < n := by rw [Nat.div_lt_iff_lt_mul h0]; exact hlt
                    have hr := Nat.mod_lt m h0
                    have hdm : m / j.size * j.size + m % j.size = m := by rw [Nat.mul_comm]; exact Nat.div_add_mod m j.size
                    have h5 := congrArg (fun l => l[m % j.size]?) (q5 _ hi')
                    simp only [List.getElem?_take, if_pos hr, List.getElem?_drop, hdm] at h5
                    exact h5
                · rw [List.getElem?_eq_none (by omega), List.getElem?_eq_none (by omega)]
              subst hvs
              exact ⟨tcs, q1, q2, q3, q4⟩
          · cases h
      · cases hp
termination_by d => d

end
end Go.TM
