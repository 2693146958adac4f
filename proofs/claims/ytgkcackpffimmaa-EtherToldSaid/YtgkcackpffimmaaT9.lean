/- The T-machine, part 9: the operations of a region, one by one. -/
import Derived.Test.YtgkcackpffimmaaT18
set_option linter.unusedVariables false
namespace Go.TM
open Go.RowKit (Below)

abbrev TL := List (Option TV)

def ev (m : TL) : Operand → Option TV
  | .tmp t => match m[t]? with
    | some (some v) => some v
    | _ => none
  | .const v => constV v
  | .global _ => none
  | .func f => some (.func (.func f) [] [])

structure TLR (g : G) (σ : TS) (m : TL) (a : Act) : Prop where
  size : m.length = a.tmps.size
  get : ∀ (t : Nat) (tv : TV), m[t]? = some (some tv) → ∃ v, a.tmps[t]? = some v ∧ VR g σ tv v
  defers : a.defers = []

theorem TLR.mono {g g' : G} {σ σ' : TS} {m : TL} {a : Act} (h : Ext g σ g' σ') (hm : TLR g σ m a) : TLR g' σ' m a :=
  ⟨hm.size, fun t tv e => let ⟨v, h1, h2⟩ := hm.get t tv e; ⟨v, h1, h2.mono h⟩, hm.defers⟩

def tput (m : TL) (dst : Option Tmp) (v : Option TV) : TL :=
  match dst with
  | some d => m.set d v
  | none => m

theorem TLR.put {g : G} {σ : TS} {m : TL} {a : Act} (h : TLR g σ m a) (dst : Option Tmp) {tv : TV} {v : Value} (hv : VR g σ tv v) : TLR g σ (tput m dst (some tv)) (a.put dst v) := by
  cases dst with
  | none => exact h
  | some d =>
    refine ⟨by simp [tput, Act.put, h.size], fun t x e => ?_, h.defers⟩
    simp only [tput] at e
    simp only [Act.put]
    by_cases hd : d = t
    · subst hd
      rw [List.getElem?_set] at e
      simp only [if_true] at e
      split at e
      · rename_i hlt
        cases e
        exact ⟨v, by rw [Array.getElem?_setIfInBounds_self]; simp; rw [← h.size]; exact hlt, hv⟩
      · cases e
    · rw [List.getElem?_set_ne hd] at e
      obtain ⟨u, h1, h2⟩ := h.get t x e
      exact ⟨u, by rw [Array.getElem?_setIfInBounds_ne hd]; exact h1, h2⟩

theorem TLR.putNone {g : G} {σ : TS} {m : TL} {a : Act} (h : TLR g σ m a) (dst : Option Tmp) (v : Value) : TLR g σ (tput m dst none) (a.put dst v) := by
  cases dst with
  | none => exact h
  | some d =>
    refine ⟨by simp [tput, Act.put, h.size], fun t x e => ?_, h.defers⟩
    simp only [tput] at e
    simp only [Act.put]
    by_cases hd : d = t
    · subst hd
      rw [List.getElem?_set] at e
      simp only [if_true] at e
      split at e <;> cases e
    · rw [List.getElem?_set_ne hd] at e
      obtain ⟨u, h1, h2⟩ := h.get t x e
      exact ⟨u, by rw [Array.getElem?_setIfInBounds_ne hd]; exact h1, h2⟩

theorem ev_sound {g : G} {σ : TS} {m : TL} {a : Act} (h : TLR g σ m a) {x : Operand} {tv : TV} (he : ev m x = some tv) : VR g σ tv (a.eval x) := by
  cases x with
  | tmp t =>
    simp only [ev] at he
    split at he
    · rename_i v hv
      cases he
      obtain ⟨u, h1, h2⟩ := h.get t tv hv
      simp only [Act.eval, Array.getD_eq_getD_getElem?, h1]
      exact h2
    · cases he
  | const v => exact constV_sound he
  | global _ => simp [ev] at he
  | func f =>
    simp only [ev, Option.some.injEq] at he
    subst he
    simp only [VR, Act.eval]
    exact ⟨#[], #[], rfl, by simp [VRL], by simp [VRL]⟩

def evs (m : TL) : List Operand → Option (List TV)
  | [] => some []
  | x :: xs => match ev m x, evs m xs with
    | some v, some vs => some (v :: vs)
    | _, _ => none

theorem evs_sound {g : G} {σ : TS} {m : TL} {a : Act} (h : TLR g σ m a) : ∀ {xs : List Operand} {vs : List TV}, evs m xs = some vs → VRL g σ vs (xs.map a.eval)
  | [], _, e => by simp only [evs] at e; cases e; simp [VRL]
  | x :: xs, _, e => by
    simp only [evs] at e
    split at e
    · rename_i v vs h1 h2
      cases e
      simp only [List.map_cons, VRL]
      exact ⟨_, _, rfl, ev_sound h h1, evs_sound h h2⟩
    · cases e

def evParts (m : TL) : List (Nat × Operand) → Option (List (Nat × TV))
  | [] => some []
  | (i, x) :: xs => match ev m x, evParts m xs with
    | some v, some vs => some ((i, v) :: vs)
    | _, _ => none

theorem evParts_sound {g : G} {σ : TS} {m : TL} {a : Act} (h : TLR g σ m a) : ∀ {xs : List (Nat × Operand)} {vs : List (Nat × TV)}, evParts m xs = some vs → PartsR g σ vs (xs.map fun (i, x) => (i, a.eval x))
  | [], _, e => by simp only [evParts] at e; cases e; simp [PartsR]
  | (i, x) :: xs, _, e => by
    simp only [evParts] at e
    split at e
    · rename_i v vs h1 h2
      cases e
      simp only [List.map_cons, PartsR]
      exact ⟨_, _, rfl, rfl, ev_sound h h1, evParts_sound h h2⟩
    · cases e

def evB (m : TL) : Option Operand → Option (Option Nat)
  | none => some none
  | some x => match ev m x with
    | some (.int _ n) => if 0 ≤ n then some (some n.toNat) else none
    | _ => none

theorem evB_sound {g : G} {σ : TS} {m : TL} {a : Act} (h : TLR g σ m a) {x : Option Operand} {n : Option Nat} (he : evB m x = some n) : BR n (x.map a.eval) := by
  cases x with
  | none => simp only [evB] at he; cases he; simp [BR]
  | some x =>
    simp only [evB] at he
    split at he
    · rename_i k n' hx
      split at he
      · rename_i hn
        cases he
        have := ev_sound h hx
        simp only [VR] at this
        simp only [BR, Option.map_some, this]
        exact ⟨k, by rw [Int.toNat_of_nonneg hn]⟩
      · cases he
    · cases he

def sound (v : TV) : Bool :=
  match v with
  | .ptr .. | .cp _ | .iface .. | .func (.func _) .. => true
  | _ => false

def tlenOp (T : Tab) (t : TypeId) (x : TV) : Option TV :=
  match T t with
  | some i => match i.k, x with
    | .str, .str s => some (.int .i64 s.size)
    | .slice _, .sl _ n _ => some (.int .i64 n)
    | .slice _, .nils => some (.int .i64 0)
    | .slice _, .msl _ _ n => some (.int .i64 n)
    | .arr n _, _ => some (.int .i64 n)
    | .ptr e, _ => match T e with
      | some j => match j.k with
        | .arr n _ => some (.int .i64 n)
        | _ => none
      | none => none
    | _, _ => none
  | none => none

theorem tlenOp_run {P : Program} {g : G} {σ : TS} {t ty : TypeId} {x r : TV} {xv : Value} (hx : VR g σ x xv) (h : tlenOp (mkTab P) t x = some r) (w : World) :
    ∃ v, (Builtin.len_ #[t] ty #[xv]).run P w = .ok v w ∧ VR g σ r v := by
  unfold tlenOp at h
  split at h
  · rename_i i hi
    obtain ⟨info, d, k1, k2, k3, k4, k5, k6, k7⟩ := mkTab_sound hi
    split at h
    · rename_i s hk
      cases h
      rw [k3] at hk; obtain rfl := TK.of_str hk
      simp only [VR] at hx; subst hx
      exact ⟨goInt s.size, by simp [Builtin.len_, run_underlying k2], by simp only [VR]; rfl⟩
    · rename_i hk
      cases h
      rw [k3] at hk; obtain rfl := TK.of_slice hk
      simp only [VR] at hx
      obtain ⟨a, cap, vs, rfl, _⟩ := hx
      exact ⟨_, by simp [Builtin.len_, run_underlying k2]; rfl, by simp only [VR]; rfl⟩
    · rename_i hk
      cases h
      rw [k3] at hk; obtain rfl := TK.of_slice hk
      simp only [VR] at hx; subst hx
      exact ⟨_, by simp [Builtin.len_, run_underlying k2]; rfl, by simp only [VR]; rfl⟩
    · rename_i hk
      cases h
      rw [k3] at hk; obtain rfl := TK.of_slice hk
      simp only [VR] at hx
      obtain ⟨b, cap, _, rfl, _⟩ := hx
      exact ⟨_, by simp [Builtin.len_, run_underlying k2]; rfl, by simp only [VR]; rfl⟩
    · rename_i n e hk
      cases h
      rw [k3] at hk; obtain rfl := TK.of_arr hk
      exact ⟨goInt n, by simp [Builtin.len_, run_underlying k2], by simp only [VR]; rfl⟩
    · rename_i e hk
      rw [k3] at hk; obtain rfl := TK.of_ptr hk
      split at h
      · rename_i j hj
        obtain ⟨info', d', m1, m2, m3, m4, m5, m6, m7⟩ := mkTab_sound hj
        split at h
        · rename_i n e' hk'
          cases h
          rw [m3] at hk'; obtain rfl := TK.of_arr hk'
          exact ⟨goInt n, by simp [Builtin.len_, run_underlying k2, run_underlying m2], by simp only [VR]; rfl⟩
        · cases h
      · cases h
    · cases h
  · cases h

def tminmax (mx : Bool) (x : TV) : List TV → Option TV
  | [] => match x with
    | .int .. => some x
    | _ => none
  | y :: ys => match x, y with
    | .int k a, .int _ b => tminmax mx (.int k (if mx then (if b > a then b else a) else (if b < a then b else a))) ys
    | _, _ => none

theorem tmin_run {P : Program} {g : G} {σ : TS} : ∀ (ys : List TV) (x r : TV) (xv : Value) (yvs : List Value), VR g σ x xv → VRL g σ ys yvs → tminmax false x ys = some r → ∀ w,
    ∃ v, (yvs.foldlM Builtin.min2 xv : Sem Value).run P w = .ok v w ∧ VR g σ r v
  | [], x, r, xv, yvs, hx, hy, h, w => by
    simp only [VRL] at hy; subst hy
    simp only [tminmax] at h
    split at h
    · cases h; exact ⟨xv, by simp, hx⟩
    · cases h
  | y :: ys, x, r, xv, yvs, hx, hy, h, w => by
    simp only [VRL] at hy
    obtain ⟨v, rest, rfl, hv, hr⟩ := hy
    simp only [tminmax] at h
    split at h
    · rename_i k a k' b
      simp only [VR] at hx hv; subst hx hv
      simp only [List.foldlM_cons, Sem.run_bind, Builtin.min2, Sem.run_pure, Result.andThen_ok]
      simp only [Bool.false_eq_true, if_false] at h
      exact tmin_run ys _ r _ rest (by simp only [VR]) hr h w
    · cases h

theorem tmax_run {P : Program} {g : G} {σ : TS} : ∀ (ys : List TV) (x r : TV) (xv : Value) (yvs : List Value), VR g σ x xv → VRL g σ ys yvs → tminmax true x ys = some r → ∀ w,
    ∃ v, (yvs.foldlM Builtin.max2 xv : Sem Value).run P w = .ok v w ∧ VR g σ r v
  | [], x, r, xv, yvs, hx, hy, h, w => by
    simp only [VRL] at hy; subst hy
    simp only [tminmax] at h
    split at h
    · cases h; exact ⟨xv, by simp, hx⟩
    · cases h
  | y :: ys, x, r, xv, yvs, hx, hy, h, w => by
    simp only [VRL] at hy
    obtain ⟨v, rest, rfl, hv, hr⟩ := hy
    simp only [tminmax] at h
    split at h
    · rename_i k a k' b
      simp only [VR] at hx hv; subst hx hv
      simp only [List.foldlM_cons, Sem.run_bind, Builtin.max2, Sem.run_pure, Result.andThen_ok]
      simp only [if_true] at h
      exact tmax_run ys _ r _ rest (by simp only [VR]) hr h w
    · cases h

def vres (x : Option TV) (σ : TS) : Option (Option TV × TS) :=
  match x with
  | some v => some (some v, σ)
  | none => none
def sres (x : Option (TV × TS)) : Option (Option TV × TS) :=
  match x with
  | some (v, σ) => some (some v, σ)
  | none => none
def ures (x : Option TS) : Option (Option TV × TS) :=
  match x with
  | some σ => some (none, σ)
  | none => none

def tbuiltin (T : Tab) (want : Bool) (σ : TS) (b : Builtin) (ts : List TypeId) (xs : List TV) : Option (Option TV × TS) :=
  match b, ts, xs with
  | .len, [t], [x] => vres (tlenOp T t x) σ
  | .min, _, x :: ys => vres (tminmax false x ys) σ
  | .max, _, x :: ys => vres (tminmax true x ys) σ
  | .append, [st, xt], [s, x] => sres (tappend T want σ st xt s x)
  | .delete, [t, _], [m, k] => sres (tdelete T σ t m k)
  | _, _, _ => none

/-- A slice that is read alone, as an array's address. -/
def tarrp (T : Tab) (t : TypeId) (x : TV) : Option TV :=
  match T t with
  | some i => match i.k, x with
    | .arr n _, .sl _ len cs => if n ≤ len ∧ cs ≠ [] then some (.cp cs) else none
    | _, _ => none
  | none => none

theorem tarrp_run {P : Program} {g : G} {σ : TS} {t : TypeId} {x r : TV} {xv : Value} (hx : VR g σ x xv) (h : tarrp (mkTab P) t x = some r) (w : World) :
    ∃ v, (Instr.arrayAt t xv).run P w = .ok v w ∧ VR g σ r v := by
  unfold tarrp at h
  split at h
  · rename_i i hi
    obtain ⟨info, d, k1, k2, k3, k4, k5, k6, k7⟩ := mkTab_sound hi
    split at h
    · rename_i n e own len cs hk
      rw [k3] at hk
      obtain rfl := TK.of_arr hk
      split at h
      · rename_i hn
        cases h
        simp only [VR] at hx
        obtain ⟨a, cap, vs, rfl, hle, hkp, hs, hl, ho⟩ := hx
        have hvs : vs ≠ [] := by
          intro e
          subst e
          have := hl.length
          simp only [List.length_nil] at this
          exact hn.2 (List.eq_nil_of_length_eq_zero this.symm)
        have hsp : a.spot = none := hs.resolve_right hvs
        refine ⟨.pointer (some a), ?_, ?_⟩
        · simp only [Instr.arrayAt, Sem.run_bind, run_underlying k2, Result.andThen_ok, Sem.run_pure]
          rw [if_neg (by have := hn.1; omega)]
          rfl
        · simp only [VR]
          obtain ⟨b, o, sp⟩ := a
          simp only at hsp
          subst hsp
          exact ⟨b, o, vs, rfl, hkp, hl⟩
      · cases h
    · cases h
  · cases h

def tOp (T : Tab) (wn : List Tmp) (m : TL) (o : Oper) (σ : TS) : Option (Option TV × TS) :=
  match o.op with
  | .move x | .assign x => vres (ev m x) σ
  | .pick c a b => match ev m c with
    | some (.bool c) => vres (ev m (if c then a else b)) σ
    | _ => none
  | .alloc e => sres (talloc T σ e)
  | .box _ x => match ev m x with
    | some v => sres (tbox σ v)
    | none => none
  | .build t ps => match evParts m ps.toList with
    | some vs => vres (tbuild T t vs) σ
    | none => none
  | .buildSlice t len ps => match evParts m ps.toList with
    | some vs => sres (tbuildSlice T (match o.dst with | some d => wn.contains d | none => false) σ t len vs)
    | none => none
  | .load t a => match ev m a with
    | some p => vres (tload T σ t p) σ
    | none => none
  | .store t a x => match ev m a, ev m x with
    | some p, some v => ures (tstore T σ t p v)
    | _, _ => none
  | .nilCheck x => match ev m x with
    | some v => if sound v then some (some v, σ) else none
    | none => none
  | .binOp op t x y _ => match ev m x, ev m y with
    | some a, some b => vres (tbin T (isC x || isC y) op t a b) σ
    | _, _ => none
  | .unOp op _ x => match ev m x with
    | some a => vres (tun op a) σ
    | none => none
  | .convert s d x => match ev m x with
    | some v => sres (tconv T (match o.dst with | some d => wn.contains d | none => false) (match o.dst with | some d => wn.contains (d + 1000000) | none => false) σ s d v)
    | none => none
  | .makeInterface t x => match ev m x, T t with
    | some v, some i => match i.k with
      | .iface _ => none
      | _ => some (some (.iface t v), σ)
    | _, _ => none
  | .makeFunc fn first captured => match evs m first.toList, evs m captured.toList with
    | some a, some b => some (some (.func fn a b), σ)
    | _, _ => none
  | .slice t x lo hi mx => match ev m x, evB m lo, evB m hi, evB m mx with
    | some v, some l, some h, some k => vres (tslice T t v l h k) σ
    | _, _, _, _ => none
  | .fieldAddr s x f => match ev m x with
    | some p => vres (tfieldAddr T s p f) σ
    | none => none
  | .field s x f => match ev m x with
    | some p => vres (tfield T s p f) σ
    | none => none
  | .indexAddr t x i => match ev m x, ev m i with
    | some a, some b => vres (tindexAddr T t a b) σ
    | _, _ => none
  | .index t x i => match ev m x, ev m i with
    | some a, some b => vres (tindex T t a b) σ
    | _, _ => none
  | .extract x i => match ev m x with
    | some (.tup vs) => vres vs[i]? σ
    | _ => none
  | .call { callee := .builtin b, args := xs, argTypes := ts } => match evs m xs.toList with
    | some vs => tbuiltin T (match o.dst with | some d => wn.contains d | none => false) σ b ts.toList vs
    | none => none
  | .makeMap _ none => some (some (tmakeMap σ).1, (tmakeMap σ).2)
  | .lookup t x k ok => match ev m x, ev m k with
    | some a, some b => vres (tlookup T σ t a b ok) σ
    | _, _ => none
  | .mapUpdate t x k v => match ev m x, ev m k, ev m v with
    | some a, some b, some c => ures (tmapUpdate T σ t a b c)
    | _, _, _ => none
  | .mapEntry t x k => match ev m x, ev m k with
    | some a, some b => sres (tmapEntry T σ t a b)
    | _, _ => none
  | .entryStore _ x s v => match ev m x, ev m s, ev m v with
    | some a, some b, some c => ures (tentryStore σ a b c)
    | _, _, _ => none
  | .typeAssert x _ t ok => match ev m x with
    | some a => vres (ttypeAssert T a t ok) σ
    | none => none
  | .sliceToArrayPointer t x => match ev m x with
    | some a => vres (tarrp T t a) σ
    | none => none
  | _ => none

/-- An operation is done, and the world goes on. -/
def OpOk (P : Program) (g : G) (σ : TS) (w : World) (s : Sem Next) (r : Option TV) (σ' : TS) : Prop :=
  ∃ g' w', Ext g σ g' σ' ∧ WR g' σ' w' ∧ match r with
    | some tv => ∃ v, s.run P w = .ok (.value v) w' ∧ VR g' σ' tv v
    | none => s.run P w = .ok .skip w'

theorem OpOk.ofVal {P : Program} {g : G} {σ σ' : TS} {w : World} {s : Sem Value} {tv : TV} (h : ValOk P g σ w s tv σ') : OpOk P g σ w (do pure (.value (← s))) (some tv) σ' := by
  obtain ⟨g', w', v, h1, h2, h3, h4⟩ := h
  exact ⟨g', w', h2, h3, v, by simp [h1], h4⟩

theorem OpOk.ofRun {P : Program} {g : G} {σ : TS} {w : World} (hw : WR g σ w) {s : Sem Value} {tv : TV} (h : ∃ v, s.run P w = .ok v w ∧ VR g σ tv v) : OpOk P g σ w (do pure (.value (← s))) (some tv) σ :=
  OpOk.ofVal (let ⟨v, h1, h2⟩ := h; ValOk.same hw h1 h2)

theorem vres_some {x : Option TV} {σ σ' : TS} {r : Option TV} (h : vres x σ = some (r, σ')) : ∃ v, x = some v ∧ r = some v ∧ σ' = σ := by
  unfold vres at h
  split at h
  · cases h; exact ⟨_, rfl, rfl, rfl⟩
  · cases h
theorem sres_some {x : Option (TV × TS)} {σ' : TS} {r : Option TV} (h : sres x = some (r, σ')) : ∃ v, x = some (v, σ') ∧ r = some v := by
  unfold sres at h
  split at h
  · cases h; exact ⟨_, rfl, rfl⟩
  · cases h
theorem ures_some {x : Option TS} {σ' : TS} {r : Option TV} (h : ures x = some (r, σ')) : x = some σ' ∧ r = none := by
  unfold ures at h
  split at h
  · cases h; exact ⟨rfl, rfl⟩
  · cases h

theorem tOp_ok {P : Program} {g : G} {σ σ' : TS} {w : World} {m : TL} {a : Act} {wn : List Tmp} {o : Oper} {r : Option TV} (hw : WR g σ w) (hm : TLR g σ m a)
    (h : tOp (mkTab P) wn m o σ = some (r, σ')) : OpOk P g σ w (execOp a.eval o) r σ' := by
  unfold tOp at h
  unfold execOp
  split at h
  case h_1 x hop =>
    obtain ⟨v, h1, rfl, rfl⟩ := vres_some h
    simp only [hop]
    exact ⟨g, w, Ext.refl _ _, hw, _, rfl, ev_sound hm h1⟩
  case h_2 x hop =>
    obtain ⟨v, h1, rfl, rfl⟩ := vres_some h
    simp only [hop]
    exact ⟨g, w, Ext.refl _ _, hw, _, rfl, ev_sound hm h1⟩
  case h_3 c x y hop =>
    simp only [hop]
    split at h
    · rename_i cb hc
      obtain ⟨v, h1, rfl, rfl⟩ := vres_some h
      have hcv := ev_sound hm hc
      simp only [VR] at hcv
      refine ⟨g, w, Ext.refl _ _, hw, a.eval (if cb = true then x else y), ?_, ev_sound hm h1⟩
      simp only [hcv, asBool, Sem.run_bind, Sem.run_pure, Result.andThen_ok]
      cases cb <;> rfl
    · cases h
  case h_4 e hop =>
    obtain ⟨v, h1, rfl⟩ := sres_some h
    simp only [hop]
    exact OpOk.ofVal (talloc_ok hw h1)
  case h_5 e x hop =>
    simp only [hop]
    split at h
    · rename_i v hv
      obtain ⟨u, h1, rfl⟩ := sres_some h
      exact OpOk.ofVal (tbox_ok hw (ev_sound hm hv) h1)
    · cases h
  case h_6 t ps hop =>
    simp only [hop]
    split at h
    · rename_i vs hv
      obtain ⟨u, h1, rfl, rfl⟩ := vres_some h
      exact OpOk.ofRun hw (tbuild_run (by simpa using evParts_sound hm hv) h1 w)
    · cases h
  case h_7 t len ps hop =>
    simp only [hop]
    split at h
    · rename_i vs hv
      obtain ⟨u, h1, rfl⟩ := sres_some h
      exact OpOk.ofVal (tbuildSlice_ok hw (by simpa using evParts_sound hm hv) h1)
    · cases h
  case h_8 t x hop =>
    simp only [hop]
    split at h
    · rename_i p hp
      obtain ⟨u, h1, rfl, rfl⟩ := vres_some h
      exact OpOk.ofRun hw (tload_run hw (ev_sound hm hp) h1)
    · cases h
  case h_9 t x y hop =>
    simp only [hop]
    split at h
    · rename_i p v hp hv
      obtain ⟨h1, rfl⟩ := ures_some h
      obtain ⟨w', q1, q2, q3⟩ := tstore_ok hw (ev_sound hm hp) (ev_sound hm hv) h1
      exact ⟨g, w', q2, q3, by simp [q1]⟩
    · cases h
  case h_10 x hop =>
    simp only [hop]
    split at h
    · rename_i v hv
      split at h
      · rename_i hs
        cases h
        have hx := ev_sound hm hv
        refine ⟨g, w, Ext.refl _ _, hw, a.eval x, ?_, hx⟩
        unfold sound at hs
        split at hs
        · simp only [VR] at hx; obtain ⟨_, _, e⟩ := hx; rw [e]; rfl
        · simp only [VR] at hx; obtain ⟨_, _, _, e, _⟩ := hx; rw [e]; rfl
        · simp only [VR] at hx; obtain ⟨_, e, _⟩ := hx; rw [e]; rfl
        · simp only [VR] at hx; obtain ⟨_, _, e, _⟩ := hx; rw [e]; rfl
        · cases hs
      · cases h
    · cases h
  case h_11 op t x y yt hop =>
    simp only [hop]
    split at h
    · rename_i p q hp hq
      obtain ⟨u, h1, rfl, rfl⟩ := vres_some h
      exact OpOk.ofRun hw (tbin_run (ev_sound hm hp) (ev_sound hm hq) h1 w)
    · cases h
  case h_12 op t x hop =>
    simp only [hop]
    split at h
    · rename_i p hp
      obtain ⟨u, h1, rfl, rfl⟩ := vres_some h
      exact OpOk.ofRun hw (tun_run (ev_sound hm hp) h1 w)
    · cases h
  case h_13 s d x hop =>
    simp only [hop]
    split at h
    · rename_i p hp
      obtain ⟨u, h1, rfl⟩ := sres_some h
      exact OpOk.ofVal (tconv_ok hw (ev_sound hm hp) h1)
    · cases h
  case h_14 t x hop =>
    simp only [hop]
    split at h
    · rename_i v i hv hi
      obtain ⟨info, d, k1, k2, k3, k4, k5, k6, k7⟩ := mkTab_sound hi
      split at h
      · cases h
      · rename_i hne
        cases h
        refine OpOk.ofRun hw ⟨.iface t (a.eval x), ?_, by simp only [VR]; exact ⟨_, rfl, ev_sound hm hv⟩⟩
        simp only [Instr.makeInterface, Sem.run_bind, run_underlying k2, Result.andThen_ok]
        cases d <;> first | rfl | (exfalso; exact hne _ (by rw [k3]; rfl))
    · cases h
  case h_15 fn first captured hop =>
    simp only [hop]
    split at h
    · rename_i x y hx hy
      cases h
      refine OpOk.ofRun hw ⟨.func fn (first.map a.eval) (captured.map a.eval), rfl, ?_⟩
      simp only [VR]
      exact ⟨_, _, rfl, by simpa using evs_sound hm hx, by simpa using evs_sound hm hy⟩
    · cases h
  case h_16 t x lo hi mx hop =>
    simp only [hop]
    split at h
    · rename_i v l hh k hv h1 h2 h3
      obtain ⟨u, h4, rfl, rfl⟩ := vres_some h
      exact OpOk.ofRun hw (tslice_run (ev_sound hm hv) (evB_sound hm h1) (evB_sound hm h2) (evB_sound hm h3) h4 w)
    · cases h
  case h_17 s x f hop =>
    simp only [hop]
    split at h
    · rename_i p hp
      obtain ⟨u, h1, rfl, rfl⟩ := vres_some h
      exact OpOk.ofRun hw (tfieldAddr_run (ev_sound hm hp) h1 w)
    · cases h
  case h_18 s x f hop =>
    simp only [hop]
    split at h
    · rename_i p hp
      obtain ⟨u, h1, rfl, rfl⟩ := vres_some h
      exact OpOk.ofRun hw (tfield_run (ev_sound hm hp) h1 w)
    · cases h
  case h_19 t x i hop =>
    simp only [hop]
    split at h
    · rename_i p q hp hq
      obtain ⟨u, h1, rfl, rfl⟩ := vres_some h
      exact OpOk.ofRun hw (tindexAddr_run (ev_sound hm hp) (ev_sound hm hq) h1 w)
    · cases h
  case h_20 t x i hop =>
    simp only [hop]
    split at h
    · rename_i p q hp hq
      obtain ⟨u, h1, rfl, rfl⟩ := vres_some h
      exact OpOk.ofRun hw (tindex_run (ev_sound hm hp) (ev_sound hm hq) h1 w)
    · cases h
  case h_21 x i hop =>
    simp only [hop]
    split at h
    · rename_i vs hv
      obtain ⟨u, h1, rfl, rfl⟩ := vres_some h
      have hx := ev_sound hm hv
      simp only [VR] at hx
      obtain ⟨us, e, hl⟩ := hx
      obtain ⟨v, h2, h3⟩ := hl.get h1
      refine OpOk.ofRun hw ⟨v, ?_, h3⟩
      have h2' : us[i]? = some v := by rw [← Array.getElem?_toList]; exact h2
      simp [e, Instr.extract, h2']
    · cases h
  case h_22 b xs ts hop =>
    simp only [hop]
    split at h
    · rename_i vs hv
      have hl := evs_sound hm hv
      unfold tbuiltin at h
      split at h
      · rename_i t x hts
        obtain ⟨u, h1, rfl, rfl⟩ := vres_some h
        simp only [VRL] at hl
        obtain ⟨xv, rest, e1, hx, rfl⟩ := hl
        have e2 : xs.map a.eval = #[xv] := by apply Array.ext'; simp [e1]
        have e3 : ts = #[t] := by apply Array.ext'; simp [hts]
        simp only [resolve, Sem.run_bind, Sem.run_pure, Result.andThen_ok, invoke, builtin, e2, e3, OpOk]
        obtain ⟨v, h2, h3⟩ := tlenOp_run (P := P) (ty := o.type) hx h1 w
        exact ⟨g, w, Ext.refl _ _, hw, v, by simp [h2], h3⟩
      · rename_i x ys
        obtain ⟨u, h1, rfl, rfl⟩ := vres_some h
        simp only [VRL] at hl
        obtain ⟨xv, rest, e1, hx, hr⟩ := hl
        have e2 : (xs.map a.eval).toList = xv :: rest := by simp [e1]
        simp only [resolve, Sem.run_bind, Sem.run_pure, Result.andThen_ok, invoke, builtin, Builtin.min_, e2, OpOk]
        obtain ⟨v, h2, h3⟩ := tmin_run (P := P) ys x u xv rest hx hr h1 w
        exact ⟨g, w, Ext.refl _ _, hw, v, by simp [h2], h3⟩
      · rename_i x ys
        obtain ⟨u, h1, rfl, rfl⟩ := vres_some h
        simp only [VRL] at hl
        obtain ⟨xv, rest, e1, hx, hr⟩ := hl
        have e2 : (xs.map a.eval).toList = xv :: rest := by simp [e1]
        simp only [resolve, Sem.run_bind, Sem.run_pure, Result.andThen_ok, invoke, builtin, Builtin.max_, e2, OpOk]
        obtain ⟨v, h2, h3⟩ := tmax_run (P := P) ys x u xv rest hx hr h1 w
        exact ⟨g, w, Ext.refl _ _, hw, v, by simp [h2], h3⟩
      · rename_i st xt s x hts
        obtain ⟨u, h1, rfl⟩ := sres_some h
        simp only [VRL] at hl
        obtain ⟨sv, rest, e1, hs, xv, rest', rfl, hx, rfl⟩ := hl
        have e2 : xs.map a.eval = #[sv, xv] := by apply Array.ext'; simp [e1]
        have e3 : ts = #[st, xt] := by apply Array.ext'; simp [hts]
        obtain ⟨g', w', v, h2, h3⟩ := tappend_ok (P := P) (ty := o.type) hw hs hx h1
        simp only [resolve, Sem.run_bind, Sem.run_pure, Result.andThen_ok, invoke, builtin, e2, e3, OpOk]
        exact ⟨g', w', h3.1, h3.2.1, v, by simp [h2], h3.2.2⟩
      · rename_i st xt s x hts
        obtain ⟨u, h1, rfl⟩ := sres_some h
        simp only [VRL] at hl
        obtain ⟨sv, rest, e1, hs, xv, rest', rfl, hx, rfl⟩ := hl
        have e2 : xs.map a.eval = #[sv, xv] := by apply Array.ext'; simp [e1]
        have e3 : ts = #[st, xt] := by apply Array.ext'; simp [hts]
        obtain ⟨g', w', v, h2, h3⟩ := tdelete_ok (P := P) (u := xt) (ty := o.type) hw hs hx h1
        simp only [resolve, Sem.run_bind, Sem.run_pure, Result.andThen_ok, invoke, builtin, e2, e3, OpOk]
        exact ⟨g', w', h3.1, h3.2.1, v, by simp [h2], h3.2.2⟩
      · cases h
    · cases h
  case h_23 t hop =>
    simp only [hop]
    cases h
    exact OpOk.ofVal (tmakeMap_ok hw)
  case h_24 t x k ok hop =>
    simp only [hop]
    split at h
    · rename_i p q hp hq
      obtain ⟨u, h1, rfl, rfl⟩ := vres_some h
      exact OpOk.ofRun hw (tlookup_run hw (ev_sound hm hp) (ev_sound hm hq) h1)
    · cases h
  case h_25 t x k y hop =>
    simp only [hop]
    split at h
    · rename_i p q r hp hq hr
      obtain ⟨h1, rfl⟩ := ures_some h
      obtain ⟨w', q1, q2, q3⟩ := tmapUpdate_ok hw (ev_sound hm hp) (ev_sound hm hq) (ev_sound hm hr) h1
      exact ⟨g, w', q2, q3, by simp [q1]⟩
    · cases h
  case h_26 t x k hop =>
    simp only [hop]
    split at h
    · rename_i p q hp hq
      obtain ⟨u, h1, rfl⟩ := sres_some h
      exact OpOk.ofVal (tmapEntry_ok hw (ev_sound hm hp) (ev_sound hm hq) h1)
    · cases h
  case h_27 t x k y hop =>
    simp only [hop]
    split at h
    · rename_i p q r hp hq hr
      obtain ⟨h1, rfl⟩ := ures_some h
      obtain ⟨w', q1, q2, q3⟩ := tentryStore_ok (P := P) (t := t) hw (ev_sound hm hp) (ev_sound hm hq) (ev_sound hm hr) h1
      exact ⟨g, w', q2, q3, by simp [q1]⟩
    · cases h
  case h_28 x xt t ok hop =>
    simp only [hop]
    split at h
    · rename_i p hp
      obtain ⟨u, h1, rfl, rfl⟩ := vres_some h
      exact OpOk.ofRun hw (ttypeAssert_run (ev_sound hm hp) h1 w)
    · cases h
  case h_29 t x hop =>
    simp only [hop]
    split at h
    · rename_i p hp
      obtain ⟨u, h1, rfl, rfl⟩ := vres_some h
      exact OpOk.ofRun hw (tarrp_run (ev_sound hm hp) h1 w)
    · cases h
  case h_30 => cases h

end Go.TM
