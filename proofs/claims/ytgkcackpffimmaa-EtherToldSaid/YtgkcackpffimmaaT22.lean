/- The T-machine, part 22: one operation at a time, its operands read first: what is left for the simp set is the operation alone, without the frame. -/
import Derived.Test.YtgkcackpffimmaaT21
set_option linter.unusedVariables false
set_option linter.unusedSimpArgs false
namespace Go.TM

/-- What goes on with an answer. -/
def res (o : Option TV) (C : TV → Prop) : Prop := match o with
  | some v => C v
  | none => False
def resS (o : Option (TV × TS)) (C : TV → TS → Prop) : Prop := match o with
  | some (v, σ) => C v σ
  | none => False
def resH (o : Option TS) (C : TS → Prop) : Prop := match o with
  | some σ => C σ
  | none => False
theorem res_some {v : TV} {C : TV → Prop} : res (some v) C = C v := rfl
theorem resS_some {v : TV} {σ : TS} {C : TV → TS → Prop} : resS (some (v, σ)) C = C v σ := rfl
theorem resH_some {σ : TS} {C : TS → Prop} : resH (some σ) C = C σ := rfl
attribute [go_sem] res_some resS_some resH_some

section
variable {P : Program} {wn : List Tmp} {m : TL} {dst : Option Tmp} {σ : TS} {K : Option TV → TS → Prop} {x y z : Operand} {a b c : TV} {t s d e ty : TypeId} {n : Nat}

theorem tO_move (hx : ev m x = some a) (h : K (some a) σ) : tO P wn m dst (.move x) σ K := by
  simp only [tO, tOper, tOp, hx, vres]; exact h
theorem tO_assign (hx : ev m x = some a) (h : K (some a) σ) : tO P wn m dst (.assign x) σ K := by
  simp only [tO, tOper, tOp, hx, vres]; exact h
theorem tO_pickT (hx : ev m x = some (.bool true)) (hy : ev m y = some a) (h : K (some a) σ) : tO P wn m dst (.pick x y z) σ K := by
  simp only [tO, tOper, tOp, hx, if_true, hy, vres]; exact h
theorem tO_pickF (hx : ev m x = some (.bool false)) (hy : ev m z = some a) (h : K (some a) σ) : tO P wn m dst (.pick x y z) σ K := by
  simp only [tO, tOper, tOp, hx, Bool.false_eq_true, if_false, hy, vres]; exact h
theorem tO_alloc (h : resS (talloc (mkTab P) σ t) fun v τ => K (some v) τ) : tO P wn m dst (.alloc t) σ K := by
  simp only [tO, tOper, tOp, sres]
  unfold resS at h
  split at h
  · rename_i e; simp only [e]; exact h
  · exact h.elim
theorem tO_box (hx : ev m x = some a) (h : resS (tbox σ a) fun v τ => K (some v) τ) : tO P wn m dst (.box t x) σ K := by
  simp only [tO, tOper, tOp, hx, sres]
  unfold resS at h
  split at h
  · rename_i e; simp only [e]; exact h
  · exact h.elim
theorem res_v {o : Option TV} (h : res o fun v => K (some v) σ) : match vres o σ with | some (r, σ') => K r σ' | none => False := by
  unfold res at h
  split at h
  · exact h
  · exact h.elim
theorem res_s {o : Option (TV × TS)} (h : resS o fun v τ => K (some v) τ) : match sres o with | some (r, σ') => K r σ' | none => False := by
  unfold resS at h
  split at h
  · exact h
  · exact h.elim
theorem res_h {o : Option TS} (h : resH o fun τ => K none τ) : match ures o with | some (r, σ') => K r σ' | none => False := by
  unfold resH at h
  split at h
  · exact h
  · exact h.elim
theorem tO_build {ps : Array (Nat × Operand)} {vs : List (Nat × TV)} (hx : evParts m ps.toList = some vs) (h : res (tbuild (mkTab P) t vs) fun v => K (some v) σ) : tO P wn m dst (.build t ps) σ K := by
  simp only [tO, tOper, tOp, hx]; exact res_v h
theorem tO_buildSlice {ps : Array (Nat × Operand)} {vs : List (Nat × TV)} (hx : evParts m ps.toList = some vs) (h : resS (tbuildSlice (mkTab P) (match dst with | some d => wn.contains d | none => false) σ t n vs) fun v τ => K (some v) τ) : tO P wn m dst (.buildSlice t n ps) σ K := by
  simp only [tO, tOper, tOp, hx]; exact res_s h
theorem tO_load (hx : ev m x = some a) (h : res (tload (mkTab P) σ t a) fun v => K (some v) σ) : tO P wn m dst (.load t x) σ K := by
  simp only [tO, tOper, tOp, hx]; exact res_v h
theorem tO_store (hx : ev m x = some a) (hy : ev m y = some b) (h : resH (tstore (mkTab P) σ t a b) fun τ => K none τ) : tO P wn m dst (.store t x y) σ K := by
  simp only [tO, tOper, tOp, hx, hy]; exact res_h h
theorem tO_nilCheck (hx : ev m x = some a) (hs : sound a = true) (h : K (some a) σ) : tO P wn m dst (.nilCheck x) σ K := by
  simp only [tO, tOper, tOp, hx, hs, if_true]; exact h
theorem tO_bin {op : BinOp} (hx : ev m x = some a) (hy : ev m y = some b) (h : res (tbin (mkTab P) (isC x || isC y) op t a b) fun v => K (some v) σ) : tO P wn m dst (.binOp op t x y ty) σ K := by
  simp only [tO, tOper, tOp, hx, hy]; exact res_v h
theorem tO_un {op : UnOp} (hx : ev m x = some a) (h : res (tun op a) fun v => K (some v) σ) : tO P wn m dst (.unOp op t x) σ K := by
  simp only [tO, tOper, tOp, hx]; exact res_v h
theorem tO_convert (hx : ev m x = some a) (h : resS (tconv (mkTab P) (match dst with | some d => wn.contains d | none => false) (match dst with | some d => wn.contains (d + 1000000) | none => false) σ s d a) fun v τ => K (some v) τ) : tO P wn m dst (.convert s d x) σ K := by
  simp only [tO, tOper, tOp, hx]; exact res_s h
theorem tO_makeInterface {i : TI} (hx : ev m x = some a) (ht : mkTab P t = some i) (hk : (match i.k with | .iface _ => false | _ => true) = true) (h : K (some (.iface t a)) σ) : tO P wn m dst (.makeInterface t x) σ K := by
  simp only [tO, tOper, tOp, hx, ht]
  split
  · rename_i e
    split at e
    · cases e
    · cases e; exact h
  · rename_i e
    split at e
    · rename_i e2; rw [e2] at hk; cases hk
    · cases e
theorem tO_makeFunc {fn : Fn} {first captured : Array Operand} {as bs : List TV} (hx : evs m first.toList = some as) (hy : evs m captured.toList = some bs) (h : K (some (.func fn as bs)) σ) : tO P wn m dst (.makeFunc fn first captured) σ K := by
  simp only [tO, tOper, tOp, hx, hy]; exact h
theorem tO_slice {lo hi mx : Option Operand} {l h' k : Option Nat} (hx : ev m x = some a) (hl : evB m lo = some l) (hh : evB m hi = some h') (hm : evB m mx = some k) (h : res (tslice (mkTab P) t a l h' k) fun v => K (some v) σ) : tO P wn m dst (.slice t x lo hi mx) σ K := by
  simp only [tO, tOper, tOp, hx, hl, hh, hm]; exact res_v h
theorem tO_fieldAddr (hx : ev m x = some a) (h : res (tfieldAddr (mkTab P) t a n) fun v => K (some v) σ) : tO P wn m dst (.fieldAddr t x n) σ K := by
  simp only [tO, tOper, tOp, hx]; exact res_v h
theorem tO_field (hx : ev m x = some a) (h : res (tfield (mkTab P) t a n) fun v => K (some v) σ) : tO P wn m dst (.field t x n) σ K := by
  simp only [tO, tOper, tOp, hx]; exact res_v h
theorem tO_indexAddr (hx : ev m x = some a) (hy : ev m y = some b) (h : res (tindexAddr (mkTab P) t a b) fun v => K (some v) σ) : tO P wn m dst (.indexAddr t x y) σ K := by
  simp only [tO, tOper, tOp, hx, hy]; exact res_v h
theorem tO_index (hx : ev m x = some a) (hy : ev m y = some b) (h : res (tindex (mkTab P) t a b) fun v => K (some v) σ) : tO P wn m dst (.index t x y) σ K := by
  simp only [tO, tOper, tOp, hx, hy]; exact res_v h
theorem tO_extract {vs : List TV} (hx : ev m x = some (.tup vs)) (hy : vs[n]? = some a) (h : K (some a) σ) : tO P wn m dst (.extract x n) σ K := by
  simp only [tO, tOper, tOp, hx, hy, vres]; exact h
theorem tO_len {xs : Array Operand} {ts : Array TypeId} (hx : evs m xs.toList = some [a]) (ht : ts.toList = [t]) (h : res (tlenOp (mkTab P) t a) fun v => K (some v) σ) : tO P wn m dst (.call { callee := .builtin .len, args := xs, argTypes := ts }) σ K := by
  simp only [tO, tOper, tOp, hx, ht, tbuiltin]; exact res_v h
theorem tO_builtin {bu : Builtin} {xs : Array Operand} {ts : Array TypeId} {vs : List TV} {us : List TypeId} (hx : evs m xs.toList = some vs) (ht : ts.toList = us)
    (h : match tbuiltin (mkTab P) (match dst with | some d => wn.contains d | none => false) σ bu us vs with | some (r, σ') => K r σ' | none => False) : tO P wn m dst (.call { callee := .builtin bu, args := xs, argTypes := ts }) σ K := by
  simp only [tO, tOper, tOp, hx, ht]; exact h
theorem tO_call {f : Operand} {k : FuncId} {first captured vs : List TV} {xs : Array Operand} {ts : Array TypeId} (hf : ev m f = some (.func (.func k) first captured)) (hx : evs m xs.toList = some vs)
    (h : TCalls P k (first ++ vs ++ captured) σ fun v τ => K (some v) τ) : tO P wn m dst (.call { callee := .value f, args := xs, argTypes := ts }) σ K := by
  simp only [tO, tOper, hf, hx]; exact h
theorem tO_callF {k : FuncId} {vs : List TV} {xs : Array Operand} {ts : Array TypeId} (hx : evs m xs.toList = some vs)
    (h : TCalls P k vs σ fun v τ => K (some v) τ) : tO P wn m dst (.call { callee := .value (.func k), args := xs, argTypes := ts }) σ K := by
  simp only [tO, tOper, ev, hx, List.nil_append, List.append_nil]; exact h
theorem tO_invoke {r : Operand} {name : String} {l off : Nat} {k : FuncId} {vs : List TV} {xs : Array Operand} {ts : Array TypeId} (hr : ev m r = some (.iface t (.ptr l off))) (hx : evs m xs.toList = some vs) (hm : TMeth P t name k)
    (h : TCalls P k (.ptr l off :: vs) σ fun v τ => K (some v) τ) : tO P wn m dst (.call { callee := .invoke r name, args := xs, argTypes := ts }) σ K := by
  simp only [tO, tOper, hr, hx]; exact ⟨k, hm, h⟩
theorem tO_makeMap (h : K (some (.map σ.length)) (σ ++ [.map [] 0])) : tO P wn m dst (.makeMap t none) σ K := by
  simp only [tO, tOper, tOp, tmakeMap]; exact h
theorem tO_lookup {ok : Bool} (hx : ev m x = some a) (hy : ev m y = some b) (h : res (tlookup (mkTab P) σ t a b ok) fun v => K (some v) σ) : tO P wn m dst (.lookup t x y ok) σ K := by
  simp only [tO, tOper, tOp, hx, hy]; exact res_v h
theorem tO_mapUpdate (hx : ev m x = some a) (hy : ev m y = some b) (hz : ev m z = some c) (h : resH (tmapUpdate (mkTab P) σ t a b c) fun τ => K none τ) : tO P wn m dst (.mapUpdate t x y z) σ K := by
  simp only [tO, tOper, tOp, hx, hy, hz]; exact res_h h
theorem tO_mapEntry (hx : ev m x = some a) (hy : ev m y = some b) (h : resS (tmapEntry (mkTab P) σ t a b) fun v τ => K (some v) τ) : tO P wn m dst (.mapEntry t x y) σ K := by
  simp only [tO, tOper, tOp, hx, hy]; exact res_s h
theorem tO_entryStore (hx : ev m x = some a) (hy : ev m y = some b) (hz : ev m z = some c) (h : resH (tentryStore σ a b c) fun τ => K none τ) : tO P wn m dst (.entryStore t x y z) σ K := by
  simp only [tO, tOper, tOp, hx, hy, hz]; exact res_h h
theorem tO_typeAssert {ok : Bool} (hx : ev m x = some a) (h : res (ttypeAssert (mkTab P) a t ok) fun v => K (some v) σ) : tO P wn m dst (.typeAssert x s t ok) σ K := by
  simp only [tO, tOper, tOp, hx]; exact res_v h
end

section
variable {P : Program} {wn : List Tmp} {ops : Array Oper} {Q : TL → TS → Prop} {dst : Option Tmp} {op : Op} {ty : TypeId} {pos : String} {after : Array Edge} {rest : List Oper} {m : TL} {σ : TS} {K : Option TV → TS → Prop}
theorem twL_do (h : ∀ K : Option TV → TS → Prop, (∀ r σ' m', tput m dst r = m' → twL P wn ops Q rest m' σ' → K r σ') → tO P wn m dst op σ K) :
    twL P wn ops Q ({ dst := dst, op := op, type := ty, pos := pos, after := after, guard := none } :: rest) m σ :=
  twL_go fun K hK => h K fun r σ' m' e q => hK r σ' (by rw [e]; exact q)
theorem twP_do {r : Option TV} {m' : TL} (h : ∀ K : Option TV → TS → Prop, K r σ → tO P wn m dst op σ K) (e : tput m dst r = m') (h2 : twP P wn ops Q rest m' σ) :
    twP P wn ops Q ({ dst := dst, op := op, type := ty, pos := pos, after := after, guard := none } :: rest) m σ :=
  twP_go h (by rw [e]; exact h2)
theorem tO_pick {x y z : Operand} {t : Bool} {a b : TV} (hx : ev m x = some (.bool t)) (hy : ev m y = some a) (hz : ev m z = some b) (h1 : t = true → K (some a) σ) (h2 : t = false → K (some b) σ) : tO P wn m dst (.pick x y z) σ K := by
  cases t with
  | true => exact tO_pickT hx hy (h1 rfl)
  | false => exact tO_pickF hx hz (h2 rfl)
end

/- loops: a frame's slots that count, the others whatever they are -/
def Fits : List (Option (Option TV)) → TL → Prop
  | [], [] => True
  | some v :: p, x :: m => x = v ∧ Fits p m
  | none :: p, _ :: m => Fits p m
  | _, _ => False

def fillN (q : Nat → Option TV) : Nat → List (Option (Option TV)) → TL
  | _, [] => []
  | i, some v :: p => v :: fillN q (i + 1) p
  | i, none :: p => q i :: fillN q (i + 1) p

theorem fillN_congr {q q' : Nat → Option TV} : ∀ (p : List (Option (Option TV))) (i : Nat), (∀ k, i ≤ k → q k = q' k) → fillN q i p = fillN q' i p
  | [], _, _ => rfl
  | some v :: p, i, h => by simp only [fillN, fillN_congr p (i + 1) fun k hk => h k (by omega)]
  | none :: p, i, h => by simp only [fillN, fillN_congr p (i + 1) fun k hk => h k (by omega), h i (Nat.le_refl _)]

theorem Fits.fill : ∀ {p : List (Option (Option TV))} {m : TL} (i : Nat), Fits p m → ∃ q : Nat → Option TV, m = fillN q i p
  | [], [], _, _ => ⟨fun _ => none, rfl⟩
  | some v :: p, x :: m, i, h => by
    obtain ⟨rfl, h⟩ := h
    obtain ⟨q, rfl⟩ := Fits.fill (i + 1) h
    exact ⟨q, rfl⟩
  | none :: p, x :: m, i, h => by
    obtain ⟨q, e⟩ := Fits.fill (m := m) (p := p) (i + 1) h
    refine ⟨fun k => if k = i then x else q k, ?_⟩
    simp only [fillN, if_true]
    rw [e]
    congr 1
    refine fillN_congr p (i + 1) fun k hk => ?_
    rw [if_neg (by omega)]
  | [], _ :: _, _, h => h.elim
  | some _ :: _, [], _, h => h.elim
  | none :: _, [], _, h => h.elim

theorem tw_each {P : Program} {wn : List Tmp} {c : Code} {Q : TX → TL → TS → Prop} {m : TL} {σ : TS} {α : Type} (p : α → List (Option (Option TV))) (facts : α → Prop) (meas : α → Nat) (heap : α → TS)
    (h0 : ∃ x, Fits (p x) m ∧ facts x ∧ heap x = σ)
    (round : ∀ (x : α) (q : Nat → Option TV), facts x → tw P wn c (TX.then (fun m' σ' => ∃ x', meas x' < meas x ∧ Fits (p x') m' ∧ facts x' ∧ heap x' = σ') Q) (fillN q 0 (p x)) (heap x)) : tw P wn (.loop c) Q m σ := by
  obtain ⟨x0, h1, h2, h3⟩ := h0
  refine tw_loop (fun n m s => ∃ x, Fits (p x) m ∧ facts x ∧ heap x = s ∧ n = meas x) (n := meas x0) ⟨x0, h1, h2, h3, rfl⟩ ?_
  rintro _ m s ⟨x, h4, h5, rfl, rfl⟩
  obtain ⟨q, rfl⟩ := h4.fill 0
  refine tw_mono c (round x q h5) fun e m' s' h => ?_
  cases e with
  | normal =>
    obtain ⟨x', h6, h7, h8, h9⟩ := h
    exact ⟨_, h6, x', h7, h8, h9, rfl⟩
  | exit id => exact h
  | goto l => exact h
  | ret => exact h

end Go.TM
