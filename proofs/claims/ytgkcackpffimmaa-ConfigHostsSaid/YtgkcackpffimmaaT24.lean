/- The T-machine, part 23: the words of the walk behind structures, so that no look at a goal runs the machine. -/
import Derived.Test.YtgkcackpffimmaaT22
set_option linter.unusedVariables false
set_option linter.unusedSimpArgs false
namespace Go.TM

structure Tw (P : Program) (wn : List Tmp) (c : Code) (Q : TX → TL → TS → Prop) (m : TL) (σ : TS) : Prop where
  go : tw P wn c Q m σ
structure WL (P : Program) (wn : List Tmp) (ops : Array Oper) (Q : TL → TS → Prop) (l : List Oper) (m : TL) (σ : TS) : Prop where
  go : twL P wn ops Q l m σ
structure WP (P : Program) (wn : List Tmp) (ops : Array Oper) (Q : TL → TS → Prop) (l : List Oper) (m : TL) (σ : TS) : Prop where
  go : twP P wn ops Q l m σ
structure WO (P : Program) (wn : List Tmp) (m : TL) (dst : Option Tmp) (op : Op) (σ : TS) (K : Option TV → TS → Prop) : Prop where
  go : tO P wn m dst op σ K
structure Res (o : Option TV) (C : TV → Prop) : Prop where
  go : res o C
structure ResS (o : Option (TV × TS)) (C : TV → TS → Prop) : Prop where
  go : resS o C
structure ResH (o : Option TS) (C : TS → Prop) : Prop where
  go : resH o C
theorem Res_some {v : TV} {C : TV → Prop} : Res (some v) C ↔ C v := ⟨fun h => h.go, fun h => ⟨h⟩⟩
theorem ResS_some {v : TV} {σ : TS} {C : TV → TS → Prop} : ResS (some (v, σ)) C ↔ C v σ := ⟨fun h => h.go, fun h => ⟨h⟩⟩
theorem ResH_some {σ : TS} {C : TS → Prop} : ResH (some σ) C ↔ C σ := ⟨fun h => h.go, fun h => ⟨h⟩⟩
attribute [go_sem] Res_some ResS_some ResH_some

/- operations -/
section
variable {P : Program} {wn : List Tmp} {m : TL} {dst : Option Tmp} {σ : TS} {K : Option TV → TS → Prop} {x y z : Operand} {a b c : TV} {t s d e ty : TypeId} {n : Nat}
theorem O_move (hx : ev m x = some a) (h : K (some a) σ) : WO P wn m dst (.move x) σ K := ⟨tO_move hx h⟩
theorem O_assign (hx : ev m x = some a) (h : K (some a) σ) : WO P wn m dst (.assign x) σ K := ⟨tO_assign hx h⟩
theorem O_pickT (hx : ev m x = some (.bool true)) (hy : ev m y = some a) (h : K (some a) σ) : WO P wn m dst (.pick x y z) σ K := ⟨tO_pickT hx hy h⟩
theorem O_pickF (hx : ev m x = some (.bool false)) (hy : ev m z = some a) (h : K (some a) σ) : WO P wn m dst (.pick x y z) σ K := ⟨tO_pickF hx hy h⟩
theorem O_pick {t : Bool} (hx : ev m x = some (.bool t)) (hy : ev m y = some a) (hz : ev m z = some b) (h1 : t = true → K (some a) σ) (h2 : t = false → K (some b) σ) : WO P wn m dst (.pick x y z) σ K := ⟨tO_pick hx hy hz h1 h2⟩
theorem O_alloc (h : ResS (talloc (mkTab P) σ t) fun v τ => K (some v) τ) : WO P wn m dst (.alloc t) σ K := ⟨tO_alloc h.go⟩
theorem O_box (hx : ev m x = some a) (h : ResS (tbox σ a) fun v τ => K (some v) τ) : WO P wn m dst (.box t x) σ K := ⟨tO_box hx h.go⟩
theorem O_build {ps : Array (Nat × Operand)} {vs : List (Nat × TV)} (hx : evParts m ps.toList = some vs) (h : Res (tbuild (mkTab P) t vs) fun v => K (some v) σ) : WO P wn m dst (.build t ps) σ K := ⟨tO_build hx h.go⟩
theorem O_buildSlice {ps : Array (Nat × Operand)} {vs : List (Nat × TV)} (hx : evParts m ps.toList = some vs) (h : ResS (tbuildSlice (mkTab P) (match dst with | some d => wn.contains d | none => false) σ t n vs) fun v τ => K (some v) τ) : WO P wn m dst (.buildSlice t n ps) σ K := ⟨tO_buildSlice hx h.go⟩
theorem O_load (hx : ev m x = some a) (h : Res (tload (mkTab P) σ t a) fun v => K (some v) σ) : WO P wn m dst (.load t x) σ K := ⟨tO_load hx h.go⟩
theorem O_store (hx : ev m x = some a) (hy : ev m y = some b) (h : ResH (tstore (mkTab P) σ t a b) fun τ => K none τ) : WO P wn m dst (.store t x y) σ K := ⟨tO_store hx hy h.go⟩
theorem O_nilCheck (hx : ev m x = some a) (hs : sound a = true) (h : K (some a) σ) : WO P wn m dst (.nilCheck x) σ K := ⟨tO_nilCheck hx hs h⟩
theorem O_bin {op : BinOp} (hx : ev m x = some a) (hy : ev m y = some b) (h : Res (tbin (mkTab P) (isC x || isC y) op t a b) fun v => K (some v) σ) : WO P wn m dst (.binOp op t x y ty) σ K := ⟨tO_bin hx hy h.go⟩
theorem O_un {op : UnOp} (hx : ev m x = some a) (h : Res (tun op a) fun v => K (some v) σ) : WO P wn m dst (.unOp op t x) σ K := ⟨tO_un hx h.go⟩
theorem O_convert (hx : ev m x = some a) (h : ResS (tconv (mkTab P) (match dst with | some d => wn.contains d | none => false) (match dst with | some d => wn.contains (d + 1000000) | none => false) σ s d a) fun v τ => K (some v) τ) : WO P wn m dst (.convert s d x) σ K := ⟨tO_convert hx h.go⟩
theorem O_makeInterface {i : TI} (hx : ev m x = some a) (ht : mkTab P t = some i) (hk : (match i.k with | .iface _ => false | _ => true) = true) (h : K (some (.iface t a)) σ) : WO P wn m dst (.makeInterface t x) σ K := ⟨tO_makeInterface hx ht hk h⟩
theorem O_makeFunc {fn : Fn} {first captured : Array Operand} {as bs : List TV} (hx : evs m first.toList = some as) (hy : evs m captured.toList = some bs) (h : K (some (.func fn as bs)) σ) : WO P wn m dst (.makeFunc fn first captured) σ K := ⟨tO_makeFunc hx hy h⟩
theorem O_slice {lo hi mx : Option Operand} {l h' k : Option Nat} (hx : ev m x = some a) (hl : evB m lo = some l) (hh : evB m hi = some h') (hm : evB m mx = some k) (h : Res (tslice (mkTab P) t a l h' k) fun v => K (some v) σ) : WO P wn m dst (.slice t x lo hi mx) σ K := ⟨tO_slice hx hl hh hm h.go⟩
/-- A slice whose bounds are numbers: read, and not below 0. -/
theorem O_sliceR {lo hi mx : Option Operand} (hx : ev m x = some a) (h : ∀ C : TV → Prop, (∀ v, K (some v) σ → C v) → Res ((evB m lo).bind fun l => (evB m hi).bind fun h => (evB m mx).bind fun k => tslice (mkTab P) t a l h k) C) : WO P wn m dst (.slice t x lo hi mx) σ K := by
  have h1 := (h (fun v => K (some v) σ) fun v h => h).go
  unfold res at h1
  split at h1
  · rename_i v e
    cases hl : evB m lo with
    | none => simp [hl] at e
    | some l =>
      cases hh : evB m hi with
      | none => simp [hl, hh] at e
      | some h' =>
        cases hm : evB m mx with
        | none => simp [hl, hh, hm] at e
        | some k =>
          simp only [hl, hh, hm, Option.bind_some] at e
          exact ⟨tO_slice hx hl hh hm (by rw [e]; exact h1)⟩
  · exact h1.elim
theorem O_fieldAddr (hx : ev m x = some a) (h : Res (tfieldAddr (mkTab P) t a n) fun v => K (some v) σ) : WO P wn m dst (.fieldAddr t x n) σ K := ⟨tO_fieldAddr hx h.go⟩
theorem O_field (hx : ev m x = some a) (h : Res (tfield (mkTab P) t a n) fun v => K (some v) σ) : WO P wn m dst (.field t x n) σ K := ⟨tO_field hx h.go⟩
theorem O_indexAddr (hx : ev m x = some a) (hy : ev m y = some b) (h : Res (tindexAddr (mkTab P) t a b) fun v => K (some v) σ) : WO P wn m dst (.indexAddr t x y) σ K := ⟨tO_indexAddr hx hy h.go⟩
theorem O_index (hx : ev m x = some a) (hy : ev m y = some b) (h : Res (tindex (mkTab P) t a b) fun v => K (some v) σ) : WO P wn m dst (.index t x y) σ K := ⟨tO_index hx hy h.go⟩
theorem O_extract {vs : List TV} (hx : ev m x = some (.tup vs)) (hy : vs[n]? = some a) (h : K (some a) σ) : WO P wn m dst (.extract x n) σ K := ⟨tO_extract hx hy h⟩
theorem O_len {xs : Array Operand} {ts : Array TypeId} (hx : evs m xs.toList = some [a]) (ht : ts.toList = [t]) (h : Res (tlenOp (mkTab P) t a) fun v => K (some v) σ) : WO P wn m dst (.call { callee := .builtin .len, args := xs, argTypes := ts }) σ K := ⟨tO_len hx ht h.go⟩
theorem O_append {xs : Array Operand} {ts : Array TypeId} (hx : evs m xs.toList = some [a, b]) (ht : ts.toList = [t, s]) (h : ResS (tappend (mkTab P) (match dst with | some d => wn.contains d | none => false) σ t s a b) fun v τ => K (some v) τ) : WO P wn m dst (.call { callee := .builtin .append, args := xs, argTypes := ts }) σ K := by
  refine ⟨tO_builtin hx ht ?_⟩
  simp only [tbuiltin]
  exact res_s h.go
theorem O_appendR {xs : Array Operand} {ts : Array TypeId} (hx : evs m xs.toList = some [a, b]) (ht : ts.toList = [t, s]) (h : ResS (tappendR (mkTab P) σ t s a b) fun v τ => K (some v) τ) : WO P wn m dst (.call { callee := .builtin .append, args := xs, argTypes := ts }) σ K := ⟨tO_appendR hx ht h.go⟩
theorem O_delete {xs : Array Operand} {ts : Array TypeId} (hx : evs m xs.toList = some [a, b]) (ht : ts.toList = [t, s]) (h : ResS (tdelete (mkTab P) σ t a b) fun v τ => K (some v) τ) : WO P wn m dst (.call { callee := .builtin .delete, args := xs, argTypes := ts }) σ K := by
  refine ⟨tO_builtin hx ht ?_⟩
  simp only [tbuiltin]
  exact res_s h.go
theorem O_min {xs : Array Operand} {ts : Array TypeId} {us : List TypeId} {ys : List TV} (hx : evs m xs.toList = some (a :: ys)) (ht : ts.toList = us) (h : Res (tminmax false a ys) fun v => K (some v) σ) : WO P wn m dst (.call { callee := .builtin .min, args := xs, argTypes := ts }) σ K := by
  refine ⟨tO_builtin hx ht ?_⟩
  simp only [tbuiltin]
  exact res_v h.go
theorem O_max {xs : Array Operand} {ts : Array TypeId} {us : List TypeId} {ys : List TV} (hx : evs m xs.toList = some (a :: ys)) (ht : ts.toList = us) (h : Res (tminmax true a ys) fun v => K (some v) σ) : WO P wn m dst (.call { callee := .builtin .max, args := xs, argTypes := ts }) σ K := by
  refine ⟨tO_builtin hx ht ?_⟩
  simp only [tbuiltin]
  exact res_v h.go
theorem O_call {f : Operand} {k : FuncId} {first captured vs : List TV} {xs : Array Operand} {ts : Array TypeId} (hf : ev m f = some (.func (.func k) first captured)) (hx : evs m xs.toList = some vs)
    (h : TCalls P k (first ++ vs ++ captured) σ fun v τ => K (some v) τ) : WO P wn m dst (.call { callee := .value f, args := xs, argTypes := ts }) σ K := ⟨tO_call hf hx h⟩
theorem O_callF {k : FuncId} {vs : List TV} {xs : Array Operand} {ts : Array TypeId} (hx : evs m xs.toList = some vs)
    (h : TCalls P k vs σ fun v τ => K (some v) τ) : WO P wn m dst (.call { callee := .value (.func k), args := xs, argTypes := ts }) σ K := ⟨tO_callF hx h⟩
theorem O_invoke {r : Operand} {name : String} {l off : Nat} {k : FuncId} {vs : List TV} {xs : Array Operand} {ts : Array TypeId} (hr : ev m r = some (.iface t (.ptr l off))) (hx : evs m xs.toList = some vs) (hm : TMeth P t name k)
    (h : TCalls P k (.ptr l off :: vs) σ fun v τ => K (some v) τ) : WO P wn m dst (.call { callee := .invoke r name, args := xs, argTypes := ts }) σ K := ⟨tO_invoke hr hx hm h⟩
theorem O_makeMap (h : K (some (.map σ.length)) (σ ++ [.map [] 0])) : WO P wn m dst (.makeMap t none) σ K := ⟨tO_makeMap h⟩
theorem O_lookup {ok : Bool} (hx : ev m x = some a) (hy : ev m y = some b) (h : Res (tlookup (mkTab P) σ t a b ok) fun v => K (some v) σ) : WO P wn m dst (.lookup t x y ok) σ K := ⟨tO_lookup hx hy h.go⟩
theorem O_mapUpdate (hx : ev m x = some a) (hy : ev m y = some b) (hz : ev m z = some c) (h : ResH (tmapUpdate (mkTab P) σ t a b c) fun τ => K none τ) : WO P wn m dst (.mapUpdate t x y z) σ K := ⟨tO_mapUpdate hx hy hz h.go⟩
theorem O_mapEntry (hx : ev m x = some a) (hy : ev m y = some b) (h : ResS (tmapEntry (mkTab P) σ t a b) fun v τ => K (some v) τ) : WO P wn m dst (.mapEntry t x y) σ K := ⟨tO_mapEntry hx hy h.go⟩
theorem O_entryStore (hx : ev m x = some a) (hy : ev m y = some b) (hz : ev m z = some c) (h : ResH (tentryStore σ a b c) fun τ => K none τ) : WO P wn m dst (.entryStore t x y z) σ K := ⟨tO_entryStore hx hy hz h.go⟩
theorem O_range (hx : ev m x = some a) (h : ResS (trange (mkTab P) σ t a) fun v τ => K (some v) τ) : WO P wn m dst (.range t x) σ K := ⟨tO_range hx h.go⟩
theorem O_entry (hx : ev m x = some a) (h : Res (tentry σ a) fun v => K (some v) σ) : WO P wn m dst (.entry x) σ K := ⟨tO_entry hx h.go⟩
theorem O_next {r : Nat} (hx : ev m x = some (.ptr r 0)) (h : tnext σ r K) : WO P wn m dst (.next x false) σ K := ⟨tO_next hx h⟩
theorem O_nextM {r l since last clock : Nat} {seen : Array Nat} {es : List TEntry} (hx : ev m x = some (.ptr r 0)) (hr : σ[r]? = some (.iter (some l) since seen last)) (hl : σ[l]? = some (.map es clock)) (h1 : (es.all fun e => decide (e.born < since)) = true) (h2 : since ≤ last)
    (h3 : tleft es seen = [] → K (some (.tup [.bool false])) σ) (h4 : ∀ e ∈ tleft es seen, K (some (.tup [.bool true, e.key, e.val])) (σ.set r (.iter (some l) since (seen.push e.born) clock))) : WO P wn m dst (.next x false) σ K := by
  refine O_next hx ?_
  unfold tnext
  rw [hr]
  simp only
  rw [hl]
  exact ⟨h1, h2, h3, h4⟩
theorem O_copy {xs : Array Operand} {ts : Array TypeId} (hx : evs m xs.toList = some [a, b]) (ht : ts.toList = [t, s]) (h : ResS (tcopy (mkTab P) σ t a b) fun v τ => K (some v) τ) : WO P wn m dst (.call { callee := .builtin .copy, args := xs, argTypes := ts }) σ K := by
  refine ⟨tO_builtin hx ht ?_⟩
  simp only [tbuiltin]
  exact res_s h.go
theorem O_typeAssert {ok : Bool} (hx : ev m x = some a) (h : Res (ttypeAssert (mkTab P) a t ok) fun v => K (some v) σ) : WO P wn m dst (.typeAssert x s t ok) σ K := ⟨tO_typeAssert hx h.go⟩
end

/- regions -/
section
variable {P : Program} {wn : List Tmp} {ops : Array Oper} {Q : TL → TS → Prop} {dst : Option Tmp} {op : Op} {ty : TypeId} {pos : String} {after : Array Edge} {rest : List Oper} {m m' : TL} {σ : TS} {K : Option TV → TS → Prop} {j : Nat} {want : Bool}
theorem WL_do (h : ∀ K : Option TV → TS → Prop, (∀ r σ' m', tput m dst r = m' → WL P wn ops Q rest m' σ' → K r σ') → WO P wn m dst op σ K) :
    WL P wn ops Q ({ dst := dst, op := op, type := ty, pos := pos, after := after, guard := none } :: rest) m σ :=
  ⟨twL_do fun K hK => (h K fun r σ' m' e q => hK r σ' m' e q.go).go⟩
theorem WL_if {b : Bool} (hg : tyield ops m j = some (some b)) (e : tput m dst (some (.tup [])) = m')
    (hy : b = want → WL P wn ops Q ({ dst := dst, op := op, type := ty, pos := pos, after := after, guard := none } :: rest) m σ)
    (hn : b = (!want) → WL P wn ops Q rest m' σ) :
    WL P wn ops Q ({ dst := dst, op := op, type := ty, pos := pos, after := after, guard := some (j, want) } :: rest) m σ :=
  ⟨twL_if b hg (fun h => (hy h).go) (fun h => by rw [e]; exact (hn h).go)⟩
theorem WL_no {b : Bool} (hg : tyield ops m j = some (some b)) (hb : (b != want) = true) (e : tput m dst (some (.tup [])) = m') (hn : WL P wn ops Q rest m' σ) :
    WL P wn ops Q ({ dst := dst, op := op, type := ty, pos := pos, after := after, guard := some (j, want) } :: rest) m σ :=
  WL_if hg e (fun h => by rw [h] at hb; cases want <;> cases hb) fun _ => hn
theorem WL_yes {b : Bool} (hg : tyield ops m j = some (some b)) (hb : (b == want) = true) (hy : WL P wn ops Q ({ dst := dst, op := op, type := ty, pos := pos, after := after, guard := none } :: rest) m σ) :
    WL P wn ops Q ({ dst := dst, op := op, type := ty, pos := pos, after := after, guard := some (j, want) } :: rest) m σ :=
  WL_if (m' := tput m dst (some (.tup []))) hg rfl (fun _ => hy) fun h => by rw [h] at hb; cases want <;> cases hb
theorem WL_un (hg : tyield ops m j = some none) (e : tput m dst (some (.tup [])) = m') (h : WL P wn ops Q rest m' σ) :
    WL P wn ops Q ({ dst := dst, op := op, type := ty, pos := pos, after := after, guard := some (j, want) } :: rest) m σ :=
  ⟨twL_un hg (by rw [e]; exact h.go)⟩
theorem WL_nil (h : Q m σ) : WL P wn ops Q [] m σ := ⟨twL_nil.2 h⟩

theorem WP_do {r : Option TV} (h : ∀ K : Option TV → TS → Prop, K r σ → WO P wn m dst op σ K) (e : tput m dst r = m') (h2 : WP P wn ops Q rest m' σ) :
    WP P wn ops Q ({ dst := dst, op := op, type := ty, pos := pos, after := after, guard := none } :: rest) m σ :=
  ⟨twP_do (fun K hK => (h K hK).go) e h2.go⟩
theorem WP_if {b : Bool} (hg : tyield ops m j = some (some b)) (e : tput m dst (some (.tup [])) = m')
    (hy : b = want → WP P wn ops Q ({ dst := dst, op := op, type := ty, pos := pos, after := after, guard := none } :: rest) m σ)
    (hn : b = (!want) → WP P wn ops Q rest m' σ) :
    WP P wn ops Q ({ dst := dst, op := op, type := ty, pos := pos, after := after, guard := some (j, want) } :: rest) m σ :=
  ⟨twP_if b hg (fun h => (hy h).go) (fun h => by rw [e]; exact (hn h).go)⟩
theorem WP_no {b : Bool} (hg : tyield ops m j = some (some b)) (hb : (b != want) = true) (e : tput m dst (some (.tup [])) = m') (hn : WP P wn ops Q rest m' σ) :
    WP P wn ops Q ({ dst := dst, op := op, type := ty, pos := pos, after := after, guard := some (j, want) } :: rest) m σ :=
  WP_if hg e (fun h => by rw [h] at hb; cases want <;> cases hb) fun _ => hn
theorem WP_yes {b : Bool} (hg : tyield ops m j = some (some b)) (hb : (b == want) = true) (hy : WP P wn ops Q ({ dst := dst, op := op, type := ty, pos := pos, after := after, guard := none } :: rest) m σ) :
    WP P wn ops Q ({ dst := dst, op := op, type := ty, pos := pos, after := after, guard := some (j, want) } :: rest) m σ :=
  WP_if (m' := tput m dst (some (.tup []))) hg rfl (fun _ => hy) fun h => by rw [h] at hb; cases want <;> cases hb
theorem WP_un (hg : tyield ops m j = some none) (e : tput m dst (some (.tup [])) = m') (h : WP P wn ops Q rest m' σ) :
    WP P wn ops Q ({ dst := dst, op := op, type := ty, pos := pos, after := after, guard := some (j, want) } :: rest) m σ :=
  ⟨twP_un hg (by rw [e]; exact h.go)⟩
theorem WP_nil (h : Q m σ) : WP P wn ops Q [] m σ := ⟨twP_nil.2 h⟩
/-- A choice between two values in a region of which no operation turns the heap. -/
theorem WP_pick {x y z : Operand} {t : Bool} {a b : TV} {m'' : TL} (hx : ev m x = some (.bool t)) (hy : ev m y = some a) (hz : ev m z = some b) (e1 : tput m dst (some a) = m') (e2 : tput m dst (some b) = m'')
    (h1 : t = true → WP P wn ops Q rest m' σ) (h2 : t = false → WP P wn ops Q rest m'' σ) : WP P wn ops Q ({ dst := dst, op := .pick x y z, type := ty, pos := pos, after := after, guard := none } :: rest) m σ := by
  cases t with
  | true => exact WP_do (fun K hK => O_pickT hx hy hK) e1 (h1 rfl)
  | false => exact WP_do (fun K hK => O_pickF hx hz hK) e2 (h2 rfl)
end

/- code -/
section
variable {P : Program} {wn : List Tmp} {x y z c : Code} {Q X : TX → TL → TS → Prop} {m : TL} {σ : TS} {id : Nat} {ops : Array Oper} {o : Operand}
theorem T_reg_seq (h : ∀ K : TL → TS → Prop, (∀ m σ, Tw P wn y Q m σ → K m σ) → WL P wn ops K ops.toList m σ) : Tw P wn (.seq (.region id ops false) y) Q m σ :=
  ⟨tw_reg_seq fun K hK => (h K fun m σ q => hK m σ q.go).go⟩
theorem T_reg_end (h : ∀ K : TL → TS → Prop, (∀ m σ, Q .normal m σ → K m σ) → WL P wn ops K ops.toList m σ) : Tw P wn (.region id ops false) Q m σ :=
  ⟨tw_reg_end fun K hK => (h K hK).go⟩
theorem T_pure_seq (hm : P.follows .mixedOrders = true) (ho : okText ops (Array.replicate ops.size false) (List.range' 0 ops.size) = true)
    (h : ∀ K : TL → TS → Prop, (∀ m σ, Tw P wn y Q m σ → K m σ) → WP P wn ops K ops.toList m σ) : Tw P wn (.seq (.region id ops true) y) Q m σ :=
  ⟨tw_pure_seq hm ho fun K hK => (h K fun m σ q => hK m σ q.go).go⟩
theorem T_pure_end (hm : P.follows .mixedOrders = true) (ho : okText ops (Array.replicate ops.size false) (List.range' 0 ops.size) = true)
    (h : ∀ K : TL → TS → Prop, (∀ m σ, Q .normal m σ → K m σ) → WP P wn ops K ops.toList m σ) : Tw P wn (.region id ops true) Q m σ :=
  ⟨tw_pure_end hm ho fun K hK => (h K hK).go⟩
theorem T_cond_seq {t : Bool} (hc : ev m o = some (.bool t)) (h1 : t = true → Tw P wn (.seq x z) Q m σ) (h2 : t = false → Tw P wn (.seq y z) Q m σ) : Tw P wn (.seq (.cond o x y) z) Q m σ :=
  ⟨tw_cond_seq hc (fun h => (h1 h).go) fun h => (h2 h).go⟩
theorem T_cond {t : Bool} (hc : ev m o = some (.bool t)) (h1 : t = true → Tw P wn x Q m σ) (h2 : t = false → Tw P wn y Q m σ) : Tw P wn (.cond o x y) Q m σ :=
  ⟨tw_cond hc (fun h => (h1 h).go) fun h => (h2 h).go⟩
theorem T_letgo {l : Nat} {cs : List TV} {id : Nat} {ops : Array Oper} {d : Bool} (hl : σ[l]? = some (.cells cs)) (h : Tw P wn (.seq (.region id ops d) y) Q m (σ.set l (.cells (cs.map TV.letgo)))) : Tw P wn (.seq (.region id ops d) y) Q m σ := ⟨tw_letgo hl h.go⟩
theorem T_seq_assoc (h : Tw P wn (.seq x (.seq y z)) Q m σ) : Tw P wn (.seq (.seq x y) z) Q m σ := ⟨tw_seq_assoc h.go⟩
theorem T_skip_seq (h : Tw P wn y Q m σ) : Tw P wn (.seq .skip y) Q m σ := ⟨tw_skip_seq h.go⟩
theorem T_ret_seq (h : Q .ret m σ) : Tw P wn (.seq .ret y) Q m σ := ⟨tw_ret_seq h⟩
theorem T_exit_seq (h : Q (.exit id) m σ) : Tw P wn (.seq (.exit id) y) Q m σ := ⟨tw_exit_seq h⟩
theorem T_ret (h : Q .ret m σ) : Tw P wn .ret Q m σ := ⟨tw_ret h⟩
theorem T_skip (h : Q .normal m σ) : Tw P wn .skip Q m σ := ⟨tw_skip h⟩
theorem T_exit (h : Q (.exit id) m σ) : Tw P wn (.exit id) Q m σ := ⟨tw_exit h⟩
theorem T_block_seq (h : ∀ K : TL → TS → Prop, (∀ m σ, Tw P wn y Q m σ → K m σ) → Tw P wn c (TX.inBlock id (TX.then K Q)) m σ) : Tw P wn (.seq (.block id c) y) Q m σ :=
  ⟨tw_block_seq fun K hK => (h K fun m σ q => hK m σ q.go).go⟩
theorem T_block (h : Tw P wn c (TX.inBlock id Q) m σ) : Tw P wn (.block id c) Q m σ := ⟨tw_block h.go⟩
/-- Code ahead of more code, the rest behind a word. -/
theorem T_seq (h : ∀ K : TL → TS → Prop, (∀ m σ, Tw P wn y Q m σ → K m σ) → Tw P wn x (TX.then K Q) m σ) : Tw P wn (.seq x y) Q m σ :=
  ⟨tw_seq_k fun K hK => (h K fun m σ q => hK m σ q.go).go⟩
/-- What is behind holds of more. -/
theorem T_mono (h : Tw P wn c Q m σ) (k : ∀ x m σ, Q x m σ → X x m σ) : Tw P wn c X m σ := ⟨tw_mono c h.go k⟩
theorem T_each {α : Type} (p : α → List (Option (Option TV))) (facts : α → Prop) (meas : α → Nat) (heap : α → TS)
    (h0 : ∃ x, Fits (p x) m ∧ facts x ∧ heap x = σ)
    (round : ∀ (x : α) (q : Nat → Option TV), facts x → Tw P wn c (TX.then (fun m' σ' => ∃ x', meas x' < meas x ∧ Fits (p x') m' ∧ facts x' ∧ heap x' = σ') Q) (fillN q 0 (p x)) (heap x)) : Tw P wn (.loop c) Q m σ :=
  ⟨tw_each p facts meas heap h0 fun x q hf => (round x q hf).go⟩
theorem T_unroll (n : Nat) (h : Tw P wn c (TX.then (fun m' σ' => rounds (tw P wn c) Q n m' σ') Q) m σ) : Tw P wn (.loop c) Q m σ := ⟨tw_unroll n h.go⟩
theorem T_round {n : Nat} (h : Tw P wn c (TX.then (fun m' σ' => rounds (tw P wn c) Q n m' σ') Q) m σ) : rounds (tw P wn c) Q (n + 1) m σ := rounds_step h.go

variable {f : FuncId} {fn : Func} {args : List TV} {v : TV}
theorem calls_of {Q : TV → TS → Prop} (wn : List Tmp) (rs : List ResultVar) (hf : P.funcs[f]? = some fn) (hn : (fn.name == "runtime.NumGoroutine") = false) (hb : fn.body = some c) (hr : fn.results.toList = rs)
    (h : ∀ X : TX → TL → TS → Prop, (∀ m s, (∀ C : TV → Prop, (∀ tv, Q tv s → C tv) → Res (tresults (mkTab P) m s rs) C) → X .ret m s) →
      (∀ m s, (∀ C : TV → Prop, (∀ tv, Q tv s → C tv) → Res (tresults (mkTab P) m s rs) C) → X .normal m s) → Tw P wn c X (tinit fn.ntmps args) σ) : TCalls P f args σ Q := by
  have key : ∀ m s, (∀ C : Option TV → Prop, (∀ tv, Q tv s → C (some tv)) → C (tresults (mkTab P) m s rs)) ↔ (∀ C : TV → Prop, (∀ tv, Q tv s → C tv) → Res (tresults (mkTab P) m s rs) C) := by
    intro m s
    constructor
    · intro h1 C hC
      exact ⟨h1 (fun o => res o C) fun tv q => hC tv q⟩
    · intro h1 C hC
      have h2 := (h1 (fun tv => C (some tv)) hC).go
      unfold res at h2
      split at h2
      · rename_i e; rw [e]; exact h2
      · exact h2.elim
  exact tcalls_x wn rs hf hn hb hr fun X h1 h2 => (h X (fun m s hc => h1 m s ((key m s).2 hc)) (fun m s hc => h2 m s ((key m s).2 hc))).go

theorem pure_of (wn : List Tmp) (rs : List ResultVar) (hf : P.funcs[f]? = some fn) (hn : (fn.name == "runtime.NumGoroutine") = false) (hb : fn.body = some c) (hr : fn.results.toList = rs)
    (h : ∀ X : TX → TL → TS → Prop, (∀ m s, (∀ C : TV → Prop, (∀ tv, Ends σ v tv s → C tv) → Res (tresults (mkTab P) m s rs) C) → X .ret m s) →
      (∀ m s, (∀ C : TV → Prop, (∀ tv, Ends σ v tv s → C tv) → Res (tresults (mkTab P) m s rs) C) → X .normal m s) → Tw P wn c X (tinit fn.ntmps args) σ) : TPure P f args σ v :=
  TCalls.pure (calls_of wn rs hf hn hb hr h) fun tv s q => ⟨q.1, q.2.1, q.2.2, rfl⟩
end

end Go.TM

/- The T-machine, part 24: maps whose keys and values are data. -/
set_option linter.unusedVariables false
set_option linter.unusedSimpArgs false
namespace Go.TM

section
variable {κ α : Type} [DecidableEq κ]

/-- A map's entries, out of keys, values and births. -/
def mEnt (kf : κ → TV) (vf : α → TV) (l : List (κ × α × Nat)) : List TEntry := l.map fun x => ⟨kf x.1, vf x.2.1, x.2.2⟩
def mGet (l : List (κ × α × Nat)) (a : κ) : Option α := (l.find? fun x => decide (x.1 = a)).map fun x => x.2.1
def mPut (l : List (κ × α × Nat)) (c : Nat) (a : κ) (v : α) : List (κ × α × Nat) :=
  match l.findIdx? fun x => decide (x.1 = a) with
  | some n => l.set n (a, v, (l.getD n (a, v, c)).2.2)
  | none => l ++ [(a, v, c)]
def mClock (l : List (κ × α × Nat)) (c : Nat) (a : κ) : Nat := if (mGet l a).isSome then c else c + 1

structure KeyLaw (T : Tab) (kt : TypeId) (kf : κ → TV) : Prop where
  eq : ∀ a b, teqIn T false 64 kt (kf a) (kf b) = some (decide (a = b))
  same : ∀ a, beqP 64 (kf a) (kf a) = true
  key : ∀ a, tkey T 64 kt (kf a) = true

theorem mFind {T : Tab} {kt : TypeId} {kf : κ → TV} {vf : α → TV} (h : KeyLaw T kt kf) (a : κ) : ∀ (l : List (κ × α × Nat)) (i : Nat),
    tfind T kt (kf a) (mEnt kf vf l) i = some ((l.findIdx? fun x => decide (x.1 = a)).bind fun n => (l[n]?).map fun x => (i + n, ⟨kf x.1, vf x.2.1, x.2.2⟩))
  | [], i => rfl
  | x :: l, i => by
    simp only [mEnt, List.map_cons, tfind, h.eq]
    by_cases hx : x.1 = a
    · have : a = x.1 := hx.symm
      subst this
      simp [h.same, List.findIdx?_cons]
    · have h1 : ¬ a = x.1 := fun e => hx e.symm
      have ih := mFind (vf := vf) h a l (i + 1)
      simp only [mEnt] at ih
      simp only [h1, decide_false, ih, List.findIdx?_cons, hx, Bool.false_eq_true, if_false]
      cases l.findIdx? fun x => decide (x.1 = a) with
      | none => rfl
      | some n =>
        simp only [Option.bind_some, Option.map_some, List.getElem?_cons_succ]
        congr 2
        funext y
        congr 1
        omega

theorem findIdx_get {κ α : Type} {p : κ × α × Nat → Bool} : ∀ {l : List (κ × α × Nat)}, ((l.findIdx? p).bind fun n => l[n]?) = l.find? p
  | [] => rfl
  | x :: l => by
    rw [List.findIdx?_cons, List.find?_cons]
    cases hx : p x with
    | true => simp
    | false =>
      simp only [Bool.false_eq_true, if_false]
      rw [← findIdx_get (l := l)]
      cases l.findIdx? p with
      | none => rfl
      | some n => simp

theorem mFind_none {T : Tab} {kt : TypeId} {kf : κ → TV} {vf : α → TV} (h : KeyLaw T kt kf) {a : κ} {l : List (κ × α × Nat)} (hg : mGet l a = none) : tfind T kt (kf a) (mEnt kf vf l) 0 = some none := by
  rw [mFind h]
  have h1 : l.find? (fun x => decide (x.1 = a)) = none := by
    unfold mGet at hg
    simpa using hg
  cases hi : l.findIdx? fun x => decide (x.1 = a) with
  | none => rfl
  | some n =>
    have := findIdx_get (p := fun x => decide (x.1 = a)) (l := l)
    rw [hi, h1] at this
    simp only [Option.bind_some] at this
    simp [this]

theorem mFind_some {T : Tab} {kt : TypeId} {kf : κ → TV} {vf : α → TV} (h : KeyLaw T kt kf) {a : κ} {v : α} {l : List (κ × α × Nat)} (hg : mGet l a = some v) :
    ∃ n x, l.findIdx? (fun x => decide (x.1 = a)) = some n ∧ l[n]? = some x ∧ x.1 = a ∧ x.2.1 = v ∧ tfind T kt (kf a) (mEnt kf vf l) 0 = some (some (n, ⟨kf x.1, vf x.2.1, x.2.2⟩)) := by
  unfold mGet at hg
  cases hf : l.find? (fun x => decide (x.1 = a)) with
  | none => simp [hf] at hg
  | some x =>
    simp only [hf, Option.map_some, Option.some.injEq] at hg
    have hx : x.1 = a := by simpa using List.find?_some hf
    have h1 := findIdx_get (p := fun x => decide (x.1 = a)) (l := l)
    rw [hf] at h1
    cases hi : l.findIdx? fun x => decide (x.1 = a) with
    | none => simp [hi] at h1
    | some n =>
      simp only [hi, Option.bind_some] at h1
      refine ⟨n, x, rfl, h1, hx, hg, ?_⟩
      rw [mFind h, hi]
      simp [h1]

/-- What is laid is found; the rest stays. -/
theorem mGet_put (l : List (κ × α × Nat)) (c : Nat) (a b : κ) (v : α) : mGet (mPut l c a v) b = if b = a then some v else mGet l b := by
  unfold mPut mGet
  have key : ∀ (l : List (κ × α × Nat)) (n : Nat), l.findIdx? (fun x => decide (x.1 = a)) = some n → ∀ k, (((l.set n (a, v, k)).find? fun x => decide (x.1 = b)).map fun x => x.2.1) = if b = a then some v else (l.find? fun x => decide (x.1 = b)).map fun x => x.2.1 := by
    intro l
    induction l with
    | nil => intro n h; simp at h
    | cons x l ih =>
      intro n h k
      rw [List.findIdx?_cons] at h
      by_cases hx : x.1 = a
      · simp only [hx, decide_true, if_true, Option.some.injEq] at h
        subst h
        simp only [List.set_cons_zero, List.find?_cons]
        by_cases hb : b = a
        · simp [hb]
        · have h1 : ¬ a = b := fun e => hb e.symm
          simp [h1, hb, hx]
      · simp only [hx, decide_false, Bool.false_eq_true, if_false] at h
        cases hi : l.findIdx? (fun x => decide (x.1 = a)) with
        | none => simp [hi] at h
        | some m =>
          simp only [hi, Option.map_some, Option.some.injEq] at h
          subst h
          simp only [List.set_cons_succ, List.find?_cons]
          by_cases hb : x.1 = b
          · have h1 : ¬ b = a := fun e => hx (hb.trans e)
            simp [hb, h1]
          · simp only [hb, decide_false]
            exact ih m hi k
  split
  · rename_i n hi
    exact key l n hi _
  · rename_i hi
    rw [List.find?_append]
    have hn : ∀ x ∈ l, ¬ x.1 = a := by
      intro x hx
      have := List.findIdx?_eq_none_iff.1 hi x hx
      simpa using this
    by_cases hb : b = a
    · subst hb
      have h1 : l.find? (fun x => decide (x.1 = b)) = none := by
        rw [List.find?_eq_none]
        intro x hx
        simpa using hn x hx
      simp [h1]
    · have h1 : ¬ a = b := fun e => hb e.symm
      simp [h1, hb]

section
variable {T : Tab} {t kt et : TypeId} {i j : TI} {kf : κ → TV} {vf : α → TV} {z : TV} {σ : TS} {lm c : Nat} {l : List (κ × α × Nat)} {a : κ} {v : α}
theorem mapLook (hT : T t = some i) (hk : i.k = .map kt et) (hE : T et = some j) (hz : j.zero = some z) (h : KeyLaw T kt kf) (hm : σ[lm]? = some (.map (mEnt kf vf l) c)) (ok : Bool) :
    tlookup T σ t (.map lm) (kf a) ok = some (match mGet l a with | some v => (if ok then .tup [vf v, .bool true] else vf v) | none => (if ok then .tup [z, .bool false] else z)) := by
  unfold tlookup
  simp only [hT, hk, hE, hz, tentries, hm, h.key, if_true]
  cases hg : mGet l a with
  | none => rw [mFind_none h hg]
  | some v =>
    obtain ⟨n, x, -, -, -, hv, hf⟩ := mFind_some (vf := vf) h hg
    rw [hf, ← hv]
theorem mapPut (hT : T t = some i) (hk : i.k = .map kt et) (h : KeyLaw T kt kf) (hm : σ[lm]? = some (.map (mEnt kf vf l) c)) :
    tmapUpdate T σ t (.map lm) (kf a) (vf v) = some (σ.set lm (.map (mEnt kf vf (mPut l c a v)) (mClock l c a))) := by
  unfold tmapUpdate
  simp only [hT, hk, hm, h.key, if_true]
  cases hg : mGet l a with
  | none =>
    rw [mFind_none h hg]
    have hi : l.findIdx? (fun x => decide (x.1 = a)) = none := by
      unfold mGet at hg
      rw [List.findIdx?_eq_none_iff]
      intro x hx
      have : l.find? (fun x => decide (x.1 = a)) = none := by simpa using hg
      simpa using List.find?_eq_none.1 this x hx
    simp only [mPut, hi, mClock, hg, Option.isSome_none, Bool.false_eq_true, if_false, mEnt, List.map_append, List.map_cons, List.map_nil]
  | some w =>
    obtain ⟨n, x, hi, hx, ha, hw, hf⟩ := mFind_some (vf := vf) h hg
    rw [hf]
    simp only [mPut, hi, mClock, hg, Option.isSome_some, if_true, mEnt]
    rw [List.getD_eq_getElem?_getD, hx, Option.getD_some, List.map_set]
end

/-- Births differ, and none is to come. -/
def mOk (l : List (κ × α × Nat)) (c : Nat) : Prop := l.Pairwise (fun x y => x.2.2 ≠ y.2.2) ∧ ∀ x ∈ l, x.2.2 < c
def mBorn (l : List (κ × α × Nat)) (c : Nat) (a : κ) : Nat := ((l.find? fun x => decide (x.1 = a)).map fun x => x.2.2).getD c

theorem mOk_nil {κ α : Type} (c : Nat) : mOk ([] : List (κ × α × Nat)) c := ⟨List.Pairwise.nil, fun x h => by cases h⟩

theorem find_idx {l : List (κ × α × Nat)} {a : κ} {n : Nat} {x : κ × α × Nat} (hi : l.findIdx? (fun x => decide (x.1 = a)) = some n) (hx : l[n]? = some x) : l.find? (fun x => decide (x.1 = a)) = some x := by
  have := findIdx_get (p := fun x => decide (x.1 = a)) (l := l)
  rw [hi] at this
  simpa [hx] using this.symm

theorem mOk_put {l : List (κ × α × Nat)} {c : Nat} (h : mOk l c) (a : κ) (v : α) : mOk (mPut l c a v) (mClock l c a) := by
  obtain ⟨h1, h2⟩ := h
  unfold mPut mClock mGet
  cases hi : l.findIdx? fun x => decide (x.1 = a) with
  | some n =>
    have hn : n < l.length := by
      have := List.findIdx?_eq_some_iff_findIdx_eq.1 hi
      omega
    have hf := find_idx hi (List.getElem?_eq_getElem hn)
    simp only [hf, Option.map_some, Option.isSome_some, if_true]
    have hd : (l.getD n (a, v, c)).2.2 = l[n].2.2 := by rw [List.getD_eq_getElem?_getD, List.getElem?_eq_getElem hn, Option.getD_some]
    have hmap : (l.set n (a, v, (l.getD n (a, v, c)).2.2)).map (fun x => x.2.2) = l.map fun x => x.2.2 := by
      rw [List.map_set, hd]
      apply List.ext_getElem?
      intro k
      rw [List.getElem?_set]
      split
      · rename_i e
        subst e
        simp [hn]
      · rfl
    constructor
    · have h3 : ((l.map fun x => x.2.2)).Pairwise (· ≠ ·) := List.pairwise_map.2 h1
      rw [← hmap] at h3
      exact List.pairwise_map.1 h3
    · intro x hx
      rcases List.mem_or_eq_of_mem_set hx with hx | rfl
      · exact h2 x hx
      · show (l.getD n (a, v, c)).2.2 < c
        rw [hd]
        exact h2 _ (List.getElem_mem hn)
  | none =>
    have hf : l.find? (fun x => decide (x.1 = a)) = none := by
      rw [List.find?_eq_none]
      intro x hx
      simpa using List.findIdx?_eq_none_iff.1 hi x hx
    simp only [hf, Option.map_none, Option.isSome_none, Bool.false_eq_true, if_false]
    constructor
    · rw [List.pairwise_append]
      refine ⟨h1, by simp, fun x hx y hy => ?_⟩
      simp only [List.mem_singleton] at hy
      subst hy
      have := h2 x hx
      simp only
      omega
    · intro x hx
      rcases List.mem_append.1 hx with hx | hx
      · have := h2 x hx; omega
      · simp only [List.mem_singleton] at hx
        subst hx
        simp

section
variable {T : Tab} {t kt et : TypeId} {i j : TI} {kf : κ → TV} {vf : α → TV} {z : TV} {z0 : α} {σ : TS} {lm c : Nat} {l : List (κ × α × Nat)} {a : κ} {v : α}
theorem mapEnter (hT : T t = some i) (hk : i.k = .map kt et) (hE : T et = some j) (hz : j.zero = some (vf z0)) (h : KeyLaw T kt kf) (hm : σ[lm]? = some (.map (mEnt kf vf l) c)) :
    tmapEntry T σ t (.map lm) (kf a) = some (.tup [vf ((mGet l a).getD z0), .int .i64 (mBorn l c a)], σ.set lm (.map (mEnt kf vf (mPut l c a ((mGet l a).getD z0))) (mClock l c a))) := by
  unfold tmapEntry
  simp only [hT, hk, hm, h.key, if_true, hE, Option.bind_some, hz]
  cases hg : mGet l a with
  | none =>
    rw [mFind_none h hg]
    have hf : l.find? (fun x => decide (x.1 = a)) = none := by unfold mGet at hg; simpa using hg
    have hi : l.findIdx? (fun x => decide (x.1 = a)) = none := by
      rw [List.findIdx?_eq_none_iff]
      intro x hx
      simpa using List.find?_eq_none.1 hf x hx
    simp only [mPut, hi, mClock, hg, mBorn, hf, Option.map_none, Option.getD_none, Option.isSome_none, Bool.false_eq_true, if_false, mEnt, List.map_append, List.map_cons, List.map_nil]
  | some w =>
    obtain ⟨n, x, hi, hx, ha, hw, hf⟩ := mFind_some (vf := vf) h hg
    rw [hf]
    simp only [mPut, hi, mClock, hg, mBorn, find_idx hi hx, Option.map_some, Option.getD_some, Option.isSome_some, if_true, mEnt]
    rw [List.getD_eq_getElem?_getD, hx, Option.getD_some, List.map_set, hw]
end

theorem idx_born {κ α : Type} : ∀ {l : List (κ × α × Nat)} {n : Nat} {x : κ × α × Nat}, l.Pairwise (fun x y => x.2.2 ≠ y.2.2) → l[n]? = some x → l.findIdx? (fun y => ((y.2.2 : Nat) : Int) == (x.2.2 : Int)) = some n
  | [], _, _, _, h => by simp at h
  | y :: l, 0, x, _, h => by
    simp only [List.getElem?_cons_zero, Option.some.injEq] at h
    subst h
    simp [List.findIdx?_cons]
  | y :: l, n + 1, x, hp, h => by
    rw [List.pairwise_cons] at hp
    simp only [List.getElem?_cons_succ] at h
    have hne := hp.1 x (List.mem_of_getElem? h)
    rw [List.findIdx?_cons, if_neg (by simp; omega), idx_born hp.2 h]
    rfl

theorem entryPut {kf : κ → TV} {vf : α → TV} {σ : TS} {lm c c' : Nat} {l : List (κ × α × Nat)} {a : κ} {w v : α} {k : IntKind} (h : mOk l c) (hm : σ[lm]? = some (.map (mEnt kf vf (mPut l c a w)) c')) :
    tentryStore σ (.map lm) (.int k (mBorn l c a)) (vf v) = some (σ.set lm (.map (mEnt kf vf (mPut l c a v)) c')) := by
  have hp := (mOk_put h a w).1
  have hfi : ∀ (l : List (κ × α × Nat)) (b : Int), (mEnt kf vf l).findIdx? (fun e => (e.born : Int) == b) = l.findIdx? fun y => ((y.2.2 : Nat) : Int) == b := by
    intro l b
    induction l with
    | nil => rfl
    | cons y l ih =>
      simp only [mEnt, List.map_cons, List.findIdx?_cons] at ih ⊢
      rw [ih]
  unfold tentryStore
  simp only [hm, hfi]
  unfold mPut mBorn at *
  cases hi : l.findIdx? fun x => decide (x.1 = a) with
  | some n =>
    have hn : n < l.length := by
      have := List.findIdx?_eq_some_iff_findIdx_eq.1 hi
      omega
    have hf := find_idx hi (List.getElem?_eq_getElem hn)
    have hd : (l.getD n (a, w, c)).2.2 = l[n].2.2 := by rw [List.getD_eq_getElem?_getD, List.getElem?_eq_getElem hn, Option.getD_some]
    have hd2 : (l.getD n (a, v, c)).2.2 = l[n].2.2 := by rw [List.getD_eq_getElem?_getD, List.getElem?_eq_getElem hn, Option.getD_some]
    simp only [hi] at hp ⊢
    simp only [hf, Option.map_some, Option.getD_some]
    have hx : (l.set n (a, w, (l.getD n (a, w, c)).2.2))[n]? = some (a, w, l[n].2.2) := by rw [List.getElem?_set_self hn, hd]
    have hb := idx_born hp hx
    simp only at hb
    rw [hb]
    have he : (mEnt kf vf (l.set n (a, w, (l.getD n (a, w, c)).2.2)))[n]? = some ⟨kf a, vf w, l[n].2.2⟩ := by
      unfold mEnt
      rw [List.getElem?_map, hx]; rfl
    simp only [he]
    congr 3
    unfold mEnt
    rw [hd, hd2, List.map_set, List.map_set, List.set_set]
  | none =>
    have hf : l.find? (fun x => decide (x.1 = a)) = none := by
      rw [List.find?_eq_none]
      intro x hx
      simpa using List.findIdx?_eq_none_iff.1 hi x hx
    simp only [hi] at hp ⊢
    simp only [hf, Option.map_none, Option.getD_none]
    have hx : (l ++ [(a, w, c)])[l.length]? = some (a, w, c) := by simp
    have hb := idx_born hp hx
    simp only at hb
    rw [hb]
    have he : (mEnt kf vf (l ++ [(a, w, c)]))[l.length]? = some ⟨kf a, vf w, c⟩ := by
      unfold mEnt
      rw [List.getElem?_map, hx]; rfl
    simp only [he]
    congr 3
    unfold mEnt
    simp

end
end Go.TM
