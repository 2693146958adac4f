/- The T-machine, part 23: the words of the walk behind structures, so that no look at a goal runs the machine. -/
import Derived.Test.YtkmcbaihemaoeaaGreatT22
import Derived.SizedLaws
set_option linter.unusedVariables false
set_option linter.unusedSimpArgs false
namespace Go.TM

structure Tw (P : Program) (wn : List Tmp) (c : Code) (Q : TX → TL → TS → Prop) (m : TL) (σ : TS) : Prop where
  go : tw P wn c Q m σ
structure WL (P : Program) (wn : List Tmp) (ops : Array Oper) (Q : TL → TS → Prop) (l : List Oper) (m : TL) (σ : TS) : Prop where
  go : twL P wn ops Q l m σ
structure WP (P : Program) (wn : List Tmp) (ops : Array Oper) (Q : TL → TS → Prop) (l : List Oper) (m : TL) (σ : TS) : Prop where
  go : twP P wn ops Q l m σ
structure WO (P : Program) (wn : List Tmp) (m : TL) (dst : Option Tmp) (op : Op) (σ : TS) (K : Option TV → TS → Prop) : Prop where
  go : tO P wn m dst op σ K
structure Res (o : Option TV) (C : TV → Prop) : Prop where
  go : res o C
structure ResS (o : Option (TV × TS)) (C : TV → TS → Prop) : Prop where
  go : resS o C
structure ResH (o : Option TS) (C : TS → Prop) : Prop where
  go : resH o C
theorem Res_some {v : TV} {C : TV → Prop} : Res (some v) C ↔ C v := ⟨fun h => h.go, fun h => ⟨h⟩⟩
theorem ResS_some {v : TV} {σ : TS} {C : TV → TS → Prop} : ResS (some (v, σ)) C ↔ C v σ := ⟨fun h => h.go, fun h => ⟨h⟩⟩
theorem ResH_some {σ : TS} {C : TS → Prop} : ResH (some σ) C ↔ C σ := ⟨fun h => h.go, fun h => ⟨h⟩⟩
attribute [go_sem] Res_some ResS_some ResH_some

/- operations -/
section
variable {P : Program} {wn : List Tmp} {m : TL} {dst : Option Tmp} {σ : TS} {K : Option TV → TS → Prop} {x y z : Operand} {a b c : TV} {t s d e ty : TypeId} {n : Nat}
theorem O_move (hx : ev m x = some a) (h : K (some a) σ) : WO P wn m dst (.move x) σ K := ⟨tO_move hx h⟩
theorem O_assign (hx : ev m x = some a) (h : K (some a) σ) : WO P wn m dst (.assign x) σ K := ⟨tO_assign hx h⟩
theorem O_pickT (hx : ev m x = some (.bool true)) (hy : ev m y = some a) (h : K (some a) σ) : WO P wn m dst (.pick x y z) σ K := ⟨tO_pickT hx hy h⟩
theorem O_pickF (hx : ev m x = some (.bool false)) (hy : ev m z = some a) (h : K (some a) σ) : WO P wn m dst (.pick x y z) σ K := ⟨tO_pickF hx hy h⟩
theorem O_pick {t : Bool} (hx : ev m x = some (.bool t)) (hy : ev m y = some a) (hz : ev m z = some b) (h1 : t = true → K (some a) σ) (h2 : t = false → K (some b) σ) : WO P wn m dst (.pick x y z) σ K := ⟨tO_pick hx hy hz h1 h2⟩
theorem O_alloc (h : ResS (talloc (mkTab P) σ t) fun v τ => K (some v) τ) : WO P wn m dst (.alloc t) σ K := ⟨tO_alloc h.go⟩
theorem O_box (hx : ev m x = some a) (h : ResS (tbox σ a) fun v τ => K (some v) τ) : WO P wn m dst (.box t x) σ K := ⟨tO_box hx h.go⟩
theorem O_build {ps : Array (Nat × Operand)} {vs : List (Nat × TV)} (hx : evParts m ps.toList = some vs) (h : Res (tbuild (mkTab P) t vs) fun v => K (some v) σ) : WO P wn m dst (.build t ps) σ K := ⟨tO_build hx h.go⟩
theorem O_buildSlice {ps : Array (Nat × Operand)} {vs : List (Nat × TV)} (hx : evParts m ps.toList = some vs) (h : ResS (tbuildSlice (mkTab P) (match dst with | some d => wn.contains d | none => false) σ t n vs) fun v τ => K (some v) τ) : WO P wn m dst (.buildSlice t n ps) σ K := ⟨tO_buildSlice hx h.go⟩
theorem O_load (hx : ev m x = some a) (h : Res (tload (mkTab P) σ t a) fun v => K (some v) σ) : WO P wn m dst (.load t x) σ K := ⟨tO_load hx h.go⟩
theorem O_store (hx : ev m x = some a) (hy : ev m y = some b) (h : ResH (tstore (mkTab P) σ t a b) fun τ => K none τ) : WO P wn m dst (.store t x y) σ K := ⟨tO_store hx hy h.go⟩
theorem O_nilCheck (hx : ev m x = some a) (hs : sound a = true) (h : K (some a) σ) : WO P wn m dst (.nilCheck x) σ K := ⟨tO_nilCheck hx hs h⟩
theorem O_bin {op : BinOp} (hx : ev m x = some a) (hy : ev m y = some b) (h : Res (tbin (mkTab P) (isC x || isC y) op t a b) fun v => K (some v) σ) : WO P wn m dst (.binOp op t x y ty) σ K := ⟨tO_bin hx hy h.go⟩
theorem O_un {op : UnOp} (hx : ev m x = some a) (h : Res (tun op a) fun v => K (some v) σ) : WO P wn m dst (.unOp op t x) σ K := ⟨tO_un hx h.go⟩
theorem O_convert (hx : ev m x = some a) (h : ResS (tconv (mkTab P) (match dst with | some d => wn.contains d | none => false) (match dst with | some d => wn.contains (d + 1000000) | none => false) σ s d a) fun v τ => K (some v) τ) : WO P wn m dst (.convert s d x) σ K := ⟨tO_convert hx h.go⟩
theorem O_makeInterface {i : TI} (hx : ev m x = some a) (ht : mkTab P t = some i) (hk : (match i.k with | .iface _ => false | _ => true) = true) (h : K (some (.iface t a)) σ) : WO P wn m dst (.makeInterface t x) σ K := ⟨tO_makeInterface hx ht hk h⟩
theorem O_makeFunc {fn : Fn} {first captured : Array Operand} {as bs : List TV} (hx : evs m first.toList = some as) (hy : evs m captured.toList = some bs) (h : K (some (.func fn as bs)) σ) : WO P wn m dst (.makeFunc fn first captured) σ K := ⟨tO_makeFunc hx hy h⟩
theorem O_slice {lo hi mx : Option Operand} {l h' k : Option Nat} (hx : ev m x = some a) (hl : evB m lo = some l) (hh : evB m hi = some h') (hm : evB m mx = some k) (h : Res (tslice (mkTab P) t a l h' k) fun v => K (some v) σ) : WO P wn m dst (.slice t x lo hi mx) σ K := ⟨tO_slice hx hl hh hm h.go⟩
/-- A slice whose bounds are numbers: read, and not below 0. -/
theorem O_sliceR {lo hi mx : Option Operand} (hx : ev m x = some a) (h : ∀ C : TV → Prop, (∀ v, K (some v) σ → C v) → Res ((evB m lo).bind fun l => (evB m hi).bind fun h => (evB m mx).bind fun k => tslice (mkTab P) t a l h k) C) : WO P wn m dst (.slice t x lo hi mx) σ K := by
  have h1 := (h (fun v => K (some v) σ) fun v h => h).go
  unfold res at h1
  split at h1
  · rename_i v e
    cases hl : evB m lo with
    | none => simp [hl] at e
    | some l =>
      cases hh : evB m hi with
      | none => simp [hl, hh] at e
      | some h' =>
        cases hm : evB m mx with
        | none => simp [hl, hh, hm] at e
        | some k =>
          simp only [hl, hh, hm, Option.bind_some] at e
          exact ⟨tO_slice hx hl hh hm (by rw [e]; exact h1)⟩
  · exact h1.elim
theorem O_fieldAddr (hx : ev m x = some a) (h : Res (tfieldAddr (mkTab P) t a n) fun v => K (some v) σ) : WO P wn m dst (.fieldAddr t x n) σ K := ⟨tO_fieldAddr hx h.go⟩
theorem O_field (hx : ev m x = some a) (h : Res (tfield (mkTab P) t a n) fun v => K (some v) σ) : WO P wn m dst (.field t x n) σ K := ⟨tO_field hx h.go⟩
theorem O_indexAddr (hx : ev m x = some a) (hy : ev m y = some b) (h : Res (tindexAddr (mkTab P) t a b) fun v => K (some v) σ) : WO P wn m dst (.indexAddr t x y) σ K := ⟨tO_indexAddr hx hy h.go⟩
theorem O_index (hx : ev m x = some a) (hy : ev m y = some b) (h : Res (tindex (mkTab P) t a b) fun v => K (some v) σ) : WO P wn m dst (.index t x y) σ K := ⟨tO_index hx hy h.go⟩
theorem O_extract {vs : List TV} (hx : ev m x = some (.tup vs)) (hy : vs[n]? = some a) (h : K (some a) σ) : WO P wn m dst (.extract x n) σ K := ⟨tO_extract hx hy h⟩
theorem O_len {xs : Array Operand} {ts : Array TypeId} (hx : evs m xs.toList = some [a]) (ht : ts.toList = [t]) (h : Res (tlenOp (mkTab P) t a) fun v => K (some v) σ) : WO P wn m dst (.call { callee := .builtin .len, args := xs, argTypes := ts }) σ K := ⟨tO_len hx ht h.go⟩
theorem O_append {xs : Array Operand} {ts : Array TypeId} (hx : evs m xs.toList = some [a, b]) (ht : ts.toList = [t, s]) (h : ResS (tappend (mkTab P) (match dst with | some d => wn.contains d | none => false) σ t s a b) fun v τ => K (some v) τ) : WO P wn m dst (.call { callee := .builtin .append, args := xs, argTypes := ts }) σ K := by
  refine ⟨tO_builtin hx ht ?_⟩
  simp only [tbuiltin]
  exact res_s h.go
theorem O_appendR {xs : Array Operand} {ts : Array TypeId} (hx : evs m xs.toList = some [a, b]) (ht : ts.toList = [t, s]) (h : ResS (tappendR (mkTab P) σ t s a b) fun v τ => K (some v) τ) : WO P wn m dst (.call { callee := .builtin .append, args := xs, argTypes := ts }) σ K := ⟨tO_appendR hx ht h.go⟩
theorem O_delete {xs : Array Operand} {ts : Array TypeId} (hx : evs m xs.toList = some [a, b]) (ht : ts.toList = [t, s]) (h : ResS (tdelete (mkTab P) σ t a b) fun v τ => K (some v) τ) : WO P wn m dst (.call { callee := .builtin .delete, args := xs, argTypes := ts }) σ K := by
  refine ⟨tO_builtin hx ht ?_⟩
  simp only [tbuiltin]
  exact res_s h.go
theorem O_min {xs : Array Operand} {ts : Array TypeId} {us : List TypeId} {ys : List TV} (hx : evs m xs.toList = some (a :: ys)) (ht : ts.toList = us) (h : Res (tminmax false a ys) fun v => K (some v) σ) : WO P wn m dst (.call { callee := .builtin .min, args := xs, argTypes := ts }) σ K := by
  refine ⟨tO_builtin hx ht ?_⟩
  simp only [tbuiltin]
  exact res_v h.go
theorem O_max {xs : Array Operand} {ts : Array TypeId} {us : List TypeId} {ys : List TV} (hx : evs m xs.toList = some (a :: ys)) (ht : ts.toList = us) (h : Res (tminmax true a ys) fun v => K (some v) σ) : WO P wn m dst (.call { callee := .builtin .max, args := xs, argTypes := ts }) σ K := by
  refine ⟨tO_builtin hx ht ?_⟩
  simp only [tbuiltin]
  exact res_v h.go
theorem O_call {f : Operand} {k : FuncId} {first captured vs : List TV} {xs : Array Operand} {ts : Array TypeId} (hf : ev m f = some (.func (.func k) first captured)) (hx : evs m xs.toList = some vs)
    (h : TCalls P k (first ++ vs ++ captured) σ fun v τ => K (some v) τ) : WO P wn m dst (.call { callee := .value f, args := xs, argTypes := ts }) σ K := ⟨tO_call hf hx h⟩
theorem O_callF {k : FuncId} {vs : List TV} {xs : Array Operand} {ts : Array TypeId} (hx : evs m xs.toList = some vs)
    (h : TCalls P k vs σ fun v τ => K (some v) τ) : WO P wn m dst (.call { callee := .value (.func k), args := xs, argTypes := ts }) σ K := ⟨tO_callF hx h⟩
theorem O_invoke {r : Operand} {name : String} {l off : Nat} {k : FuncId} {vs : List TV} {xs : Array Operand} {ts : Array TypeId} (hr : ev m r = some (.iface t (.ptr l off))) (hx : evs m xs.toList = some vs) (hm : TMeth P t name k)
    (h : TCalls P k (.ptr l off :: vs) σ fun v τ => K (some v) τ) : WO P wn m dst (.call { callee := .invoke r name, args := xs, argTypes := ts }) σ K := ⟨tO_invoke hr hx hm h⟩
theorem O_makeMap (h : K (some (.map σ.length)) (σ ++ [.map [] 0])) : WO P wn m dst (.makeMap t none) σ K := ⟨tO_makeMap h⟩
theorem O_lookup {ok : Bool} (hx : ev m x = some a) (hy : ev m y = some b) (h : Res (tlookup (mkTab P) σ t a b ok) fun v => K (some v) σ) : WO P wn m dst (.lookup t x y ok) σ K := ⟨tO_lookup hx hy h.go⟩
theorem O_mapUpdate (hx : ev m x = some a) (hy : ev m y = some b) (hz : ev m z = some c) (h : ResH (tmapUpdate (mkTab P) σ t a b c) fun τ => K none τ) : WO P wn m dst (.mapUpdate t x y z) σ K := ⟨tO_mapUpdate hx hy hz h.go⟩
theorem O_mapEntry (hx : ev m x = some a) (hy : ev m y = some b) (h : ResS (tmapEntry (mkTab P) σ t a b) fun v τ => K (some v) τ) : WO P wn m dst (.mapEntry t x y) σ K := ⟨tO_mapEntry hx hy h.go⟩
theorem O_entryStore (hx : ev m x = some a) (hy : ev m y = some b) (hz : ev m z = some c) (h : ResH (tentryStore σ a b c) fun τ => K none τ) : WO P wn m dst (.entryStore t x y z) σ K := ⟨tO_entryStore hx hy hz h.go⟩
theorem O_range (hx : ev m x = some a) (h : ResS (trange (mkTab P) σ t a) fun v τ => K (some v) τ) : WO P wn m dst (.range t x) σ K := ⟨tO_range hx h.go⟩
theorem O_entry (hx : ev m x = some a) (h : Res (tentry σ a) fun v => K (some v) σ) : WO P wn m dst (.entry x) σ K := ⟨tO_entry hx h.go⟩
theorem O_next {r : Nat} (hx : ev m x = some (.ptr r 0)) (h : tnext σ r K) : WO P wn m dst (.next x false) σ K := ⟨tO_next hx h⟩
theorem O_nextM {r l since last clock : Nat} {seen : Array Nat} {es : List TEntry} (hx : ev m x = some (.ptr r 0)) (hr : σ[r]? = some (.iter (some l) since seen last)) (hl : σ[l]? = some (.map es clock)) (h1 : (es.all fun e => decide (e.born < since)) = true) (h2 : since ≤ last)
    (h3 : tleft es seen = [] → K (some (.tup [.bool false])) σ) (h4 : ∀ e ∈ tleft es seen, K (some (.tup [.bool true, e.key, e.val])) (σ.set r (.iter (some l) since (seen.push e.born) clock))) : WO P wn m dst (.next x false) σ K := by
  refine O_next hx ?_
  unfold tnext
  rw [hr]
  simp only
  rw [hl]
  exact ⟨h1, h2, h3, h4⟩
theorem O_copy {xs : Array Operand} {ts : Array TypeId} (hx : evs m xs.toList = some [a, b]) (ht : ts.toList = [t, s]) (h : ResS (tcopy (mkTab P) σ t a b) fun v τ => K (some v) τ) : WO P wn m dst (.call { callee := .builtin .copy, args := xs, argTypes := ts }) σ K := by
  refine ⟨tO_builtin hx ht ?_⟩
  simp only [tbuiltin]
  exact res_s h.go
theorem O_typeAssert {ok : Bool} (hx : ev m x = some a) (h : Res (ttypeAssert (mkTab P) a t ok) fun v => K (some v) σ) : WO P wn m dst (.typeAssert x s t ok) σ K := ⟨tO_typeAssert hx h.go⟩
end

/- regions -/
section
variable {P : Program} {wn : List Tmp} {ops : Array Oper} {Q : TL → TS → Prop} {dst : Option Tmp} {op : Op} {ty : TypeId} {pos : String} {after : Array Edge} {rest : List Oper} {m m' : TL} {σ : TS} {K : Option TV → TS → Prop} {j : Nat} {want : Bool}
theorem WL_do (h : ∀ K : Option TV → TS → Prop, (∀ r σ' m', tput m dst r = m' → WL P wn ops Q rest m' σ' → K r σ') → WO P wn m dst op σ K) :
    WL P wn ops Q ({ dst := dst, op := op, type := ty, pos := pos, after := after, guard := none } :: rest) m σ :=
  ⟨twL_do fun K hK => (h K fun r σ' m' e q => hK r σ' m' e q.go).go⟩
theorem WL_if {b : Bool} (hg : tyield ops m j = some (some b)) (e : tput m dst (some (.tup [])) = m')
    (hy : b = want → WL P wn ops Q ({ dst := dst, op := op, type := ty, pos := pos, after := after, guard := none } :: rest) m σ)
    (hn : b = (!want) → WL P wn ops Q rest m' σ) :
    WL P wn ops Q ({ dst := dst, op := op, type := ty, pos := pos, after := after, guard := some (j, want) } :: rest) m σ :=
  ⟨twL_if b hg (fun h => (hy h).go) (fun h => by rw [e]; exact (hn h).go)⟩
theorem WL_no {b : Bool} (hg : tyield ops m j = some (some b)) (hb : (b != want) = true) (e : tput m dst (some (.tup [])) = m') (hn : WL P wn ops Q rest m' σ) :
    WL P wn ops Q ({ dst := dst, op := op, type := ty, pos := pos, after := after, guard := some (j, want) } :: rest) m σ :=
  WL_if hg e (fun h => by rw [h] at hb; cases want <;> cases hb) fun _ => hn
theorem WL_yes {b : Bool} (hg : tyield ops m j = some (some b)) (hb : (b == want) = true) (hy : WL P wn ops Q ({ dst := dst, op := op, type := ty, pos := pos, after := after, guard := none } :: rest) m σ) :
    WL P wn ops Q ({ dst := dst, op := op, type := ty, pos := pos, after := after, guard := some (j, want) } :: rest) m σ :=
  WL_if (m' := tput m dst (some (.tup []))) hg rfl (fun _ => hy) fun h => by rw [h] at hb; cases want <;> cases hb
theorem WL_un (hg : tyield ops m j = some none) (e : tput m dst (some (.tup [])) = m') (h : WL P wn ops Q rest m' σ) :
    WL P wn ops Q ({ dst := dst, op := op, type := ty, pos := pos, after := after, guard := some (j, want) } :: rest) m σ :=
  ⟨twL_un hg (by rw [e]; exact h.go)⟩
theorem WL_nil (h : Q m σ) : WL P wn ops Q [] m σ := ⟨twL_nil.2 h⟩

theorem WP_do {r : Option TV} (h : ∀ K : Option TV → TS → Prop, K r σ → WO P wn m dst op σ K) (e : tput m dst r = m') (h2 : WP P wn ops Q rest m' σ) :
    WP P wn ops Q ({ dst := dst, op := op, type := ty, pos := pos, after := after, guard := none } :: rest) m σ :=
  ⟨twP_do (fun K hK => (h K hK).go) e h2.go⟩
theorem WP_if {b : Bool} (hg : tyield ops m j = some (some b)) (e : tput m dst (some (.tup [])) = m')
    (hy : b = want → WP P wn ops Q ({ dst := dst, op := op, type := ty, pos := pos, after := after, guard := none } :: rest) m σ)
    (hn : b = (!want) → WP P wn ops Q rest m' σ) :
    WP P wn ops Q ({ dst := dst, op := op, type := ty, pos := pos, after := after, guard := some (j, want) } :: rest) m σ :=
  ⟨twP_if b hg (fun h => (hy h).go) (fun h => by rw [e]; exact (hn h).go)⟩
theorem WP_no {b : Bool} (hg : tyield ops m j = some (some b)) (hb : (b != want) = true) (e : tput m dst (some (.tup [])) = m') (hn : WP P wn ops Q rest m' σ) :
    WP P wn ops Q ({ dst := dst, op := op, type := ty, pos := pos, after := after, guard := some (j, want) } :: rest) m σ :=
  WP_if hg e (fun h => by rw [h] at hb; cases want <;> cases hb) fun _ => hn
theorem WP_yes {b : Bool} (hg : tyield ops m j = some (some b)) (hb : (b == want) = true) (hy : WP P wn ops Q ({ dst := dst, op := op, type := ty, pos := pos, after := after, guard := none } :: rest) m σ) :
    WP P wn ops Q ({ dst := dst, op := op, type := ty, pos := pos, after := after, guard := some (j, want) } :: rest) m σ :=
  WP_if (m' := tput m dst (some (.tup []))) hg rfl (fun _ => hy) fun h => by rw [h] at hb; cases want <;> cases hb
theorem WP_un (hg : tyield ops m j = some none) (e : tput m dst (some (.tup [])) = m') (h : WP P wn ops Q rest m' σ) :
    WP P wn ops Q ({ dst := dst, op := op, type := ty, pos := pos, after := after, guard := some (j, want) } :: rest) m σ :=
  ⟨twP_un hg (by rw [e]; exact h.go)⟩
theorem WP_nil (h : Q m σ) : WP P wn ops Q [] m σ := ⟨twP_nil.2 h⟩
/-- A choice between two values in a region of which no operation turns the heap. -/
theorem WP_pick {x y z : Operand} {t : Bool} {a b : TV} {m'' : TL} (hx : ev m x = some (.bool t)) (hy : ev m y = some a) (hz : ev m z = some b) (e1 : tput m dst (some a) = m') (e2 : tput m dst (some b) = m'')
    (h1 : t = true → WP P wn ops Q rest m' σ) (h2 : t = false → WP P wn ops Q rest m'' σ) : WP P wn ops Q ({ dst := dst, op := .pick x y z, type := ty, pos := pos, after := after, guard := none } :: rest) m σ := by
  cases t with
  | true => exact WP_do (fun K hK => O_pickT hx hy hK) e1 (h1 rfl)
  | false => exact WP_do (fun K hK => O_pickF hx hz hK) e2 (h2 rfl)
end

/- code -/
section
variable {P : Program} {wn : List Tmp} {x y z c : Code} {Q X : TX → TL → TS → Prop} {m : TL} {σ : TS} {id : Nat} {ops : Array Oper} {o : Operand}
theorem T_reg_seq (h : ∀ K : TL → TS → Prop, (∀ m σ, Tw P wn y Q m σ → K m σ) → WL P wn ops K ops.toList m σ) : Tw P wn (.seq (.region id ops false) y) Q m σ :=
  ⟨tw_reg_seq fun K hK => (h K fun m σ q => hK m σ q.go).go⟩
theorem T_reg_end (h : ∀ K : TL → TS → Prop, (∀ m σ, Q .normal m σ → K m σ) → WL P wn ops K ops.toList m σ) : Tw P wn (.region id ops false) Q m σ :=
  ⟨tw_reg_end fun K hK => (h K hK).go⟩
theorem T_pure_seq (hm : P.follows .mixedOrders = true) (ho : okText ops (Array.replicate ops.size false) (List.range' 0 ops.size) = true)
    (h : ∀ K : TL → TS → Prop, (∀ m σ, Tw P wn y Q m σ → K m σ) → WP P wn ops K ops.toList m σ) : Tw P wn (.seq (.region id ops true) y) Q m σ :=
  ⟨tw_pure_seq hm ho fun K hK => (h K fun m σ q => hK m σ q.go).go⟩
theorem T_pure_end (hm : P.follows .mixedOrders = true) (ho : okText ops (Array.replicate ops.size false) (List.range' 0 ops.size) = true)
    (h : ∀ K : TL → TS → Prop, (∀ m σ, Q .normal m σ → K m σ) → WP P wn ops K ops.toList m σ) : Tw P wn (.region id ops true) Q m σ :=
  ⟨tw_pure_end hm ho fun K hK => (h K hK).go⟩
theorem T_cond_seq {t : Bool} (hc : ev m o = some (.bool t)) (h1 : t = true → Tw P wn (.seq x z) Q m σ) (h2 : t = false → Tw P wn (.seq y z) Q m σ) : Tw P wn (.seq (.cond o x y) z) Q m σ :=
  ⟨tw_cond_seq hc (fun h => (h1 h).go) fun h => (h2 h).go⟩
theorem T_cond {t : Bool} (hc : ev m o = some (.bool t)) (h1 : t = true → Tw P wn x Q m σ) (h2 : t = false → Tw P wn y Q m σ) : Tw P wn (.cond o x y) Q m σ :=
  ⟨tw_cond hc (fun h => (h1 h).go) fun h => (h2 h).go⟩
theorem T_letgo {l : Nat} {cs : List TV} {id : Nat} {ops : Array Oper} {d : Bool} (hl : σ[l]? = some (.cells cs)) (h : Tw P wn (.seq (.region id ops d) y) Q m (σ.set l (.cells (cs.map TV.letgo)))) : Tw P wn (.seq (.region id ops d) y) Q m σ := ⟨tw_letgo hl h.go⟩
theorem T_seq_assoc (h : Tw P wn (.seq x (.seq y z)) Q m σ) : Tw P wn (.seq (.seq x y) z) Q m σ := ⟨tw_seq_assoc h.go⟩
theorem T_skip_seq (h : Tw P wn y Q m σ) : Tw P wn (.seq .skip y) Q m σ := ⟨tw_skip_seq h.go⟩
theorem T_ret_seq (h : Q .ret m σ) : Tw P wn (.seq .ret y) Q m σ := ⟨tw_ret_seq h⟩
theorem T_exit_seq (h : Q (.exit id) m σ) : Tw P wn (.seq (.exit id) y) Q m σ := ⟨tw_exit_seq h⟩
theorem T_ret (h : Q .ret m σ) : Tw P wn .ret Q m σ := ⟨tw_ret h⟩
theorem T_skip (h : Q .normal m σ) : Tw P wn .skip Q m σ := ⟨tw_skip h⟩
theorem T_exit (h : Q (.exit id) m σ) : Tw P wn (.exit id) Q m σ := ⟨tw_exit h⟩
theorem T_block_seq (h : ∀ K : TL → TS → Prop, (∀ m σ, Tw P wn y Q m σ → K m σ) → Tw P wn c (TX.inBlock id (TX.then K Q)) m σ) : Tw P wn (.seq (.block id c) y) Q m σ :=
  ⟨tw_block_seq fun K hK => (h K fun m σ q => hK m σ q.go).go⟩
theorem T_block (h : Tw P wn c (TX.inBlock id Q) m σ) : Tw P wn (.block id c) Q m σ := ⟨tw_block h.go⟩
/-- Code ahead of more code, the rest behind a word. -/
theorem T_seq (h : ∀ K : TL → TS → Prop, (∀ m σ, Tw P wn y Q m σ → K m σ) → Tw P wn x (TX.then K Q) m σ) : Tw P wn (.seq x y) Q m σ :=
  ⟨tw_seq_k fun K hK => (h K fun m σ q => hK m σ q.go).go⟩
/-- What is behind holds of more. -/
theorem T_mono (h : Tw P wn c Q m σ) (k : ∀ x m σ, Q x m σ → X x m σ) : Tw P wn c X m σ := ⟨tw_mono c h.go k⟩
theorem T_each {α : Type} (p : α → List (Option (Option TV))) (facts : α → Prop) (meas : α → Nat) (heap : α → TS)
    (h0 : ∃ x, Fits (p x) m ∧ facts x ∧ heap x = σ)
    (round : ∀ (x : α) (q : Nat → Option TV), facts x → Tw P wn c (TX.then (fun m' σ' => ∃ x', meas x' < meas x ∧ Fits (p x') m' ∧ facts x' ∧ heap x' = σ') Q) (fillN q 0 (p x)) (heap x)) : Tw P wn (.loop c) Q m σ :=
  ⟨tw_each p facts meas heap h0 fun x q hf => (round x q hf).go⟩
theorem T_unroll (n : Nat) (h : Tw P wn c (TX.then (fun m' σ' => rounds (tw P wn c) Q n m' σ') Q) m σ) : Tw P wn (.loop c) Q m σ := ⟨tw_unroll n h.go⟩
theorem T_round {n : Nat} (h : Tw P wn c (TX.then (fun m' σ' => rounds (tw P wn c) Q n m' σ') Q) m σ) : rounds (tw P wn c) Q (n + 1) m σ := rounds_step h.go

variable {f : FuncId} {fn : Func} {args : List TV} {v : TV}
theorem calls_of {Q : TV → TS → Prop} (wn : List Tmp) (rs : List ResultVar) (hf : P.funcs[f]? = some fn) (hn : (fn.name == "runtime.NumGoroutine") = false) (hb : fn.body = some c) (hr : fn.results.toList = rs)
    (h : ∀ X : TX → TL → TS → Prop, (∀ m s, (∀ C : TV → Prop, (∀ tv, Q tv s → C tv) → Res (tresults (mkTab P) m s rs) C) → X .ret m s) →
      (∀ m s, (∀ C : TV → Prop, (∀ tv, Q tv s → C tv) → Res (tresults (mkTab P) m s rs) C) → X .normal m s) → Tw P wn c X (tinit fn.ntmps args) σ) : TCalls P f args σ Q := by
  have key : ∀ m s, (∀ C : Option TV → Prop, (∀ tv, Q tv s → C (some tv)) → C (tresults (mkTab P) m s rs)) ↔ (∀ C : TV → Prop, (∀ tv, Q tv s → C tv) → Res (tresults (mkTab P) m s rs) C) := by
    intro m s
    constructor
    · intro h1 C hC
      exact ⟨h1 (fun o => res o C) fun tv q => hC tv q⟩
    · intro h1 C hC
      have h2 := (h1 (fun tv => C (some tv)) hC).go
      unfold res at h2
      split at h2
      · rename_i e; rw [e]; exact h2
      · exact h2.elim
  exact tcalls_x wn rs hf hn hb hr fun X h1 h2 => (h X (fun m s hc => h1 m s ((key m s).2 hc)) (fun m s hc => h2 m s ((key m s).2 hc))).go

theorem pure_of (wn : List Tmp) (rs : List ResultVar) (hf : P.funcs[f]? = some fn) (hn : (fn.name == "runtime.NumGoroutine") = false) (hb : fn.body = some c) (hr : fn.results.toList = rs)
    (h : ∀ X : TX → TL → TS → Prop, (∀ m s, (∀ C : TV → Prop, (∀ tv, Ends σ v tv s → C tv) → Res (tresults (mkTab P) m s rs) C) → X .ret m s) →
      (∀ m s, (∀ C : TV → Prop, (∀ tv, Ends σ v tv s → C tv) → Res (tresults (mkTab P) m s rs) C) → X .normal m s) → Tw P wn c X (tinit fn.ntmps args) σ) : TPure P f args σ v :=
  TCalls.pure (calls_of wn rs hf hn hb hr h) fun tv s q => ⟨q.1, q.2.1, q.2.2, rfl⟩
end

end Go.TM

/- The T-machine, part 24: maps whose keys and values are data. -/
set_option linter.unusedVariables false
set_option linter.unusedSimpArgs false
namespace Go.TM

section
variable {κ α : Type} [DecidableEq κ]

/-- A map's entries, out of keys, values and births. -/
def mEnt (kf : κ → TV) (vf : α → TV) (l : List (κ × α × Nat)) : List TEntry := l.map fun x => ⟨kf x.1, vf x.2.1, x.2.2⟩
def mGet (l : List (κ × α × Nat)) (a : κ) : Option α := (l.find? fun x => decide (x.1 = a)).map fun x => x.2.1
def mPut (l : List (κ × α × Nat)) (c : Nat) (a : κ) (v : α) : List (κ × α × Nat) :=
  match l.findIdx? fun x => decide (x.1 = a) with
  | some n => l.set n (a, v, (l.getD n (a, v, c)).2.2)
  | none => l ++ [(a, v, c)]
def mClock (l : List (κ × α × Nat)) (c : Nat) (a : κ) : Nat := if (mGet l a).isSome then c else c + 1

structure KeyLaw (T : Tab) (kt : TypeId) (kf : κ → TV) : Prop where
  eq : ∀ a b, teqIn T false 64 kt (kf a) (kf b) = some (decide (a = b))
  same : ∀ a, beqP 64 (kf a) (kf a) = true
  key : ∀ a, tkey T 64 kt (kf a) = true

theorem mFind {T : Tab} {kt : TypeId} {kf : κ → TV} {vf : α → TV} (h : KeyLaw T kt kf) (a : κ) : ∀ (l : List (κ × α × Nat)) (i : Nat),
    tfind T kt (kf a) (mEnt kf vf l) i = some ((l.findIdx? fun x => decide (x.1 = a)).bind fun n => (l[n]?).map fun x => (i + n, ⟨kf x.1, vf x.2.1, x.2.2⟩))
  | [], i => rfl
  | x :: l, i => by
    simp only [mEnt, List.map_cons, tfind, h.eq]
    by_cases hx : x.1 = a
    · have : a = x.1 := hx.symm
      subst this
      simp [h.same, List.findIdx?_cons]
    · have h1 : ¬ a = x.1 := fun e => hx e.symm
      have ih := mFind (vf := vf) h a l (i + 1)
      simp only [mEnt] at ih
      simp only [h1, decide_false, ih, List.findIdx?_cons, hx, Bool.false_eq_true, if_false]
      cases l.findIdx? fun x => decide (x.1 = a) with
      | none => rfl
      | some n =>
        simp only [Option.bind_some, Option.map_some, List.getElem?_cons_succ]
        congr 2
        funext y
        congr 1
        omega

theorem findIdx_get {κ α : Type} {p : κ × α × Nat → Bool} : ∀ {l : List (κ × α × Nat)}, ((l.findIdx? p).bind fun n => l[n]?) = l.find? p
  | [] => rfl
  | x :: l => by
    rw [List.findIdx?_cons, List.find?_cons]
    cases hx : p x with
    | true => simp
    | false =>
      simp only [Bool.false_eq_true, if_false]
      rw [← findIdx_get (l := l)]
      cases l.findIdx? p with
      | none => rfl
      | some n => simp

theorem mFind_none {T : Tab} {kt : TypeId} {kf : κ → TV} {vf : α → TV} (h : KeyLaw T kt kf) {a : κ} {l : List (κ × α × Nat)} (hg : mGet l a = none) : tfind T kt (kf a) (mEnt kf vf l) 0 = some none := by
  rw [mFind h]
  have h1 : l.find? (fun x => decide (x.1 = a)) = none := by
    unfold mGet at hg
    simpa using hg
  cases hi : l.findIdx? fun x => decide (x.1 = a) with
  | none => rfl
  | some n =>
    have := findIdx_get (p := fun x => decide (x.1 = a)) (l := l)
    rw [hi, h1] at this
    simp only [Option.bind_some] at this
    simp [this]

theorem mFind_some {T : Tab} {kt : TypeId} {kf : κ → TV} {vf : α → TV} (h : KeyLaw T kt kf) {a : κ} {v : α} {l : List (κ × α × Nat)} (hg : mGet l a = some v) :
    ∃ n x, l.findIdx? (fun x => decide (x.1 = a)) = some n ∧ l[n]? = some x ∧ x.1 = a ∧ x.2.1 = v ∧ tfind T kt (kf a) (mEnt kf vf l) 0 = some (some (n, ⟨kf x.1, vf x.2.1, x.2.2⟩)) := by
  unfold mGet at hg
  cases hf : l.find? (fun x => decide (x.1 = a)) with
  | none => simp [hf] at hg
  | some x =>
    simp only [hf, Option.map_some, Option.some.injEq] at hg
    have hx : x.1 = a := by simpa using List.find?_some hf
    have h1 := findIdx_get (p := fun x => decide (x.1 = a)) (l := l)
    rw [hf] at h1
    cases hi : l.findIdx? fun x => decide (x.1 = a) with
    | none => simp [hi] at h1
    | some n =>
      simp only [hi, Option.bind_some] at h1
      refine ⟨n, x, rfl, h1, hx, hg, ?_⟩
      rw [mFind h, hi]
      simp [h1]

/-- What is laid is found; the rest stays. -/
theorem mGet_put (l : List (κ × α × Nat)) (c : Nat) (a b : κ) (v : α) : mGet (mPut l c a v) b = if b = a then some v else mGet l b := by
  unfold mPut mGet
  have key : ∀ (l : List (κ × α × Nat)) (n : Nat), l.findIdx? (fun x => decide (x.1 = a)) = some n → ∀ k, (((l.set n (a, v, k)).find? fun x => decide (x.1 = b)).map fun x => x.2.1) = if b = a then some v else (l.find? fun x => decide (x.1 = b)).map fun x => x.2.1 := by
    intro l
    induction l with
    | nil => intro n h; simp at h
    | cons x l ih =>
      intro n h k
      rw [List.findIdx?_cons] at h
      by_cases hx : x.1 = a
      · simp only [hx, decide_true, if_true, Option.some.injEq] at h
        subst h
        simp only [List.set_cons_zero, List.find?_cons]
        by_cases hb : b = a
        · simp [hb]
        · have h1 : ¬ a = b := fun e => hb e.symm
          simp [h1, hb, hx]
      · simp only [hx, decide_false, Bool.false_eq_true, if_false] at h
        cases hi : l.findIdx? (fun x => decide (x.1 = a)) with
        | none => simp [hi] at h
        | some m =>
          simp only [hi, Option.map_some, Option.some.injEq] at h
          subst h
          simp only [List.set_cons_succ, List.find?_cons]
          by_cases hb : x.1 = b
          · have h1 : ¬ b = a := fun e => hx (hb.trans e)
            simp [hb, h1]
          · simp only [hb, decide_false]
            exact ih m hi k
  split
  · rename_i n hi
    exact key l n hi _
  · rename_i hi
    rw [List.find?_append]
    have hn : ∀ x ∈ l, ¬ x.1 = a := by
      intro x hx
      have := List.findIdx?_eq_none_iff.1 hi x hx
      simpa using this
    by_cases hb : b = a
    · subst hb
      have h1 : l.find? (fun x => decide (x.1 = b)) = none := by
        rw [List.find?_eq_none]
        intro x hx
        simpa using hn x hx
      simp [h1]
    · have h1 : ¬ a = b := fun e => hb e.symm
      simp [h1, hb]

section
variable {T : Tab} {t kt et : TypeId} {i j : TI} {kf : κ → TV} {vf : α → TV} {z : TV} {σ : TS} {lm c : Nat} {l : List (κ × α × Nat)} {a : κ} {v : α}
theorem mapLook (hT : T t = some i) (hk : i.k = .map kt et) (hE : T et = some j) (hz : j.zero = some z) (h : KeyLaw T kt kf) (hm : σ[lm]? = some (.map (mEnt kf vf l) c)) (ok : Bool) :
    tlookup T σ t (.map lm) (kf a) ok = some (match mGet l a with | some v => (if ok then .tup [vf v, .bool true] else vf v) | none => (if ok then .tup [z, .bool false] else z)) := by
  unfold tlookup
  simp only [hT, hk, hE, hz, tentries, hm, h.key, if_true]
  cases hg : mGet l a with
  | none => rw [mFind_none h hg]
  | some v =>
    obtain ⟨n, x, -, -, -, hv, hf⟩ := mFind_some (vf := vf) h hg
    rw [hf, ← hv]
theorem mapPut (hT : T t = some i) (hk : i.k = .map kt et) (h : KeyLaw T kt kf) (hm : σ[lm]? = some (.map (mEnt kf vf l) c)) :
    tmapUpdate T σ t (.map lm) (kf a) (vf v) = some (σ.set lm (.map (mEnt kf vf (mPut l c a v)) (mClock l c a))) := by
  unfold tmapUpdate
  simp only [hT, hk, hm, h.key, if_true]
  cases hg : mGet l a with
  | none =>
    rw [mFind_none h hg]
    have hi : l.findIdx? (fun x => decide (x.1 = a)) = none := by
      unfold mGet at hg
      rw [List.findIdx?_eq_none_iff]
      intro x hx
      have : l.find? (fun x => decide (x.1 = a)) = none := by simpa using hg
      simpa using List.find?_eq_none.1 this x hx
    simp only [mPut, hi, mClock, hg, Option.isSome_none, Bool.false_eq_true, if_false, mEnt, List.map_append, List.map_cons, List.map_nil]
  | some w =>
    obtain ⟨n, x, hi, hx, ha, hw, hf⟩ := mFind_some (vf := vf) h hg
    rw [hf]
    simp only [mPut, hi, mClock, hg, Option.isSome_some, if_true, mEnt]
    rw [List.getD_eq_getElem?_getD, hx, Option.getD_some, List.map_set]
end

/-- Births differ, and none is to come. -/
def mOk (l : List (κ × α × Nat)) (c : Nat) : Prop := l.Pairwise (fun x y => x.2.2 ≠ y.2.2) ∧ ∀ x ∈ l, x.2.2 < c
def mBorn (l : List (κ × α × Nat)) (c : Nat) (a : κ) : Nat := ((l.find? fun x => decide (x.1 = a)).map fun x => x.2.2).getD c

theorem mOk_nil {κ α : Type} (c : Nat) : mOk ([] : List (κ × α × Nat)) c := ⟨List.Pairwise.nil, fun x h => by cases h⟩

theorem find_idx {l : List (κ × α × Nat)} {a : κ} {n : Nat} {x : κ × α × Nat} (hi : l.findIdx? (fun x => decide (x.1 = a)) = some n) (hx : l[n]? = some x) : l.find? (fun x => decide (x.1 = a)) = some x := by
  have := findIdx_get (p := fun x => decide (x.1 = a)) (l := l)
  rw [hi] at this
  simpa [hx] using this.symm

theorem mOk_put {l : List (κ × α × Nat)} {c : Nat} (h : mOk l c) (a : κ) (v : α) : mOk (mPut l c a v) (mClock l c a) := by
  obtain ⟨h1, h2⟩ := h
  unfold mPut mClock mGet
  cases hi : l.findIdx? fun x => decide (x.1 = a) with
  | some n =>
    have hn : n < l.length := by
      have := List.findIdx?_eq_some_iff_findIdx_eq.1 hi
      omega
    have hf := find_idx hi (List.getElem?_eq_getElem hn)
    simp only [hf, Option.map_some, Option.isSome_some, if_true]
    have hd : (l.getD n (a, v, c)).2.2 = l[n].2.2 := by rw [List.getD_eq_getElem?_getD, List.getElem?_eq_getElem hn, Option.getD_some]
    have hmap : (l.set n (a, v, (l.getD n (a, v, c)).2.2)).map (fun x => x.2.2) = l.map fun x => x.2.2 := by
      rw [List.map_set, hd]
      apply List.ext_getElem?
      intro k
      rw [List.getElem?_set]
      split
      · rename_i e
        subst e
        simp [hn]
      · rfl
    constructor
    · have h3 : ((l.map fun x => x.2.2)).Pairwise (· ≠ ·) := List.pairwise_map.2 h1
      rw [← hmap] at h3
      exact List.pairwise_map.1 h3
    · intro x hx
      rcases List.mem_or_eq_of_mem_set hx with hx | rfl
      · exact h2 x hx
      · show (l.getD n (a, v, c)).2.2 < c
        rw [hd]
        exact h2 _ (List.getElem_mem hn)
  | none =>
    have hf : l.find? (fun x => decide (x.1 = a)) = none := by
      rw [List.find?_eq_none]
      intro x hx
      simpa using List.findIdx?_eq_none_iff.1 hi x hx
    simp only [hf, Option.map_none, Option.isSome_none, Bool.false_eq_true, if_false]
    constructor
    · rw [List.pairwise_append]
      refine ⟨h1, by simp, fun x hx y hy => ?_⟩
      simp only [List.mem_singleton] at hy
      subst hy
      have := h2 x hx
      simp only
      omega
    · intro x hx
      rcases List.mem_append.1 hx with hx | hx
      · have := h2 x hx; omega
      · simp only [List.mem_singleton] at hx
        subst hx
        simp

section
variable {T : Tab} {t kt et : TypeId} {i j : TI} {kf : κ → TV} {vf : α → TV} {z : TV} {z0 : α} {σ : TS} {lm c : Nat} {l : List (κ × α × Nat)} {a : κ} {v : α}
theorem mapEnter (hT : T t = some i) (hk : i.k = .map kt et) (hE : T et = some j) (hz : j.zero = some (vf z0)) (h : KeyLaw T kt kf) (hm : σ[lm]? = some (.map (mEnt kf vf l) c)) :
    tmapEntry T σ t (.map lm) (kf a) = some (.tup [vf ((mGet l a).getD z0), .int .i64 (mBorn l c a)], σ.set lm (.map (mEnt kf vf (mPut l c a ((mGet l a).getD z0))) (mClock l c a))) := by
  unfold tmapEntry
  simp only [hT, hk, hm, h.key, if_true, hE, Option.bind_some, hz]
  cases hg : mGet l a with
  | none =>
    rw [mFind_none h hg]
    have hf : l.find? (fun x => decide (x.1 = a)) = none := by unfold mGet at hg; simpa using hg
    have hi : l.findIdx? (fun x => decide (x.1 = a)) = none := by
      rw [List.findIdx?_eq_none_iff]
      intro x hx
      simpa using List.find?_eq_none.1 hf x hx
    simp only [mPut, hi, mClock, hg, mBorn, hf, Option.map_none, Option.getD_none, Option.isSome_none, Bool.false_eq_true, if_false, mEnt, List.map_append, List.map_cons, List.map_nil]
  | some w =>
    obtain ⟨n, x, hi, hx, ha, hw, hf⟩ := mFind_some (vf := vf) h hg
    rw [hf]
    simp only [mPut, hi, mClock, hg, mBorn, find_idx hi hx, Option.map_some, Option.getD_some, Option.isSome_some, if_true, mEnt]
    rw [List.getD_eq_getElem?_getD, hx, Option.getD_some, List.map_set, hw]
end

theorem idx_born {κ α : Type} : ∀ {l : List (κ × α × Nat)} {n : Nat} {x : κ × α × Nat}, l.Pairwise (fun x y => x.2.2 ≠ y.2.2) → l[n]? = some x → l.findIdx? (fun y => ((y.2.2 : Nat) : Int) == (x.2.2 : Int)) = some n
  | [], _, _, _, h => by simp at h
  | y :: l, 0, x, _, h => by
    simp only [List.getElem?_cons_zero, Option.some.injEq] at h
    subst h
    simp [List.findIdx?_cons]
  | y :: l, n + 1, x, hp, h => by
    rw [List.pairwise_cons] at hp
    simp only [List.getElem?_cons_succ] at h
    have hne := hp.1 x (List.mem_of_getElem? h)
    rw [List.findIdx?_cons, if_neg (by simp; omega), idx_born hp.2 h]
    rfl

theorem entryPut {kf : κ → TV} {vf : α → TV} {σ : TS} {lm c c' : Nat} {l : List (κ × α × Nat)} {a : κ} {w v : α} {k : IntKind} (h : mOk l c) (hm : σ[lm]? = some (.map (mEnt kf vf (mPut l c a w)) c')) :
    tentryStore σ (.map lm) (.int k (mBorn l c a)) (vf v) = some (σ.set lm (.map (mEnt kf vf (mPut l c a v)) c')) := by
  have hp := (mOk_put h a w).1
  have hfi : ∀ (l : List (κ × α × Nat)) (b : Int), (mEnt kf vf l).findIdx? (fun e => (e.born : Int) == b) = l.findIdx? fun y => ((y.2.2 : Nat) : Int) == b := by
    intro l b
    induction l with
    | nil => rfl
    | cons y l ih =>
      simp only [mEnt, List.map_cons, List.findIdx?_cons] at ih ⊢
      rw [ih]
  unfold tentryStore
  simp only [hm, hfi]
  unfold mPut mBorn at *
  cases hi : l.findIdx? fun x => decide (x.1 = a) with
  | some n =>
    have hn : n < l.length := by
      have := List.findIdx?_eq_some_iff_findIdx_eq.1 hi
      omega
    have hf := find_idx hi (List.getElem?_eq_getElem hn)
    have hd : (l.getD n (a, w, c)).2.2 = l[n].2.2 := by rw [List.getD_eq_getElem?_getD, List.getElem?_eq_getElem hn, Option.getD_some]
    have hd2 : (l.getD n (a, v, c)).2.2 = l[n].2.2 := by rw [List.getD_eq_getElem?_getD, List.getElem?_eq_getElem hn, Option.getD_some]
    simp only [hi] at hp ⊢
    simp only [hf, Option.map_some, Option.getD_some]
    have hx : (l.set n (a, w, (l.getD n (a, w, c)).2.2))[n]? = some (a, w, l[n].2.2) := by rw [List.getElem?_set_self hn, hd]
    have hb := idx_born hp hx
    simp only at hb
    rw [hb]
    have he : (mEnt kf vf (l.set n (a, w, (l.getD n (a, w, c)).2.2)))[n]? = some ⟨kf a, vf w, l[n].2.2⟩ := by
      unfold mEnt
      rw [List.getElem?_map, hx]; rfl
    simp only [he]
    congr 3
    unfold mEnt
    rw [hd, hd2, List.map_set, List.map_set, List.set_set]
  | none =>
    have hf : l.find? (fun x => decide (x.1 = a)) = none := by
      rw [List.find?_eq_none]
      intro x hx
      simpa using List.findIdx?_eq_none_iff.1 hi x hx
    simp only [hi] at hp ⊢
    simp only [hf, Option.map_none, Option.getD_none]
    have hx : (l ++ [(a, w, c)])[l.length]? = some (a, w, c) := by simp
    have hb := idx_born hp hx
    simp only at hb
    rw [hb]
    have he : (mEnt kf vf (l ++ [(a, w, c)]))[l.length]? = some ⟨kf a, vf w, c⟩ := by
      unfold mEnt
      rw [List.getElem?_map, hx]; rfl
    simp only [he]
    congr 3
    unfold mEnt
    simp

end
end Go.TM

/- The T-machine, part 25: drawing regions of which some operations turn the heap: one order is walked; what was read ahead is held against what comes between. -/
set_option linter.unusedVariables false
set_option linter.unusedSimpArgs false
namespace Go.TM

section
variable {P : Program} {wn : List Tmp} {ops : Array Oper} {Q : TL → TS → Prop}

/-- What an operation answered ahead it answers of this heap too. -/
structure HeldOp (P : Program) (wn : List Tmp) (ops : Array Oper) (m : TL) (o : Oper) (r : Option TV) (τ : TS) : Prop where
  go : ∀ K : Option TV → TS → Prop, K r τ → tStep P wn ops m o τ K

/-- 0: hangs on its operands alone; 1: leaves the heap; 2: may turn it. -/
def twE (P : Program) (wn : List Tmp) (ops : Array Oper) (Q : TL → TS → Prop) : List (Nat × Oper × Nat) → Held → TL → TS → Prop
  | [], pend, m, σ => Q m σ
  | (i, o, 0) :: ord, pend, m, σ => kindOf o = 0 ∧ ∃ r, (∀ K : Option TV → TS → Prop, K r σ → tStep P wn ops m o σ K) ∧ twE P wn ops Q ord pend (tput m o.dst r) σ
  | (i, o, 1) :: ord, pend, m, σ => ∃ r, (∀ K : Option TV → TS → Prop, K r σ → tStep P wn ops m o σ K) ∧ twE P wn ops Q ord ((i, HeldOp P wn ops m o r) :: pend) (tput m o.dst r) σ
  | (i, o, _ + 2) :: ord, pend, m, σ => tStep P wn ops m o σ fun r σ' => (∀ p ∈ keep ops i pend, p.2 σ') ∧ twE P wn ops Q ord (keep ops i pend) (tput m o.dst r) σ'

def okE (ops : Array Oper) : Array Bool → List (Nat × Nat) → Bool
  | listed, [] => (Region.ready .any ops listed).isEmpty
  | listed, (i, k) :: ord => (if k < 2 then (Region.ready .any ops listed).contains i && Region.free .any ops listed i else Region.ready .any ops listed == [i]) && okE ops (listed.setIfInBounds i true) ord

def triples (ops : Array Oper) : List (Nat × Nat) → List (Nat × Oper × Nat)
  | [] => []
  | (i, k) :: ord => match ops[i]? with
    | some o => (i, o, k) :: triples ops ord
    | none => []

theorem tStep_pure0 {m : TL} {o : Oper} {σ : TS} {r : Option TV} (hk : kindOf o = 0) (h : ∀ K : Option TV → TS → Prop, K r σ → tStep P wn ops m o σ K) : ∀ τ, ∀ K : Option TV → TS → Prop, K r τ → tStep P wn ops m o τ K := by
  have h1 := h (fun r' σ' => r' = r ∧ σ' = σ) ⟨rfl, rfl⟩
  obtain ⟨r', σ', ⟨rfl, rfl⟩, _, h4⟩ := tStep_det (by omega) h1
  exact (h4 hk).2

theorem twE_any : ∀ (ord : List (Nat × Nat)) (pend : Held) (listed : Array Bool) (m : TL) (σ : TS), okE ops listed ord = true → (∀ p ∈ pend, p.2 σ) → ord.length = (triples ops ord).length → twE P wn ops Q (triples ops ord) pend m σ →
    anyH P wn ops Q ord.length pend listed m σ
  | [], pend, listed, m, σ, ho, hp, _, h => ⟨hp, by simpa [okE] using ho, h⟩
  | (i, k) :: ord, pend, listed, m, σ, ho, hp, hl, h => by
    simp only [okE, Bool.and_eq_true] at ho
    obtain ⟨h1, h2⟩ := ho
    cases hi : ops[i]? with
    | none => simp [triples, hi] at hl
    | some o =>
      simp only [triples, hi, List.length_cons, Nat.add_right_cancel_iff] at hl h
      match k, h1, h with
      | 0, h1, h =>
        rw [if_pos (by decide)] at h1
        simp only [Bool.and_eq_true, List.contains_iff_mem] at h1
        simp only [twE] at h
        obtain ⟨hk, r, h3, h4⟩ := h
        refine anyH_take hi (fun _ => True) ord.length pend listed m σ (Region.free_spec hi h1.2) h1.1 (fun τ _ K hK => tStep_pure0 hk h3 τ K hK) ?_
        exact anyH_sub _ (fun p hp => by
          rcases List.mem_cons.1 hp with rfl | hp
          · exact .inr fun _ => trivial
          · exact .inl hp) (twE_any ord pend _ _ _ h2 hp hl h4)
      | 1, h1, h =>
        rw [if_pos (by decide)] at h1
        simp only [Bool.and_eq_true, List.contains_iff_mem] at h1
        simp only [twE] at h
        obtain ⟨r, h3, h4⟩ := h
        refine anyH_take hi (HeldOp P wn ops m o r) ord.length pend listed m σ (Region.free_spec hi h1.2) h1.1 (fun τ ht K hK => ht.go K hK) ?_
        exact twE_any ord _ _ _ _ h2 (fun p hp' => by
          rcases List.mem_cons.1 hp' with rfl | hp'
          · exact ⟨h3⟩
          · exact hp p hp') hl h4
      | k + 2, h1, h =>
        have hk : ¬ (k + 2 < 2) := by omega
        rw [if_neg hk] at h1
        have h1 : Region.ready .any ops listed = [i] := by simpa using h1
        simp only [twE] at h
        refine ⟨hp, fun e => (by rw [h1] at e; cases e), fun j hj => ?_⟩
        rw [h1] at hj
        obtain rfl : j = i := by simpa using hj
        unfold stepT
        simp only [hi]
        exact tStep_mono h fun r σ' q => twE_any ord _ _ _ _ h2 q.1 hl q.2

theorem tw_effects {id : Nat} {X : TX → TL → TS → Prop} {m : TL} {σ : TS} (ord : List (Nat × Nat)) (hm : P.follows .mixedOrders = true) (hn : ord.length = ops.size) (hl : ord.length = (triples ops ord).length) (ho : okE ops (Array.replicate ops.size false) ord = true)
    (h : twE P wn ops (X .normal) (triples ops ord) [] m σ) : tw P wn (.region id ops true) X m σ := by
  simp only [tw, if_true]
  left
  intro t
  simp only [Region.schedule, hm, Bool.true_or, if_true]
  unfold Region.linearise
  refine anyH_sound ops.size t [] _ m σ ?_
  rw [← hn] at ho ⊢
  exact twE_any ord [] _ m σ ho (by simp) hl h

/-- What is held may be told otherwise. -/
theorem twE_pend : ∀ (l : List (Nat × Oper × Nat)) {pend pend' : Held} {m : TL} {σ : TS}, (∀ p' ∈ pend', (∃ p ∈ pend, p.1 = p'.1 ∧ ∀ τ, p.2 τ → p'.2 τ) ∨ ∀ τ, p'.2 τ) → twE P wn ops Q l pend m σ → twE P wn ops Q l pend' m σ
  | [], _, _, m, σ, _, h => by simpa only [twE] using h
  | (i, o, 0) :: ord, pend, pend', m, σ, hs, h => by
    simp only [twE] at h ⊢
    obtain ⟨hk, r, h1, h2⟩ := h
    exact ⟨hk, r, h1, twE_pend ord hs h2⟩
  | (i, o, 1) :: ord, pend, pend', m, σ, hs, h => by
    simp only [twE] at h ⊢
    obtain ⟨r, h1, h2⟩ := h
    refine ⟨r, h1, twE_pend ord (fun p' hp' => ?_) h2⟩
    rcases List.mem_cons.1 hp' with rfl | hp'
    · exact .inl ⟨_, List.mem_cons_self .., rfl, fun _ q => q⟩
    · rcases hs p' hp' with ⟨p, hp, e, q⟩ | q
      · exact .inl ⟨p, List.mem_cons_of_mem _ hp, e, q⟩
      · exact .inr q
  | (i, o, k + 2) :: ord, pend, pend', m, σ, hs, h => by
    simp only [twE] at h ⊢
    have hs' : ∀ p' ∈ keep ops i pend', (∃ p ∈ keep ops i pend, p.1 = p'.1 ∧ ∀ τ, p.2 τ → p'.2 τ) ∨ ∀ τ, p'.2 τ := by
      intro p' hp'
      simp only [keep, List.mem_filter] at hp' ⊢
      rcases hs p' hp'.1 with ⟨p, hp, e, q⟩ | q
      · exact .inl ⟨p, ⟨hp, by rw [e]; exact hp'.2⟩, e, q⟩
      · exact .inr q
    refine tStep_mono h fun r σ' q => ⟨fun p' hp' => ?_, twE_pend ord hs' q.2⟩
    rcases hs' p' hp' with ⟨p, hp, e, q'⟩ | q'
    · exact q' _ (q.1 p hp)
    · exact q' _

/-- The walk of such a region, behind a structure. -/
structure WE (P : Program) (wn : List Tmp) (ops : Array Oper) (Q : TL → TS → Prop) (l : List (Nat × Oper × Nat)) (pend : Held) (m : TL) (σ : TS) : Prop where
  go : twE P wn ops Q l pend m σ
/-- What was read ahead holds of the heap that is. -/
structure HeldAt (l : Held) (σ : TS) : Prop where
  go : ∀ p ∈ l, p.2 σ

theorem T_eff_seq {id : Nat} {y : Code} {X : TX → TL → TS → Prop} {m : TL} {σ : TS} (ord : List (Nat × Nat)) (hm : P.follows .mixedOrders = true) (hn : ord.length = ops.size) (hl : ord.length = (triples ops ord).length) (ho : okE ops (Array.replicate ops.size false) ord = true)
    (h : ∀ K : TL → TS → Prop, (∀ m σ, Tw P wn y X m σ → K m σ) → WE P wn ops K (triples ops ord) [] m σ) : Tw P wn (.seq (.region id ops true) y) X m σ :=
  ⟨tw_seq_k fun K hK => tw_effects ord hm hn hl ho (h K fun m σ q => hK m σ q.go).go⟩
theorem T_eff_end {id : Nat} {X : TX → TL → TS → Prop} {m : TL} {σ : TS} (ord : List (Nat × Nat)) (hm : P.follows .mixedOrders = true) (hn : ord.length = ops.size) (hl : ord.length = (triples ops ord).length) (ho : okE ops (Array.replicate ops.size false) ord = true)
    (h : ∀ K : TL → TS → Prop, (∀ m σ, X .normal m σ → K m σ) → WE P wn ops K (triples ops ord) [] m σ) : Tw P wn (.region id ops true) X m σ :=
  ⟨tw_effects ord hm hn hl ho (h (X .normal) fun _ _ q => q).go⟩

theorem HeldAt_nil {σ : TS} : HeldAt [] σ := ⟨fun _ h => by cases h⟩
variable {dst : Option Tmp} {op : Op} {ty : TypeId} {pos : String} {after : Array Edge} {rest : List (Nat × Oper × Nat)} {m m' m1 : TL} {σ : TS} {i j : Nat} {want : Bool} {pend : Held} {r : Option TV}
theorem HeldAt_cons {l : Held} {F : TS → Prop} (h : F σ) (h2 : HeldAt l σ) : HeldAt ((i, F) :: l) σ :=
  ⟨fun p hp => by
    rcases List.mem_cons.1 hp with rfl | hp
    · exact h
    · exact h2.go p hp⟩
theorem HeldOp_of (h : ∀ K : Option TV → TS → Prop, K r σ → WO P wn m dst op σ K) : HeldOp P wn ops m { dst := dst, op := op, type := ty, pos := pos, after := after, guard := none } r σ :=
  ⟨fun K hK => (h K hK).go⟩
theorem HeldOp_un {j : Nat} {want : Bool} (hg : tyield ops m j = some none) (hr : r = some (.tup [])) : HeldOp P wn ops m { dst := dst, op := op, type := ty, pos := pos, after := after, guard := some (j, want) } r σ :=
  ⟨fun K hK => by
    unfold tStep
    simp only [twanted, hg]
    rw [← hr]; exact hK⟩

theorem WE_nil (h : Q m σ) : WE P wn ops Q [] pend m σ := ⟨by simpa only [twE] using h⟩
theorem WE_0 (hk : kindOf { dst := dst, op := op, type := ty, pos := pos, after := after, guard := none } = 0) (h : ∀ K : Option TV → TS → Prop, K r σ → WO P wn m dst op σ K) (e : tput m dst r = m') (h2 : WE P wn ops Q rest pend m' σ) :
    WE P wn ops Q ((i, { dst := dst, op := op, type := ty, pos := pos, after := after, guard := none }, 0) :: rest) pend m σ := by
  refine ⟨?_⟩
  rw [twE]
  exact ⟨hk, r, fun K hK => (h K hK).go, by rw [e]; exact h2.go⟩
theorem WE_1 (h : ∀ K : Option TV → TS → Prop, K r σ → WO P wn m dst op σ K) (e : tput m dst r = m')
    (h2 : ∀ F : TS → Prop, (∀ τ, HeldOp P wn ops m { dst := dst, op := op, type := ty, pos := pos, after := after, guard := none } r τ → F τ) → WE P wn ops Q rest ((i, F) :: pend) m' σ) :
    WE P wn ops Q ((i, { dst := dst, op := op, type := ty, pos := pos, after := after, guard := none }, 1) :: rest) pend m σ := by
  refine ⟨?_⟩
  rw [twE]
  exact ⟨r, fun K hK => (h K hK).go, by rw [e]; exact (h2 _ fun τ q => q).go⟩
theorem WE_2 (h : ∀ K : Option TV → TS → Prop, (∀ r σ' m' pend', keep ops i pend = pend' → tput m dst r = m' → HeldAt pend' σ' → WE P wn ops Q rest pend' m' σ' → K r σ') → WO P wn m dst op σ K) :
    WE P wn ops Q ((i, { dst := dst, op := op, type := ty, pos := pos, after := after, guard := none }, 2) :: rest) pend m σ := by
  refine ⟨?_⟩
  rw [twE]
  exact (h (fun r σ' => (∀ p ∈ keep ops i pend, p.2 σ') ∧ twE P wn ops Q rest (keep ops i pend) (tput m dst r) σ') fun r σ' m' pend' e1 e2 h1 h2 => ⟨by rw [e1]; exact h1.go, by rw [e1, e2]; exact h2.go⟩).go

theorem tStep_yes {K : Option TV → TS → Prop} (hg : tyield ops m j = some (some want)) (h : tStep P wn ops m { dst := dst, op := op, type := ty, pos := pos, after := after, guard := none } σ K) : tStep P wn ops m { dst := dst, op := op, type := ty, pos := pos, after := after, guard := some (j, want) } σ K := by
  unfold tStep at h ⊢
  simp only [twanted, hg, beq_self_eq_true] at h ⊢
  exact h
theorem tStep_no {K : Option TV → TS → Prop} (hg : tyield ops m j = some (some (!want))) (h : K (some (.tup [])) σ) : tStep P wn ops m { dst := dst, op := op, type := ty, pos := pos, after := after, guard := some (j, want) } σ K := by
  unfold tStep
  have hb : ((!want) == want) = false := by cases want <;> rfl
  simp only [twanted, hg, hb]
  exact h
theorem WE_if0 {b : Bool} (hg : tyield ops m j = some (some b)) (hk : kindOf { dst := dst, op := op, type := ty, pos := pos, after := after, guard := none } = 0) (e : tput m dst (some (.tup [])) = m')
    (hy : b = want → WE P wn ops Q ((i, { dst := dst, op := op, type := ty, pos := pos, after := after, guard := none }, 0) :: rest) pend m σ)
    (hn : b = (!want) → WE P wn ops Q rest pend m' σ) :
    WE P wn ops Q ((i, { dst := dst, op := op, type := ty, pos := pos, after := after, guard := some (j, want) }, 0) :: rest) pend m σ := by
  refine ⟨?_⟩
  rw [twE]
  refine ⟨hk, ?_⟩
  by_cases h : b = want
  · subst h
    have h1 := (hy rfl).go
    rw [twE] at h1
    obtain ⟨_, r, h2, h3⟩ := h1
    exact ⟨r, fun K hK => tStep_yes hg (h2 K hK), h3⟩
  · obtain rfl : b = !want := by revert h; cases b <;> cases want <;> simp
    exact ⟨_, fun K hK => tStep_no hg hK, by rw [e]; exact (hn rfl).go⟩
theorem WE_if1 {b : Bool} (hg : tyield ops m j = some (some b)) (e : tput m dst (some (.tup [])) = m')
    (hy : b = want → WE P wn ops Q ((i, { dst := dst, op := op, type := ty, pos := pos, after := after, guard := none }, 1) :: rest) pend m σ)
    (hn : b = (!want) → WE P wn ops Q rest pend m' σ) :
    WE P wn ops Q ((i, { dst := dst, op := op, type := ty, pos := pos, after := after, guard := some (j, want) }, 1) :: rest) pend m σ := by
  refine ⟨?_⟩
  rw [twE]
  by_cases h : b = want
  · subst h
    have h1 := (hy rfl).go
    rw [twE] at h1
    obtain ⟨r, h2, h3⟩ := h1
    refine ⟨r, fun K hK => tStep_yes hg (h2 K hK), twE_pend rest (fun p' hp' => ?_) h3⟩
    rcases List.mem_cons.1 hp' with rfl | hp'
    · exact .inl ⟨_, List.mem_cons_self .., rfl, fun τ q => ⟨fun K hK => tStep_yes hg (q.go K hK)⟩⟩
    · exact .inl ⟨p', List.mem_cons_of_mem _ hp', rfl, fun _ q => q⟩
  · obtain rfl : b = !want := by revert h; cases b <;> cases want <;> simp
    refine ⟨_, fun K hK => tStep_no hg hK, twE_pend rest (fun p' hp' => ?_) (by rw [e]; exact (hn rfl).go)⟩
    rcases List.mem_cons.1 hp' with rfl | hp'
    · exact .inr fun τ => ⟨fun K hK => tStep_no hg hK⟩
    · exact .inl ⟨p', hp', rfl, fun _ q => q⟩
theorem WE_if2 {b : Bool} {pend' : Held} (hg : tyield ops m j = some (some b)) (ek : keep ops i pend = pend') (e : tput m dst (some (.tup [])) = m')
    (hy : b = want → WE P wn ops Q ((i, { dst := dst, op := op, type := ty, pos := pos, after := after, guard := none }, 2) :: rest) pend m σ)
    (hh : b = (!want) → HeldAt pend' σ) (hn : b = (!want) → WE P wn ops Q rest pend' m' σ) :
    WE P wn ops Q ((i, { dst := dst, op := op, type := ty, pos := pos, after := after, guard := some (j, want) }, 2) :: rest) pend m σ := by
  refine ⟨?_⟩
  rw [twE]
  by_cases h : b = want
  · subst h
    have h1 := (hy rfl).go
    rw [twE] at h1
    exact tStep_yes hg h1
  · obtain rfl : b = !want := by revert h; cases b <;> cases want <;> simp
    exact tStep_no hg ⟨by rw [ek]; exact (hh rfl).go, by rw [ek, e]; exact (hn rfl).go⟩
theorem WE_un0 (hk : kindOf { dst := dst, op := op, type := ty, pos := pos, after := after, guard := none } = 0) (hg : tyield ops m j = some none) (e : tput m dst (some (.tup [])) = m') (hn : WE P wn ops Q rest pend m' σ) :
    WE P wn ops Q ((i, { dst := dst, op := op, type := ty, pos := pos, after := after, guard := some (j, want) }, 0) :: rest) pend m σ := by
  refine ⟨?_⟩
  rw [twE]
  refine ⟨hk, some (.tup []), fun K hK => ?_, by rw [e]; exact hn.go⟩
  unfold tStep
  simp only [twanted, hg]
  exact hK
theorem WE_un1 (hg : tyield ops m j = some none) (e : tput m dst (some (.tup [])) = m') (hn : WE P wn ops Q rest pend m' σ) :
    WE P wn ops Q ((i, { dst := dst, op := op, type := ty, pos := pos, after := after, guard := some (j, want) }, 1) :: rest) pend m σ := by
  have hs : ∀ (τ : TS) (K : Option TV → TS → Prop), K (some (.tup [])) τ → tStep P wn ops m { dst := dst, op := op, type := ty, pos := pos, after := after, guard := some (j, want) } τ K := by
    intro τ K hK
    unfold tStep
    simp only [twanted, hg]
    exact hK
  refine ⟨?_⟩
  rw [twE]
  refine ⟨some (.tup []), fun K hK => hs σ K hK, twE_pend rest (fun p' hp' => ?_) (by rw [e]; exact hn.go)⟩
  rcases List.mem_cons.1 hp' with rfl | hp'
  · exact .inr fun τ => ⟨fun K hK => hs τ K hK⟩
  · exact .inl ⟨p', hp', rfl, fun _ q => q⟩
theorem WE_un2 {pend' : Held} (hg : tyield ops m j = some none) (ek : keep ops i pend = pend') (e : tput m dst (some (.tup [])) = m') (hh : HeldAt pend' σ) (hn : WE P wn ops Q rest pend' m' σ) :
    WE P wn ops Q ((i, { dst := dst, op := op, type := ty, pos := pos, after := after, guard := some (j, want) }, 2) :: rest) pend m σ := by
  refine ⟨?_⟩
  rw [twE]
  unfold tStep
  simp only [twanted, hg]
  exact ⟨by rw [ek]; exact hh.go, by rw [ek, e]; exact hn.go⟩
/-- A choice between two values. -/
theorem WE_pick0 {x y z : Operand} {t : Bool} {a b : TV} {m'' : TL} (hx : ev m x = some (.bool t)) (hy : ev m y = some a) (hz : ev m z = some b) (e1 : tput m dst (some a) = m') (e2 : tput m dst (some b) = m'')
    (h1 : t = true → WE P wn ops Q rest pend m' σ) (h2 : t = false → WE P wn ops Q rest pend m'' σ) : WE P wn ops Q ((i, { dst := dst, op := .pick x y z, type := ty, pos := pos, after := after, guard := none }, 0) :: rest) pend m σ := by
  cases t with
  | true => exact WE_0 rfl (fun K hK => O_pickT hx hy hK) e1 (h1 rfl)
  | false => exact WE_0 rfl (fun K hK => O_pickF hx hz hK) e2 (h2 rfl)
end

/-- A call whose answer and whose effect are known. -/
def TDoes (P : Program) (f : FuncId) (args : List TV) (σ : TS) (v : TV) (τ : TS) : Prop := TCalls P f args σ fun r σ' => r = v ∧ σ' = τ
theorem TDoes.go {P : Program} {f : FuncId} {args : List TV} {σ τ : TS} {v : TV} {Q : TV → TS → Prop} (h : TDoes P f args σ v τ) (k : Q v τ) : TCalls P f args σ Q :=
  TCalls.mono h fun _ _ q => by obtain ⟨rfl, rfl⟩ := q; exact k
/-- The heap that was, with things in it turned. -/
structure Turned (σ τ : TS) : Prop where
  len : τ.length = σ.length
  obj : ∀ l : Nat, τ[l]? = σ[l]? ∨ ∃ o, τ[l]? = some o ∧ TObj.fits σ.length o = true
theorem Turned.refl (σ : TS) : Turned σ σ := ⟨rfl, fun _ => .inl rfl⟩
theorem Turned.set {σ τ : TS} (h : Turned σ τ) {l : Nat} {o : TObj} (ho : TObj.fits σ.length o = true) : Turned σ (τ.set l o) := by
  refine ⟨by rw [List.length_set, h.len], fun k => ?_⟩
  rw [List.getElem?_set]
  split
  · split
    · exact .inr ⟨o, rfl, ho⟩
    · rename_i h1 h2
      left
      rw [List.getElem?_eq_none]
      rw [h.len] at h2
      omega
  · exact h.obj k

/-- What a call ends with that turned things in the heap that was. -/
def EndsT (σ τ : TS) (v : TV) (tv : TV) (s : TS) : Prop := (∃ ρ, s = τ ++ ρ) ∧ Turned σ τ ∧ TV.fits σ.length tv.free = true ∧ tv.free = v
theorem EndsT.same {σ τ : TS} {v tv : TV} (ht : Turned σ τ) (h : TV.fits σ.length tv.free = true) (e : tv.free = v) : EndsT σ τ v tv τ := ⟨⟨[], (List.append_nil _).symm⟩, ht, h, e⟩
theorem EndsT.more {σ τ ρ : TS} {v tv : TV} (ht : Turned σ τ) (h : TV.fits σ.length tv.free = true) (e : tv.free = v) : EndsT σ τ v tv (τ ++ ρ) := ⟨⟨ρ, rfl⟩, ht, h, e⟩

theorem EndsT.same' {σ τ τ' : TS} {v tv : TV} (ht : Turned σ τ') (h : TV.fits σ.length tv.free = true) (e : tv.free = v) (eh : τ' = τ) : EndsT σ τ v tv τ' := by subst eh; exact EndsT.same ht h e
theorem EndsT.more' {σ τ τ' ρ : TS} {v tv : TV} (ht : Turned σ τ') (h : TV.fits σ.length tv.free = true) (e : tv.free = v) (eh : τ' = τ) : EndsT σ τ v tv (τ' ++ ρ) := by subst eh; exact EndsT.more ht h e
theorem keep_nil {ops : Array Oper} {i : Nat} : keep ops i [] = [] := rfl
theorem keep_drop {ops : Array Oper} {i k : Nat} {F : TS → Prop} {l l' : Held} (h : isAfter ops i k = true) (e : keep ops i l = l') : keep ops i ((k, F) :: l) = l' := by
  unfold keep at e ⊢
  rw [List.filter_cons, if_neg (by simp [h]), e]
theorem keep_keep {ops : Array Oper} {i k : Nat} {F : TS → Prop} {l l' : Held} (h : isAfter ops i k = false) (e : keep ops i l = l') : keep ops i ((k, F) :: l) = (k, F) :: l' := by
  unfold keep at e ⊢
  rw [List.filter_cons, if_pos (by simp [h]), e]

theorem does_of {P : Program} {f : FuncId} {fn : Func} {c : Code} {args : List TV} {σ τ : TS} {v : TV} (wn : List Tmp) (rs : List ResultVar) (hf : P.funcs[f]? = some fn) (hn : (fn.name == "runtime.NumGoroutine") = false) (hb : fn.body = some c) (hr : fn.results.toList = rs)
    (h : ∀ X : TX → TL → TS → Prop, (∀ m s, (∀ C : TV → Prop, (∀ tv, EndsT σ τ v tv s → C tv) → Res (tresults (mkTab P) m s rs) C) → X .ret m s) →
      (∀ m s, (∀ C : TV → Prop, (∀ tv, EndsT σ τ v tv s → C tv) → Res (tresults (mkTab P) m s rs) C) → X .normal m s) → Tw P wn c X (tinit fn.ntmps args) σ) : TDoes P f args σ v τ :=
  TCalls.trim (calls_of wn rs hf hn hb hr h) fun tv s q => by
    obtain ⟨⟨ρ, rfl⟩, ht, h1, rfl⟩ := q
    exact ⟨τ, ρ, rfl, ht.len, ht.obj, h1, rfl, rfl⟩

/- heaps with things turned in them, and more behind -/
section
variable {α : Type} {σ l : List α} {k n a b c d : Nat} {x y z u : α}
theorem get_app0_1 : (σ.set a x ++ l)[σ.length]? = l[0]? := by rw [List.getElem?_append_right (by simp)]; simp
theorem get_app_1 : (σ.set a x ++ l)[σ.length + k]? = l[k]? := by rw [List.getElem?_append_right (by simp)]; simp
theorem set_app0_1 : (σ.set a x ++ l).set σ.length y = σ.set a x ++ l.set 0 y := by rw [List.set_append_right _ _ (by simp)]; simp
theorem set_app_1 : (σ.set a x ++ l).set (σ.length + k) y = σ.set a x ++ l.set k y := by rw [List.set_append_right _ _ (by simp)]; simp
theorem get_old_1 (h : n < σ.length) : (σ.set a x ++ l)[n]? = (σ.set a x)[n]? := List.getElem?_append_left (by simpa using h)
theorem set_old_1 (h : n < σ.length) : (σ.set a x ++ l).set n y = (σ.set a x).set n y ++ l := List.set_append_left _ _ (by simpa using h)
theorem get_app0_2 : ((σ.set a x).set b y ++ l)[σ.length]? = l[0]? := by rw [List.getElem?_append_right (by simp)]; simp
theorem get_app_2 : ((σ.set a x).set b y ++ l)[σ.length + k]? = l[k]? := by rw [List.getElem?_append_right (by simp)]; simp
theorem set_app0_2 : ((σ.set a x).set b y ++ l).set σ.length z = (σ.set a x).set b y ++ l.set 0 z := by rw [List.set_append_right _ _ (by simp)]; simp
theorem set_app_2 : ((σ.set a x).set b y ++ l).set (σ.length + k) z = (σ.set a x).set b y ++ l.set k z := by rw [List.set_append_right _ _ (by simp)]; simp
theorem get_old_2 (h : n < σ.length) : ((σ.set a x).set b y ++ l)[n]? = ((σ.set a x).set b y)[n]? := List.getElem?_append_left (by simpa using h)
theorem set_old_2 (h : n < σ.length) : ((σ.set a x).set b y ++ l).set n z = ((σ.set a x).set b y).set n z ++ l := List.set_append_left _ _ (by simpa using h)
theorem get_set (h : a < σ.length) : (σ.set a x)[a]? = some x := List.getElem?_set_self h
theorem get_set_ne (h : a ≠ n) : (σ.set a x)[n]? = σ[n]? := List.getElem?_set_ne h
theorem get_set2 (h : a < σ.length) : ((σ.set b y).set a x)[a]? = some x := List.getElem?_set_self (by simpa using h)
end
attribute [go_sem ↓] get_app0_1 get_app_1 set_app0_1 set_app_1 get_old_1 set_old_1 get_app0_2 get_app_2 set_app0_2 set_app_2 get_old_2 set_old_2 get_set get_set_ne get_set2
attribute [go_sem] List.set_set

theorem TPure.does {P : Program} {f : FuncId} {args : List TV} {σ : TS} {v : TV} (h : TPure P f args σ v) : TDoes P f args σ v σ := h

/-- The rounds of a loop that are to come, behind a structure. -/
structure Rd (P : Program) (wn : List Tmp) (c : Code) (Q : TX → TL → TS → Prop) (n : Nat) (m : TL) (σ : TS) : Prop where
  go : rounds (tw P wn c) Q n m σ
theorem T_open {P : Program} {wn : List Tmp} {c : Code} {Q : TX → TL → TS → Prop} {m : TL} {σ : TS} (n : Nat) (h : Tw P wn c (TX.then (fun m' σ' => Rd P wn c Q n m' σ') Q) m σ) : Tw P wn (.loop c) Q m σ :=
  T_unroll n (T_mono h fun x m s q => by
    cases x with
    | normal => exact Rd.go q
    | exit id => exact q
    | goto l => exact q
    | ret => exact q)
theorem T_next {P : Program} {wn : List Tmp} {c : Code} {Q : TX → TL → TS → Prop} {m : TL} {σ : TS} {n : Nat} (h : Tw P wn c (TX.then (fun m' σ' => Rd P wn c Q n m' σ') Q) m σ) : Rd P wn c Q (n + 1) m σ :=
  ⟨T_round (T_mono h fun x m s q => by
    cases x with
    | normal => exact Rd.go q
    | exit id => exact q
    | goto l => exact q
    | ret => exact q)⟩

/-- A choice whose side is known. -/
theorem O_pickV {P : Program} {wn : List Tmp} {m : TL} {dst : Option Tmp} {σ : TS} {K : Option TV → TS → Prop} {x y z : Operand} {a : TV} {t : Bool} (hx : ev m x = some (.bool t)) (hy : (bif t then ev m y else ev m z) = some a) (h : K (some a) σ) : WO P wn m dst (.pick x y z) σ K := by
  cases t with
  | true => exact O_pickT hx hy h
  | false => exact O_pickF hx hy h

/- what the walk's simp set holds beside -/
attribute [go_sem] if_pos if_neg wrap64_of splice Int.reduceToNat Int.reduceAdd Int.reduceSub Int.reduceMul Nat.reduceMul Nat.reduceAdd Nat.reduceSub TV.free TV.bare1 TV.bareL TV.bare TV.fits TV.fitsL List.map_cons List.map_nil TObj.fits
attribute [go_sem ↓] rowTV_bare1 rowTV_free

end Go.TM

/- The T-machine, part 26: what an append answers where there is a right to it, and on the nil slice. -/
set_option linter.unusedVariables false
set_option linter.unusedSimpArgs false
namespace Go.TM

theorem lt_of_get {α : Type} {σ : List α} {l : Nat} {x : α} (h : σ[l]? = some x) : l < σ.length := (List.getElem?_eq_some_iff.1 h).1
theorem set_same {α : Type} {l : List α} {k : Nat} {x : α} (h : l[k]? = some x) : l.set k x = l := by
  apply List.ext_getElem?
  intro m
  rw [List.getElem?_set]
  split
  · rename_i e
    subst e
    rw [if_pos (lt_of_get h), h]
  · rfl

section
variable {T : Tab} {st xt e : TypeId} {i j : TI} {z x : TV} {w : Bool} {σ : TS} {tk n k : Nat} {cs new : List TV}

theorem app_own (hT : T st = some i) (hk : i.k = .slice e) (hE : T e = some j) (hz : j.zero = some z) (hzl : z.cells.length = j.size) (hsrc : tsrc T σ j.size xt x = some (k, new)) (hone : new.all TV.one = true) (hlen : new.length = k * j.size)
    (hr : σ[tk]? = some (.right n j.size)) (hc : cs.length = n * j.size) (hb : (n + k) * j.bytes ≤ 140737488355328) (hb2 : n + k ≤ 9223372036854775807) :
    tappend T w σ st xt (.sl (some (tk, n)) n cs) x = some (.sl (some (tk, n + k)) (n + k) (cs ++ new), σ.set tk (.right (n + k) j.size)) := by
  unfold tappend
  simp only [hT, hk, hE, hz, hsrc]
  rw [if_pos ⟨hzl, hone, hlen⟩, if_pos hc]
  by_cases h0 : k = 0
  · subst h0
    rw [Nat.zero_mul] at hlen
    obtain rfl := List.eq_nil_of_length_eq_zero hlen
    rw [if_pos rfl, Nat.add_zero, List.append_nil, set_same hr]
  · rw [if_neg h0, if_pos ⟨hb, hb2⟩]
    simp only [hr, and_self, if_true]

/-- As app_own, of a row from whose front was taken. -/
theorem app_ownE {en : Nat} (hT : T st = some i) (hk : i.k = .slice e) (hE : T e = some j) (hz : j.zero = some z) (hzl : z.cells.length = j.size) (hsrc : tsrc T σ j.size xt x = some (k, new)) (hone : new.all TV.one = true) (hlen : new.length = k * j.size)
    (hr : σ[tk]? = some (.right en j.size)) (hc : cs.length = n * j.size) (hb : (n + k) * j.bytes ≤ 140737488355328) (hb2 : n + k ≤ 9223372036854775807) :
    tappend T w σ st xt (.sl (some (tk, en)) n cs) x = some (.sl (some (tk, en + k)) (n + k) (cs ++ new), σ.set tk (.right (en + k) j.size)) := by
  unfold tappend
  simp only [hT, hk, hE, hz, hsrc]
  rw [if_pos ⟨hzl, hone, hlen⟩, if_pos hc]
  by_cases h0 : k = 0
  · subst h0
    rw [Nat.zero_mul] at hlen
    obtain rfl := List.eq_nil_of_length_eq_zero hlen
    rw [if_pos rfl, Nat.add_zero, Nat.add_zero, List.append_nil, set_same hr]
  · rw [if_neg h0, if_pos ⟨hb, hb2⟩]
    simp only [hr, and_self, if_true]

theorem app_nil0 (hT : T st = some i) (hk : i.k = .slice e) (hE : T e = some j) (hz : j.zero = some z) (hzl : z.cells.length = j.size) (hsrc : tsrc T σ j.size xt x = some (0, new)) (hone : new.all TV.one = true) (hlen : new.length = 0 * j.size) :
    tappend T w σ st xt .nils x = some (.nils, σ) := by
  unfold tappend
  simp only [hT, hk, hE, hz, hsrc]
  rw [if_pos ⟨hzl, hone, hlen⟩]
  simp
theorem app_nil (hT : T st = some i) (hk : i.k = .slice e) (hE : T e = some j) (hz : j.zero = some z) (hzl : z.cells.length = j.size) (hsrc : tsrc T σ j.size xt x = some (k, new)) (hone : new.all TV.one = true) (hlen : new.length = k * j.size)
    (h0 : k ≠ 0) (hb : k * j.bytes ≤ 140737488355328) (hb2 : k ≤ 9223372036854775807) :
    tappend T true σ st xt .nils x = some (.sl (some (σ.length, k)) k new, σ ++ [.right k j.size]) := by
  unfold tappend
  simp only [hT, hk, hE, hz, hsrc]
  rw [if_pos ⟨hzl, hone, hlen⟩, if_neg h0, if_pos ⟨hb, hb2⟩]
  rfl

theorem src_sl {own : Option (Nat × Nat)} (hX : T xt = some i) (hk : i.k = .slice e) {sz : Nat} (hc : cs.length = n * sz) : tsrc T σ sz xt (.sl own n cs) = some (n, cs) := by
  unfold tsrc
  simp only [hX, hk, tslcells, tlen]
  rw [if_pos (by omega), List.take_of_length_le (by omega)]
theorem src_nils (hX : T xt = some i) (hk : i.k = .slice e) {sz : Nat} : tsrc T σ sz xt .nils = some (0, []) := by
  unfold tsrc
  simp only [hX, hk, tslcells, tlen]
  rw [if_pos (by simp)]
  simp
theorem src_row {α : Type} {f : α → List TV} {r : Row α} (hX : T xt = some i) (hk : i.k = .slice e) {sz : Nat} (hf : ∀ x, (f x).length = sz) : tsrc T σ sz xt (rowTV f r) = some (r.l.length, r.l.flatMap f) := by
  cases hn : r.nil with
  | true => rw [rowTV_nil hn, src_nils hX hk, r.ok hn]; rfl
  | false => rw [rowTV_some hn, src_sl hX hk (flat_length hf _)]
theorem src_str (hX : T xt = some i) (hk : i.k = .str) (s : ByteArray) : tsrc T σ 1 xt (.str s) = some (s.size, byteTVs s) := by
  unfold tsrc
  simp only [hX, hk, if_true]
end
theorem O_arrp {P : Program} {wn : List Tmp} {m : TL} {dst : Option Tmp} {σ : TS} {K : Option TV → TS → Prop} {t : TypeId} {x : Operand} {a : TV} (hx : ev m x = some a) (h : Res (tarrp (mkTab P) t a) fun v => K (some v) σ) : WO P wn m dst (.sliceToArrayPointer t x) σ K := by
  refine ⟨?_⟩
  simp only [tO, tOper, tOp, hx]
  exact res_v h.go
attribute [go_sem] tarrp
end Go.TM

/- The T-machine, part 27: drawing regions at whose end two operations that turn the heap may stand in either order: both orders are walked. -/
set_option linter.unusedVariables false
set_option linter.unusedSimpArgs false
namespace Go.TM

section
variable {P : Program} {wn : List Tmp} {ops : Array Oper} {Q : TL → TS → Prop}

/-- As twE; at the end what is held is told too. -/
def twK (P : Program) (wn : List Tmp) (ops : Array Oper) (K : Held → TL → TS → Prop) : List (Nat × Oper × Nat) → Held → TL → TS → Prop
  | [], pend, m, σ => K pend m σ
  | (i, o, 0) :: ord, pend, m, σ => kindOf o = 0 ∧ ∃ r, (∀ K : Option TV → TS → Prop, K r σ → tStep P wn ops m o σ K) ∧ twK P wn ops K ord pend (tput m o.dst r) σ
  | (i, o, 1) :: ord, pend, m, σ => ∃ r, (∀ K : Option TV → TS → Prop, K r σ → tStep P wn ops m o σ K) ∧ twK P wn ops K ord ((i, HeldOp P wn ops m o r) :: pend) (tput m o.dst r) σ
  | (i, o, _ + 2) :: ord, pend, m, σ => False

def okK (ops : Array Oper) (F : Array Bool → Bool) : Array Bool → List (Nat × Nat) → Bool
  | listed, [] => F listed
  | listed, (i, k) :: ord => ((Region.ready .any ops listed).contains i && Region.free .any ops listed i) && okK ops F (listed.setIfInBounds i true) ord

theorem twK_any {n : Nat} {F : Array Bool → Bool} {K : Held → TL → TS → Prop} (hK : ∀ (pend : Held) (listed : Array Bool) (m : TL) (σ : TS), F listed = true → (∀ p ∈ pend, p.2 σ) → K pend m σ → anyH P wn ops Q n pend listed m σ) :
    ∀ (ord : List (Nat × Nat)) (pend : Held) (listed : Array Bool) (m : TL) (σ : TS), okK ops F listed ord = true → (∀ p ∈ pend, p.2 σ) → ord.length = (triples ops ord).length → twK P wn ops K (triples ops ord) pend m σ →
    anyH P wn ops Q (n + ord.length) pend listed m σ
  | [], pend, listed, m, σ, ho, hp, _, h => hK pend listed m σ ho hp h
  | (i, k) :: ord, pend, listed, m, σ, ho, hp, hl, h => by
    simp only [okK, Bool.and_eq_true] at ho
    obtain ⟨h1, h2⟩ := ho
    cases hi : ops[i]? with
    | none => simp [triples, hi] at hl
    | some o =>
      simp only [triples, hi, List.length_cons, Nat.add_right_cancel_iff] at hl h
      simp only [List.contains_iff_mem] at h1
      match k, h with
      | 0, h =>
        simp only [twK] at h
        obtain ⟨hk, r, h3, h4⟩ := h
        refine anyH_take hi (fun _ => True) (n + ord.length) pend listed m σ (Region.free_spec hi h1.2) h1.1 (fun τ _ K hK => tStep_pure0 hk h3 τ K hK) ?_
        exact anyH_sub _ (fun p hp => by
          rcases List.mem_cons.1 hp with rfl | hp
          · exact .inr fun _ => trivial
          · exact .inl hp) (twK_any hK ord pend _ _ _ h2 hp hl h4)
      | 1, h =>
        simp only [twK] at h
        obtain ⟨r, h3, h4⟩ := h
        refine anyH_take hi (HeldOp P wn ops m o r) (n + ord.length) pend listed m σ (Region.free_spec hi h1.2) h1.1 (fun τ ht K hK => ht.go K hK) ?_
        exact twK_any hK ord _ _ _ _ h2 (fun p hp' => by
          rcases List.mem_cons.1 hp' with rfl | hp'
          · exact ⟨h3⟩
          · exact hp p hp') hl h4
      | k + 2, h => simp only [twK] at h

theorem step_any {i : Nat} {la : List (Nat × Nat)} {pend : Held} {listed : Array Bool} {m : TL} {σ : TS} (hl : la.length + 1 = (triples ops ((i, 2) :: la)).length) (ho : okE ops (listed.setIfInBounds i true) la = true) (h : twE P wn ops Q (triples ops ((i, 2) :: la)) pend m σ) :
    stepT P wn ops i (anyH P wn ops Q la.length (keep ops i pend) (listed.setIfInBounds i true)) m σ := by
  cases hi : ops[i]? with
  | none => simp [triples, hi] at hl
  | some o =>
    simp only [triples, hi, List.length_cons, Nat.add_right_cancel_iff] at hl h
    simp only [twE] at h
    unfold stepT
    simp only [hi]
    exact tStep_mono h fun r σ' q => twE_any la _ _ _ _ ho q.1 hl q.2

def forkF (ops : Array Oper) (i j : Nat) (la lb : List (Nat × Nat)) (listed : Array Bool) : Bool :=
  Region.ready .any ops listed == [i, j] && okE ops (listed.setIfInBounds i true) la && okE ops (listed.setIfInBounds j true) lb
def forkK (P : Program) (wn : List Tmp) (ops : Array Oper) (Q : TL → TS → Prop) (l1 l2 : List (Nat × Oper × Nat)) (pend : Held) (m : TL) (σ : TS) : Prop :=
  WE P wn ops Q l1 pend m σ ∧ WE P wn ops Q l2 pend m σ

theorem fork_any {i j : Nat} {la lb : List (Nat × Nat)} (he : la.length = lb.length) (hla : la.length + 1 = (triples ops ((i, 2) :: la)).length) (hlb : lb.length + 1 = (triples ops ((j, 2) :: lb)).length)
    (pend : Held) (listed : Array Bool) (m : TL) (σ : TS) (ho : forkF ops i j la lb listed = true) (hp : ∀ p ∈ pend, p.2 σ) (h : forkK P wn ops Q (triples ops ((i, 2) :: la)) (triples ops ((j, 2) :: lb)) pend m σ) :
    anyH P wn ops Q (la.length + 1) pend listed m σ := by
  simp only [forkF, Bool.and_eq_true] at ho
  obtain ⟨⟨h1, h2⟩, h3⟩ := ho
  have h1 : Region.ready .any ops listed = [i, j] := by simpa using h1
  refine ⟨hp, fun e => (by rw [h1] at e; cases e), fun k hk => ?_⟩
  rw [h1] at hk
  rcases List.mem_cons.1 hk with rfl | hk
  · exact step_any hla h2 h.1.go
  · obtain rfl : k = j := by simpa using hk
    rw [he]
    exact step_any hlb h3 h.2.go

structure WK (P : Program) (wn : List Tmp) (ops : Array Oper) (K : Held → TL → TS → Prop) (l : List (Nat × Oper × Nat)) (pend : Held) (m : TL) (σ : TS) : Prop where
  go : twK P wn ops K l pend m σ

theorem tw_fork {id : Nat} {X : TX → TL → TS → Prop} {m : TL} {σ : TS} (pre : List (Nat × Nat)) (i j : Nat) (la lb : List (Nat × Nat)) (hm : P.follows .mixedOrders = true) (hn : la.length + 1 + pre.length = ops.size) (he : la.length = lb.length) (hl : pre.length = (triples ops pre).length)
    (hla : la.length + 1 = (triples ops ((i, 2) :: la)).length) (hlb : lb.length + 1 = (triples ops ((j, 2) :: lb)).length) (ho : okK ops (forkF ops i j la lb) (Array.replicate ops.size false) pre = true)
    (h : twK P wn ops (forkK P wn ops (X .normal) (triples ops ((i, 2) :: la)) (triples ops ((j, 2) :: lb))) (triples ops pre) [] m σ) : tw P wn (.region id ops true) X m σ := by
  simp only [tw, if_true]
  left
  intro t
  simp only [Region.schedule, hm, Bool.true_or, if_true]
  unfold Region.linearise
  refine anyH_sound ops.size t [] _ m σ ?_
  rw [← hn] at ho ⊢
  exact twK_any (fork_any he hla hlb) pre [] _ m σ ho (by simp) hl h

theorem T_fork_seq {id : Nat} {y : Code} {X : TX → TL → TS → Prop} {m : TL} {σ : TS} (pre : List (Nat × Nat)) (i j : Nat) (la lb : List (Nat × Nat)) (hm : P.follows .mixedOrders = true) (hn : la.length + 1 + pre.length = ops.size) (he : la.length = lb.length) (hl : pre.length = (triples ops pre).length)
    (hla : la.length + 1 = (triples ops ((i, 2) :: la)).length) (hlb : lb.length + 1 = (triples ops ((j, 2) :: lb)).length) (ho : okK ops (forkF ops i j la lb) (Array.replicate ops.size false) pre = true)
    (h : ∀ K : TL → TS → Prop, (∀ m σ, Tw P wn y X m σ → K m σ) → WK P wn ops (forkK P wn ops K (triples ops ((i, 2) :: la)) (triples ops ((j, 2) :: lb))) (triples ops pre) [] m σ) : Tw P wn (.seq (.region id ops true) y) X m σ :=
  ⟨tw_seq_k fun K hK => tw_fork pre i j la lb hm hn he hl hla hlb ho (h K fun m σ q => hK m σ q.go).go⟩

variable {dst : Option Tmp} {op : Op} {ty : TypeId} {pos : String} {after : Array Edge} {rest l1 l2 : List (Nat × Oper × Nat)} {m m' : TL} {σ : TS} {i : Nat} {pend : Held} {r : Option TV} {K : Held → TL → TS → Prop}
theorem WK_fork (h1 : WE P wn ops Q l1 pend m σ) (h2 : WE P wn ops Q l2 pend m σ) : WK P wn ops (forkK P wn ops Q l1 l2) [] pend m σ := ⟨by rw [twK]; exact ⟨h1, h2⟩⟩
theorem WK_0 (hk : kindOf { dst := dst, op := op, type := ty, pos := pos, after := after, guard := none } = 0) (h : ∀ K : Option TV → TS → Prop, K r σ → WO P wn m dst op σ K) (e : tput m dst r = m') (h2 : WK P wn ops K rest pend m' σ) :
    WK P wn ops K ((i, { dst := dst, op := op, type := ty, pos := pos, after := after, guard := none }, 0) :: rest) pend m σ := by
  refine ⟨?_⟩
  rw [twK]
  exact ⟨hk, r, fun K hK => (h K hK).go, by rw [e]; exact h2.go⟩
theorem WK_1 (h : ∀ K : Option TV → TS → Prop, K r σ → WO P wn m dst op σ K) (e : tput m dst r = m')
    (h2 : ∀ F : TS → Prop, (∀ τ, HeldOp P wn ops m { dst := dst, op := op, type := ty, pos := pos, after := after, guard := none } r τ → F τ) → WK P wn ops K rest ((i, F) :: pend) m' σ) :
    WK P wn ops K ((i, { dst := dst, op := op, type := ty, pos := pos, after := after, guard := none }, 1) :: rest) pend m σ := by
  refine ⟨?_⟩
  rw [twK]
  exact ⟨r, fun K hK => (h K hK).go, by rw [e]; exact (h2 _ fun τ q => q).go⟩
end
end Go.TM

/- The T-machine, part 28: a law's row where the walk needs the form's own reach: how long a text in an argument may be. -/
set_option linter.unusedVariables false
namespace Go.TM
open Go.RowKit (Below shut_bool)
open Go.ChangeShapes

section
variable {P : Program} {H : Type} {enc : TypeId × Value → H}

/-- A text that is a struct's field, in a value that the form's reach bounds. -/
theorem field_reach {W : World} {t : TypeId} {v : Value} {x : DataW H} {ps : List MemPlace} {fs : Array Field} {i : Nat} {f : Field} {s : ByteArray}
    (h : DataW.Trod enc P W 0 (fun _ => true) true t v x ps) (hu : P.underlying t = some (.struct fs)) (hf : fs.toList[i]? = some f) (hs : P.underlying f.type = some .string) (hc : P.cellsOf f.type = 1)
    (hv : v.cells.toList[f.offset]? = some (.string s)) (hw : (x.weights P t).all (· ≤ reachBytes) = true) : s.size ≤ reachBytes := by
  obtain ⟨fuel, h⟩ := h
  cases fuel with
  | zero => simp [DataW.trod] at h
  | succ fuel =>
    simp only [DataW.trod, hu] at h
    split at h
    · cases hm : fs.toList.mapM (fun f => DataW.trod enc P W 0 (fun _ => true) true fuel f.type ((v.cells.toList.drop f.offset).take (P.cellsOf f.type))) with
      | none => simp [hm] at h
      | some xs =>
        simp only [hm, Option.map_some, Option.some.injEq, Prod.mk.injEq] at h
        obtain ⟨rfl, _⟩ := h
        obtain ⟨b, h1, h2⟩ := mapM_get hm hf
        have hlt : f.offset < v.cells.toList.length := (List.getElem?_eq_some_iff.1 hv).1
        have hd : (v.cells.toList.drop f.offset).take (P.cellsOf f.type) = [.string s] := by
          rw [hc, List.drop_eq_getElem_cons hlt, List.take_succ_cons, List.take_zero, (List.getElem?_eq_some_iff.1 hv).2]
        rw [hd] at h1
        cases fuel with
        | zero => simp [DataW.trod] at h1
        | succ fuel =>
          simp only [DataW.trod, hs] at h1
          split at h1
          · simp only [Option.some.injEq] at h1
            subst h1
            simp only [DataW.weights, hu] at hw
            have := List.all_eq_true.1 hw s.data.toList.length (DataW.weights_mem_each (t := f.type) (d := .lit (.string s.data.toList)) (j := i) (by rw [List.getElem?_map, hf]; rfl) (by rw [List.getElem?_map, h2]; rfl) _ (by simp [DataW.weights]))
            simpa using this
          · cases h1
    · cases h

/-- The texts in the fields of the arguments are as long as the form lets them be. -/
def Reached (P : Program) (ts : List TypeId) (tvs : List TV) : Prop :=
  ∀ (j : Nat) (t : TypeId) (tv : TV) (fs : Array Field) (i : Nat) (f : Field) (s : ByteArray), ts[j]? = some t → tvs[j]? = some tv → P.underlying t = some (.struct fs) → fs.toList[i]? = some f → P.underlying f.type = some .string → P.cellsOf f.type = 1 →
    tv.isAggV = true → tv.cells[f.offset]? = some (.str s) → s.size ≤ reachBytes

theorem trodAll_get {W : World} {sp : Nat → Bool} {b : Bool} {base : Nat} : ∀ {ts : List TypeId} {vs : List Value} {ds : List (DataW H)} {ps : List MemPlace}, DataW.TrodAll enc P W base sp b ts vs ds ps → ∀ {j : Nat} {t : TypeId} {v : Value}, ts[j]? = some t → vs[j]? = some v → ∃ x q, ds[j]? = some x ∧ DataW.Trod enc P W base sp b t v x q
  | [], [], [], _, _, j, t, v, e, _ => by simp at e
  | t0 :: ts, v0 :: vs, x0 :: ds, ps, h, j, t, v, e1, e2 => by
    obtain ⟨p, q, h1, h2, _⟩ := h
    cases j with
    | zero =>
      simp only [List.getElem?_cons_zero, Option.some.injEq] at e1 e2
      subst e1; subst e2
      exact ⟨x0, p, rfl, h1⟩
    | succ j => exact trodAll_get h2 (j := j) (by simpa using e1) (by simpa using e2)
  | [], _ :: _, _, _, h, _, _, _, _, _ => h.elim
  | [], [], _ :: _, _, h, _, _, _, _, _ => h.elim
  | _ :: _, [], _, _, h, _, _, _, _, _ => h.elim
  | _ :: _, _ :: _, [], _, h, _, _, _, _, _ => h.elim

theorem reached_of {W : World} {ts : List TypeId} {vs : List Value} {ds : List (DataW H)} {ps : List MemPlace} {tvs : List TV} (h : DataW.TrodAll enc P W 0 (fun _ => true) true ts vs ds ps) (hr : VRL (g0 W) [] tvs vs)
    (hw : (DataW.weightsEach P ts ds).all (· ≤ reachBytes) = true) : Reached P ts tvs := by
  intro j t tv fs i f s e1 e2 hu hf hs hc ha hx
  obtain ⟨v, e3, hv⟩ := hr.get e2
  obtain ⟨x, q, e4, h4⟩ := trodAll_get h e1 e3
  cases tv with
  | agg tcs =>
    simp only [VR] at hv
    obtain ⟨cs, rfl, hcs⟩ := hv
    obtain ⟨u, e5, h5⟩ := hcs.get hx
    simp only [VR] at h5
    subst h5
    refine field_reach h4 hu hf hs hc (by simpa [Value.cells] using e5) ?_
    exact List.all_eq_true.2 fun n hn => List.all_eq_true.1 hw n (DataW.weights_mem_each e1 e4 n hn)
  | _ => cases ha

/-- A law's contract as the row asks for it, the form's reach at hand. -/
theorem law_contract_sized {fn : Func} {s : ChangeSpec} {f : FuncId} {rt : TypeId} (d : Nat) (hlaid : laidOutB P = true) (hvars : s.vars = []) (hplv : s.plain.varTypes P = [])
    (hspec : ∀ ds : List (DataW H), ds.length = fn.params.toList.length → s.fn H ds = { results := [.lit (.bool true)], args := ds })
    (hplain : fn.params.toList.all (plainT (mkTab P) d) = true) (hread : (fn.params.toList.all fun t => P.readableRec t && decide (t < P.types.size)) = true)
    (hres : fn.resultTypes = #[rt]) (hrt : P.underlying rt = some .bool)
    (hcall : ∀ tvs, TyAll (mkTab P) d fn.params.toList tvs → Reached P fn.params.toList tvs → TCalls P f tvs [] fun tv _ => tv = .bool true)
    (W : World) (base : Nat) (args : Array Value) (ds gs : List (DataW H)) (before : List MemPlace)
    (hval : ∀ (j : Nat) t v, fn.params[j]? = some t → args[j]? = some v → Value.okWide P W .any base t v)
    (hW : DataW.Whole enc P fn.params.toList s.vars false W args.toList ds gs before)
    (hwt : (DataW.weightsEach P (fn.params.toList ++ s.plain.varTypes P) (ds ++ gs)).all (· ≤ reachBytes) = true) :
    Calls P f args W fun e W' => ∃ v, e = .returned v ∧ s.post enc P fn false true false false W args v W' := by
  have hW' := hW
  obtain ⟨p, q, hA, hV, rfl, hfz, hnd⟩ := hW
  have hV' := hV
  rw [hvars] at hV'
  obtain ⟨rfl, rfl⟩ := trodVars_none hV'
  rw [hplv, List.append_nil, List.append_nil] at hwt
  obtain ⟨tvs, hvr, hty⟩ := open_all hplain (fun j t v e1 e2 => hval j t v (by rw [← Array.getElem?_toList]; exact e1) (by rw [← Array.getElem?_toList]; exact e2)) hA
  refine ((hcall tvs hty (reached_of hA hvr hwt)).2 (g0 W) W args (g0_WR W) hvr).mono fun e W' hq => ?_
  obtain ⟨v, tv, σ', g', rfl, hx, hw, hv, rfl⟩ := hq
  simp only [VR] at hv; subst hv
  have hbel : Below W.heap.size W W' := by have := hw.below; rw [hx.w0] at this; exact this
  obtain ⟨qs, hargs⟩ := shut_all (enc := enc) hlaid hbel hread hA
  have hsp : s.fn H (ds ++ []) = { results := [.lit (.bool true)], args := ds } := by
    rw [List.append_nil]
    exact hspec ds (trodAll_lengths hA)
  refine ⟨_, rfl, ds, [], _, [], qs, [], hW', ?_, ?_, ?_, hbel.frame _, fun h => by cases h⟩
  · rw [hsp, hres]
    exact trodAll_mk1 (shut_bool hrt true)
  · rw [hsp]; exact hargs
  · rw [hsp, hvars]; rfl
end
end Go.TM

/- The T-machine, part 31: slices that are written out whole. -/
set_option linter.unusedVariables false
set_option linter.unusedSimpArgs false
namespace Go.TM

/-- Things with their places. -/
def numbered : Nat → List TV → List (Nat × TV)
  | _, [] => []
  | k, v :: vs => (k, v) :: numbered (k + 1) vs

theorem fill_all {sz n : Nat} : ∀ (vs : List TV) (k : Nat) (cs rest : List TV), cs.length = k * sz → rest.length = vs.length * sz → (∀ v ∈ vs, v.cells.length = sz) →
    tfill (fun i => some (i * sz, sz)) (cs ++ rest) (numbered k vs) = some (cs ++ vs.flatMap TV.cells)
  | [], k, cs, rest, hc, hr, hv => by
    have : rest = [] := List.eq_nil_of_length_eq_zero (by simpa using hr)
    subst this
    simp [numbered, tfill]
  | v :: vs, k, cs, rest, hc, hr, hv => by
    have h1 := hv v (by simp)
    simp only [List.length_cons, Nat.add_mul, Nat.one_mul] at hr
    simp only [numbered, tfill]
    rw [if_pos ⟨h1, by rw [List.length_append, hc, hr]; omega⟩]
    have hs : splice (cs ++ rest) (k * sz) v.cells = (cs ++ v.cells) ++ rest.drop sz := by
      unfold splice
      rw [← hc, List.take_left' rfl, List.drop_append, List.drop_eq_nil_of_le (by omega)]
      simp [h1]
    rw [hs, fill_all (n := n) vs (k + 1) (cs ++ v.cells) (rest.drop sz) (by rw [List.length_append, hc, h1, Nat.add_mul, Nat.one_mul]) (by rw [List.length_drop]; omega) fun w hw => hv w (by simp [hw])]
    simp

/-- A slice that is written out whole. -/
theorem build_all {T : Tab} {σ : TS} {t e : TypeId} {i j : TI} {z : TV} (hT : T t = some i) (hk : i.k = .slice e) (hE : T e = some j) (hz : j.zero = some z) (hzl : z.cells.length = j.size) (hz0 : 0 < j.size) (vs : List TV)
    (hv : ∀ v ∈ vs, v.cells.length = j.size ∧ v.cells.all TV.one = true) (hb : vs.length * j.size ≤ 16777216) (want : Bool) :
    tbuildSlice T want σ t vs.length (numbered 0 vs) = some (tright want σ vs.length j.size (vs.flatMap TV.cells)) := by
  unfold tbuildSlice
  simp only [hT, hk, hE, hz]
  have hne : z.cells ≠ [] := fun e => by rw [e] at hzl; simp at hzl; omega
  rw [if_pos ⟨hb, hne⟩]
  have h := fill_all (sz := j.size) (n := 0) vs 0 [] (rowZero z.cells (vs.length * j.size)) (by simp) (by simp [rowZero]) fun v h => (hv v h).1
  rw [List.nil_append, List.nil_append] at h
  rw [h]
  have hone : (vs.flatMap TV.cells).all TV.one = true := by
    rw [List.all_eq_true]
    intro x hx
    obtain ⟨v, h1, h2⟩ := List.mem_flatMap.1 hx
    exact List.all_eq_true.1 (hv v h1).2 x h2
  simp only [hone, if_true]

end Go.TM

/- The T-machine, part 29: drawing regions of which several operations turn the heap, in whatever order: a tree of orders is walked. -/
set_option linter.unusedVariables false
set_option linter.unusedSimpArgs false
namespace Go.TM

/-- A fact that a walk does not see. -/
structure Hid (p : Prop) : Prop where
  go : p
/-- What is done next: an operation that leaves the heap; or each one of those that are ready. -/
inductive Plan where
  | done
  | stop
  | take (i k : Nat) (p : Plan)
  | alt (i : Nat) (p more : Plan)
def Plan.alts : Plan → List Nat
  | .alt i _ more => i :: more.alts
  | _ => []

section
variable {P : Program} {wn : List Tmp} {ops : Array Oper} {Q : TL → TS → Prop}

def twF (P : Program) (wn : List Tmp) (ops : Array Oper) (Q : TL → TS → Prop) : Plan → Held → TL → TS → Prop
  | .done, pend, m, σ => Q m σ
  | .stop, pend, m, σ => True
  | .take i 0 p, pend, m, σ => ∃ o, ops[i]? = some o ∧ kindOf o = 0 ∧ ∃ r, (∀ K : Option TV → TS → Prop, K r σ → tStep P wn ops m o σ K) ∧ twF P wn ops Q p pend (tput m o.dst r) σ
  | .take i (_ + 1) p, pend, m, σ => ∃ o, ops[i]? = some o ∧ ∃ r, (∀ K : Option TV → TS → Prop, K r σ → tStep P wn ops m o σ K) ∧ twF P wn ops Q p ((i, HeldOp P wn ops m o r) :: pend) (tput m o.dst r) σ
  | .alt i p more, pend, m, σ => (∃ o, ops[i]? = some o ∧ tStep P wn ops m o σ fun r σ' => (∀ q ∈ keep ops i pend, q.2 σ') ∧ twF P wn ops Q p (keep ops i pend) (tput m o.dst r) σ') ∧ twF P wn ops Q more pend m σ

def okF (ops : Array Oper) : Bool → Array Bool → Nat → Plan → Bool
  | true, listed, 0, .done => (Region.ready .any ops listed).isEmpty
  | true, listed, n + 1, .take i k p => (Region.ready .any ops listed).contains i && Region.free .any ops listed i && okF ops true (listed.setIfInBounds i true) n p
  | true, listed, n + 1, .alt i p more => Region.ready .any ops listed == i :: more.alts && (okF ops true (listed.setIfInBounds i true) n p && okF ops false listed (n + 1) more)
  | false, listed, n + 1, .alt i p more => okF ops true (listed.setIfInBounds i true) n p && okF ops false listed (n + 1) more
  | false, _, _, .stop => true
  | _, _, _, _ => false

theorem twF_any : ∀ (plan : Plan) (n : Nat) (pend : Held) (listed : Array Bool) (m : TL) (σ : TS), (∀ p ∈ pend, p.2 σ) → twF P wn ops Q plan pend m σ →
    (okF ops true listed n plan = true → anyH P wn ops Q n pend listed m σ) ∧
    (okF ops false listed n plan = true → ∀ j ∈ plan.alts, ∃ k, n = k + 1 ∧ stepT P wn ops j (anyH P wn ops Q k (keep ops j pend) (listed.setIfInBounds j true)) m σ)
  | .done, n, pend, listed, m, σ, hp, h => ⟨fun ho => (by
      cases n with
      | zero => exact ⟨hp, by simpa [okF] using ho, by simpa only [twF] using h⟩
      | succ n => simp [okF] at ho), fun ho j hj => by cases hj⟩
  | .stop, n, pend, listed, m, σ, hp, h => ⟨fun ho => (by cases n <;> simp [okF] at ho), fun ho j hj => by cases hj⟩
  | .take i k p, n, pend, listed, m, σ, hp, h => ⟨fun ho => (by
      cases n with
      | zero => simp [okF] at ho
      | succ n =>
        simp only [okF, Bool.and_eq_true, List.contains_iff_mem] at ho
        obtain ⟨⟨h1, h2⟩, h3⟩ := ho
        cases k with
        | zero =>
          simp only [twF] at h
          obtain ⟨o, hi, hk, r, h4, h5⟩ := h
          refine anyH_take hi (fun _ => True) n pend listed m σ (Region.free_spec hi h2) h1 (fun τ _ K hK => tStep_pure0 hk h4 τ K hK) ?_
          exact anyH_sub _ (fun p hp => by
            rcases List.mem_cons.1 hp with rfl | hp
            · exact .inr fun _ => trivial
            · exact .inl hp) ((twF_any p n pend _ _ σ hp h5).1 h3)
        | succ k =>
          simp only [twF] at h
          obtain ⟨o, hi, r, h4, h5⟩ := h
          refine anyH_take hi (HeldOp P wn ops m o r) n pend listed m σ (Region.free_spec hi h2) h1 (fun τ ht K hK => ht.go K hK) ?_
          exact (twF_any p n _ _ _ σ (fun q hq => by
            rcases List.mem_cons.1 hq with rfl | hq
            · exact ⟨h4⟩
            · exact hp q hq) h5).1 h3), fun ho j hj => by cases hj⟩
  | .alt i p more, n, pend, listed, m, σ, hp, h => by
    simp only [twF] at h
    obtain ⟨⟨o, hi, h4⟩, h5⟩ := h
    have hstep : ∀ k, okF ops true (listed.setIfInBounds i true) k p = true → stepT P wn ops i (anyH P wn ops Q k (keep ops i pend) (listed.setIfInBounds i true)) m σ := fun k ho => by
      unfold stepT
      simp only [hi]
      exact tStep_mono h4 fun r σ' q => (twF_any p k _ _ _ σ' q.1 q.2).1 ho
    refine ⟨fun ho => ?_, fun ho j hj => ?_⟩
    · cases n with
      | zero => simp [okF] at ho
      | succ n =>
        simp only [okF, Bool.and_eq_true] at ho
        obtain ⟨h1, h2, h3⟩ := ho
        have h1 : Region.ready .any ops listed = i :: more.alts := by simpa using h1
        refine ⟨hp, fun e => (by rw [h1] at e; cases e), fun j hj => ?_⟩
        rw [h1] at hj
        rcases List.mem_cons.1 hj with rfl | hj
        · exact hstep n h2
        · obtain ⟨k, e, q⟩ := (twF_any more (n + 1) pend listed m σ hp h5).2 h3 j hj
          obtain rfl : n = k := by omega
          exact q
    · cases n with
      | zero => simp [okF] at ho
      | succ n =>
        simp only [okF, Bool.and_eq_true] at ho
        rcases List.mem_cons.1 hj with rfl | hj
        · exact ⟨n, rfl, hstep n ho.1⟩
        · exact (twF_any more (n + 1) pend listed m σ hp h5).2 ho.2 j hj

theorem tw_plan {id : Nat} {X : TX → TL → TS → Prop} {m : TL} {σ : TS} (plan : Plan) (hm : P.follows .mixedOrders = true) (ho : okF ops true (Array.replicate ops.size false) ops.size plan = true)
    (h : twF P wn ops (X .normal) plan [] m σ) : tw P wn (.region id ops true) X m σ := by
  simp only [tw, if_true]
  left
  intro t
  simp only [Region.schedule, hm, Bool.true_or, if_true]
  unfold Region.linearise
  exact anyH_sound ops.size t [] _ m σ ((twF_any plan ops.size [] _ m σ (by simp) h).1 ho)

structure WF (P : Program) (wn : List Tmp) (ops : Array Oper) (Q : TL → TS → Prop) (plan : Plan) (pend : Held) (m : TL) (σ : TS) : Prop where
  go : twF P wn ops Q plan pend m σ
/-- The orders in which a drawing region is walked. -/
structure Eplan (id : Nat) (p : Plan) : Prop where
  go : True
theorem T_plan_seq {id : Nat} {y : Code} {X : TX → TL → TS → Prop} {m : TL} {σ : TS} {plan : Plan} (e : Eplan id plan) (hm : P.follows .mixedOrders = true) (ho : okF ops true (Array.replicate ops.size false) ops.size plan = true)
    (h : ∀ K : TL → TS → Prop, (∀ m σ, Tw P wn y X m σ → K m σ) → WF P wn ops K plan [] m σ) : Tw P wn (.seq (.region id ops true) y) X m σ :=
  ⟨tw_seq_k fun K hK => tw_plan plan hm ho (h K fun m σ q => hK m σ q.go).go⟩
/-- A region at which a walk stops. -/
structure Stop (id : Nat) : Prop where
  go : True
theorem T_stopW {id : Nat} {d : Bool} {y : Code} {X : TX → TL → TS → Prop} {m : TL} {σ : TS} (e : Stop id) (h : False) : Tw P wn (.seq (.region id ops d) y) X m σ := h.elim
variable {dst : Option Tmp} {op : Op} {ty : TypeId} {pos : String} {after : Array Edge} {m m' : TL} {σ : TS} {i : Nat} {pend : Held} {r : Option TV} {p more : Plan}
theorem WF_done (h : Q m σ) : WF P wn ops Q .done pend m σ := ⟨by simpa only [twF] using h⟩
theorem WF_stop : WF P wn ops Q .stop pend m σ := ⟨by simp only [twF]⟩
theorem WF_0 (hi : ops[i]? = some { dst := dst, op := op, type := ty, pos := pos, after := after, guard := none }) (hk : kindOf { dst := dst, op := op, type := ty, pos := pos, after := after, guard := none } = 0)
    (h : ∀ K : Option TV → TS → Prop, K r σ → WO P wn m dst op σ K) (e : tput m dst r = m') (h2 : WF P wn ops Q p pend m' σ) : WF P wn ops Q (.take i 0 p) pend m σ :=
  ⟨by rw [twF]; exact ⟨_, hi, hk, r, fun K hK => (h K hK).go, by rw [e]; exact h2.go⟩⟩
theorem WF_1 (hi : ops[i]? = some { dst := dst, op := op, type := ty, pos := pos, after := after, guard := none })
    (h : ∀ K : Option TV → TS → Prop, K r σ → WO P wn m dst op σ K) (e : tput m dst r = m')
    (h2 : ∀ F : TS → Prop, (∀ τ, HeldOp P wn ops m { dst := dst, op := op, type := ty, pos := pos, after := after, guard := none } r τ → F τ) → WF P wn ops Q p ((i, F) :: pend) m' σ) : WF P wn ops Q (.take i 1 p) pend m σ :=
  ⟨by rw [twF]; exact ⟨_, hi, r, fun K hK => (h K hK).go, by rw [e]; exact (h2 _ fun τ q => q).go⟩⟩
theorem WF_alt (hi : ops[i]? = some { dst := dst, op := op, type := ty, pos := pos, after := after, guard := none })
    (h : ∀ K : Option TV → TS → Prop, (∀ r σ' m' pend', keep ops i pend = pend' → tput m dst r = m' → HeldAt pend' σ' → WF P wn ops Q p pend' m' σ' → K r σ') → WO P wn m dst op σ K)
    (h2 : WF P wn ops Q more pend m σ) : WF P wn ops Q (.alt i p more) pend m σ :=
  ⟨by
    rw [twF]
    refine ⟨⟨_, hi, ?_⟩, h2.go⟩
    exact (h (fun r σ' => (∀ q ∈ keep ops i pend, q.2 σ') ∧ twF P wn ops Q p (keep ops i pend) (tput m dst r) σ') fun r σ' m' pend' e1 e2 e3 e4 => ⟨by rw [e1]; exact e3.go, by rw [e1, e2]; exact e4.go⟩).go⟩
end
end Go.TM

/- The walk, as one lemma: what it leaves open comes back as a list of propositions, each with what was learnt on the way to it. Its tactics stand as the default of a hypothesis: they run where the lemma is used. -/
set_option linter.unusedVariables false
set_option linter.unusedSimpArgs false
namespace Go.TM

/-- All of some propositions. -/
inductive Lv : List Prop → Prop where
  | nil : Lv []
  | cons {a : Prop} {l : List Prop} : a → Lv l → Lv (a :: l)
inductive Lm : Prop → List Prop → Prop where
  | here {a : Prop} {l : List Prop} : Lm a (a :: l)
  | there {a b : Prop} {l : List Prop} : Lm a l → Lm a (b :: l)
structure Dum : Prop where
  go : False
theorem lmDum {a : Prop} {l : List Prop} (h : False) : Lm a (Dum :: l) := h.elim
inductive Lf : List Prop → Prop where
  | nil : Lf []
  | cons {a : Prop} {l : List Prop} : Lf l → Lf (a :: l)
theorem Lv.get {l : List Prop} (h : Lv l) {a : Prop} (m : Lm a l) : a := by
  induction m with
  | here => cases h with | cons h _ => exact h
  | there _ ih => cases h with | cons _ h => exact ih h

/-- The order in which a drawing region is walked. -/
structure Eord (id : Nat) (l : List (Nat × Nat)) : Prop where
  go : True
theorem T_effs_seq {P : Program} {wn : List Tmp} {ops : Array Oper} {m : TL} {σ : TS} {id : Nat} {y : Code} {X : TX → TL → TS → Prop} {ord : List (Nat × Nat)} (e : Eord id ord) (hm : P.follows .mixedOrders = true) (hn : ord.length = ops.size) (hl : ord.length = (triples ops ord).length) (ho : okE ops (Array.replicate ops.size false) ord = true)
    (h : ∀ K : TL → TS → Prop, (∀ m σ, Tw P wn y X m σ → K m σ) → WE P wn ops K (triples ops ord) [] m σ) : Tw P wn (.seq (.region id ops true) y) X m σ := T_eff_seq ord hm hn hl ho h
theorem T_effs_end {P : Program} {wn : List Tmp} {ops : Array Oper} {m : TL} {σ : TS} {id : Nat} {X : TX → TL → TS → Prop} {ord : List (Nat × Nat)} (e : Eord id ord) (hm : P.follows .mixedOrders = true) (hn : ord.length = ops.size) (hl : ord.length = (triples ops ord).length) (ho : okE ops (Array.replicate ops.size false) ord = true)
    (h : ∀ K : TL → TS → Prop, (∀ m σ, X .normal m σ → K m σ) → WE P wn ops K (triples ops ord) [] m σ) : Tw P wn (.region id ops true) X m σ := T_eff_end ord hm hn hl ho h
theorem zdum : (!true) = false := rfl
theorem ends_id {σ s : TS} {v tv : TV} (h : Ends σ v tv s) : Ends σ v tv s := h
theorem endsT_id {σ τ s : TS} {v tv : TV} (h : EndsT σ τ v tv s) : EndsT σ τ v tv s := h
theorem sideW {G : Prop} (h : G := by first | assumption | omega | exact Eq.trans (get_old (by assumption)) (by assumption) | (focus ((simp only [List.length_append, List.length_cons, List.length_nil, List.length_replicate, List.length_take, List.length_drop, FL]); omega)) | (focus (simp (disch := first | omega | ((simp only [List.length_append, List.length_cons, List.length_nil, List.length_replicate, List.length_take, List.length_drop, FL]); omega)) only [go_sem, ↓FD, FK]; (try rfl); done))) : G := h
theorem knownP {P : Program} {f : FuncId} {args : List TV} {σ : TS} {v : TV} (h : TPure P f args σ v := by (first | ((with_reducible apply cA) <;> exact sideW) | ((with_reducible apply cB) <;> exact sideW) | ((with_reducible apply cC) <;> exact sideW) | ((with_reducible apply cD) <;> exact sideW) | ((with_reducible apply cE) <;> exact sideW) | ((with_reducible apply cF) <;> exact sideW) | ((with_reducible apply cG) <;> exact sideW) | ((with_reducible apply cH) <;> exact sideW) | ((with_reducible apply cI) <;> exact sideW) | ((with_reducible apply cJ) <;> exact sideW) | ((with_reducible apply cK) <;> exact sideW) | ((with_reducible apply cL) <;> exact sideW) | ((with_reducible apply cM) <;> exact sideW) | ((with_reducible apply cN) <;> exact sideW) | ((with_reducible apply cO) <;> exact sideW) | ((with_reducible apply cP) <;> exact sideW) | ((with_reducible apply cQ) <;> exact sideW) | ((with_reducible apply cR) <;> exact sideW) | ((with_reducible apply cS) <;> exact sideW) | ((with_reducible apply cT) <;> exact sideW) | ((apply cA) <;> exact sideW) | ((apply cB) <;> exact sideW) | ((apply cC) <;> exact sideW) | ((apply cD) <;> exact sideW) | ((apply cE) <;> exact sideW) | ((apply cF) <;> exact sideW) | ((apply cG) <;> exact sideW) | ((apply cH) <;> exact sideW) | ((apply cI) <;> exact sideW) | ((apply cJ) <;> exact sideW) | ((apply cK) <;> exact sideW) | ((apply cL) <;> exact sideW) | ((apply cM) <;> exact sideW) | ((apply cN) <;> exact sideW) | ((apply cO) <;> exact sideW) | ((apply cP) <;> exact sideW) | ((apply cQ) <;> exact sideW) | ((apply cR) <;> exact sideW) | ((apply cS) <;> exact sideW) | ((apply cT) <;> exact sideW))) : TPure P f args σ v := h
theorem knownD {P : Program} {f : FuncId} {args : List TV} {σ τ : TS} {v : TV} (h : TDoes P f args σ v τ := by (first | ((with_reducible apply dA) <;> exact sideW) | ((with_reducible apply dB) <;> exact sideW) | ((with_reducible apply dC) <;> exact sideW) | ((with_reducible apply dD) <;> exact sideW) | ((with_reducible apply dE) <;> exact sideW) | ((with_reducible apply dF) <;> exact sideW) | ((with_reducible apply dG) <;> exact sideW) | ((with_reducible apply dH) <;> exact sideW) | ((with_reducible apply dI) <;> exact sideW) | ((with_reducible apply dJ) <;> exact sideW) | ((with_reducible apply dK) <;> exact sideW) | ((with_reducible apply dL) <;> exact sideW) | ((with_reducible apply dM) <;> exact sideW) | ((with_reducible apply dN) <;> exact sideW) | ((with_reducible apply dO) <;> exact sideW) | ((with_reducible apply dP) <;> exact sideW) | ((with_reducible apply dQ) <;> exact sideW) | ((with_reducible apply dR) <;> exact sideW) | ((with_reducible apply dS) <;> exact sideW) | ((with_reducible apply dT) <;> exact sideW) | ((apply dA) <;> exact sideW) | ((apply dB) <;> exact sideW) | ((apply dC) <;> exact sideW) | ((apply dD) <;> exact sideW) | ((apply dE) <;> exact sideW) | ((apply dF) <;> exact sideW) | ((apply dG) <;> exact sideW) | ((apply dH) <;> exact sideW) | ((apply dI) <;> exact sideW) | ((apply dJ) <;> exact sideW) | ((apply dK) <;> exact sideW) | ((apply dL) <;> exact sideW) | ((apply dM) <;> exact sideW) | ((apply dN) <;> exact sideW) | ((apply dO) <;> exact sideW) | ((apply dP) <;> exact sideW) | ((apply dQ) <;> exact sideW) | ((apply dR) <;> exact sideW) | ((apply dS) <;> exact sideW) | ((apply dT) <;> exact sideW))) : TDoes P f args σ v τ := h

theorem walk {G : Prop} {L : List Prop} (r : Lv L) (h : (Lv L → G) ∧ Lf L := by
  apply And.intro
  focus
    intro rW
    repeat' (first
      | ((with_reducible refine WL_do fun CwW cwW => ?_); (first
        | ((with_reducible first | apply O_move | apply O_assign | apply O_pickV | apply O_extract | apply O_nilCheck | apply O_makeFunc); (repeat rfl))
        | ((with_reducible first | apply O_bin | apply O_load | apply O_fieldAddr | apply O_indexAddr | apply O_len | apply O_store | apply O_un | apply O_field | apply O_index | apply O_alloc | apply O_box | apply O_build | apply O_lookup | apply O_mapUpdate | apply O_mapEntry | apply O_entryStore | apply O_typeAssert | apply O_arrp | apply O_delete | apply O_min | apply O_max | apply O_range | apply O_entry | apply O_copy); (repeat rfl); simp (disch := first | omega | ((simp only [List.length_append, List.length_cons, List.length_nil, List.length_replicate, List.length_take, List.length_drop, FL]); omega)) only [go_sem, ↓FD, FK])
        | ((first | ((have := rowsW); (with_reducible apply O_appendR)) | (with_reducible first | apply O_buildSlice | apply O_convert | apply O_append)); (repeat rfl); (try simp only [zc, zo, Nat.reduceBEq]); simp (disch := first | omega | ((simp only [List.length_append, List.length_cons, List.length_nil, List.length_replicate, List.length_take, List.length_drop, FL]); omega)) only [go_sem, ↓FD, FK])
        | ((with_reducible apply O_makeInterface); (focus rfl); (focus ((simp only [go_sem]); exact rfl)); (focus rfl))
        | ((with_reducible apply O_makeMap); (try simp (disch := first | omega | ((simp only [List.length_append, List.length_cons, List.length_nil, List.length_replicate, List.length_take, List.length_drop, FL]); omega)) only [go_sem, ↓FD, FK]))
        | ((with_reducible apply O_sliceR); (focus rfl); intro Cs cs; (try simp (disch := omega) only [evB, ev, constV, const1, Int.reduceLE, Int.natCast_nonneg, Int.toNat_natCast, Int.reduceToNat, if_true, if_pos, List.getElem?_cons_zero, List.getElem?_cons_succ, Option.bind_some, Option.bind_none]); simp (disch := first | omega | ((simp only [List.length_append, List.length_cons, List.length_nil, List.length_replicate, List.length_take, List.length_drop, FL]); omega)) only [go_sem, ↓FD, FK]; (with_reducible apply cs); clear cs Cs)
        | ((with_reducible first | apply O_callF | apply O_call); (repeat rfl); (try simp only [za]); (first | (refine TPure.go (by exact knownP) ?_) | (refine TDoes.go (by exact knownD) ?_; (try simp (disch := first | omega | ((simp only [List.length_append, List.length_cons, List.length_nil, List.length_replicate, List.length_take, List.length_drop, FL]); omega)) only [go_sem, ↓FD, FK]))))); (with_reducible apply cwW); (focus ((try simp only [zp]); exact rfl)); clear cwW CwW)
      | ((with_reducible apply WP_do); intro CwW cwW; (focus (first
        | ((with_reducible first | apply O_move | apply O_assign | apply O_pickV | apply O_extract | apply O_nilCheck | apply O_makeFunc); (repeat rfl))
        | ((with_reducible first | apply O_bin | apply O_load | apply O_fieldAddr | apply O_indexAddr | apply O_len | apply O_store | apply O_un | apply O_field | apply O_index | apply O_alloc | apply O_box | apply O_build | apply O_lookup | apply O_mapUpdate | apply O_mapEntry | apply O_entryStore | apply O_typeAssert | apply O_arrp | apply O_delete | apply O_min | apply O_max | apply O_range | apply O_entry | apply O_copy); (repeat rfl); simp (disch := first | omega | ((simp only [List.length_append, List.length_cons, List.length_nil, List.length_replicate, List.length_take, List.length_drop, FL]); omega)) only [go_sem, ↓FD, FK])
        | ((first | ((have := rowsW); (with_reducible apply O_appendR)) | (with_reducible first | apply O_buildSlice | apply O_convert | apply O_append)); (repeat rfl); (try simp only [zc, zo, Nat.reduceBEq]); simp (disch := first | omega | ((simp only [List.length_append, List.length_cons, List.length_nil, List.length_replicate, List.length_take, List.length_drop, FL]); omega)) only [go_sem, ↓FD, FK])
        | ((with_reducible apply O_makeInterface); (focus rfl); (focus ((simp only [go_sem]); exact rfl)); (focus rfl))
        | ((with_reducible apply O_makeMap); (try simp (disch := first | omega | ((simp only [List.length_append, List.length_cons, List.length_nil, List.length_replicate, List.length_take, List.length_drop, FL]); omega)) only [go_sem, ↓FD, FK]))
        | ((with_reducible apply O_sliceR); (focus rfl); intro Cs cs; (try simp (disch := omega) only [evB, ev, constV, const1, Int.reduceLE, Int.natCast_nonneg, Int.toNat_natCast, Int.reduceToNat, if_true, if_pos, List.getElem?_cons_zero, List.getElem?_cons_succ, Option.bind_some, Option.bind_none]); simp (disch := first | omega | ((simp only [List.length_append, List.length_cons, List.length_nil, List.length_replicate, List.length_take, List.length_drop, FL]); omega)) only [go_sem, ↓FD, FK]; (with_reducible apply cs); clear cs Cs)
        | ((with_reducible first | apply O_callF | apply O_call); (repeat rfl); (try simp only [za]); (first | (refine TPure.go (by exact knownP) ?_) | (refine TDoes.go (by exact knownD) ?_; (try simp (disch := first | omega | ((simp only [List.length_append, List.length_cons, List.length_nil, List.length_replicate, List.length_take, List.length_drop, FL]); omega)) only [go_sem, ↓FD, FK]))))); (with_reducible exact cwW)); (try ((with_reducible apply eq_id); (focus ((try simp only [zp]); exact rfl)); (try intro FhW hFhW))))
      | ((first | ((with_reducible first | apply WL_if | apply WP_if); (focus rfl)) | ((with_reducible first | apply WL_un | apply WP_un); (focus rfl))); (focus ((try simp only [zp]); exact rfl)))
      | ((with_reducible first | refine WL_nil (hKW _ _ ?_) | refine WP_nil (hKW _ _ ?_) | refine WE_nil (hKW _ _ ?_)); clear hKW KW)
      | ((with_reducible first | refine T_effs_seq eA ?_ ?_ ?_ ?_ (fun KW hKW => ?_) | refine T_effs_end eA ?_ ?_ ?_ ?_ (fun KW hKW => ?_) | refine T_effs_seq eB ?_ ?_ ?_ ?_ (fun KW hKW => ?_) | refine T_effs_end eB ?_ ?_ ?_ ?_ (fun KW hKW => ?_) | refine T_effs_seq eC ?_ ?_ ?_ ?_ (fun KW hKW => ?_) | refine T_effs_end eC ?_ ?_ ?_ ?_ (fun KW hKW => ?_) | refine T_effs_seq eD ?_ ?_ ?_ ?_ (fun KW hKW => ?_) | refine T_effs_end eD ?_ ?_ ?_ ?_ (fun KW hKW => ?_) | refine T_effs_seq eE ?_ ?_ ?_ ?_ (fun KW hKW => ?_) | refine T_effs_end eE ?_ ?_ ?_ ?_ (fun KW hKW => ?_) | refine T_effs_seq eF ?_ ?_ ?_ ?_ (fun KW hKW => ?_) | refine T_effs_end eF ?_ ?_ ?_ ?_ (fun KW hKW => ?_) | refine T_effs_seq eG ?_ ?_ ?_ ?_ (fun KW hKW => ?_) | refine T_effs_end eG ?_ ?_ ?_ ?_ (fun KW hKW => ?_) | refine T_effs_seq eH ?_ ?_ ?_ ?_ (fun KW hKW => ?_) | refine T_effs_end eH ?_ ?_ ?_ ?_ (fun KW hKW => ?_)); (focus kernel_rfl); (focus kernel_rfl); (focus kernel_rfl); (focus kernel_rfl); simp only [triples, List.getElem?_toArray, List.getElem?_cons_zero, List.getElem?_cons_succ])
      | (with_reducible first | apply WL_nil | apply WP_nil | apply WE_nil)
      | ((with_reducible first | refine T_reg_seq fun KW hKW => ?_ | refine T_reg_end fun KW hKW => ?_); simp only [zl])
      | ((fail_if_success (with_reducible refine T_stopW sA ?_)); (with_reducible first | refine T_pure_seq ?_ ?_ (fun KW hKW => ?_) | refine T_pure_end ?_ ?_ (fun KW hKW => ?_)); (focus kernel_rfl); (focus kernel_rfl); simp only [zl])
      | ((with_reducible first | apply T_cond_seq | apply T_cond); (focus rfl))
      | (intro hgW; (first | (simp only [zb] at hgW; done) | ((try simp only [zb, eq_self] at hgW); (have hhW : True := hgW); clear hhW hgW) | ((try simp only [zb] at hgW); (try (have hhW := hgW; simp only [hhW]; clear hhW)); (try simp only [zg, zq, ne_eq, gt_iff_lt, ge_iff_le] at hgW); (try (exfalso; omega)))))
      | (with_reducible first | apply T_seq_assoc | apply T_skip_seq | apply T_ret_seq | apply T_exit_seq | apply T_ret | apply T_skip | apply T_exit | refine T_block_seq fun KbW hKbW => ?_ | apply T_block)
      | (simp only [TX.inBlock, TX.then, zi, Nat.reduceEqDiff])
      | ((with_reducible apply WP_pick); (focus rfl); (focus rfl); (focus rfl); (focus ((try simp only [zp]); exact rfl)); (focus ((try simp only [zp]); exact rfl)))
      | ((with_reducible refine WL_do fun CwW cwW => ?_); (with_reducible apply O_pick); (focus rfl); (focus rfl); (focus rfl); (all_goals (intro hgW; (first | (simp only [zb] at hgW; done) | ((try simp only [zb, eq_self] at hgW); (have hhW : True := hgW); clear hhW hgW) | ((try simp only [zb] at hgW); (try (have hhW := hgW; simp only [hhW]; clear hhW)); (try simp only [zg, zq, ne_eq, gt_iff_lt, ge_iff_le] at hgW); (try (exfalso; omega)))))); (all_goals ((with_reducible apply cwW); (focus ((try simp only [zp]); exact rfl)); clear cwW CwW)))
      | ((with_reducible first | refine T_plan_seq pA ?_ ?_ (fun KW hKW => ?_) | refine T_plan_seq pB ?_ ?_ (fun KW hKW => ?_) | refine T_plan_seq pC ?_ ?_ (fun KW hKW => ?_)); (focus kernel_rfl); (focus kernel_rfl))
      | (with_reducible first | refine WF_done (hKW _ _ ?_) | exact WF_stop | apply WF_done)
      | ((first | ((with_reducible apply WF_0); (focus rfl); (focus rfl); intro CwW cwW) | ((with_reducible apply WF_1); (focus rfl); intro CwW cwW)); (focus (first
        | ((with_reducible first | apply O_move | apply O_assign | apply O_pickV | apply O_extract | apply O_nilCheck | apply O_makeFunc); (repeat rfl))
        | ((with_reducible first | apply O_bin | apply O_load | apply O_fieldAddr | apply O_indexAddr | apply O_len | apply O_store | apply O_un | apply O_field | apply O_index | apply O_alloc | apply O_box | apply O_build | apply O_lookup | apply O_mapUpdate | apply O_mapEntry | apply O_entryStore | apply O_typeAssert | apply O_arrp | apply O_delete | apply O_min | apply O_max | apply O_range | apply O_entry | apply O_copy); (repeat rfl); simp (disch := first | omega | ((simp only [List.length_append, List.length_cons, List.length_nil, List.length_replicate, List.length_take, List.length_drop, FL]); omega)) only [go_sem, ↓FD, FK])
        | ((first | ((have := rowsW); (with_reducible apply O_appendR)) | (with_reducible first | apply O_buildSlice | apply O_convert | apply O_append)); (repeat rfl); (try simp only [zc, zo, Nat.reduceBEq]); simp (disch := first | omega | ((simp only [List.length_append, List.length_cons, List.length_nil, List.length_replicate, List.length_take, List.length_drop, FL]); omega)) only [go_sem, ↓FD, FK])
        | ((with_reducible apply O_makeInterface); (focus rfl); (focus ((simp only [go_sem]); exact rfl)); (focus rfl))
        | ((with_reducible apply O_makeMap); (try simp (disch := first | omega | ((simp only [List.length_append, List.length_cons, List.length_nil, List.length_replicate, List.length_take, List.length_drop, FL]); omega)) only [go_sem, ↓FD, FK]))
        | ((with_reducible apply O_sliceR); (focus rfl); intro Cs cs; (try simp (disch := omega) only [evB, ev, constV, const1, Int.reduceLE, Int.natCast_nonneg, Int.toNat_natCast, Int.reduceToNat, if_true, if_pos, List.getElem?_cons_zero, List.getElem?_cons_succ, Option.bind_some, Option.bind_none]); simp (disch := first | omega | ((simp only [List.length_append, List.length_cons, List.length_nil, List.length_replicate, List.length_take, List.length_drop, FL]); omega)) only [go_sem, ↓FD, FK]; (with_reducible apply cs); clear cs Cs)
        | ((with_reducible first | apply O_callF | apply O_call); (repeat rfl); (try simp only [za]); (first | (refine TPure.go (by exact knownP) ?_) | (refine TDoes.go (by exact knownD) ?_; (try simp (disch := first | omega | ((simp only [List.length_append, List.length_cons, List.length_nil, List.length_replicate, List.length_take, List.length_drop, FL]); omega)) only [go_sem, ↓FD, FK]))))); (first | (with_reducible exact cwW) | ((with_reducible apply cwW); (try (focus ((repeat (first | ((with_reducible apply keep_drop); (focus rfl)) | ((with_reducible apply keep_keep); (focus rfl)))); (with_reducible exact keep_nil)))); (focus ((try simp only [zp]); exact rfl)); (all_goals clear cwW CwW)))); (try ((with_reducible apply eq_id); (focus ((try simp only [zp]); exact rfl)); (try intro FhW hFhW))))
      | ((with_reducible apply WF_alt); (focus rfl); (focus (intro CwW cwW; (first
        | ((with_reducible first | apply O_move | apply O_assign | apply O_pickV | apply O_extract | apply O_nilCheck | apply O_makeFunc); (repeat rfl))
        | ((with_reducible first | apply O_bin | apply O_load | apply O_fieldAddr | apply O_indexAddr | apply O_len | apply O_store | apply O_un | apply O_field | apply O_index | apply O_alloc | apply O_box | apply O_build | apply O_lookup | apply O_mapUpdate | apply O_mapEntry | apply O_entryStore | apply O_typeAssert | apply O_arrp | apply O_delete | apply O_min | apply O_max | apply O_range | apply O_entry | apply O_copy); (repeat rfl); simp (disch := first | omega | ((simp only [List.length_append, List.length_cons, List.length_nil, List.length_replicate, List.length_take, List.length_drop, FL]); omega)) only [go_sem, ↓FD, FK])
        | ((first | ((have := rowsW); (with_reducible apply O_appendR)) | (with_reducible first | apply O_buildSlice | apply O_convert | apply O_append)); (repeat rfl); (try simp only [zc, zo, Nat.reduceBEq]); simp (disch := first | omega | ((simp only [List.length_append, List.length_cons, List.length_nil, List.length_replicate, List.length_take, List.length_drop, FL]); omega)) only [go_sem, ↓FD, FK])
        | ((with_reducible apply O_makeInterface); (focus rfl); (focus ((simp only [go_sem]); exact rfl)); (focus rfl))
        | ((with_reducible apply O_makeMap); (try simp (disch := first | omega | ((simp only [List.length_append, List.length_cons, List.length_nil, List.length_replicate, List.length_take, List.length_drop, FL]); omega)) only [go_sem, ↓FD, FK]))
        | ((with_reducible apply O_sliceR); (focus rfl); intro Cs cs; (try simp (disch := omega) only [evB, ev, constV, const1, Int.reduceLE, Int.natCast_nonneg, Int.toNat_natCast, Int.reduceToNat, if_true, if_pos, List.getElem?_cons_zero, List.getElem?_cons_succ, Option.bind_some, Option.bind_none]); simp (disch := first | omega | ((simp only [List.length_append, List.length_cons, List.length_nil, List.length_replicate, List.length_take, List.length_drop, FL]); omega)) only [go_sem, ↓FD, FK]; (with_reducible apply cs); clear cs Cs)
        | ((with_reducible first | apply O_callF | apply O_call); (repeat rfl); (try simp only [za]); (first | (refine TPure.go (by exact knownP) ?_) | (refine TDoes.go (by exact knownD) ?_; (try simp (disch := first | omega | ((simp only [List.length_append, List.length_cons, List.length_nil, List.length_replicate, List.length_take, List.length_drop, FL]); omega)) only [go_sem, ↓FD, FK]))))); (first | (with_reducible exact cwW) | ((with_reducible apply cwW); (try (focus ((repeat (first | ((with_reducible apply keep_drop); (focus rfl)) | ((with_reducible apply keep_keep); (focus rfl)))); (with_reducible exact keep_nil)))); (focus ((try simp only [zp]); exact rfl)); (all_goals clear cwW CwW))))))
      | ((first | ((with_reducible apply WE_0); (focus rfl); intro CwW cwW) | (with_reducible apply WE_1; intro CwW cwW) | (with_reducible refine WE_2 fun CwW cwW => ?_) | ((with_reducible refine HeldAt_cons ?_ ?_); (focus (with_reducible apply_assumption -exfalso -symm only [*])); (with_reducible refine HeldOp_of fun CwW cwW => ?_))); (focus (first
        | ((with_reducible first | apply O_move | apply O_assign | apply O_pickV | apply O_extract | apply O_nilCheck | apply O_makeFunc); (repeat rfl))
        | ((with_reducible first | apply O_bin | apply O_load | apply O_fieldAddr | apply O_indexAddr | apply O_len | apply O_store | apply O_un | apply O_field | apply O_index | apply O_alloc | apply O_box | apply O_build | apply O_lookup | apply O_mapUpdate | apply O_mapEntry | apply O_entryStore | apply O_typeAssert | apply O_arrp | apply O_delete | apply O_min | apply O_max | apply O_range | apply O_entry | apply O_copy); (repeat rfl); simp (disch := first | omega | ((simp only [List.length_append, List.length_cons, List.length_nil, List.length_replicate, List.length_take, List.length_drop, FL]); omega)) only [go_sem, ↓FD, FK])
        | ((first | ((have := rowsW); (with_reducible apply O_appendR)) | (with_reducible first | apply O_buildSlice | apply O_convert | apply O_append)); (repeat rfl); (try simp only [zc, zo, Nat.reduceBEq]); simp (disch := first | omega | ((simp only [List.length_append, List.length_cons, List.length_nil, List.length_replicate, List.length_take, List.length_drop, FL]); omega)) only [go_sem, ↓FD, FK])
        | ((with_reducible apply O_makeInterface); (focus rfl); (focus ((simp only [go_sem]); exact rfl)); (focus rfl))
        | ((with_reducible apply O_makeMap); (try simp (disch := first | omega | ((simp only [List.length_append, List.length_cons, List.length_nil, List.length_replicate, List.length_take, List.length_drop, FL]); omega)) only [go_sem, ↓FD, FK]))
        | ((with_reducible apply O_sliceR); (focus rfl); intro Cs cs; (try simp (disch := omega) only [evB, ev, constV, const1, Int.reduceLE, Int.natCast_nonneg, Int.toNat_natCast, Int.reduceToNat, if_true, if_pos, List.getElem?_cons_zero, List.getElem?_cons_succ, Option.bind_some, Option.bind_none]); simp (disch := first | omega | ((simp only [List.length_append, List.length_cons, List.length_nil, List.length_replicate, List.length_take, List.length_drop, FL]); omega)) only [go_sem, ↓FD, FK]; (with_reducible apply cs); clear cs Cs)
        | ((with_reducible first | apply O_callF | apply O_call); (repeat rfl); (try simp only [za]); (first | (refine TPure.go (by exact knownP) ?_) | (refine TDoes.go (by exact knownD) ?_; (try simp (disch := first | omega | ((simp only [List.length_append, List.length_cons, List.length_nil, List.length_replicate, List.length_take, List.length_drop, FL]); omega)) only [go_sem, ↓FD, FK]))))); (first | (with_reducible exact cwW) | ((with_reducible apply cwW); (try (focus ((repeat (first | ((with_reducible apply keep_drop); (focus rfl)) | ((with_reducible apply keep_keep); (focus rfl)))); (with_reducible exact keep_nil)))); (focus ((try simp only [zp]); exact rfl)); (all_goals clear cwW CwW)))); (try ((with_reducible apply eq_id); (focus ((try simp only [zp]); exact rfl)); (try intro FhW hFhW))))
      | ((first | ((with_reducible first | apply WE_if1); (focus rfl)) | ((with_reducible first | apply WE_un1); (focus rfl))); (focus ((try simp only [zp]); exact rfl)))
      | ((first | ((with_reducible first | apply WE_if0); (focus rfl); (focus rfl)) | ((with_reducible first | apply WE_un0); (focus rfl); (focus rfl))); (focus ((try simp only [zp]); exact rfl)))
      | ((first | ((with_reducible first | apply WE_if2); (focus rfl)) | ((with_reducible first | apply WE_un2); (focus rfl))); (focus ((repeat (first | ((with_reducible apply keep_drop); (focus rfl)) | ((with_reducible apply keep_keep); (focus rfl)))); (with_reducible exact keep_nil))); (focus ((try simp only [zp]); exact rfl)))
      | ((with_reducible apply WE_pick0); (focus rfl); (focus rfl); (focus rfl); (focus ((try simp only [zp]); exact rfl)); (focus ((try simp only [zp]); exact rfl)))
      | (with_reducible exact HeldAt_nil)
      | ((with_reducible first | refine hR _ _ (fun CW ccW => ?_) | refine hN _ _ (fun CW ccW => ?_)); simp (disch := first | omega | ((simp only [List.length_append, List.length_cons, List.length_nil, List.length_replicate, List.length_take, List.length_drop, FL]); omega)) only [go_sem, ↓FD, FK]; (with_reducible apply ccW); clear ccW CW; (first
        | ((with_reducible apply ends_id); (first | refine Ends.more (by first | rfl | simp only [go_sem, Bool.and_self]) ?_ | refine Ends.same (by first | rfl | simp only [go_sem, Bool.and_self]) ?_); (try simp only [go_sem, Bool.and_self]))
        | ((with_reducible apply endsT_id); (first | refine EndsT.more' ?_ ?_ ?_ ?_ | refine EndsT.same' ?_ ?_ ?_ ?_); (focus ((repeat (first | exact Turned.refl _ | (with_reducible apply_assumption -exfalso -symm only [*]) | refine Turned.set ?_ (by simp (disch := omega) only [go_sem, Bool.and_self, Bool.and_true, decide_eq_true]))); done)); (focus simp (disch := omega) only [go_sem, Bool.and_self, Bool.and_true, decide_eq_true]); (try simp only [go_sem, Bool.and_self]))
        | skip))
      | (with_reducible apply_assumption -exfalso -symm only [*]))
    all_goals (repeat (first | revert hgW | revert KbW | revert KW | revert hFhW | revert FhW))
    all_goals (apply Lv.get rW; repeat (first | ((fail_if_success (with_reducible apply lmDum)); apply Lm.there) | apply Lm.here))
  focus (repeat (first | apply Lf.nil | apply Lf.cons))) : G := h.1 r
end Go.TM
