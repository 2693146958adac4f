/- The T-machine, part 60: a range over a function; functions that leave with a mark among their deferred calls. -/
import Derived.Test.YtkmcbaihemaoeaaGreatT50
import Derived.RangeFuncRecord
set_option linter.unusedSimpArgs false
set_option linter.unusedVariables false
namespace Go.TM
open Go.RowKit (Below)

/- deferred calls that are marks alone -/
/-- The deferred calls ds are marks at the places of M, ahead of D. -/
def Marks (g : G) : List Nat → List Deferred → List Deferred → Prop
  | [], ds, D => ds = D
  | p :: M, ds, D => ∃ b rest, g.ρ p = some b ∧ ds = { target := .collected b, args := #[] } :: rest ∧ Marks g M rest D
theorem Marks.mono {g g' : G} {σ σ' : TS} (h : Ext g σ g' σ') : ∀ {M : List Nat} {ds D : List Deferred}, Marks g M ds D → Marks g' M ds D
  | [], _, _, e => e
  | p :: M, _, _, ⟨b, rest, h1, h2, h3⟩ => ⟨b, rest, h.ρ _ _ h1, h2, Marks.mono h h3⟩
theorem Marks.append {g : G} : ∀ {M M' : List Nat} {ds d2 D : List Deferred}, Marks g M ds d2 → Marks g M' d2 D → Marks g (M ++ M') ds D
  | [], _, _, _, _, e, k => by
    have e : _ = _ := e
    subst e; exact k
  | p :: M, _, _, _, _, ⟨b, rest, h1, h2, h3⟩, k => ⟨b, rest, h1, h2, Marks.append h3 k⟩

def RQM (D : List Deferred) (g0 : G) (σ0 : TS) (Q : TX → TL → TS → List Nat → Prop) : Exit → Act → World → Prop := fun e a w =>
  ∃ x m σ g M, e = TX.to x ∧ Marks g M a.defers D ∧ Ext g0 σ0 g σ ∧ WR g σ w ∧ TLR g σ m a ∧ Q x m σ M
/-- From every world that stands to these trees the code, in no round, ends as Q says; M: the places of the marks that it leaves. -/
structure SatM (P : Program) (c : Code) (Q : TX → TL → TS → List Nat → Prop) (m : TL) (σ : TS) : Prop where
  go : ∀ g a w, WR g σ w → TLR g σ m a → ∀ n, c.wpIn (FR none) n P (RQM a.defers g σ Q) a w

theorem SatM.of {P : Program} {c : Code} {Q : TX → TL → TS → Prop} {m : TL} {σ : TS} (h : Sat P c Q m σ) : SatM P c (fun x m σ M => M = [] ∧ Q x m σ) m σ := ⟨fun g a w hw hm n =>
  wpIn_mono (h g a w hw hm none n (.inl rfl)) fun e a' w' ⟨x, m', σ', g', h1, h0, h2, h3, h4, h5⟩ => ⟨x, m', σ', g', [], h1, h0, h2, h3, h4, rfl, h5⟩⟩
theorem SatM.mono {P : Program} {c : Code} {Q Q' : TX → TL → TS → List Nat → Prop} {m : TL} {σ : TS} (h : SatM P c Q m σ) (hq : ∀ x m σ M, Q x m σ M → Q' x m σ M) : SatM P c Q' m σ := ⟨fun g a w hw hm n =>
  wpIn_mono (h.go g a w hw hm n) fun e a' w' ⟨x, m', σ', g', M, h1, h0, h2, h3, h4, h5⟩ => ⟨x, m', σ', g', M, h1, h0, h2, h3, h4, hq _ _ _ _ h5⟩⟩
def TX.thenM (next : TL → TS → List Nat → Prop) (Q : TX → TL → TS → List Nat → Prop) : TX → TL → TS → List Nat → Prop
  | .normal, m, σ, M => next m σ M
  | x, m, σ, M => Q x m σ M
theorem SatM.seq {P : Program} {x y : Code} {Q : TX → TL → TS → List Nat → Prop} {m : TL} {σ : TS}
    (h : SatM P x (TX.thenM (fun m' σ' M => SatM P y (fun t m s M' => Q t m s (M' ++ M)) m' σ') Q) m σ) : SatM P (.seq x y) Q m σ := by
  refine ⟨fun g a w hw hm n => ?_⟩
  refine wpIn_seq (wpIn_mono (h.go g a w hw hm n) fun e a' w' hq => ?_)
  obtain ⟨tx, m', σ', g', M, rfl, h0, h1, h2, h3, h4⟩ := hq
  cases tx with
  | normal =>
    refine wpIn_mono (h4.go g' a' w' h2 h3 n) fun e a2 w2 hq => ?_
    obtain ⟨t2, m2, σ2, g2, M2, q1, q0, q2, q3, q4, q5⟩ := hq
    exact ⟨t2, m2, σ2, g2, M2 ++ M, q1, q0.append (h0.mono q2), h1.trans q2, q3, q4, q5⟩
  | exit id => exact ⟨.exit id, m', σ', g', M, rfl, h0, h1, h2, h3, h4⟩
  | goto l => exact ⟨.goto l, m', σ', g', M, rfl, h0, h1, h2, h3, h4⟩
  | ret => exact ⟨.ret, m', σ', g', M, rfl, h0, h1, h2, h3, h4⟩
def TX.inBlockM (id : Nat) (Q : TX → TL → TS → List Nat → Prop) : TX → TL → TS → List Nat → Prop
  | .exit id', m, σ, M => if id' = id then Q .normal m σ M else Q (.exit id') m σ M
  | x, m, σ, M => Q x m σ M
theorem SatM.block {P : Program} {id : Nat} {c : Code} {Q : TX → TL → TS → List Nat → Prop} {m : TL} {σ : TS} (h : SatM P c (TX.inBlockM id Q) m σ) : SatM P (.block id c) Q m σ := by
  refine ⟨fun g a w hw hm n => ?_⟩
  refine wpIn_block (wpIn_mono (h.go g a w hw hm n) fun e a' w' hq => ?_)
  obtain ⟨tx, m', σ', g', M, rfl, h0, h1, h2, h3, h4⟩ := hq
  cases tx with
  | normal => exact ⟨.normal, m', σ', g', M, rfl, h0, h1, h2, h3, h4⟩
  | exit id' =>
    simp only [TX.inBlockM] at h4
    simp only [TX.to, Exit.inBlock]
    split at h4
    · rename_i he
      rw [if_pos he]
      exact ⟨.normal, m', σ', g', M, rfl, h0, h1, h2, h3, h4⟩
    · rename_i he
      rw [if_neg he]
      exact ⟨.exit id', m', σ', g', M, rfl, h0, h1, h2, h3, h4⟩
  | goto l => exact ⟨.goto l, m', σ', g', M, rfl, h0, h1, h2, h3, h4⟩
  | ret => exact ⟨.ret, m', σ', g', M, rfl, h0, h1, h2, h3, h4⟩

/- sealed things turned -/
theorem WR.reseal {P : Program} {g : G} {σ : TS} {w : World} {l b : Nat} {o : TObj} {ob : Obj} (hw : WR g σ w) (hl : g.ρ l = some b) (hold : ∀ k sz, σ[l]? ≠ some (.right k sz))
    (ho : ObjOk g σ (w.putObj b ob) b (some o)) (hnr : ∀ cs, o ≠ .row cs := by intro _ h; cases h) : WR g (σ.set l o) (w.putObj b ob) :=
  hw.setObj hl hold World.putObj_size rfl rfl rfl (fun k hk => World.putObj_heap_other hk) ho hnr

/-- The mark's block is shut: what is told of other things stays. -/
theorem tcells_seal {σ : TS} {p : Nat} {o o' : Obj} (hp : σ[p]? = some (.raw o)) (v : TV) : tcells (σ.set p (.raw o')) v = tcells σ v := by
  unfold tcells
  cases v with
  | ptr l off =>
    by_cases h : p = l
    · subst h
      simp only [List.getElem?_set_self (List.getElem?_eq_some_iff.1 hp).1, hp]
    · simp only [List.getElem?_set_ne h]
  | rp l off =>
    by_cases h : p = l
    · subst h
      simp only [List.getElem?_set_self (List.getElem?_eq_some_iff.1 hp).1, hp]
    · simp only [List.getElem?_set_ne h]
  | _ => rfl
theorem tload_seal {T : Tab} {σ : TS} {p : Nat} {o o' : Obj} (hp : σ[p]? = some (.raw o)) (t : TypeId) (v : TV) : tload T (σ.set p (.raw o')) t v = tload T σ t v := by
  unfold tload; rw [tcells_seal hp]
theorem tresult1_seal {T : Tab} {m : TL} {σ : TS} {p : Nat} {o o' : Obj} (hp : σ[p]? = some (.raw o)) (r : ResultVar) : tresult1 T m (σ.set p (.raw o')) r = tresult1 T m σ r := by
  cases r <;> simp only [tresult1, tload_seal hp]
theorem tresultL_seal {T : Tab} {m : TL} {σ : TS} {p : Nat} {o o' : Obj} (hp : σ[p]? = some (.raw o)) : ∀ (rs : List ResultVar), tresultL T m (σ.set p (.raw o')) rs = tresultL T m σ rs
  | [] => rfl
  | r :: rs => by simp only [tresultL, tresult1_seal hp, tresultL_seal hp rs]
theorem tresults_seal {T : Tab} {m : TL} {σ : TS} {p : Nat} {o o' : Obj} (hp : σ[p]? = some (.raw o)) (rs : List ResultVar) : tresults T m (σ.set p (.raw o')) rs = tresults T m σ rs := by
  unfold tresults; rw [tresultL_seal hp]

/-- A function with one range over a function: it leaves with one mark. -/
theorem tcalls_mark {P : Program} {f : FuncId} {fn : Func} {c : Code} {args : List TV} {σ : TS} {Q : TV → TS → Prop} (hf : P.funcs[f]? = some fn) (hn : (fn.name == "runtime.NumGoroutine") = false) (hb : fn.body = some c)
    (h : SatM P c (fun x m σ' M => (x = .normal ∨ x = .ret) ∧ ∃ p, M = [p] ∧ σ'[p]? = some (.raw (.deferred (some []))) ∧ match tresults (mkTab P) m σ' fn.results.toList with
      | some v => Q v (σ'.set p (.raw (.deferred none)))
      | none => False) (tinit fn.ntmps args) σ) : TCalls P f args σ Q := by
  refine ⟨⟨fn, hf, hn, by simp [hb]⟩, fun g w va hw hv => ?_⟩
  have hlen : va.size = args.length := by have := hv.length; simpa using this
  have hm : TLR g σ (tinit fn.ntmps args) { tmps := va ++ Array.replicate (fn.ntmps - va.size) undef, defers := [] } := by
    refine ⟨by simp [tinit, hlen], fun t tv e => ?_⟩
    unfold tinit at e
    rcases Nat.lt_or_ge t args.length with hlt | hge
    · rw [List.getElem?_append_left (by simpa using hlt), List.getElem?_map] at e
      cases hq : args[t]? with
      | none => simp [hq] at e
      | some x =>
        simp only [hq, Option.map_some, Option.some.injEq] at e
        subst e
        obtain ⟨v, h1, h2⟩ := hv.get hq
        refine ⟨v, ?_, h2⟩
        rw [Array.getElem?_append_left (by omega), ← Array.getElem?_toList]
        exact h1
    · rw [List.getElem?_append_right (by simpa using hge), List.getElem?_replicate] at e
      split at e <;> cases e
  refine (callsIn_wide (n := 0)).1 (callsIn_of_wp_marks (F := FR none) hf hb trivial (wpIn_mono (h.go g _ w hw hm 0) fun e a w' hq => ?_))
  obtain ⟨tx, m, σ', g', M, rfl, h0, h1, h2, h3, hx, p, rfl, hp, h4⟩ := hq
  obtain ⟨b, rest, r1, r2, r3⟩ := h0
  have r3 : rest = [] := r3
  subst r3
  have hob := h2.obj p b r1
  rw [hp] at hob
  have hob : w'.heap[b]? = some (.deferred (some [])) := hob
  split at h4
  · rename_i v hres
    have hnr : ∀ k sz, σ'[p]? ≠ some (.right k sz) := fun k sz e => by rw [hp] at e; cases e
    have hw2 : WR g' (σ'.set p (.raw (.deferred none))) (w'.putObj b (.deferred none)) :=
      WR.reseal (P := P) h2 r1 hnr (World.putObj_heap_same (Array.getElem?_eq_some_iff.1 hob).1)
    have hx2 : Ext g' σ' g' (σ'.set p (.raw (.deferred none))) := Ext.set hnr
    obtain ⟨u, h5, h6⟩ := tresults_run hw2 (h3.mono hx2) (fn := fn) (tv := v) (by rw [tresults_seal hp]; exact hres)
    have fin : LeavesInM (FR none) 0 P fn a.tmps (fun e w' => ∃ v tv σ'' g'', e = .returned v ∧ Ext g σ g'' σ'' ∧ WR g'' σ'' w' ∧ VR g'' σ'' tv v ∧ Q tv σ'') a.defers .returning w' := by
      rw [r2]
      refine ⟨by simp, .inl ⟨b, _, rfl, run_takeDeferred hob, u, h5, u, v, _, g', rfl, h1.trans hx2, hw2, h6, h4⟩⟩
    rcases hx with rfl | rfl
    · exact fin
    · exact fin
  · exact h4.elim

/- the statement -/
def putAll : List Tmp → List TV → TL → TL
  | p :: ps, v :: vs, m => putAll ps vs (m.set p (some v))
  | _, _, m => m
theorem TLR.putAll {g : G} {σ : TS} {D : List Deferred} : ∀ {ps : List Tmp} {vs : List TV} {us : List Value} {m : TL} {t : Array Value}, VRL g σ vs us → TLR g σ m { tmps := t, defers := D } →
    TLR g σ (putAll ps vs m) { tmps := (ps.zip us).foldl (fun t (x : Tmp × Value) => t.setIfInBounds x.1 x.2) t, defers := D }
  | [], vs, us, m, t, _, hm => by cases vs <;> simpa [TM.putAll] using hm
  | p :: ps, [], us, m, t, hv, hm => by
    simp only [VRL] at hv
    subst hv
    simpa [TM.putAll] using hm
  | p :: ps, v :: vs, us, m, t, hv, hm => by
    simp only [VRL] at hv
    obtain ⟨u, rest, rfl, h1, h2⟩ := hv
    have := TLR.putAll (ps := ps) h2 (TLR.put hm (some p) h1)
    simpa [TM.putAll, tput, Act.put] using this

def TX.code : TX → Code
  | .normal => .skip
  | .exit id => .exit id
  | .goto l => .goto l
  | .ret => .ret
/-- What a range over a function lays behind the heap: the block of the rounds' deferred calls, and the loop's record. -/
abbrev RR (m : TL) (r : Loop) : TS := [.raw (.deferred (some [])), .loop m r]

theorem Ext.newLoc {g : G} {σ : TS} {w : World} (hw : WR g σ w) (b : Nat) (o : TObj) : Ext g σ { g with ρ := upd g.ρ σ.length b } (σ ++ [o]) := by
  have hne : ∀ l x, g.ρ l = some x → l ≠ σ.length := fun l x e h => by have := (hw.new l x e).2.2; omega
  exact Ext.push rfl (fun l x e => by show upd g.ρ σ.length b l = some x; rw [upd_ne _ _ (hne l x e)]; exact e) (fun _ _ _ e => e) (fun _ _ => rfl) (fun l hl => upd_ne _ _ (by omega))

theorem RR_get {h : TS} {n : Nat} {m : TL} {r : Loop} (hn : h.length = n) : (h ++ RR m r)[n]? = some (.raw (.deferred (some []))) ∧ (h ++ RR m r)[n + 1]? = some (.loop m r) := by
  subst hn
  constructor
  · rw [List.getElem?_append_right (Nat.le_refl _), Nat.sub_self]; rfl
  · rw [List.getElem?_append_right (by omega), Nat.add_sub_cancel_left]; rfl
theorem RR_set {h : TS} {n : Nat} {m : TL} {r r' : Loop} (hn : h.length = n) : (h ++ RR m r).set (n + 1) (.loop m r') = h ++ RR m r' := by
  subst hn
  rw [List.set_append_right _ _ (by omega), Nat.add_sub_cancel_left]; rfl

/-- The record at its place turns. -/
theorem WR.record {P : Program} {g : G} {h : TS} {n : Nat} {m : TL} {r : Loop} {w : World} {b : Nat} (hw : WR g (h ++ RR m r) w) (hn : h.length = n) (hb : g.ρ (n + 1) = some b) :
    ∃ tmps, w.heap[b]? = some (.loop { r with tmps := tmps }) ∧ LoopOk g (h ++ RR m r) m tmps ∧ ∀ (r' : Loop), WR g (h ++ RR m r') (w.putObj b (.loop { r' with tmps := tmps })) ∧ Ext g (h ++ RR m r) g (h ++ RR m r') := by
  have ho := hw.obj _ b hb
  rw [(RR_get hn).2] at ho
  obtain ⟨tmps, h1, h2⟩ := ho
  refine ⟨tmps, h1, h2, fun r' => ?_⟩
  have hnr : ∀ k sz, (h ++ RR m r)[n + 1]? ≠ some (.right k sz) := fun k sz e => by rw [(RR_get hn).2] at e; cases e
  have hx : Ext g (h ++ RR m r) g (h ++ RR m r') := by
    have := Ext.set (g := g) (o := .loop m r') hnr
    rwa [RR_set hn] at this
  have := WR.reseal (P := P) (o := .loop m r') (ob := .loop { r' with tmps := tmps }) hw hb hnr ⟨tmps, World.putObj_heap_same (Array.getElem?_eq_some_iff.1 h1).1, h2⟩
  rw [RR_set hn] at this
  exact ⟨this, hx⟩

/-- A RANGE OVER A FUNCTION: iter: what the function that is ranged over does, its yields known; assign, body: each round; H i: the heap ahead of round i; S: how a round leaves. -/
theorem SatM.rangeFunc {P : Program} {g : Operand} {E : FuncId} {first captured : List TV} {ps : Array Tmp} {assign body : Code} {m : TL} {σ : TS}
    (hE : Enters P E) (hg : ev m g = some (.func (.func E) first captured))
    (k : Nat) (xs : Nat → List TV) (hxs : ∀ i, i < k → (xs i).length = ps.size)
    (I : Nat → Prop) (hI0 : I 0) (H : Nat → TS) (h0 : H 0 = σ) (hlen : ∀ i, i ≤ k → (H i).length = σ.length)
    (S : TX → TS → Prop) (hS : ∀ x τ, S x τ → τ.length = σ.length ∧ (x = .ret ∨ ∃ id, x = .exit id))
    (iter : ∀ (r : Loop) (rx : TX → Loop),
      (∀ i, i < k → I i → TYields P (σ.length + 1) (xs i) (H i ++ RR m r) fun tv τ => (tv = .bool true ∧ I (i + 1) ∧ τ = H (i + 1) ++ RR m r) ∨ (tv = .bool false ∧ ∃ x τ', S x τ' ∧ τ = τ' ++ RR m (rx x))) →
      TCalls P E (first ++ [.yl (σ.length + 1)] ++ captured) (H 0 ++ RR m r) fun _ τ => (I k ∧ τ = H k ++ RR m r) ∨ ∃ x τ', S x τ' ∧ τ = τ' ++ RR m (rx x))
    (fa : Code.flat assign = true) (fb : Code.flat body = true)
    (round : ∀ i (r : Loop), i < k → I i → Sat P assign (fun x m' τ => x = .normal ∧ τ = H i ++ RR m r ∧
      ∀ r', Sat P body (fun x m' τ => (x = .normal ∧ I (i + 1) ∧ τ = H (i + 1) ++ RR m r') ∨ ∃ τ', S x τ' ∧ τ = τ' ++ RR m r') m' (H i ++ RR m r')) (TM.putAll ps.toList (xs i) m) (H i ++ RR m r)) :
    SatM P (.rangeFunc g ps assign body) (fun x m' τ M => m' = m ∧ M = [σ.length] ∧ ∃ r, (x = .normal ∧ I k ∧ τ = H k ++ RR m r) ∨ ∃ τ', S x τ' ∧ τ = τ' ++ RR m r) m σ := by
  refine ⟨fun gg a w hw hm n => ?_⟩
  have hgv := ev_sound hm hg
  simp only [VR] at hgv
  obtain ⟨fa', ca, e1, v1, v2⟩ := hgv
  refine wpIn_rangeFunc ?_
  intro fn _
  obtain ⟨rec, hrec⟩ : ∃ rec : LoopState → Option Code → Loop, rec = fun st pe => { state := st, pending := pe, fn, tmps := a.tmps, params := ps, assign, body, defers := w.heap.size } := ⟨_, rfl⟩
  obtain ⟨Wa, hWa⟩ : ∃ Wa, w.alloc (.deferred (some [])) = Wa := ⟨_, rfl⟩
  obtain ⟨W1, hW1⟩ : ∃ W1, Wa.alloc (.loop (rec .ready none)) = W1 := ⟨_, rfl⟩
  have hsa : Wa.heap.size = w.heap.size + 1 := by rw [← hWa]; simp
  have hs1 : W1.heap.size = w.heap.size + 2 := by rw [← hW1]; simp [hsa]
  -- the two blocks as things of the heap
  have ba : Below w.heap.size w Wa := by rw [← hWa]; exact (Below.refl _ w).alloc (Nat.le_refl _) _
  obtain ⟨wr1, x1⟩ := hw.newLoc (b := w.heap.size) (o := .raw (.deferred (some []))) ba (Nat.le_refl _) (by omega) (by rw [← hWa]; exact World.alloc_heap_new w _)
  have b1 : Below Wa.heap.size Wa W1 := by rw [← hW1]; exact (Below.refl _ Wa).alloc (Nat.le_refl _) _
  have x1' := Ext.newLoc wr1 (w.heap.size + 1) (.loop m (rec .ready none))
  obtain ⟨wr2, x2⟩ := wr1.newLoc (b := w.heap.size + 1) (o := .loop m (rec .ready none)) b1 (by omega) (by omega)
    ⟨a.tmps, by rw [← hW1, ← hsa, World.alloc_heap_new, hrec], LoopOk.mono x1' (LoopOk.mono x1 ⟨hm.size, hm.get⟩)⟩
  have hg2 := x1.trans x2
  obtain ⟨g2, hgg⟩ : ∃ g2 : G, { ({ gg with ρ := upd gg.ρ σ.length w.heap.size } : G) with ρ := upd ({ gg with ρ := upd gg.ρ σ.length w.heap.size } : G).ρ (σ ++ [TObj.raw (.deferred (some []))]).length (w.heap.size + 1) } = g2 := ⟨_, rfl⟩
  have hp0 : g2.ρ σ.length = some w.heap.size := by
    rw [← hgg]; simp only [upd, List.length_append, List.length_singleton]
    rw [if_neg (by omega)]; simp
  have hp1 : g2.ρ (σ.length + 1) = some (w.heap.size + 1) := by
    rw [← hgg]; simp only [upd, List.length_append, List.length_singleton]
    simp
  have wr2 : WR g2 (σ ++ RR m (rec .ready none)) W1 := by rw [← hgg]; simpa using wr2
  have hg2 : Ext gg σ g2 (σ ++ RR m (rec .ready none)) := by rw [← hgg]; simpa using hg2
  have hyes : ∀ i, i < k → I i → TYields P (σ.length + 1) (xs i) (H i ++ RR m (rec .ready none)) fun tv τ => (tv = .bool true ∧ I (i + 1) ∧ τ = H (i + 1) ++ RR m (rec .ready none)) ∨ (tv = .bool false ∧ ∃ x τ', S x τ' ∧ τ = τ' ++ RR m (rec .done (some x.code))) := by
    intro i hi hIi n' ro g3 b w3 va hb hw3 hv3
    have hn := hlen i (by omega)
    obtain ⟨tmps, k1, k2, k3⟩ := WR.record (P := P) hw3 hn hb
    have hvl : va.size = ps.size := by have := hv3.length; rw [hxs i hi] at this; simpa using this
    have hy := run_yield (P := P) k1 (args := va) (by rw [hrec]; exact hvl)
    rw [hrec] at hy
    refine ⟨fn, _, assign, body, hy, roundIn_of_wpIn trivial ?_⟩
    have tl : TLR g3 (H i ++ RR m (rec .ready none)) (TM.putAll ps.toList (xs i) m) { tmps := (ps.zip va).foldl (fun t (x : Tmp × Value) => t.setIfInBounds x.1 x.2) tmps, defers := [] } := by
      have := TLR.putAll (ps := ps.toList) (D := []) hv3 (m := m) (t := tmps) ⟨k2.1, k2.2⟩
      rw [← Array.toList_zip, Array.foldl_toList] at this
      exact this
    have hpar : (rec .ready none).params = ps := by rw [hrec]
    refine wpIn_mono (round i _ hi hIi g3 _ w3 hw3 tl (some b) n' (.inr fa)) fun e a1 w4 hq => ?_
    obtain ⟨tx, m4, σ4, g4, q0, q1, q2, q3, q4, rfl, rfl, hbody⟩ := hq
    subst q0
    obtain ⟨tm4, l1, l2, l3⟩ := WR.record (P := P) q3 hn (q2.ρ _ _ hb)
    refine ⟨_, run_beginRound l1 (by rw [hrec]), ?_⟩
    obtain ⟨l4, l5⟩ := l3 (rec .busy none)
    have e5 : ({ ({ rec .ready none with tmps := tm4 } : Loop) with state := .busy } : Loop) = { rec .busy none with tmps := tm4 } := by rw [hrec]
    rw [e5]
    refine wpIn_mono (hbody _ g4 a1 _ l4 (q4.mono l5) (some b) n' (.inr fb)) fun e a2 w5 hq => ?_
    obtain ⟨ty, m5, σ5, g5, p0, p1, p2, p3, p4, p5⟩ := hq
    have hx5 := (q2.trans l5).trans p2
    have hb5 := hx5.ρ _ _ hb
    subst p0
    rcases p5 with ⟨rfl, hI1, rfl⟩ | ⟨τ', s1, rfl⟩
    · have hn5 := hlen (i + 1) (by omega)
      obtain ⟨tm5, y1, y2, y3⟩ := WR.record (P := P) p3 hn5 hb5
      obtain ⟨y4, y5⟩ := y3 (rec .ready none)
      refine ⟨_, _, run_endRound none y1, .bool true, .bool true, _, g5, rfl, hx5.trans y5, ?_, rfl, .inl ⟨rfl, hI1, rfl⟩⟩
      have e6 : ({ ({ rec .busy none with tmps := tm5 } : Loop) with state := if (none : Option Code).isNone then .ready else .done, pending := none } : Loop) = { rec .ready none with tmps := tm5 } := by rw [hrec]; rfl
      rw [e6]; exact y4
    · obtain ⟨hl, hx⟩ := hS _ _ s1
      obtain ⟨tm5, y1, y2, y3⟩ := WR.record (P := P) p3 hl hb5
      obtain ⟨y4, y5⟩ := y3 (rec .done (some ty.code))
      have e6 : ({ ({ rec .busy none with tmps := tm5 } : Loop) with state := if (some ty.code).isNone then .ready else .done, pending := some ty.code } : Loop) = { rec .done (some ty.code) with tmps := tm5 } := by rw [hrec]; rfl
      rcases hx with rfl | ⟨id, rfl⟩
      · exact ⟨_, _, run_endRound (some .ret) y1, .bool false, .bool false, _, g5, rfl, hx5.trans y5, (show WR g5 _ (World.putObj _ _ (.loop { ({ rec .busy none with tmps := tm5 } : Loop) with state := if (some TX.ret.code).isNone then .ready else .done, pending := some TX.ret.code })) by rw [e6]; exact y4), rfl, .inr ⟨rfl, .ret, τ', s1, rfl⟩⟩
      · exact ⟨_, _, run_endRound (some (.exit id)) y1, .bool false, .bool false, _, g5, rfl, hx5.trans y5, (show WR g5 _ (World.putObj _ _ (.loop { ({ rec .busy none with tmps := tm5 } : Loop) with state := if (some (TX.exit id).code).isNone then .ready else .done, pending := some (TX.exit id).code })) by rw [e6]; exact y4), rfl, .inr ⟨rfl, .exit id, τ', s1, rfl⟩⟩
  have hcall := iter (rec .ready none) (fun x => rec .done (some x.code)) hyes
  rw [h0] at hcall
  refine ⟨w.heap.size + 1, [{ target := .collected w.heap.size, args := #[] }], W1, { target := .fn (.func E) ca, args := fa' ++ #[.func (.yield (w.heap.size + 1)) #[] #[]] }, W1, E,
    fa' ++ #[.func (.yield (w.heap.size + 1)) #[] #[]] ++ ca, W1, ?_, ?_, fun _ _ => trivial, ?_, fun e => by simp at e, ?_⟩
  · have := run_enterLoop_outer (P := P) (w := w) fn a.tmps ps assign body
    rw [this, ← hW1, ← hWa, hrec]
  · simp only [resolve, e1]; simp [Deferred.ofValue, go_sem]
  · simp [invoke, callFunc_run hE, go_sem]
  · have hargs : VRL g2 (σ ++ RR m (rec .ready none)) (first ++ [.yl (σ.length + 1)] ++ captured) (fa' ++ #[Value.func (.yield (w.heap.size + 1)) #[] #[]] ++ ca).toList := by
      refine VRL.appendArr (VRL.appendArr (VRL.mono hg2 _ _ v1) ?_) (VRL.mono hg2 _ _ v2)
      simp only [VRL, VR]
      exact ⟨_, [], rfl, ⟨_, hp1, rfl⟩, rfl⟩
    refine (calls_inFR (hcall.2 g2 W1 _ wr2 hargs) none _).mono fun e w3 hq => ?_
    obtain ⟨v, tv, σ3, g3, rfl, q1, q2, q3, q4⟩ := hq
    have hx3 := hg2.trans q1
    have hq1 := q1.ρ _ _ hp1
    have hq0 := q1.ρ _ _ hp0
    have tl : ∀ {s : TS}, Ext gg σ g3 s → TLR g3 s m { a with defers := { target := .collected w.heap.size, args := #[] } :: a.defers } := fun hx => ⟨hm.size, (hm.mono hx).get⟩
    rcases q4 with ⟨hIk, rfl⟩ | ⟨x, τ', s1, rfl⟩
    · obtain ⟨tmps, k1, k2, k3⟩ := WR.record (P := P) q2 (hlen k (Nat.le_refl _)) hq1
      obtain ⟨k4, k5⟩ := k3 (rec .exhausted none)
      have e5 : ({ ({ rec .ready none with tmps := tmps } : Loop) with state := .exhausted } : Loop) = { rec .exhausted none with tmps := tmps } := by rw [hrec]
      have hend := run_endLoop (P := P) k1 (by rw [hrec]; simp)
      rw [e5, show ({ rec .ready none with tmps := tmps } : Loop).pending = none by rw [hrec]] at hend
      refine ⟨none, _, hend, ?_⟩
      exact ⟨.normal, m, _, g3, [σ.length], rfl, ⟨_, _, hq0, rfl, rfl⟩, hx3.trans k5, k4, tl (hx3.trans k5), rfl, rfl, _, .inl ⟨rfl, hIk, rfl⟩⟩
    · obtain ⟨hl, hx⟩ := hS _ _ s1
      obtain ⟨tmps, k1, k2, k3⟩ := WR.record (P := P) q2 hl hq1
      obtain ⟨k4, k5⟩ := k3 (rec .exhausted (some x.code))
      have e5 : ({ ({ rec .done (some x.code) with tmps := tmps } : Loop) with state := .exhausted } : Loop) = { rec .exhausted (some x.code) with tmps := tmps } := by rw [hrec]
      have hend := run_endLoop (P := P) k1 (by rw [hrec]; simp)
      rw [e5, show ({ rec .done (some x.code) with tmps := tmps } : Loop).pending = some x.code by rw [hrec]] at hend
      refine ⟨some x.code, _, hend, ?_⟩
      rcases hx with rfl | ⟨id, rfl⟩
      · exact wpIn_ret ⟨.ret, m, _, g3, [σ.length], rfl, ⟨_, _, hq0, rfl, rfl⟩, hx3.trans k5, k4, tl (hx3.trans k5), rfl, rfl, _, .inr ⟨τ', s1, rfl⟩⟩
      · exact wpIn_exit ⟨.exit id, m, _, g3, [σ.length], rfl, ⟨_, _, hq0, rfl, rfl⟩, hx3.trans k5, k4, tl (hx3.trans k5), rfl, rfl, _, .inr ⟨τ', s1, rfl⟩⟩

/- words of a walk -/
section
variable {P : Program} {wn : List Tmp} {m : TL} {σ : TS} {dst : Option Tmp} {K : Option TV → TS → Prop}
theorem O_yield {f : Operand} {l : Nat} {vs : List TV} {xs : Array Operand} {ts : Array TypeId} (hf : ev m f = some (.yl l)) (hx : evs m xs.toList = some vs)
    (h : TYields P l vs σ fun v τ => K (some v) τ) : WO P wn m dst (.call { callee := .value f, args := xs, argTypes := ts }) σ K := ⟨by simp only [tO, tOper, hf, hx]; exact h⟩
/-- A part of a function that ranges over a function, walked. -/
theorem SatM.step {x y : Code} {Q : TX → TL → TS → List Nat → Prop} (h : Tw P wn x (TX.then (fun m' s => SatM P y Q m' s) (fun _ _ _ => False)) m σ) : SatM P (.seq x y) Q m σ :=
  SatM.seq ((SatM.of (Sat.of h.go)).mono fun x m s M ⟨h1, h2⟩ => by
    subst h1
    cases x with
    | normal => exact SatM.mono h2 fun t m s M q => by rw [List.append_nil]; exact q
    | exit id => exact h2.elim
    | goto l => exact h2.elim
    | ret => exact h2.elim)
/-- The range, and what is behind it. -/
theorem SatM.ranged {id : Nat} {rf rest : Code} {F : TX → TL → TS → List Nat → Prop} {Hk : TS} {S : TX → TS → Prop} {Ik : Prop}
    (hr : SatM P rf (fun x m' τ M => m' = m ∧ M = [σ.length] ∧ ∃ r, (x = .normal ∧ Ik ∧ τ = Hk ++ RR m r) ∨ ∃ τ', S x τ' ∧ τ = τ' ++ RR m r) m σ) (hS : ∀ x τ, S x τ → x = .ret)
    (hn : Ik → ∀ r, Tw P wn rest (fun x m' s => F x m' s [σ.length]) m (Hk ++ RR m r)) (hstop : ∀ τ' r, S .ret τ' → F .ret m (τ' ++ RR m r) [σ.length]) :
    SatM P (.block id rf) (TX.thenM (fun m' σ' M => SatM P rest (fun t m s M' => F t m s (M' ++ M)) m' σ') F) m σ := by
  refine (SatM.block (hr.mono fun x m' τ M ⟨h1, h2, r, h3⟩ => ?_))
  subst h1; subst h2
  have norm : Ik → SatM P rest (fun t m s M' => F t m s (M' ++ [σ.length])) m' (Hk ++ RR m' r) := fun hik => (SatM.of (Sat.of (hn hik r).go)).mono fun x m s M ⟨e1, e2⟩ => by subst e1; exact e2
  rcases h3 with ⟨rfl, hik, rfl⟩ | ⟨τ', h4, rfl⟩
  · exact norm hik
  · obtain rfl := hS _ _ h4
    exact hstop τ' r h4
/-- A function with one range over a function, what is asked at its end kept opaque. -/
theorem mark_of {f : FuncId} {fn : Func} {c : Code} {args : List TV} {Q : TV → TS → Prop} (rs : List ResultVar) (hf : P.funcs[f]? = some fn) (hn : (fn.name == "runtime.NumGoroutine") = false) (hb : fn.body = some c) (hr : fn.results.toList = rs)
    (h : ∀ F : TX → TL → TS → List Nat → Prop, (∀ x m s p tv, (x = .normal ∨ x = .ret) → s[p]? = some (.raw (.deferred (some []))) → tresults (mkTab P) m s rs = some tv → Q tv (s.set p (.raw (.deferred none))) → F x m s [p]) → SatM P c F (tinit fn.ntmps args) σ) : TCalls P f args σ Q :=
  tcalls_mark hf hn hb (h _ fun x m s p tv h1 h2 h3 h4 => ⟨h1, p, rfl, h2, by rw [hr, h3]; exact h4⟩)
end
end Go.TM
