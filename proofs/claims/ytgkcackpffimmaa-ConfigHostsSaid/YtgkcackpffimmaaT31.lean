/- The T-machine, part 27: drawing regions at whose end two operations that turn the heap may stand in either order: both orders are walked. -/
import Derived.Test.YtgkcackpffimmaaT26
import Derived.SizedLaws
set_option linter.unusedVariables false
set_option linter.unusedSimpArgs false
namespace Go.TM

section
variable {P : Program} {wn : List Tmp} {ops : Array Oper} {Q : TL → TS → Prop}

/-- As twE; at the end what is held is told too. -/
def twK (P : Program) (wn : List Tmp) (ops : Array Oper) (K : Held → TL → TS → Prop) : List (Nat × Oper × Nat) → Held → TL → TS → Prop
  | [], pend, m, σ => K pend m σ
  | (i, o, 0) :: ord, pend, m, σ => kindOf o = 0 ∧ ∃ r, (∀ K : Option TV → TS → Prop, K r σ → tStep P wn ops m o σ K) ∧ twK P wn ops K ord pend (tput m o.dst r) σ
  | (i, o, 1) :: ord, pend, m, σ => ∃ r, (∀ K : Option TV → TS → Prop, K r σ → tStep P wn ops m o σ K) ∧ twK P wn ops K ord ((i, HeldOp P wn ops m o r) :: pend) (tput m o.dst r) σ
  | (i, o, _ + 2) :: ord, pend, m, σ => False

def okK (ops : Array Oper) (F : Array Bool → Bool) : Array Bool → List (Nat × Nat) → Bool
  | listed, [] => F listed
  | listed, (i, k) :: ord => ((Region.ready .any ops listed).contains i && Region.free .any ops listed i) && okK ops F (listed.setIfInBounds i true) ord

theorem twK_any {n : Nat} {F : Array Bool → Bool} {K : Held → TL → TS → Prop} (hK : ∀ (pend : Held) (listed : Array Bool) (m : TL) (σ : TS), F listed = true → (∀ p ∈ pend, p.2 σ) → K pend m σ → anyH P wn ops Q n pend listed m σ) :
    ∀ (ord : List (Nat × Nat)) (pend : Held) (listed : Array Bool) (m : TL) (σ : TS), okK ops F listed ord = true → (∀ p ∈ pend, p.2 σ) → ord.length = (triples ops ord).length → twK P wn ops K (triples ops ord) pend m σ →
    anyH P wn ops Q (n + ord.length) pend listed m σ
  | [], pend, listed, m, σ, ho, hp, _, h => hK pend listed m σ ho hp h
  | (i, k) :: ord, pend, listed, m, σ, ho, hp, hl, h => by
    simp only [okK, Bool.and_eq_true] at ho
    obtain ⟨h1, h2⟩ := ho
    cases hi : ops[i]? with
    | none => simp [triples, hi] at hl
    | some o =>
      simp only [triples, hi, List.length_cons, Nat.add_right_cancel_iff] at hl h
      simp only [List.contains_iff_mem] at h1
      match k, h with
      | 0, h =>
        simp only [twK] at h
        obtain ⟨hk, r, h3, h4⟩ := h
        refine anyH_take hi (fun _ => True) (n + ord.length) pend listed m σ (Region.free_spec hi h1.2) h1.1 (fun τ _ K hK => tStep_pure0 hk h3 τ K hK) ?_
        exact anyH_sub _ (fun p hp => by
          rcases List.mem_cons.1 hp with rfl | hp
          · exact .inr fun _ => trivial
          · exact .inl hp) (twK_any hK ord pend _ _ _ h2 hp hl h4)
      | 1, h =>
        simp only [twK] at h
        obtain ⟨r, h3, h4⟩ := h
        refine anyH_take hi (HeldOp P wn ops m o r) (n + ord.length) pend listed m σ (Region.free_spec hi h1.2) h1.1 (fun τ ht K hK => ht.go K hK) ?_
        exact twK_any hK ord _ _ _ _ h2 (fun p hp' => by
          rcases List.mem_cons.1 hp' with rfl | hp'
          · exact ⟨h3⟩
          · exact hp p hp') hl h4
      | k + 2, h => simp only [twK] at h

theorem step_any {i : Nat} {la : List (Nat × Nat)} {pend : Held} {listed : Array Bool} {m : TL} {σ : TS} (hl : la.length + 1 = (triples ops ((i, 2) :: la)).length) (ho : okE ops (listed.setIfInBounds i true) la = true) (h : twE P wn ops Q (triples ops ((i, 2) :: la)) pend m σ) :
    stepT P wn ops i (anyH P wn ops Q la.length (keep ops i pend) (listed.setIfInBounds i true)) m σ := by
  cases hi : ops[i]? with
  | none => simp [triples, hi] at hl
  | some o =>
    simp only [triples, hi, List.length_cons, Nat.add_right_cancel_iff] at hl h
    simp only [twE] at h
    unfold stepT
    simp only [hi]
    exact tStep_mono h fun r σ' q => twE_any la _ _ _ _ ho q.1 hl q.2

def forkF (ops : Array Oper) (i j : Nat) (la lb : List (Nat × Nat)) (listed : Array Bool) : Bool :=
  Region.ready .any ops listed == [i, j] && okE ops (listed.setIfInBounds i true) la && okE ops (listed.setIfInBounds j true) lb
def forkK (P : Program) (wn : List Tmp) (ops : Array Oper) (Q : TL → TS → Prop) (l1 l2 : List (Nat × Oper × Nat)) (pend : Held) (m : TL) (σ : TS) : Prop :=
  WE P wn ops Q l1 pend m σ ∧ WE P wn ops Q l2 pend m σ

theorem fork_any {i j : Nat} {la lb : List (Nat × Nat)} (he : la.length = lb.length) (hla : la.length + 1 = (triples ops ((i, 2) :: la)).length) (hlb : lb.length + 1 = (triples ops ((j, 2) :: lb)).length)
    (pend : Held) (listed : Array Bool) (m : TL) (σ : TS) (ho : forkF ops i j la lb listed = true) (hp : ∀ p ∈ pend, p.2 σ) (h : forkK P wn ops Q (triples ops ((i, 2) :: la)) (triples ops ((j, 2) :: lb)) pend m σ) :
    anyH P wn ops Q (la.length + 1) pend listed m σ := by
  simp only [forkF, Bool.and_eq_true] at ho
  obtain ⟨⟨h1, h2⟩, h3⟩ := ho
  have h1 : Region.ready .any ops listed = [i, j] := by simpa using h1
  refine ⟨hp, fun e => (by rw [h1] at e; cases e), fun k hk => ?_⟩
  rw [h1] at hk
  rcases List.mem_cons.1 hk with rfl | hk
  · exact step_any hla h2 h.1.go
  · obtain rfl : k = j := by simpa using hk
    rw [he]
    exact step_any hlb h3 h.2.go

structure WK (P : Program) (wn : List Tmp) (ops : Array Oper) (K : Held → TL → TS → Prop) (l : List (Nat × Oper × Nat)) (pend : Held) (m : TL) (σ : TS) : Prop where
  go : twK P wn ops K l pend m σ

theorem tw_fork {id : Nat} {X : TX → TL → TS → Prop} {m : TL} {σ : TS} (pre : List (Nat × Nat)) (i j : Nat) (la lb : List (Nat × Nat)) (hm : P.follows .mixedOrders = true) (hn : la.length + 1 + pre.length = ops.size) (he : la.length = lb.length) (hl : pre.length = (triples ops pre).length)
    (hla : la.length + 1 = (triples ops ((i, 2) :: la)).length) (hlb : lb.length + 1 = (triples ops ((j, 2) :: lb)).length) (ho : okK ops (forkF ops i j la lb) (Array.replicate ops.size false) pre = true)
    (h : twK P wn ops (forkK P wn ops (X .normal) (triples ops ((i, 2) :: la)) (triples ops ((j, 2) :: lb))) (triples ops pre) [] m σ) : tw P wn (.region id ops true) X m σ := by
  simp only [tw, if_true]
  left
  intro t
  simp only [Region.schedule, hm, Bool.true_or, if_true]
  unfold Region.linearise
  refine anyH_sound ops.size t [] _ m σ ?_
  rw [← hn] at ho ⊢
  exact twK_any (fork_any he hla hlb) pre [] _ m σ ho (by simp) hl h

theorem T_fork_seq {id : Nat} {y : Code} {X : TX → TL → TS → Prop} {m : TL} {σ : TS} (pre : List (Nat × Nat)) (i j : Nat) (la lb : List (Nat × Nat)) (hm : P.follows .mixedOrders = true) (hn : la.length + 1 + pre.length = ops.size) (he : la.length = lb.length) (hl : pre.length = (triples ops pre).length)
    (hla : la.length + 1 = (triples ops ((i, 2) :: la)).length) (hlb : lb.length + 1 = (triples ops ((j, 2) :: lb)).length) (ho : okK ops (forkF ops i j la lb) (Array.replicate ops.size false) pre = true)
    (h : ∀ K : TL → TS → Prop, (∀ m σ, Tw P wn y X m σ → K m σ) → WK P wn ops (forkK P wn ops K (triples ops ((i, 2) :: la)) (triples ops ((j, 2) :: lb))) (triples ops pre) [] m σ) : Tw P wn (.seq (.region id ops true) y) X m σ :=
  ⟨tw_seq_k fun K hK => tw_fork pre i j la lb hm hn he hl hla hlb ho (h K fun m σ q => hK m σ q.go).go⟩

variable {dst : Option Tmp} {op : Op} {ty : TypeId} {pos : String} {after : Array Edge} {rest l1 l2 : List (Nat × Oper × Nat)} {m m' : TL} {σ : TS} {i : Nat} {pend : Held} {r : Option TV} {K : Held → TL → TS → Prop}
theorem WK_fork (h1 : WE P wn ops Q l1 pend m σ) (h2 : WE P wn ops Q l2 pend m σ) : WK P wn ops (forkK P wn ops Q l1 l2) [] pend m σ := ⟨by rw [twK]; exact ⟨h1, h2⟩⟩
theorem WK_0 (hk : kindOf { dst := dst, op := op, type := ty, pos := pos, after := after, guard := none } = 0) (h : ∀ K : Option TV → TS → Prop, K r σ → WO P wn m dst op σ K) (e : tput m dst r = m') (h2 : WK P wn ops K rest pend m' σ) :
    WK P wn ops K ((i, { dst := dst, op := op, type := ty, pos := pos, after := after, guard := none }, 0) :: rest) pend m σ := by
  refine ⟨?_⟩
  rw [twK]
  exact ⟨hk, r, fun K hK => (h K hK).go, by rw [e]; exact h2.go⟩
theorem WK_1 (h : ∀ K : Option TV → TS → Prop, K r σ → WO P wn m dst op σ K) (e : tput m dst r = m')
    (h2 : ∀ F : TS → Prop, (∀ τ, HeldOp P wn ops m { dst := dst, op := op, type := ty, pos := pos, after := after, guard := none } r τ → F τ) → WK P wn ops K rest ((i, F) :: pend) m' σ) :
    WK P wn ops K ((i, { dst := dst, op := op, type := ty, pos := pos, after := after, guard := none }, 1) :: rest) pend m σ := by
  refine ⟨?_⟩
  rw [twK]
  exact ⟨r, fun K hK => (h K hK).go, by rw [e]; exact (h2 _ fun τ q => q).go⟩
end
end Go.TM

/- The T-machine, part 28: a law's row where the walk needs the form's own reach: how long a text in an argument may be. -/
set_option linter.unusedVariables false
namespace Go.TM
open Go.RowKit (Below shut_bool)
open Go.ChangeShapes

section
variable {P : Program} {H : Type} {enc : TypeId × Value → H}

/-- A text that is a struct's field, in a value that the form's reach bounds. -/
theorem field_reach {W : World} {t : TypeId} {v : Value} {x : DataW H} {ps : List MemPlace} {fs : Array Field} {i : Nat} {f : Field} {s : ByteArray}
    (h : DataW.Trod enc P W 0 (fun _ => true) true t v x ps) (hu : P.underlying t = some (.struct fs)) (hf : fs.toList[i]? = some f) (hs : P.underlying f.type = some .string) (hc : P.cellsOf f.type = 1)
    (hv : v.cells.toList[f.offset]? = some (.string s)) (hw : (x.weights P t).all (· ≤ reachBytes) = true) : s.size ≤ reachBytes := by
  obtain ⟨fuel, h⟩ := h
  cases fuel with
  | zero => simp [DataW.trod] at h
  | succ fuel =>
    simp only [DataW.trod, hu] at h
    split at h
    · cases hm : fs.toList.mapM (fun f => DataW.trod enc P W 0 (fun _ => true) true fuel f.type ((v.cells.toList.drop f.offset).take (P.cellsOf f.type))) with
      | none => simp [hm] at h
      | some xs =>
        simp only [hm, Option.map_some, Option.some.injEq, Prod.mk.injEq] at h
        obtain ⟨rfl, _⟩ := h
        obtain ⟨b, h1, h2⟩ := mapM_get hm hf
        have hlt : f.offset < v.cells.toList.length := (List.getElem?_eq_some_iff.1 hv).1
        have hd : (v.cells.toList.drop f.offset).take (P.cellsOf f.type) = [.string s] := by
          rw [hc, List.drop_eq_getElem_cons hlt, List.take_succ_cons, List.take_zero, (List.getElem?_eq_some_iff.1 hv).2]
        rw [hd] at h1
        cases fuel with
        | zero => simp [DataW.trod] at h1
        | succ fuel =>
          simp only [DataW.trod, hs] at h1
          split at h1
          · simp only [Option.some.injEq] at h1
            subst h1
            simp only [DataW.weights, hu] at hw
            have := List.all_eq_true.1 hw s.data.toList.length (DataW.weights_mem_each (t := f.type) (d := .lit (.string s.data.toList)) (j := i) (by rw [List.getElem?_map, hf]; rfl) (by rw [List.getElem?_map, h2]; rfl) _ (by simp [DataW.weights]))
            simpa using this
          · cases h1
    · cases h

/-- The texts in the fields of the arguments are as long as the form lets them be. -/
def Reached (P : Program) (ts : List TypeId) (tvs : List TV) : Prop :=
  ∀ (j : Nat) (t : TypeId) (tv : TV) (fs : Array Field) (i : Nat) (f : Field) (s : ByteArray), ts[j]? = some t → tvs[j]? = some tv → P.underlying t = some (.struct fs) → fs.toList[i]? = some f → P.underlying f.type = some .string → P.cellsOf f.type = 1 →
    tv.isAggV = true → tv.cells[f.offset]? = some (.str s) → s.size ≤ reachBytes

theorem trodAll_get {W : World} {sp : Nat → Bool} {b : Bool} {base : Nat} : ∀ {ts : List TypeId} {vs : List Value} {ds : List (DataW H)} {ps : List MemPlace}, DataW.TrodAll enc P W base sp b ts vs ds ps → ∀ {j : Nat} {t : TypeId} {v : Value}, ts[j]? = some t → vs[j]? = some v → ∃ x q, ds[j]? = some x ∧ DataW.Trod enc P W base sp b t v x q
  | [], [], [], _, _, j, t, v, e, _ => by simp at e
  | t0 :: ts, v0 :: vs, x0 :: ds, ps, h, j, t, v, e1, e2 => by
    obtain ⟨p, q, h1, h2, _⟩ := h
    cases j with
    | zero =>
      simp only [List.getElem?_cons_zero, Option.some.injEq] at e1 e2
      subst e1; subst e2
      exact ⟨x0, p, rfl, h1⟩
    | succ j => exact trodAll_get h2 (j := j) (by simpa using e1) (by simpa using e2)
  | [], _ :: _, _, _, h, _, _, _, _, _ => h.elim
  | [], [], _ :: _, _, h, _, _, _, _, _ => h.elim
  | _ :: _, [], _, _, h, _, _, _, _, _ => h.elim
  | _ :: _, _ :: _, [], _, h, _, _, _, _, _ => h.elim

theorem reached_of {W : World} {ts : List TypeId} {vs : List Value} {ds : List (DataW H)} {ps : List MemPlace} {tvs : List TV} (h : DataW.TrodAll enc P W 0 (fun _ => true) true ts vs ds ps) (hr : VRL (g0 W) [] tvs vs)
    (hw : (DataW.weightsEach P ts ds).all (· ≤ reachBytes) = true) : Reached P ts tvs := by
  intro j t tv fs i f s e1 e2 hu hf hs hc ha hx
  obtain ⟨v, e3, hv⟩ := hr.get e2
  obtain ⟨x, q, e4, h4⟩ := trodAll_get h e1 e3
  cases tv with
  | agg tcs =>
    simp only [VR] at hv
    obtain ⟨cs, rfl, hcs⟩ := hv
    obtain ⟨u, e5, h5⟩ := hcs.get hx
    simp only [VR] at h5
    subst h5
    refine field_reach h4 hu hf hs hc (by simpa [Value.cells] using e5) ?_
    exact List.all_eq_true.2 fun n hn => List.all_eq_true.1 hw n (DataW.weights_mem_each e1 e4 n hn)
  | _ => cases ha

/-- A law's contract as the row asks for it, the form's reach at hand. -/
theorem law_contract_sized {fn : Func} {s : ChangeSpec} {f : FuncId} {rt : TypeId} (d : Nat) (hlaid : laidOutB P = true) (hvars : s.vars = []) (hplv : s.plain.varTypes P = [])
    (hspec : ∀ ds : List (DataW H), ds.length = fn.params.toList.length → s.fn H ds = { results := [.lit (.bool true)], args := ds })
    (hplain : fn.params.toList.all (plainT (mkTab P) d) = true) (hread : (fn.params.toList.all fun t => P.readableRec t && decide (t < P.types.size)) = true)
    (hres : fn.resultTypes = #[rt]) (hrt : P.underlying rt = some .bool)
    (hcall : ∀ tvs, TyAll (mkTab P) d fn.params.toList tvs → Reached P fn.params.toList tvs → TCalls P f tvs [] fun tv _ => tv = .bool true)
    (W : World) (base : Nat) (args : Array Value) (ds gs : List (DataW H)) (before : List MemPlace)
    (hval : ∀ (j : Nat) t v, fn.params[j]? = some t → args[j]? = some v → Value.okWide P W .any base t v)
    (hW : DataW.Whole enc P fn.params.toList s.vars false W args.toList ds gs before)
    (hwt : (DataW.weightsEach P (fn.params.toList ++ s.plain.varTypes P) (ds ++ gs)).all (· ≤ reachBytes) = true) :
    Calls P f args W fun e W' => ∃ v, e = .returned v ∧ s.post enc P fn false true false false W args v W' := by
  have hW' := hW
  obtain ⟨p, q, hA, hV, rfl, hfz, hnd⟩ := hW
  have hV' := hV
  rw [hvars] at hV'
  obtain ⟨rfl, rfl⟩ := trodVars_none hV'
  rw [hplv, List.append_nil, List.append_nil] at hwt
  obtain ⟨tvs, hvr, hty⟩ := open_all hplain (fun j t v e1 e2 => hval j t v (by rw [← Array.getElem?_toList]; exact e1) (by rw [← Array.getElem?_toList]; exact e2)) hA
  refine ((hcall tvs hty (reached_of hA hvr hwt)).2 (g0 W) W args (g0_WR W) hvr).mono fun e W' hq => ?_
  obtain ⟨v, tv, σ', g', rfl, hx, hw, hv, rfl⟩ := hq
  simp only [VR] at hv; subst hv
  have hbel : Below W.heap.size W W' := by have := hw.below; rw [hx.w0] at this; exact this
  obtain ⟨qs, hargs⟩ := shut_all (enc := enc) hlaid hbel hread hA
  have hsp : s.fn H (ds ++ []) = { results := [.lit (.bool true)], args := ds } := by
    rw [List.append_nil]
    exact hspec ds (trodAll_lengths hA)
  refine ⟨_, rfl, ds, [], _, [], qs, [], hW', ?_, ?_, ?_, hbel.frame _, fun h => by cases h⟩
  · rw [hsp, hres]
    exact trodAll_mk1 (shut_bool hrt true)
  · rw [hsp]; exact hargs
  · rw [hsp, hvars]; rfl
end
end Go.TM

/- The T-machine, part 31: slices that are written out whole. -/
set_option linter.unusedVariables false
set_option linter.unusedSimpArgs false
namespace Go.TM

/-- Things with their places. -/
def numbered : Nat → List TV → List (Nat × TV)
  | _, [] => []
  | k, v :: vs => (k, v) :: numbered (k + 1) vs

theorem fill_all {sz n : Nat} : ∀ (vs : List TV) (k : Nat) (cs rest : List TV), cs.length = k * sz → rest.length = vs.length * sz → (∀ v ∈ vs, v.cells.length = sz) →
    tfill (fun i => some (i * sz, sz)) (cs ++ rest) (numbered k vs) = some (cs ++ vs.flatMap TV.cells)
  | [], k, cs, rest, hc, hr, hv => by
    have : rest = [] := List.eq_nil_of_length_eq_zero (by simpa using hr)
    subst this
    simp [numbered, tfill]
  | v :: vs, k, cs, rest, hc, hr, hv => by
    have h1 := hv v (by simp)
    simp only [List.length_cons, Nat.add_mul, Nat.one_mul] at hr
    simp only [numbered, tfill]
    rw [if_pos ⟨h1, by rw [List.length_append, hc, hr]; omega⟩]
    have hs : splice (cs ++ rest) (k * sz) v.cells = (cs ++ v.cells) ++ rest.drop sz := by
      unfold splice
      rw [← hc, List.take_left' rfl, List.drop_append, List.drop_eq_nil_of_le (by omega)]
      simp [h1]
    rw [hs, fill_all (n := n) vs (k + 1) (cs ++ v.cells) (rest.drop sz) (by rw [List.length_append, hc, h1, Nat.add_mul, Nat.one_mul]) (by rw [List.length_drop]; omega) fun w hw => hv w (by simp [hw])]
    simp

/-- A slice that is written out whole. -/
theorem build_all {T : Tab} {σ : TS} {t e : TypeId} {i j : TI} {z : TV} (hT : T t = some i) (hk : i.k = .slice e) (hE : T e = some j) (hz : j.zero = some z) (hzl : z.cells.length = j.size) (hz0 : 0 < j.size) (vs : List TV)
    (hv : ∀ v ∈ vs, v.cells.length = j.size ∧ v.cells.all TV.one = true) (hb : vs.length * j.size ≤ 16777216) (want : Bool) :
    tbuildSlice T want σ t vs.length (numbered 0 vs) = some (tright want σ vs.length j.size (vs.flatMap TV.cells)) := by
  unfold tbuildSlice
  simp only [hT, hk, hE, hz]
  have hne : z.cells ≠ [] := fun e => by rw [e] at hzl; simp at hzl; omega
  rw [if_pos ⟨hb, hne⟩]
  have h := fill_all (sz := j.size) (n := 0) vs 0 [] (rowZero z.cells (vs.length * j.size)) (by simp) (by simp [rowZero]) fun v h => (hv v h).1
  rw [List.nil_append, List.nil_append] at h
  rw [h]
  have hone : (vs.flatMap TV.cells).all TV.one = true := by
    rw [List.all_eq_true]
    intro x hx
    obtain ⟨v, h1, h2⟩ := List.mem_flatMap.1 hx
    exact List.all_eq_true.1 (hv v h1).2 x h2
  simp only [hone, if_true]

end Go.TM
