/- The T-machine, part 28: a law's row where the walk needs the form's own reach: how long a text in an argument may be. -/
import Derived.SizedLaws
import Derived.Test.YtgkcackpffimmaaT27
set_option linter.unusedVariables false
namespace Go.TM
open Go.RowKit (Below shut_bool)
open Go.ChangeShapes

section
variable {P : Program} {H : Type} {enc : TypeId × Value → H}

/-- A text that is a struct's field, in a value that the form's reach bounds. -/
theorem field_reach {W : World} {t : TypeId} {v : Value} {x : DataW H} {ps : List MemPlace} {fs : Array Field} {i : Nat} {f : Field} {s : ByteArray}
    (h : DataW.Trod enc P W 0 (fun _ => true) true t v x ps) (hu : P.underlying t = some (.struct fs)) (hf : fs.toList[i]? = some f) (hs : P.underlying f.type = some .string) (hc : P.cellsOf f.type = 1)
    (hv : v.cells.toList[f.offset]? = some (.string s)) (hw : (x.weights P t).all (· ≤ reachBytes) = true) : s.size ≤ reachBytes := by
  obtain ⟨fuel, h⟩ := h
  cases fuel with
  | zero => simp [DataW.trod] at h
  | succ fuel =>
    simp only [DataW.trod, hu] at h
    split at h
    · cases hm : fs.toList.mapM (fun f => DataW.trod enc P W 0 (fun _ => true) true fuel f.type ((v.cells.toList.drop f.offset).take (P.cellsOf f.type))) with
      | none => simp [hm] at h
      | some xs =>
        simp only [hm, Option.map_some, Option.some.injEq, Prod.mk.injEq] at h
        obtain ⟨rfl, _⟩ := h
        obtain ⟨b, h1, h2⟩ := mapM_get hm hf
        have hlt : f.offset < v.cells.toList.length := (List.getElem?_eq_some_iff.1 hv).1
        have hd : (v.cells.toList.drop f.offset).take (P.cellsOf f.type) = [.string s] := by
          rw [hc, List.drop_eq_getElem_cons hlt, List.take_succ_cons, List.take_zero, (List.getElem?_eq_some_iff.1 hv).2]
        rw [hd] at h1
        cases fuel with
        | zero => simp [DataW.trod] at h1
        | succ fuel =>
          simp only [DataW.trod, hs] at h1
          split at h1
          · simp only [Option.some.injEq] at h1
            subst h1
            simp only [DataW.weights, hu] at hw
            have := List.all_eq_true.1 hw s.data.toList.length (DataW.weights_mem_each (t := f.type) (d := .lit (.string s.data.toList)) (j := i) (by rw [List.getElem?_map, hf]; rfl) (by rw [List.getElem?_map, h2]; rfl) _ (by simp [DataW.weights]))
            simpa using this
          · cases h1
    · cases h

/-- The texts in the fields of the arguments are as long as the form lets them be. -/
def Reached (P : Program) (ts : List TypeId) (tvs : List TV) : Prop :=
  ∀ (j : Nat) (t : TypeId) (tv : TV) (fs : Array Field) (i : Nat) (f : Field) (s : ByteArray), ts[j]? = some t → tvs[j]? = some tv → P.underlying t = some (.struct fs) → fs.toList[i]? = some f → P.underlying f.type = some .string → P.cellsOf f.type = 1 →
    tv.isAggV = true → tv.cells[f.offset]? = some (.str s) → s.size ≤ reachBytes

theorem trodAll_get {W : World} {sp : Nat → Bool} {b : Bool} {base : Nat} : ∀ {ts : List TypeId} {vs : List Value} {ds : List (DataW H)} {ps : List MemPlace}, DataW.TrodAll enc P W base sp b ts vs ds ps → ∀ {j : Nat} {t : TypeId} {v : Value}, ts[j]? = some t → vs[j]? = some v → ∃ x q, ds[j]? = some x ∧ DataW.Trod enc P W base sp b t v x q
  | [], [], [], _, _, j, t, v, e, _ => by simp at e
  | t0 :: ts, v0 :: vs, x0 :: ds, ps, h, j, t, v, e1, e2 => by
    obtain ⟨p, q, h1, h2, _⟩ := h
    cases j with
    | zero =>
      simp only [List.getElem?_cons_zero, Option.some.injEq] at e1 e2
      subst e1; subst e2
      exact ⟨x0, p, rfl, h1⟩
    | succ j => exact trodAll_get h2 (j := j) (by simpa using e1) (by simpa using e2)
  | [], _ :: _, _, _, h, _, _, _, _, _ => h.elim
  | [], [], _ :: _, _, h, _, _, _, _, _ => h.elim
  | _ :: _, [], _, _, h, _, _, _, _, _ => h.elim
  | _ :: _, _ :: _, [], _, h, _, _, _, _, _ => h.elim

theorem reached_of {W : World} {ts : List TypeId} {vs : List Value} {ds : List (DataW H)} {ps : List MemPlace} {tvs : List TV} (h : DataW.TrodAll enc P W 0 (fun _ => true) true ts vs ds ps) (hr : VRL (g0 W) [] tvs vs)
    (hw : (DataW.weightsEach P ts ds).all (· ≤ reachBytes) = true) : Reached P ts tvs := by
  intro j t tv fs i f s e1 e2 hu hf hs hc ha hx
  obtain ⟨v, e3, hv⟩ := hr.get e2
  obtain ⟨x, q, e4, h4⟩ := trodAll_get h e1 e3
  cases tv with
  | agg tcs =>
    simp only [VR] at hv
    obtain ⟨cs, rfl, hcs⟩ := hv
    obtain ⟨u, e5, h5⟩ := hcs.get hx
    simp only [VR] at h5
    subst h5
    refine field_reach h4 hu hf hs hc (by simpa [Value.cells] using e5) ?_
    exact List.all_eq_true.2 fun n hn => List.all_eq_true.1 hw n (DataW.weights_mem_each e1 e4 n hn)
  | _ => cases ha

/-- A law's contract as the row asks for it, the form's reach at hand. -/
theorem law_contract_sized {fn : Func} {s : ChangeSpec} {f : FuncId} {rt : TypeId} (d : Nat) (hlaid : laidOutB P = true) (hvars : s.vars = []) (hplv : s.plain.varTypes P = [])
    (hspec : ∀ ds : List (DataW H), ds.length = fn.params.toList.length → s.fn H ds = { results := [.lit (.bool true)], args := ds })
    (hplain : fn.params.toList.all (plainT (mkTab P) d) = true) (hread : (fn.params.toList.all fun t => P.readableRec t && decide (t < P.types.size)) = true)
    (hres : fn.resultTypes = #[rt]) (hrt : P.underlying rt = some .bool)
    (hcall : ∀ tvs, TyAll (mkTab P) d fn.params.toList tvs → Reached P fn.params.toList tvs → TCalls P f tvs [] fun tv _ => tv = .bool true)
    (W : World) (base : Nat) (args : Array Value) (ds gs : List (DataW H)) (before : List MemPlace)
    (hval : ∀ (j : Nat) t v, fn.params[j]? = some t → args[j]? = some v → Value.okWide P W .any base t v)
    (hW : DataW.Whole enc P fn.params.toList s.vars false W args.toList ds gs before)
    (hwt : (DataW.weightsEach P (fn.params.toList ++ s.plain.varTypes P) (ds ++ gs)).all (· ≤ reachBytes) = true) :
    Calls P f args W fun e W' => ∃ v, e = .returned v ∧ s.post enc P fn false true false false W args v W' := by
  have hW' := hW
  obtain ⟨p, q, hA, hV, rfl, hfz, hnd⟩ := hW
  have hV' := hV
  rw [hvars] at hV'
  obtain ⟨rfl, rfl⟩ := trodVars_none hV'
  rw [hplv, List.append_nil, List.append_nil] at hwt
  obtain ⟨tvs, hvr, hty⟩ := open_all hplain (fun j t v e1 e2 => hval j t v (by rw [← Array.getElem?_toList]; exact e1) (by rw [← Array.getElem?_toList]; exact e2)) hA
  refine ((hcall tvs hty (reached_of hA hvr hwt)).2 (g0 W) W args (g0_WR W) hvr).mono fun e W' hq => ?_
  obtain ⟨v, tv, σ', g', rfl, hx, hw, hv, rfl⟩ := hq
  simp only [VR] at hv; subst hv
  have hbel : Below W.heap.size W W' := by have := hw.below; rw [hx.w0] at this; exact this
  obtain ⟨qs, hargs⟩ := shut_all (enc := enc) hlaid hbel hread hA
  have hsp : s.fn H (ds ++ []) = { results := [.lit (.bool true)], args := ds } := by
    rw [List.append_nil]
    exact hspec ds (trodAll_lengths hA)
  refine ⟨_, rfl, ds, [], _, [], qs, [], hW', ?_, ?_, ?_, hbel.frame _, fun h => by cases h⟩
  · rw [hsp, hres]
    exact trodAll_mk1 (shut_bool hrt true)
  · rw [hsp]; exact hargs
  · rw [hsp, hvars]; rfl
end
end Go.TM
