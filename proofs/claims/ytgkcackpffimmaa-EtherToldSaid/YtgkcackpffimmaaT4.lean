/- The T-machine, part 4: the operations on trees, and that each does what the model's operation does. -/
import Derived.Test.YtgkcackpffimmaaT3
set_option linter.unusedVariables false
set_option linter.unusedSimpArgs false
namespace Go.TM
open Go.RowKit (Below)

/-- A value is made, and the world goes on. -/
def ValOk (P : Program) (g : G) (σ : TS) (w : World) (s : Sem Value) (tv : TV) (σ' : TS) : Prop :=
  ∃ g' w' v, s.run P w = .ok v w' ∧ Ext g σ g' σ' ∧ WR g' σ' w' ∧ VR g' σ' tv v

theorem ValOk.same {P : Program} {g : G} {σ : TS} {w : World} {s : Sem Value} {tv : TV} (hw : WR g σ w) {v : Value} (hr : s.run P w = .ok v w) (hv : VR g σ tv v) : ValOk P g σ w s tv σ :=
  ⟨g, w, v, hr, Ext.refl _ _, hw, hv⟩

/- new cells of the small heap -/
theorem newCells_ok {P : Program} {g : G} {σ : TS} {w : World} (hw : WR g σ w) (t : TypeId) (c : Array Value) (cs : List TV) (hc : VRL g σ cs c.toList) (h1 : cs.all TV.one = true) :
    ValOk P g σ w (do pure (.pointer (some (← newRow t c)))) (.ptr σ.length 0) (σ ++ [.cells cs]) := by
  have hb : Below w.heap.size w (w.alloc (.cells c t)) := (Below.refl _ _).alloc (Nat.le_refl _) _
  have ho := hw.newLoc (b := w.heap.size) (o := .cells cs) hb (Nat.le_refl _) (by simp)
    ⟨c, t, (0, 0), c.toList, [], heap_alloc_new w _, by simp, by intro o _; simp, hc.one h1, ?_⟩
  · exact ⟨_, _, .pointer (some ⟨w.heap.size, 0, none⟩), by simp [newRow], ho.2, ho.1, by simp only [VR]; exact ⟨_, upd_same _ _ _, rfl⟩⟩
  · refine VRL.mono ?_ _ _ hc
    exact Ext.push rfl (fun l x e => by show upd _ _ _ _ = _; rw [upd_ne _ _ (by have := (hw.new l x e).2.2; omega)]; exact e) (fun _ _ _ h => h) (fun _ _ => rfl) (fun l hl => upd_ne _ _ (by omega))

def tbox (σ : TS) (v : TV) : Option (TV × TS) := if v.cells.all TV.one then some (.ptr σ.length 0, σ ++ [.cells v.cells]) else none

theorem tbox_ok {P : Program} {g : G} {σ σ' : TS} {w : World} (hw : WR g σ w) {t : TypeId} {tv r : TV} {v : Value} (hv : VR g σ tv v) (h : tbox σ tv = some (r, σ')) :
    ValOk P g σ w (Instr.box t v) r σ' := by
  unfold tbox at h
  split at h
  · rename_i h1
    cases h
    exact newCells_ok hw t v.cells tv.cells hv.cells h1
  · cases h

def talloc (T : Tab) (σ : TS) (t : TypeId) : Option (TV × TS) := ((T t).bind (·.zero)).bind (tbox σ)

theorem talloc_ok {P : Program} {g : G} {σ σ' : TS} {w : World} (hw : WR g σ w) {t : TypeId} {r : TV} (h : talloc (mkTab P) σ t = some (r, σ')) :
    ValOk P g σ w (Instr.alloc t true (.tuple #[])) r σ' := by
  unfold talloc at h
  cases hi : mkTab P t with
  | none => simp [hi] at h
  | some i =>
    cases hz : i.zero with
    | none => simp [hi, hz] at h
    | some z =>
      simp only [hi, hz, Option.bind_some] at h
      obtain ⟨zv, hr, hc, _⟩ := zero_run hi hz w
      obtain ⟨g', w', v, h1, h2⟩ := tbox_ok (P := P) hw (t := t) (constV_sound (g := g) (σ := σ) hc) h
      refine ⟨g', w', v, ?_, h2⟩
      simp only [Instr.alloc, Sem.run_bind, hr, Result.andThen_ok]
      simpa [Instr.box, newVar] using h1

/- building of structs and arrays -/
theorem VRL.splice {g : G} {σ : TS} {cs xs : List TV} {us vs : List Value} {off : Nat} (h : VRL g σ cs us) (k : VRL g σ xs vs) :
    VRL g σ (splice cs off xs) (us.take off ++ vs ++ us.drop (off + vs.length)) := by
  unfold TM.splice
  rw [k.length]
  exact ((h.take off).append k).append (h.drop _)

theorem foldl_set (off : Nat) : ∀ (vs : List Value) (k : Nat) (cs : Array Value), off + k + vs.length ≤ cs.size →
    ((vs.zipIdx k).foldl (fun (cs : Array Value) (x : Value × Nat) => cs.setIfInBounds (off + x.2) x.1) cs).toList = cs.toList.take (off + k) ++ vs ++ cs.toList.drop (off + k + vs.length)
  | [], k, cs, _ => by simp
  | v :: vs, k, cs, h => by
    simp only [List.zipIdx_cons, List.foldl_cons, List.length_cons] at h ⊢
    rw [foldl_set off vs (k + 1) _ (by simp; omega)]
    have h1 : (cs.setIfInBounds (off + k) v).toList = cs.toList.set (off + k) v := by simp
    rw [h1]
    have e1 : List.take (off + (k + 1)) (cs.toList.set (off + k) v) = cs.toList.take (off + k) ++ [v] := by
      rw [show off + (k + 1) = (off + k) + 1 by omega, List.take_succ_eq_append_getElem (by simp; omega)]
      simp [List.take_set_of_le]
    have e2 : List.drop (off + (k + 1) + vs.length) (cs.toList.set (off + k) v) = cs.toList.drop (off + k + (vs.length + 1)) := by
      rw [List.drop_set_of_lt (by omega)]
      congr 1
      omega
    rw [e1, e2]
    simp

def tfill (place : Nat → Option (Nat × Nat)) (cells : List TV) : List (Nat × TV) → Option (List TV)
  | [] => some cells
  | (i, v) :: rest =>
    match place i with
    | none => none
    | some (off, size) => if v.cells.length = size ∧ off + size ≤ cells.length then tfill place (splice cells off v.cells) rest else none

def PartsR (g : G) (σ : TS) : List (Nat × TV) → List (Nat × Value) → Prop
  | [], vs => vs = []
  | x :: xs, vs => ∃ v rest, vs = v :: rest ∧ v.1 = x.1 ∧ VR g σ x.2 v.2 ∧ PartsR g σ xs rest

theorem splice_length {cs xs : List TV} {off : Nat} (h : off + xs.length ≤ cs.length) : (splice cs off xs).length = cs.length := by
  unfold splice; simp; omega

theorem fill_ok {g : G} {σ : TS} (place : Nat → Option (Nat × Nat)) : ∀ (ps : List (Nat × TV)) (vs : List (Nat × Value)) (cs : List TV) (us : Array Value) (r : List TV), PartsR g σ ps vs → VRL g σ cs us.toList →
    tfill place cs ps = some r → ∃ ur, Instr.fill place us vs = some ur ∧ VRL g σ r ur.toList
  | [], _, cs, us, r, hp, hc, h => by
    simp only [PartsR] at hp; subst hp
    cases h
    exact ⟨us, rfl, hc⟩
  | (i, tv) :: ps, _, cs, us, r, hp, hc, h => by
    simp only [PartsR] at hp
    obtain ⟨⟨j, v⟩, rest, rfl, rfl, hv, hr⟩ := hp
    simp only [tfill] at h
    simp only [Instr.fill]
    split at h
    · cases h
    · rename_i off size hpl
      simp only [hpl]
      split at h
      · rename_i hcond
        have hl := hv.cells.length
        have hcl := hc.length
        simp only [Array.length_toList] at hl hcl
        have h1 : (decide (v.cells.size ≠ size) || decide (off + v.cells.size > us.size)) = false := by
          simp; omega
        rw [if_neg (by rw [h1]; simp)]
        refine fill_ok place ps rest _ _ r hr ?_ h
        have := foldl_set off v.cells.toList 0 us (by simp; omega)
        simp only [Nat.add_zero] at this
        rw [← Array.foldl_toList, Array.toList_zipIdx, this]
        exact hc.splice hv.cells
      · cases h

def tplaces (T : Tab) : List (TypeId × Nat) → Option (List (Nat × Nat))
  | [] => some []
  | (t, off) :: r => match T t, tplaces T r with
    | some i, some ps => some ((off, i.size) :: ps)
    | _, _ => none

theorem tplaces_run {P : Program} : ∀ (fs : List Field) (ps : List (Nat × Nat)), tplaces (mkTab P) (fs.map fun f => (f.type, f.offset)) = some ps → ∀ w,
    (fs.mapM fun f => Prod.mk f.offset <$> sizeOf f.type).run P w = .ok ps w
  | [], ps, h, w => by simp only [List.map_nil, tplaces] at h; cases h; simp
  | f :: fs, ps, h, w => by
    simp only [List.map_cons, tplaces] at h
    split at h
    · rename_i i qs h1 h2
      cases h
      simp only [List.mapM_cons, Sem.run_bind, Sem.run_map, sizeOf_run h1, Result.andThen_ok, tplaces_run fs qs h2, Sem.run_pure]
    · cases h

def tbuild (T : Tab) (t : TypeId) (ps : List (Nat × TV)) : Option TV :=
  match T t with
  | none => none
  | some i =>
    match i.zero, i.k with
    | some (.agg zs), .struct fs _ => match tplaces T fs with
      | some pl => (tfill (pl[·]?) zs ps).map .agg
      | none => none
    | some (.agg zs), .arr _ e => match T e with
      | some j => (tfill (fun i => some (i * j.size, j.size)) zs ps).map .agg
      | none => none
    | _, _ => none

theorem constV_agg {v : Value} {zs : List TV} (h : constV v = some (.agg zs)) : ∃ us, v = .agg us ∧ const1L us.toList = some zs := by
  unfold constV at h
  split at h
  · rename_i cs
    cases hc : const1L cs.toList with
    | none => simp [hc] at h
    | some xs =>
      simp [hc] at h
      subst h
      exact ⟨cs, rfl, hc⟩
  · unfold const1 at h
    split at h <;> first | (cases h; done) | (split at h <;> cases h)

theorem tbuild_run {P : Program} {g : G} {σ : TS} {t : TypeId} {ps : List (Nat × TV)} {vs : Array (Nat × Value)} {tv : TV} (hp : PartsR g σ ps vs.toList)
    (h : tbuild (mkTab P) t ps = some tv) (w : World) : ∃ v, (Instr.build t vs).run P w = .ok v w ∧ VR g σ tv v := by
  unfold tbuild at h
  split at h
  · cases h
  · rename_i i hi
    obtain ⟨info, d, k1, k2, k3, k4, k5, k6, k7⟩ := mkTab_sound hi
    split at h
    · rename_i zs fs _ hz hk
      split at h
      · rename_i pl hpl
        cases hf : tfill (pl[·]?) zs ps with
        | none => simp [hf] at h
        | some r =>
          simp [hf] at h; subst h
          obtain ⟨zv, hzr, hzc, _⟩ := zero_run hi hz w
          obtain ⟨us, rfl, hus⟩ := constV_agg hzc
          obtain ⟨ur, hfill, hur⟩ := fill_ok (g := g) (σ := σ) _ ps vs.toList zs us r hp (const1L_sound hus) hf
          rw [k3] at hk
          cases d <;> simp only [TK.of] at hk <;> first | (cases hk; done) | skip
          rename_i fields
          cases hk
          have hrun := tplaces_run fields.toList pl hpl w
          refine ⟨.agg ur, ?_, by simp only [VR]; exact ⟨ur, rfl, hur⟩⟩
          have hfun : (fun x : Nat => (pl.toArray)[x]?) = fun x => pl[x]? := by funext x; simp
          simp [Instr.build, hzr, run_underlying k2, Array.mapM_eq_mapM_toList, hrun, Value.cells, hfill]
      · cases h
    · rename_i zs n e hz hk
      split at h
      · rename_i j hj
        cases hf : tfill (fun i => some (i * j.size, j.size)) zs ps with
        | none => simp [hf] at h
        | some r =>
          simp [hf] at h; subst h
          obtain ⟨zv, hzr, hzc, _⟩ := zero_run hi hz w
          obtain ⟨us, rfl, hus⟩ := constV_agg hzc
          obtain ⟨ur, hfill, hur⟩ := fill_ok (g := g) (σ := σ) _ ps vs.toList zs us r hp (const1L_sound hus) hf
          rw [k3] at hk
          cases d <;> simp only [TK.of] at hk <;> first | (cases hk; done) | skip
          rename_i n' e'
          cases hk
          refine ⟨.agg ur, ?_, by simp only [VR]; exact ⟨ur, rfl, hur⟩⟩
          simp [Instr.build, hzr, run_underlying k2, sizeOf_run hj, Value.cells, hfill]
      · cases h
    · cases h

/- slices written out: trees from the first, and, where it is wanted, a right to append -/
def rowZero (z : List TV) (n : Nat) : List TV := (List.range n).map fun i => z.getD (i % z.length) .nilp

def tright (want : Bool) (σ : TS) (len sz : Nat) (cs : List TV) : TV × TS := if want then (.sl (some (σ.length, len)) len cs, σ ++ [.right len sz]) else (.sl none len cs, σ)

theorem VRL.ofGet {g : G} {σ : TS} : ∀ {xs : List TV} {vs : List Value}, vs.length = xs.length → (∀ (i : Nat) (x : TV) (v : Value), xs[i]? = some x → vs[i]? = some v → VR g σ x v) → VRL g σ xs vs
  | [], vs, h, _ => by simp only [VRL]; exact List.eq_nil_of_length_eq_zero (by simpa using h)
  | x :: xs, [], h, _ => by simp at h
  | x :: xs, v :: vs, h, k => by
    simp only [VRL]
    exact ⟨v, vs, rfl, k 0 x v (by simp) (by simp), VRL.ofGet (by simpa using h) fun i y u hy hu => k (i + 1) y u (by simpa using hy) (by simpa using hu)⟩

theorem VR_default {g : G} {σ : TS} {z : List TV} {us : List Value} (h : VRL g σ z us) (hz : z ≠ []) (i : Nat) : ∃ v, us[i % us.length]? = some v ∧ VR g σ (z.getD (i % z.length) .nilp) v := by
  have hl := h.length
  have hp : 0 < z.length := List.length_pos_iff.2 hz
  have hlt : i % z.length < z.length := Nat.mod_lt _ hp
  obtain ⟨v, hv, hr⟩ := h.get (i := i % z.length) (x := z[i % z.length]) (List.getElem?_eq_getElem hlt)
  refine ⟨v, by rw [hl]; exact hv, ?_⟩
  rw [List.getD_eq_getElem?_getD, List.getElem?_eq_getElem hlt]
  exact hr

/-- A new row whose first cells stay, with what lies behind them spare. -/
theorem newRow_ok {P : Program} {g : G} {σ : TS} {w w' : World} {b : Nat} (hw : WR g σ w) (want : Bool) (hb : Below w.heap.size w w') (h1 : w.heap.size ≤ b) (h2 : b < w'.heap.size)
    (cs : List TV) (vs : List Value) (hc : VRL g σ cs vs) (hone : cs.all TV.one = true) (hr : w'.rangeAt b 0 vs) (len cap sz : Nat) (hle : len ≤ cap)
    (hsp : ∀ j, j < (cap - len) * sz → (w'.cell? ⟨b, vs.length + j, none⟩).isSome = true ∧ w'.frozen? ⟨b, vs.length + j, none⟩ = false) :
    ∃ g', WR g' (tright want σ len sz cs).2 w' ∧ Ext g σ g' (tright want σ len sz cs).2 ∧ VR g' (tright want σ len sz cs).2 (tright want σ len sz cs).1 (.slice (some ⟨b, 0, none⟩) len cap) := by
  obtain ⟨k1, k2, k3⟩ := hw.newKept hb h1 hr (hc.one hone)
  cases want with
  | false =>
    refine ⟨_, k1, k2, ?_⟩
    simp only [tright, VR, Bool.false_eq_true, if_false]
    exact ⟨_, cap, vs, rfl, hle, k3, .inl rfl, VRL.mono k2 _ _ hc, trivial⟩
  | true =>
    have h0 := hw.below.size
    have hfr : ∀ l, g.ρ l ≠ some b := fun l e => by have := (hw.new l b e).2.1; omega
    have hom : ∀ t e n, g.ω t ≠ some (b, e, n) := fun t e n e' => by have := (hw.tok t b e n e').2.1; omega
    obtain ⟨m1, m2⟩ := k1.newRight (b := b) (e := vs.length) (n := cap - len) (sz := sz) (k := len) (Nat.le_trans h0 h1) h2 hfr hom (fun j hj => by
      refine ⟨?_, hsp j hj⟩
      show keepRow _ _ _ _ _ = _
      unfold keepRow
      simp)
    refine ⟨_, m1, k2.trans m2, ?_⟩
    simp only [tright, VR, if_true]
    refine ⟨_, cap, vs, rfl, hle, k3.mono m2, .inl rfl, VRL.mono (k2.trans m2) _ _ hc, ?_⟩
    refine ⟨len, sz, by simp, Nat.le_refl _, fun _ => ⟨b, vs.length, upd_same _ _ _, fun _ => ⟨rfl, by simp, rfl⟩⟩⟩

def tbuildSlice (T : Tab) (want : Bool) (σ : TS) (t : TypeId) (len : Nat) (ps : List (Nat × TV)) : Option (TV × TS) :=
  match T t with
  | none => none
  | some i => match i.k with
    | .slice e => match T e with
      | some j => match j.zero with
        | some z => if len * j.size ≤ 2 ^ 24 ∧ z.cells ≠ [] then match tfill (fun i => some (i * j.size, j.size)) (rowZero z.cells (len * j.size)) ps with
            | some cs => if cs.all TV.one then some (tright want σ len j.size cs) else none
            | none => none
          else none
        | none => none
      | none => none
    | _ => none

theorem rangeAt_alloc (w : World) (c : Array Value) (t : TypeId) (fz : Nat × Nat) (vs : List Value) (h : ∀ (i : Nat) (v : Value), vs[i]? = some v → c[i]? = some v) : (w.alloc (.cells c t fz)).rangeAt w.heap.size 0 vs := by
  intro j v e
  rw [cell_of_heap (heap_alloc_new w (.cells c t fz)), Nat.zero_add]
  exact h j v e

theorem tbuildSlice_ok {P : Program} {g : G} {σ σ' : TS} {w : World} (hw : WR g σ w) {want : Bool} {t : TypeId} {len : Nat} {ps : List (Nat × TV)} {vs : Array (Nat × Value)} {tv : TV} (hp : PartsR g σ ps vs.toList)
    (h : tbuildSlice (mkTab P) want σ t len ps = some (tv, σ')) : ValOk P g σ w (Instr.buildSlice t len vs) tv σ' := by
  unfold tbuildSlice at h
  split at h
  · cases h
  · rename_i i hi
    obtain ⟨info, d, k1, k2, k3, k4, k5, k6, k7⟩ := mkTab_sound hi
    split at h
    · rename_i e hk
      split at h
      · rename_i j hj
        split at h
        · rename_i z hz
          split at h
          · rename_i hcond
            split at h
            · rename_i cs hf
              split at h
              · rename_i hone
                have h' := Option.some.inj h
                obtain rfl : tv = (tright want σ len j.size cs).1 := by rw [h']
                obtain rfl : σ' = (tright want σ len j.size cs).2 := by rw [h']
                obtain ⟨zv, hzr, hzc, _⟩ := zero_run hj hz w
                have hzv := (constV_sound (g := g) (σ := σ) hzc).cells
                rw [k3] at hk
                cases d <;> simp only [TK.of] at hk <;> first | (cases hk; done) | skip
                cases hk
                have hbase : VRL g σ (rowZero z.cells (len * j.size)) ((Array.range (len * j.size)).map fun x => zv.cells[x % zv.cells.size]!).toList := by
                  refine VRL.ofGet (by simp [rowZero]) fun i x v hx hv => ?_
                  simp only [rowZero, List.getElem?_map] at hx
                  simp only [Array.toList_map, List.getElem?_map, Array.toList_range] at hv
                  cases hq : (List.range (len * j.size))[i]? with
                  | none => simp [hq] at hx
                  | some y =>
                    simp only [hq, Option.map_some, Option.some.injEq] at hx hv
                    subst hx
                    obtain ⟨u, hu, hr⟩ := VR_default hzv hcond.2 y
                    simp only [Array.length_toList] at hu
                    rw [getElem!_def, ← Array.getElem?_toList, hu] at hv
                    subst hv
                    exact hr
                obtain ⟨ur, hfill, hur⟩ := fill_ok (g := g) (σ := σ) _ ps vs.toList _ _ cs hp hbase hf
                have hlen : cs.length = ur.size := by have := hur.length; simpa using this.symm
                obtain ⟨g', q1, q2, q3⟩ := newRow_ok (P := P) (b := w.heap.size) hw want ((Below.refl _ _).alloc (Nat.le_refl _) (.cells ur e)) (Nat.le_refl _) (by simp) cs ur.toList hur hone
                  (rangeAt_alloc w ur e (0, 0) ur.toList (fun i v h => by simpa using h)) len len j.size (Nat.le_refl _) (fun x hx => by simp at hx)
                refine ⟨g', _, _, ?_, q2, q1, q3⟩
                have hn : ¬ (len * j.size > 2 ^ 24) := by omega
                by_cases h0 : len * j.size = 0
                · rw [h0] at hfill
                  have e0 : ∀ f : Nat → Value, (Array.range 0).map f = #[] := fun f => by simp
                  rw [e0] at hfill
                  simp only [Instr.buildSlice, Sem.run_bind, run_underlying k2, sizeOf_run hj, Result.andThen_ok, hn, if_false, h0, if_true, Sem.run_pure, e0, hfill, newRow, run_newObj, World.alloc_eq]
                  simp
                · simp only [Instr.buildSlice, Sem.run_bind, run_underlying k2, sizeOf_run hj, Result.andThen_ok, hn, if_false, h0, Sem.run_pure, hzr, hfill, newRow, run_newObj, World.alloc_eq]
              · cases h
            · cases h
          · cases h
        · cases h
      · cases h
    · cases h

end Go.TM
