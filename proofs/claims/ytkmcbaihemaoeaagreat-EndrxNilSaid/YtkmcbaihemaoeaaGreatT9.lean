/- The T-machine, part 29 (it stands ahead of part 9): going through maps. -/
import Derived.Test.YtkmcbaihemaoeaaGreatT18
import Derived.Maps.RangeRun
set_option linter.unusedVariables false
set_option linter.unusedSimpArgs false
namespace Go.TM
open Go.RowKit (Below)

/-- A map is gone through. -/
def trange (T : Tab) (σ : TS) (t : TypeId) (x : TV) : Option (TV × TS) :=
  match T t with
  | some i => match i.k, x with
    | .map _ _, .nilm => some (.ptr σ.length 0, σ ++ [.iter none 0 #[] 0])
    | .map _ _, .map l => match σ[l]? with
      | some (.map es c) => some (.ptr σ.length 0, σ ++ [.iter (some l) c #[] c])
      | _ => none
    | _, _ => none
  | none => none

theorem newIter_ok {P : Program} {g : G} {σ : TS} {w : World} (hw : WR g σ w) (m : Option Nat) (m' : Option Nat) (since : Nat) (seen : Array Nat) (stepped : Nat)
    (hm : match m with | none => m' = none | some l => ∃ mb, g.ρ l = some mb ∧ m' = some mb) :
    ValOk P g σ w (do pure (.pointer (some ⟨← newObj (.mapIter m' since seen stepped), 0, none⟩))) (.ptr σ.length 0) (σ ++ [.iter m since seen stepped]) := by
  have hb : Below w.heap.size w (w.alloc (.mapIter m' since seen stepped)) := (Below.refl _ _).alloc (Nat.le_refl _) _
  have h := hw.newLoc (b := w.heap.size) (o := .iter m since seen stepped) hb (Nat.le_refl _) (by simp) (by
    refine ⟨m', heap_alloc_new w _, ?_⟩
    cases m with
    | none => exact hm
    | some l =>
      obtain ⟨mb, h1, h2⟩ := hm
      refine ⟨mb, ?_, h2⟩
      show upd _ _ _ _ = _
      rw [upd_ne _ _ (by have := (hw.new l mb h1).2.2; omega)]
      exact h1)
  refine ⟨_, _, .pointer (some ⟨w.heap.size, 0, none⟩), ?_, h.2, h.1, ?_⟩
  · simp only [newObj, Sem.run_bind, Sem.run, Result.andThen]
    rfl
  · simp only [VR]
    exact ⟨w.heap.size, upd_same _ _ _, rfl⟩

theorem trange_ok {P : Program} {g : G} {σ σ' : TS} {w : World} (hw : WR g σ w) {t : TypeId} {x r : TV} {xv : Value} (hx : VR g σ x xv) (h : trange (mkTab P) σ t x = some (r, σ')) :
    ValOk P g σ w (Instr.range t xv) r σ' := by
  unfold trange at h
  split at h
  · rename_i i hi
    obtain ⟨info, d, k1, k2, k3, k4, k5, k6, k7⟩ := mkTab_sound hi
    split at h
    · rename_i kt et hk
      cases h
      rw [k3] at hk
      obtain rfl := TK.of_map hk
      simp only [VR] at hx; subst hx
      have := newIter_ok (P := P) hw none none 0 #[] 0 rfl
      simpa only [Instr.range, Sem.run_bind, run_underlying k2, Result.andThen_ok, Sem.run_pure, ValOk] using this
    · rename_i kt et l hk
      split at h
      · rename_i es c hl
        cases h
        rw [k3] at hk
        obtain rfl := TK.of_map hk
        simp only [VR] at hx
        obtain ⟨b, hb, rfl⟩ := hx
        obtain ⟨entries, h1, h2⟩ : ObjOk g σ w b (some (.map es c)) := by rw [← hl]; exact hw.obj l b hb
        have := newIter_ok (P := P) hw (some l) (some b) c #[] c ⟨b, hb, rfl⟩
        have hg : (getObj b).run P w = .ok (.map entries c) w := by simp [getObj, Sem.run, h1]
        simpa only [Instr.range, Sem.run_bind, run_underlying k2, Result.andThen_ok, Sem.run_pure, hg, ValOk] using this
      · cases h
    · cases h
  · cases h

/-- The key and the value of the step that was done last. -/
def tentry (σ : TS) (x : TV) : Option TV :=
  match x with
  | .ptr r 0 => match σ[r]? with
    | some (.iter (some l) _ seen stepped) => match seen.back?, σ[l]? with
      | some b, some (.map es c) => if c = stepped then match es.find? (·.born == b) with
        | some e => some (.tup [e.key, e.val])
        | none => none
        else none
      | _, _ => none
    | _ => none
  | _ => none

theorem EntriesR.findB {g : G} {σ : TS} (b : Nat) : ∀ {xs : List TEntry} {es : List MapEntry} {x : TEntry}, EntriesR g σ xs es → xs.find? (·.born == b) = some x → ∃ e, es.find? (·.born == b) = some e ∧ VR g σ x.key e.key ∧ VR g σ x.val e.val
  | [], es, x, h, hx => by cases hx
  | y :: ys, es, x, h, hx => by
    obtain ⟨e, rest, rfl, h1, h2, h3, h4⟩ := h
    rw [List.find?_cons] at hx ⊢
    rw [h2]
    cases hb : (y.born == b) with
    | true =>
      rw [hb] at hx
      cases hx
      exact ⟨e, rfl, h1, h3⟩
    | false =>
      rw [hb] at hx
      exact EntriesR.findB b h4 hx

theorem tentry_run {P : Program} {g : G} {σ : TS} {w : World} (hw : WR g σ w) {x r : TV} {xv : Value} (hx : VR g σ x xv) (h : tentry σ x = some r) :
    ∃ v, (Instr.entry xv).run P w = .ok v w ∧ VR g σ r v := by
  unfold tentry at h
  split at h
  · rename_i r'
    split at h
    · rename_i l since seen stepped hr
      split at h
      · rename_i b es c hb hl
        split at h
        · rename_i hc
          subst hc
          split at h
          · rename_i e he
            cases h
            simp only [VR] at hx
            obtain ⟨br, hbr, rfl⟩ := hx
            obtain ⟨m', h1, mb, h2, rfl⟩ : ObjOk g σ w br (some (.iter (some l) since seen c)) := by rw [← hr]; exact hw.obj r' br hbr
            obtain ⟨entries, h3, h4⟩ : ObjOk g σ w mb (some (.map es c)) := by rw [← hl]; exact hw.obj l mb h2
            obtain ⟨e', h5, h6, h7⟩ := h4.findB b he
            have hf : entries.find? (·.born == b) = some e' := by rw [← Array.find?_toList]; exact h5
            refine ⟨.tuple #[e'.key, e'.val], ?_, ?_⟩
            · simp only [Instr.entry, getObj, Sem.run_bind, Sem.run, h1, h3, Result.andThen, hb, bne_self_eq_false, Bool.false_eq_true, if_false, hf]
              rfl
            · simp only [VR]
              exact ⟨_, rfl, by simp only [VRL]; exact ⟨_, _, rfl, h6, _, _, rfl, h7, rfl⟩⟩
          · cases h
        · cases h
      · cases h
    · cases h
  · cases h

/-- What is left of a map that is gone through. -/
def tleft (es : List TEntry) (seen : Array Nat) : List TEntry := es.filter fun e => !seen.contains e.born

/-- A step through a map, whichever entry comes. -/
def tnext (σ : TS) (r : Nat) (K : Option TV → TS → Prop) : Prop :=
  match σ[r]? with
  | some (.iter none _ _ _) => K (some (.tup [.bool false])) σ
  | some (.iter (some l) since seen last) => match σ[l]? with
    | some (.map es clock) => (es.all fun e => decide (e.born < since)) = true ∧ since ≤ last ∧ (tleft es seen = [] → K (some (.tup [.bool false])) σ) ∧
        ∀ e ∈ tleft es seen, K (some (.tup [.bool true, e.key, e.val])) (σ.set r (.iter (some l) since (seen.push e.born) clock))
    | _ => False
  | _ => False

theorem tnext_mono {σ : TS} {r : Nat} {K K' : Option TV → TS → Prop} (h : tnext σ r K) (hk : ∀ r σ', K r σ' → K' r σ') : tnext σ r K' := by
  unfold tnext at h ⊢
  split at h
  · exact hk _ _ h
  · split at h
    · exact ⟨h.1, h.2.1, fun e => hk _ _ (h.2.2.1 e), fun e he => hk _ _ (h.2.2.2 e he)⟩
    · exact h.elim
  · exact h.elim

theorem EntriesR.left {g : G} {σ : TS} (seen : Array Nat) : ∀ {xs : List TEntry} {es : List MapEntry}, EntriesR g σ xs es →
    EntriesR g σ (tleft xs seen) (es.filter fun e => !seen.contains e.born)
  | [], es, h => by cases h; exact rfl
  | y :: ys, es, h => by
    obtain ⟨e, rest, rfl, h1, h2, h3, h4⟩ := h
    have ih := EntriesR.left seen h4
    unfold tleft at ih ⊢
    rw [List.filter_cons, List.filter_cons, h2]
    split
    · exact ⟨e, _, rfl, h1, h2, h3, ih⟩
    · exact ih
theorem EntriesR.mem {g : G} {σ : TS} : ∀ {xs : List TEntry} {es : List MapEntry} {e : MapEntry}, EntriesR g σ xs es → e ∈ es → ∃ x ∈ xs, VR g σ x.key e.key ∧ e.born = x.born ∧ VR g σ x.val e.val
  | [], es, e, h, he => by cases h; cases he
  | y :: ys, es, e, h, he => by
    obtain ⟨e', rest, rfl, h1, h2, h3, h4⟩ := h
    rcases List.mem_cons.1 he with rfl | he
    · exact ⟨y, by simp, h1, h2, h3⟩
    · obtain ⟨x, hx, h5⟩ := h4.mem he
      exact ⟨x, by simp [hx], h5⟩

theorem tnext_run {P : Program} {g : G} {σ : TS} {w : World} (hw : WR g σ w) {r : Nat} {xv : Value} {ty : TypeId} (hx : VR g σ (.ptr r 0) xv) {K : Option TV → TS → Prop} (h : tnext σ r K) :
    ∃ σ' w' tv v, (Instr.next xv false ty).run P w = .ok v w' ∧ Ext g σ g σ' ∧ WR g σ' w' ∧ VR g σ' tv v ∧ K (some tv) σ' := by
  simp only [VR] at hx
  obtain ⟨br, hbr, rfl⟩ := hx
  unfold tnext at h
  split at h
  · rename_i since seen last hr
    obtain ⟨m', h1, rfl⟩ : ObjOk g σ w br (some (.iter none since seen last)) := by rw [← hr]; exact hw.obj r br hbr
    refine ⟨σ, w, _, .tuple #[.bool false], ?_, Ext.refl _ _, hw, ?_, h⟩
    · simp only [Instr.next, getObj, Sem.run_bind, Sem.run, h1, Result.andThen]
      rfl
    · simp only [VR, VRL]; exact ⟨_, rfl, _, _, rfl, rfl, rfl⟩
  · rename_i l since seen last hr
    split at h
    · rename_i es clock hl
      obtain ⟨k1, k2, k3, k4⟩ := h
      obtain ⟨m', h1, mb, h2, rfl⟩ : ObjOk g σ w br (some (.iter (some l) since seen last)) := by rw [← hr]; exact hw.obj r br hbr
      obtain ⟨entries, h3, h4⟩ : ObjOk g σ w mb (some (.map es clock)) := by rw [← hl]; exact hw.obj l mb h2
      have hold : ∀ x ∈ entries.toList, x.born < since := fun x hx => by
        obtain ⟨y, hy, _, e, _⟩ := h4.mem hx
        rw [e]
        exact of_decide_eq_true (List.all_eq_true.1 k1 y hy)
      have hL := h4.left seen
      have hle : (leftOf entries seen).toList = entries.toList.filter fun e => !seen.contains e.born := by unfold leftOf; rw [Array.toList_filter]
      rcases run_next_at (P := P) w ty br mb since last seen entries clock h1 h3 hold k2 with ⟨q1, q2⟩ | ⟨e, he, w1, hal, q2⟩
      · refine ⟨σ, w, _, _, q2, Ext.refl _ _, hw, ?_, k3 ?_⟩
        · simp only [VR, VRL]; exact ⟨_, rfl, _, _, rfl, rfl, rfl⟩
        · have : (leftOf entries seen).toList = [] := List.eq_nil_of_length_eq_zero (by simpa using q1)
          rw [hle] at this
          rw [this] at hL
          have := hL.length
          exact List.eq_nil_of_length_eq_zero this.symm
      · rw [hle] at he
        obtain ⟨x, hx, r1, r2, r3⟩ := hL.mem he
        have hw1 : WR g σ w1 := by rcases hal with rfl | rfl; exact hw; exact hw.drew
        have hh1 : w1.heap = w.heap := by rcases hal with rfl | rfl <;> rfl
        have hne : ∀ k sz, σ[r]? ≠ some (.right k sz) := fun k sz e => by rw [hr] at e; cases e
        have hbl := (hw.new r br hbr).2.1
        have hset : WR g (σ.set r (.iter (some l) since (seen.push e.born) clock)) (Go.ChangeMaps.setBlock w1 br (.mapIter (some mb) since (seen.push e.born) clock)) := by
          refine hw1.setObj hbr hne ?_ rfl rfl rfl ?_ ?_
          · show (w1.heap.setIfInBounds _ _).size = _; simp
          · intro k hk; show (w1.heap.setIfInBounds _ _)[k]? = _; rw [Array.getElem?_setIfInBounds_ne (Ne.symm hk)]
          · refine ⟨some mb, ?_, mb, h2, rfl⟩
            show (w1.heap.setIfInBounds _ _)[br]? = _
            rw [Array.getElem?_setIfInBounds_self_of_lt (by rw [hh1]; exact hbl)]
        have hx' : Ext g σ g (σ.set r (.iter (some l) since (seen.push e.born) clock)) := Ext.set hne
        refine ⟨_, _, .tup [.bool true, x.key, x.val], _, q2, hx', hset, ?_, ?_⟩
        · have r1' := VR.mono hx' _ _ r1
          have r3' := VR.mono hx' _ _ r3
          simp only [VR]
          refine ⟨_, rfl, ?_⟩
          simp only [VRL, VR]
          exact ⟨_, _, rfl, rfl, _, _, rfl, r1', _, _, rfl, r3', rfl⟩
        · have := k4 x hx
          rw [r2]
          exact this
    · exact h.elim
  · exact h.elim

end Go.TM

/- The T-machine, part 30 (it stands ahead of part 9): cells are copied. -/
set_option linter.unusedVariables false
set_option linter.unusedSimpArgs false
namespace Go.TM
open Go.RowKit (Below)

theorem storeRow_ok {P : Program} {g : G} {σ : TS} {w : World} (hw : WR g σ w) {l b off : Nat} {cs xs : List TV} {us : List Value} (hb : g.ρ l = some b) (hl : σ[l]? = some (.cells cs)) (hv : VRL g σ xs us)
    (c2 : off + xs.length ≤ cs.length) (c3 : xs.all TV.one = true) : ∃ w', (storeCells ⟨b, off, none⟩ us).run P w = .ok () w' ∧ Ext g σ g (σ.set l (.cells (splice cs off xs))) ∧ WR g (σ.set l (.cells (splice cs off xs))) w' := by
  have ho := hw.obj l b hb
  rw [hl] at ho
  obtain ⟨c, e, fz, vs, rest, h1, h0, h2, h3, h4⟩ := ho
  have hvl := hv.length
  have hcl := h4.length
  have hc0 : c.size = vs.length + rest.length := by rw [← Array.length_toList, h0, List.length_append]
  have hst := run_storeCells_cells (P := P) b off us 0 w
    (fun j hj => by rw [cell_of_heap h1, Array.getElem?_eq_getElem (by omega)]; rfl)
    (fun j hj => by
      have hx := h2 (off + 0 + j) (by omega)
      simp only [World.frozen?, h1]
      simp only [decide_eq_true_eq, Bool.and_eq_false_imp, decide_eq_false_iff_not]
      intro hy hz; exact hx ⟨hy, hz⟩)
    (hv.one c3)
  simp only [Nat.add_zero] at hst
  have hnr : ∀ k sz, σ[l]? ≠ some (.right k sz) := fun k sz e => by rw [hl] at e; cases e
  refine ⟨w.setCells b off us, hst, Ext.set hnr, ?_⟩
  obtain ⟨r1, r2, r3⟩ := setCells_rest b us off w
  refine hw.setObj hb hnr (setCells_size _ _ _ _) r1 r2 r3 (fun k hk => setCells_block b _ _ _ _ hk) ?_
  obtain ⟨c', q1, q2⟩ := setCells_cells b e fz us off w c h1 (by omega)
  have hsp : c'.toList = (vs.take off ++ us ++ vs.drop (off + us.length)) ++ rest := by
    rw [q2, h0, List.take_append_of_le_length (by omega), List.drop_append_of_le_length (by omega)]
    simp
  refine ⟨c', e, fz, _, rest, q1, hsp, fun o ho => h2 o (by simp at ho; omega), ?_, h4.splice hv⟩
  intro x hx'
  rcases List.mem_append.1 hx' with hx' | hx'
  · rcases List.mem_append.1 hx' with hx' | hx'
    · exact h3 x (List.mem_of_mem_take hx')
    · exact hv.one c3 x hx'
  · exact h3 x (List.mem_of_mem_drop hx')

def tcopy (T : Tab) (σ : TS) (dt : TypeId) (d s : TV) : Option (TV × TS) :=
  match T dt with
  | some i => match i.k with
    | .slice e => match T e with
      | some j => match d, tslcells σ s, tlen s with
        | .msl l o len, some cs, some n => match σ[l]? with
          | some (.cells xs) => if min n len * j.size ≤ cs.length ∧ o + min n len * j.size ≤ xs.length ∧ (cs.take (min n len * j.size)).all TV.one = true then
              some (.int .i64 (min n len : Nat), σ.set l (.cells (splice xs o (cs.take (min n len * j.size)))))
            else none
          | _ => none
        | .rs l o len sz, some cs, some n => match σ[l]? with
          | some (.row xs) => if len ≠ 0 ∧ min n len * j.size ≤ cs.length ∧ o + min n len * j.size ≤ xs.length ∧ (cs.take (min n len * j.size)).all TV.one = true then
              some (.int .i64 (min n len : Nat), σ.set l (.row (splice xs o (cs.take (min n len * j.size)))))
            else none
          | _ => none
        | _, _, _ => none
      | none => none
    | _ => none
  | none => none

theorem tcopy_ok {P : Program} {g : G} {σ σ' : TS} {w : World} (hw : WR g σ w) {dt st ty : TypeId} {d s r : TV} {dv sv : Value} (hd : VR g σ d dv) (hs : VR g σ s sv)
    (h : tcopy (mkTab P) σ dt d s = some (r, σ')) : ValOk P g σ w (Builtin.copy_ #[dt, st] ty #[dv, sv]) r σ' := by
  unfold tcopy at h
  split at h
  · rename_i i hi
    obtain ⟨info, dd, k1, k2, k3, k4, k5, k6, k7⟩ := mkTab_sound hi
    split at h
    · rename_i e hk
      split at h
      · rename_i j hj
        obtain ⟨einfo, ed, m1, m2, m3, m4, m5, m6, m7⟩ := mkTab_sound hj
        split at h
        · rename_i l o len cs n hcs hn
          split at h
          · rename_i xs hl
            split at h
            · rename_i hcond
              obtain ⟨c1, c2, c3⟩ := hcond
              cases h
              rw [k3] at hk
              obtain rfl := TK.of_slice hk
              simp only [VR] at hd
              obtain ⟨b, cap, hb, rfl, hle⟩ := hd
              obtain ⟨a, scap, vs, rfl, hcap, hvl, hcell, hnone, hspot⟩ := tslcells_sound hw hs hcs hn
              have hvlen := hvl.length
              have hld : (Builtin.lenOf (.slice a n scap)).run P w = .ok n w := rfl
              have hfc : (Builtin.firstCells j.size (min n len) (.slice a n scap)).run P w = .ok (vs.take (min n len * j.size)).toArray w := by
                cases a with
                | none =>
                  obtain ⟨rfl, rfl, rfl⟩ := hnone rfl
                  simp [Builtin.firstCells]
                | some ad =>
                  refine run_firstCells_some w _ _ ad n scap _ (by rw [List.length_take]; omega) fun i v e' => ?_
                  rw [List.getElem?_take] at e'
                  split at e'
                  · exact hcell ad rfl i v e'
                  · cases e'
              obtain ⟨w', q1, q2, q3⟩ := storeRow_ok (P := P) hw (off := o) hb hl (hvl.take (min n len * j.size)) (by rw [List.length_take]; omega) c3
              refine ⟨g, w', goInt (min n len : Nat), ?_, q2, q3, by simp only [VR]; rfl⟩
              have hsz : (sizeOf e).run P w = .ok j.size w := sizeOf_run hj w
              show (Builtin.copy_ _ _ _).run P w = _
              simp only [Builtin.copy_]
              simp only [List.getElem?_toArray, List.getElem?_cons_zero, List.getElem?_cons_succ, Sem.run_bind, run_underlying k2, Result.andThen_ok, hld, hsz]
              have hmin : Nat.min n len = min n len := rfl
              rw [hmin, hfc]
              simp only [Result.andThen_ok, Sem.run_bind, q1, Sem.run_pure]
            · cases h
          · cases h
        · rename_i l o len sz cs n hcs hn
          split at h
          · rename_i xs hl
            split at h
            · rename_i hcond
              obtain ⟨c0, c1, c2, c3⟩ := hcond
              cases h
              rw [k3] at hk
              obtain rfl := TK.of_slice hk
              simp only [VR] at hd
              obtain ⟨_, b, o', cap, rfl, hle, hr⟩ := hd
              obtain ⟨base, nr, hnu, ho', _⟩ := hr _ hl
              obtain rfl := ho' (by omega)
              obtain ⟨a, scap, vs, rfl, hcap, hvl, hcell, hnone, hspot⟩ := tslcells_sound hw hs hcs hn
              have hvlen := hvl.length
              have hld : (Builtin.lenOf (.slice a n scap)).run P w = .ok n w := rfl
              have hfc : (Builtin.firstCells j.size (min n len) (.slice a n scap)).run P w = .ok (vs.take (min n len * j.size)).toArray w := by
                cases a with
                | none =>
                  obtain ⟨rfl, rfl, rfl⟩ := hnone rfl
                  simp [Builtin.firstCells]
                | some ad =>
                  refine run_firstCells_some w _ _ ad n scap _ (by rw [List.length_take]; omega) fun i v e' => ?_
                  rw [List.getElem?_take] at e'
                  split at e'
                  · exact hcell ad rfl i v e'
                  · cases e'
              obtain ⟨w', q1, q2, q3⟩ := storeRow_cells (P := P) hw hl hnu (off := o) (hvl.take (min n len * j.size)) (by rw [List.length_take]; omega) c3
              refine ⟨g, w', goInt (min n len : Nat), ?_, q3, q2, by simp only [VR]; rfl⟩
              have hsz : (sizeOf e).run P w = .ok j.size w := sizeOf_run hj w
              show (Builtin.copy_ _ _ _).run P w = _
              simp only [Builtin.copy_]
              simp only [List.getElem?_toArray, List.getElem?_cons_zero, List.getElem?_cons_succ, Sem.run_bind, run_underlying k2, Result.andThen_ok, hld, hsz]
              have hmin : Nat.min n len = min n len := rfl
              rw [hmin, hfc]
              simp only [Result.andThen_ok, Sem.run_bind, q1, Sem.run_pure]
            · cases h
          · cases h
        · cases h
      · cases h
    · cases h
  · cases h
end Go.TM

/- The T-machine, part 9: the operations of a region, one by one. -/
set_option linter.unusedVariables false
namespace Go.TM
open Go.RowKit (Below)

abbrev TL := List (Option TV)

def ev (m : TL) : Operand → Option TV
  | .tmp t => match m[t]? with
    | some (some v) => some v
    | _ => none
  | .const v => constV v
  | .global _ => none
  | .func f => some (.func (.func f) [] [])

structure TLR (g : G) (σ : TS) (m : TL) (a : Act) : Prop where
  size : m.length = a.tmps.size
  get : ∀ (t : Nat) (tv : TV), m[t]? = some (some tv) → ∃ v, a.tmps[t]? = some v ∧ VR g σ tv v

theorem TLR.mono {g g' : G} {σ σ' : TS} {m : TL} {a : Act} (h : Ext g σ g' σ') (hm : TLR g σ m a) : TLR g' σ' m a :=
  ⟨hm.size, fun t tv e => let ⟨v, h1, h2⟩ := hm.get t tv e; ⟨v, h1, h2.mono h⟩⟩

def tput (m : TL) (dst : Option Tmp) (v : Option TV) : TL :=
  match dst with
  | some d => m.set d v
  | none => m

theorem TLR.put {g : G} {σ : TS} {m : TL} {a : Act} (h : TLR g σ m a) (dst : Option Tmp) {tv : TV} {v : Value} (hv : VR g σ tv v) : TLR g σ (tput m dst (some tv)) (a.put dst v) := by
  cases dst with
  | none => exact h
  | some d =>
    refine ⟨by simp [tput, Act.put, h.size], fun t x e => ?_⟩
    simp only [tput] at e
    simp only [Act.put]
    by_cases hd : d = t
    · subst hd
      rw [List.getElem?_set] at e
      simp only [if_true] at e
      split at e
      · rename_i hlt
        cases e
        exact ⟨v, by rw [Array.getElem?_setIfInBounds_self]; simp; rw [← h.size]; exact hlt, hv⟩
      · cases e
    · rw [List.getElem?_set_ne hd] at e
      obtain ⟨u, h1, h2⟩ := h.get t x e
      exact ⟨u, by rw [Array.getElem?_setIfInBounds_ne hd]; exact h1, h2⟩

theorem TLR.putNone {g : G} {σ : TS} {m : TL} {a : Act} (h : TLR g σ m a) (dst : Option Tmp) (v : Value) : TLR g σ (tput m dst none) (a.put dst v) := by
  cases dst with
  | none => exact h
  | some d =>
    refine ⟨by simp [tput, Act.put, h.size], fun t x e => ?_⟩
    simp only [tput] at e
    simp only [Act.put]
    by_cases hd : d = t
    · subst hd
      rw [List.getElem?_set] at e
      simp only [if_true] at e
      split at e <;> cases e
    · rw [List.getElem?_set_ne hd] at e
      obtain ⟨u, h1, h2⟩ := h.get t x e
      exact ⟨u, by rw [Array.getElem?_setIfInBounds_ne hd]; exact h1, h2⟩

theorem ev_sound {g : G} {σ : TS} {m : TL} {a : Act} (h : TLR g σ m a) {x : Operand} {tv : TV} (he : ev m x = some tv) : VR g σ tv (a.eval x) := by
  cases x with
  | tmp t =>
    simp only [ev] at he
    split at he
    · rename_i v hv
      cases he
      obtain ⟨u, h1, h2⟩ := h.get t tv hv
      simp only [Act.eval, Array.getD_eq_getD_getElem?, h1]
      exact h2
    · cases he
  | const v => exact constV_sound he
  | global _ => simp [ev] at he
  | func f =>
    simp only [ev, Option.some.injEq] at he
    subst he
    simp only [VR, Act.eval]
    exact ⟨#[], #[], rfl, by simp [VRL], by simp [VRL]⟩

def evs (m : TL) : List Operand → Option (List TV)
  | [] => some []
  | x :: xs => match ev m x, evs m xs with
    | some v, some vs => some (v :: vs)
    | _, _ => none

theorem evs_sound {g : G} {σ : TS} {m : TL} {a : Act} (h : TLR g σ m a) : ∀ {xs : List Operand} {vs : List TV}, evs m xs = some vs → VRL g σ vs (xs.map a.eval)
  | [], _, e => by simp only [evs] at e; cases e; simp [VRL]
  | x :: xs, _, e => by
    simp only [evs] at e
    split at e
    · rename_i v vs h1 h2
      cases e
      simp only [List.map_cons, VRL]
      exact ⟨_, _, rfl, ev_sound h h1, evs_sound h h2⟩
    · cases e

def evParts (m : TL) : List (Nat × Operand) → Option (List (Nat × TV))
  | [] => some []
  | (i, x) :: xs => match ev m x, evParts m xs with
    | some v, some vs => some ((i, v) :: vs)
    | _, _ => none

theorem evParts_sound {g : G} {σ : TS} {m : TL} {a : Act} (h : TLR g σ m a) : ∀ {xs : List (Nat × Operand)} {vs : List (Nat × TV)}, evParts m xs = some vs → PartsR g σ vs (xs.map fun (i, x) => (i, a.eval x))
  | [], _, e => by simp only [evParts] at e; cases e; simp [PartsR]
  | (i, x) :: xs, _, e => by
    simp only [evParts] at e
    split at e
    · rename_i v vs h1 h2
      cases e
      simp only [List.map_cons, PartsR]
      exact ⟨_, _, rfl, rfl, ev_sound h h1, evParts_sound h h2⟩
    · cases e

def evB (m : TL) : Option Operand → Option (Option Nat)
  | none => some none
  | some x => match ev m x with
    | some (.int _ n) => if 0 ≤ n then some (some n.toNat) else none
    | _ => none

theorem evB_sound {g : G} {σ : TS} {m : TL} {a : Act} (h : TLR g σ m a) {x : Option Operand} {n : Option Nat} (he : evB m x = some n) : BR n (x.map a.eval) := by
  cases x with
  | none => simp only [evB] at he; cases he; simp [BR]
  | some x =>
    simp only [evB] at he
    split at he
    · rename_i k n' hx
      split at he
      · rename_i hn
        cases he
        have := ev_sound h hx
        simp only [VR] at this
        simp only [BR, Option.map_some, this]
        exact ⟨k, by rw [Int.toNat_of_nonneg hn]⟩
      · cases he
    · cases he

def sound (v : TV) : Bool :=
  match v with
  | .ptr .. | .rp .. | .cp _ | .iface .. | .func (.func _) .. => true
  | _ => false

def tlenOp (T : Tab) (t : TypeId) (x : TV) : Option TV :=
  match T t with
  | some i => match i.k, x with
    | .str, .str s => some (.int .i64 s.size)
    | .slice _, .sl _ n _ => some (.int .i64 n)
    | .slice _, .nils => some (.int .i64 0)
    | .slice _, .msl _ _ n => some (.int .i64 n)
    | .slice _, .rs _ _ n _ => some (.int .i64 n)
    | .arr n _, _ => some (.int .i64 n)
    | .ptr e, _ => match T e with
      | some j => match j.k with
        | .arr n _ => some (.int .i64 n)
        | _ => none
      | none => none
    | _, _ => none
  | none => none

theorem tlenOp_run {P : Program} {g : G} {σ : TS} {t ty : TypeId} {x r : TV} {xv : Value} (hx : VR g σ x xv) (h : tlenOp (mkTab P) t x = some r) (w : World) :
    ∃ v, (Builtin.len_ #[t] ty #[xv]).run P w = .ok v w ∧ VR g σ r v := by
  unfold tlenOp at h
  split at h
  · rename_i i hi
    obtain ⟨info, d, k1, k2, k3, k4, k5, k6, k7⟩ := mkTab_sound hi
    split at h
    · rename_i s hk
      cases h
      rw [k3] at hk; obtain rfl := TK.of_str hk
      simp only [VR] at hx; subst hx
      exact ⟨goInt s.size, by simp [Builtin.len_, run_underlying k2], by simp only [VR]; rfl⟩
    · rename_i hk
      cases h
      rw [k3] at hk; obtain rfl := TK.of_slice hk
      simp only [VR] at hx
      obtain ⟨a, cap, vs, rfl, _⟩ := hx
      exact ⟨_, by simp [Builtin.len_, run_underlying k2]; rfl, by simp only [VR]; rfl⟩
    · rename_i hk
      cases h
      rw [k3] at hk; obtain rfl := TK.of_slice hk
      simp only [VR] at hx; subst hx
      exact ⟨_, by simp [Builtin.len_, run_underlying k2]; rfl, by simp only [VR]; rfl⟩
    · rename_i hk
      cases h
      rw [k3] at hk; obtain rfl := TK.of_slice hk
      simp only [VR] at hx
      obtain ⟨b, cap, _, rfl, _⟩ := hx
      exact ⟨_, by simp [Builtin.len_, run_underlying k2]; rfl, by simp only [VR]; rfl⟩
    · rename_i hk
      cases h
      rw [k3] at hk; obtain rfl := TK.of_slice hk
      simp only [VR] at hx
      obtain ⟨_, b, o', cap, rfl, _⟩ := hx
      exact ⟨_, by simp [Builtin.len_, run_underlying k2]; rfl, by simp only [VR]; rfl⟩
    · rename_i n e hk
      cases h
      rw [k3] at hk; obtain rfl := TK.of_arr hk
      exact ⟨goInt n, by simp [Builtin.len_, run_underlying k2], by simp only [VR]; rfl⟩
    · rename_i e hk
      rw [k3] at hk; obtain rfl := TK.of_ptr hk
      split at h
      · rename_i j hj
        obtain ⟨info', d', m1, m2, m3, m4, m5, m6, m7⟩ := mkTab_sound hj
        split at h
        · rename_i n e' hk'
          cases h
          rw [m3] at hk'; obtain rfl := TK.of_arr hk'
          exact ⟨goInt n, by simp [Builtin.len_, run_underlying k2, run_underlying m2], by simp only [VR]; rfl⟩
        · cases h
      · cases h
    · cases h
  · cases h

def tminmax (mx : Bool) (x : TV) : List TV → Option TV
  | [] => match x with
    | .int .. => some x
    | _ => none
  | y :: ys => match x, y with
    | .int k a, .int _ b => tminmax mx (.int k (if mx then (if b > a then b else a) else (if b < a then b else a))) ys
    | _, _ => none

theorem tmin_run {P : Program} {g : G} {σ : TS} : ∀ (ys : List TV) (x r : TV) (xv : Value) (yvs : List Value), VR g σ x xv → VRL g σ ys yvs → tminmax false x ys = some r → ∀ w,
    ∃ v, (yvs.foldlM Builtin.min2 xv : Sem Value).run P w = .ok v w ∧ VR g σ r v
  | [], x, r, xv, yvs, hx, hy, h, w => by
    simp only [VRL] at hy; subst hy
    simp only [tminmax] at h
    split at h
    · cases h; exact ⟨xv, by simp, hx⟩
    · cases h
  | y :: ys, x, r, xv, yvs, hx, hy, h, w => by
    simp only [VRL] at hy
    obtain ⟨v, rest, rfl, hv, hr⟩ := hy
    simp only [tminmax] at h
    split at h
    · rename_i k a k' b
      simp only [VR] at hx hv; subst hx hv
      simp only [List.foldlM_cons, Sem.run_bind, Builtin.min2, Sem.run_pure, Result.andThen_ok]
      simp only [Bool.false_eq_true, if_false] at h
      exact tmin_run ys _ r _ rest (by simp only [VR]) hr h w
    · cases h

theorem tmax_run {P : Program} {g : G} {σ : TS} : ∀ (ys : List TV) (x r : TV) (xv : Value) (yvs : List Value), VR g σ x xv → VRL g σ ys yvs → tminmax true x ys = some r → ∀ w,
    ∃ v, (yvs.foldlM Builtin.max2 xv : Sem Value).run P w = .ok v w ∧ VR g σ r v
  | [], x, r, xv, yvs, hx, hy, h, w => by
    simp only [VRL] at hy; subst hy
    simp only [tminmax] at h
    split at h
    · cases h; exact ⟨xv, by simp, hx⟩
    · cases h
  | y :: ys, x, r, xv, yvs, hx, hy, h, w => by
    simp only [VRL] at hy
    obtain ⟨v, rest, rfl, hv, hr⟩ := hy
    simp only [tminmax] at h
    split at h
    · rename_i k a k' b
      simp only [VR] at hx hv; subst hx hv
      simp only [List.foldlM_cons, Sem.run_bind, Builtin.max2, Sem.run_pure, Result.andThen_ok]
      simp only [if_true] at h
      exact tmax_run ys _ r _ rest (by simp only [VR]) hr h w
    · cases h

def vres (x : Option TV) (σ : TS) : Option (Option TV × TS) :=
  match x with
  | some v => some (some v, σ)
  | none => none
def sres (x : Option (TV × TS)) : Option (Option TV × TS) :=
  match x with
  | some (v, σ) => some (some v, σ)
  | none => none
def ures (x : Option TS) : Option (Option TV × TS) :=
  match x with
  | some σ => some (none, σ)
  | none => none

def tbuiltin (T : Tab) (want : Bool) (σ : TS) (b : Builtin) (ts : List TypeId) (xs : List TV) : Option (Option TV × TS) :=
  match b, ts, xs with
  | .len, [t], [x] => vres (tlenOp T t x) σ
  | .min, _, x :: ys => vres (tminmax false x ys) σ
  | .max, _, x :: ys => vres (tminmax true x ys) σ
  | .append, [st, xt], [s, x] => sres (tappend T want σ st xt s x)
  | .delete, [t, _], [m, k] => sres (tdelete T σ t m k)
  | .copy, [t, _], [d, s] => sres (tcopy T σ t d s)
  | _, _, _ => none

/-- A slice that is read alone, as an array's address. -/
def tarrp (T : Tab) (t : TypeId) (x : TV) : Option TV :=
  match T t with
  | some i => match i.k, x with
    | .arr n _, .sl _ len cs => if n ≤ len ∧ cs ≠ [] then some (.cp cs) else none
    | _, _ => none
  | none => none

theorem tarrp_run {P : Program} {g : G} {σ : TS} {t : TypeId} {x r : TV} {xv : Value} (hx : VR g σ x xv) (h : tarrp (mkTab P) t x = some r) (w : World) :
    ∃ v, (Instr.arrayAt t xv).run P w = .ok v w ∧ VR g σ r v := by
  unfold tarrp at h
  split at h
  · rename_i i hi
    obtain ⟨info, d, k1, k2, k3, k4, k5, k6, k7⟩ := mkTab_sound hi
    split at h
    · rename_i n e own len cs hk
      rw [k3] at hk
      obtain rfl := TK.of_arr hk
      split at h
      · rename_i hn
        cases h
        simp only [VR] at hx
        obtain ⟨a, cap, vs, rfl, hle, hkp, hs, hl, ho⟩ := hx
        have hvs : vs ≠ [] := by
          intro e
          subst e
          have := hl.length
          simp only [List.length_nil] at this
          exact hn.2 (List.eq_nil_of_length_eq_zero this.symm)
        have hsp : a.spot = none := hs.resolve_right hvs
        refine ⟨.pointer (some a), ?_, ?_⟩
        · simp only [Instr.arrayAt, Sem.run_bind, run_underlying k2, Result.andThen_ok, Sem.run_pure]
          rw [if_neg (by have := hn.1; omega)]
          rfl
        · simp only [VR]
          obtain ⟨b, o, sp⟩ := a
          simp only at hsp
          subst hsp
          exact ⟨b, o, vs, rfl, hkp, hl⟩
      · cases h
    · cases h
  · cases h

def tOp (T : Tab) (wn : List Tmp) (m : TL) (o : Oper) (σ : TS) : Option (Option TV × TS) :=
  match o.op with
  | .move x | .assign x => vres (ev m x) σ
  | .pick c a b => match ev m c with
    | some (.bool c) => vres (ev m (if c then a else b)) σ
    | _ => none
  | .alloc e => sres (talloc T σ e)
  | .box _ x => match ev m x with
    | some v => sres (tbox σ v)
    | none => none
  | .build t ps => match evParts m ps.toList with
    | some vs => vres (tbuild T t vs) σ
    | none => none
  | .buildSlice t len ps => match evParts m ps.toList with
    | some vs => sres (tbuildSlice T (match o.dst with | some d => wn.contains d | none => false) σ t len vs)
    | none => none
  | .load t a => match ev m a with
    | some p => vres (tload T σ t p) σ
    | none => none
  | .store t a x => match ev m a, ev m x with
    | some p, some v => ures (tstore T σ t p v)
    | _, _ => none
  | .nilCheck x => match ev m x with
    | some v => if sound v then some (some v, σ) else none
    | none => none
  | .binOp op t x y _ => match ev m x, ev m y with
    | some a, some b => vres (tbin T (isC x || isC y) op t a b) σ
    | _, _ => none
  | .unOp op _ x => match ev m x with
    | some a => vres (tun op a) σ
    | none => none
  | .convert s d x => match ev m x with
    | some v => sres (tconv T (match o.dst with | some d => wn.contains d | none => false) (match o.dst with | some d => wn.contains (d + 1000000) | none => false) σ s d v)
    | none => none
  | .makeInterface t x => match ev m x, T t with
    | some v, some i => match i.k with
      | .iface _ => none
      | _ => some (some (.iface t v), σ)
    | _, _ => none
  | .makeFunc fn first captured => match evs m first.toList, evs m captured.toList with
    | some a, some b => some (some (.func fn a b), σ)
    | _, _ => none
  | .slice t x lo hi mx => match ev m x, evB m lo, evB m hi, evB m mx with
    | some v, some l, some h, some k => vres (tslice T t v l h k) σ
    | _, _, _, _ => none
  | .fieldAddr s x f => match ev m x with
    | some p => vres (tfieldAddr T s p f) σ
    | none => none
  | .field s x f => match ev m x with
    | some p => vres (tfield T s p f) σ
    | none => none
  | .indexAddr t x i => match ev m x, ev m i with
    | some a, some b => vres (tindexAddr T t a b) σ
    | _, _ => none
  | .index t x i => match ev m x, ev m i with
    | some a, some b => vres (tindex T t a b) σ
    | _, _ => none
  | .extract x i => match ev m x with
    | some (.tup vs) => vres vs[i]? σ
    | _ => none
  | .call { callee := .builtin b, args := xs, argTypes := ts } => match evs m xs.toList with
    | some vs => tbuiltin T (match o.dst with | some d => wn.contains d | none => false) σ b ts.toList vs
    | none => none
  | .makeMap _ none => some (some (tmakeMap σ).1, (tmakeMap σ).2)
  | .lookup t x k ok => match ev m x, ev m k with
    | some a, some b => vres (tlookup T σ t a b ok) σ
    | _, _ => none
  | .mapUpdate t x k v => match ev m x, ev m k, ev m v with
    | some a, some b, some c => ures (tmapUpdate T σ t a b c)
    | _, _, _ => none
  | .mapEntry t x k => match ev m x, ev m k with
    | some a, some b => sres (tmapEntry T σ t a b)
    | _, _ => none
  | .entryStore _ x s v => match ev m x, ev m s, ev m v with
    | some a, some b, some c => ures (tentryStore σ a b c)
    | _, _, _ => none
  | .typeAssert x _ t ok => match ev m x with
    | some a => vres (ttypeAssert T a t ok) σ
    | none => none
  | .sliceToArrayPointer t x => match ev m x with
    | some a => vres (tarrp T t a) σ
    | none => none
  | .range t x => match ev m x with
    | some a => sres (trange T σ t a)
    | none => none
  | .entry x => match ev m x with
    | some a => vres (tentry σ a) σ
    | none => none
  | _ => none

/-- An operation is done, and the world goes on. -/
def OpOk (P : Program) (g : G) (σ : TS) (w : World) (s : Sem Next) (r : Option TV) (σ' : TS) : Prop :=
  ∃ g' w', Ext g σ g' σ' ∧ WR g' σ' w' ∧ match r with
    | some tv => ∃ v, s.run P w = .ok (.value v) w' ∧ VR g' σ' tv v
    | none => s.run P w = .ok .skip w'

theorem OpOk.ofVal {P : Program} {g : G} {σ σ' : TS} {w : World} {s : Sem Value} {tv : TV} (h : ValOk P g σ w s tv σ') : OpOk P g σ w (do pure (.value (← s))) (some tv) σ' := by
  obtain ⟨g', w', v, h1, h2, h3, h4⟩ := h
  exact ⟨g', w', h2, h3, v, by simp [h1], h4⟩

theorem OpOk.ofRun {P : Program} {g : G} {σ : TS} {w : World} (hw : WR g σ w) {s : Sem Value} {tv : TV} (h : ∃ v, s.run P w = .ok v w ∧ VR g σ tv v) : OpOk P g σ w (do pure (.value (← s))) (some tv) σ :=
  OpOk.ofVal (let ⟨v, h1, h2⟩ := h; ValOk.same hw h1 h2)

theorem vres_some {x : Option TV} {σ σ' : TS} {r : Option TV} (h : vres x σ = some (r, σ')) : ∃ v, x = some v ∧ r = some v ∧ σ' = σ := by
  unfold vres at h
  split at h
  · cases h; exact ⟨_, rfl, rfl, rfl⟩
  · cases h
theorem sres_some {x : Option (TV × TS)} {σ' : TS} {r : Option TV} (h : sres x = some (r, σ')) : ∃ v, x = some (v, σ') ∧ r = some v := by
  unfold sres at h
  split at h
  · cases h; exact ⟨_, rfl, rfl⟩
  · cases h
theorem ures_some {x : Option TS} {σ' : TS} {r : Option TV} (h : ures x = some (r, σ')) : x = some σ' ∧ r = none := by
  unfold ures at h
  split at h
  · cases h; exact ⟨rfl, rfl⟩
  · cases h

theorem tOp_ok {P : Program} {g : G} {σ σ' : TS} {w : World} {m : TL} {a : Act} {wn : List Tmp} {o : Oper} {r : Option TV} (hw : WR g σ w) (hm : TLR g σ m a)
    (h : tOp (mkTab P) wn m o σ = some (r, σ')) : OpOk P g σ w (execOp a.eval o) r σ' := by
  unfold tOp at h
  unfold execOp
  split at h
  case h_1 x hop =>
    obtain ⟨v, h1, rfl, rfl⟩ := vres_some h
    simp only [hop]
    exact ⟨g, w, Ext.refl _ _, hw, _, rfl, ev_sound hm h1⟩
  case h_2 x hop =>
    obtain ⟨v, h1, rfl, rfl⟩ := vres_some h
    simp only [hop]
    exact ⟨g, w, Ext.refl _ _, hw, _, rfl, ev_sound hm h1⟩
  case h_3 c x y hop =>
    simp only [hop]
    split at h
    · rename_i cb hc
      obtain ⟨v, h1, rfl, rfl⟩ := vres_some h
      have hcv := ev_sound hm hc
      simp only [VR] at hcv
      refine ⟨g, w, Ext.refl _ _, hw, a.eval (if cb = true then x else y), ?_, ev_sound hm h1⟩
      simp only [hcv, asBool, Sem.run_bind, Sem.run_pure, Result.andThen_ok]
      cases cb <;> rfl
    · cases h
  case h_4 e hop =>
    obtain ⟨v, h1, rfl⟩ := sres_some h
    simp only [hop]
    exact OpOk.ofVal (talloc_ok hw h1)
  case h_5 e x hop =>
    simp only [hop]
    split at h
    · rename_i v hv
      obtain ⟨u, h1, rfl⟩ := sres_some h
      exact OpOk.ofVal (tbox_ok hw (ev_sound hm hv) h1)
    · cases h
  case h_6 t ps hop =>
    simp only [hop]
    split at h
    · rename_i vs hv
      obtain ⟨u, h1, rfl, rfl⟩ := vres_some h
      exact OpOk.ofRun hw (tbuild_run (by simpa using evParts_sound hm hv) h1 w)
    · cases h
  case h_7 t len ps hop =>
    simp only [hop]
    split at h
    · rename_i vs hv
      obtain ⟨u, h1, rfl⟩ := sres_some h
      exact OpOk.ofVal (tbuildSlice_ok hw (by simpa using evParts_sound hm hv) h1)
    · cases h
  case h_8 t x hop =>
    simp only [hop]
    split at h
    · rename_i p hp
      obtain ⟨u, h1, rfl, rfl⟩ := vres_some h
      exact OpOk.ofRun hw (tload_run hw (ev_sound hm hp) h1)
    · cases h
  case h_9 t x y hop =>
    simp only [hop]
    split at h
    · rename_i p v hp hv
      obtain ⟨h1, rfl⟩ := ures_some h
      obtain ⟨w', q1, q2, q3⟩ := tstore_ok hw (ev_sound hm hp) (ev_sound hm hv) h1
      exact ⟨g, w', q2, q3, by simp [q1]⟩
    · cases h
  case h_10 x hop =>
    simp only [hop]
    split at h
    · rename_i v hv
      split at h
      · rename_i hs
        cases h
        have hx := ev_sound hm hv
        refine ⟨g, w, Ext.refl _ _, hw, a.eval x, ?_, hx⟩
        unfold sound at hs
        split at hs
        · simp only [VR] at hx; obtain ⟨_, _, e⟩ := hx; rw [e]; rfl
        · simp only [VR] at hx; obtain ⟨_, _, _, e, _⟩ := hx; rw [e]; rfl
        · simp only [VR] at hx; obtain ⟨_, _, _, e, _⟩ := hx; rw [e]; rfl
        · simp only [VR] at hx; obtain ⟨_, e, _⟩ := hx; rw [e]; rfl
        · simp only [VR] at hx; obtain ⟨_, _, e, _⟩ := hx; rw [e]; rfl
        · cases hs
      · cases h
    · cases h
  case h_11 op t x y yt hop =>
    simp only [hop]
    split at h
    · rename_i p q hp hq
      obtain ⟨u, h1, rfl, rfl⟩ := vres_some h
      exact OpOk.ofRun hw (tbin_run (ev_sound hm hp) (ev_sound hm hq) h1 w)
    · cases h
  case h_12 op t x hop =>
    simp only [hop]
    split at h
    · rename_i p hp
      obtain ⟨u, h1, rfl, rfl⟩ := vres_some h
      exact OpOk.ofRun hw (tun_run (ev_sound hm hp) h1 w)
    · cases h
  case h_13 s d x hop =>
    simp only [hop]
    split at h
    · rename_i p hp
      obtain ⟨u, h1, rfl⟩ := sres_some h
      exact OpOk.ofVal (tconv_ok hw (ev_sound hm hp) h1)
    · cases h
  case h_14 t x hop =>
    simp only [hop]
    split at h
    · rename_i v i hv hi
      obtain ⟨info, d, k1, k2, k3, k4, k5, k6, k7⟩ := mkTab_sound hi
      split at h
      · cases h
      · rename_i hne
        cases h
        refine OpOk.ofRun hw ⟨.iface t (a.eval x), ?_, by simp only [VR]; exact ⟨_, rfl, ev_sound hm hv⟩⟩
        simp only [Instr.makeInterface, Sem.run_bind, run_underlying k2, Result.andThen_ok]
        cases d <;> first | rfl | (exfalso; exact hne _ (by rw [k3]; rfl))
    · cases h
  case h_15 fn first captured hop =>
    simp only [hop]
    split at h
    · rename_i x y hx hy
      cases h
      refine OpOk.ofRun hw ⟨.func fn (first.map a.eval) (captured.map a.eval), rfl, ?_⟩
      simp only [VR]
      exact ⟨_, _, rfl, by simpa using evs_sound hm hx, by simpa using evs_sound hm hy⟩
    · cases h
  case h_16 t x lo hi mx hop =>
    simp only [hop]
    split at h
    · rename_i v l hh k hv h1 h2 h3
      obtain ⟨u, h4, rfl, rfl⟩ := vres_some h
      exact OpOk.ofRun hw (tslice_run (ev_sound hm hv) (evB_sound hm h1) (evB_sound hm h2) (evB_sound hm h3) h4 w)
    · cases h
  case h_17 s x f hop =>
    simp only [hop]
    split at h
    · rename_i p hp
      obtain ⟨u, h1, rfl, rfl⟩ := vres_some h
      exact OpOk.ofRun hw (tfieldAddr_run (ev_sound hm hp) h1 w)
    · cases h
  case h_18 s x f hop =>
    simp only [hop]
    split at h
    · rename_i p hp
      obtain ⟨u, h1, rfl, rfl⟩ := vres_some h
      exact OpOk.ofRun hw (tfield_run (ev_sound hm hp) h1 w)
    · cases h
  case h_19 t x i hop =>
    simp only [hop]
    split at h
    · rename_i p q hp hq
      obtain ⟨u, h1, rfl, rfl⟩ := vres_some h
      exact OpOk.ofRun hw (tindexAddr_run (ev_sound hm hp) (ev_sound hm hq) h1 w)
    · cases h
  case h_20 t x i hop =>
    simp only [hop]
    split at h
    · rename_i p q hp hq
      obtain ⟨u, h1, rfl, rfl⟩ := vres_some h
      exact OpOk.ofRun hw (tindex_run (ev_sound hm hp) (ev_sound hm hq) h1 w)
    · cases h
  case h_21 x i hop =>
    simp only [hop]
    split at h
    · rename_i vs hv
      obtain ⟨u, h1, rfl, rfl⟩ := vres_some h
      have hx := ev_sound hm hv
      simp only [VR] at hx
      obtain ⟨us, e, hl⟩ := hx
      obtain ⟨v, h2, h3⟩ := hl.get h1
      refine OpOk.ofRun hw ⟨v, ?_, h3⟩
      have h2' : us[i]? = some v := by rw [← Array.getElem?_toList]; exact h2
      simp [e, Instr.extract, h2']
    · cases h
  case h_22 b xs ts hop =>
    simp only [hop]
    split at h
    · rename_i vs hv
      have hl := evs_sound hm hv
      unfold tbuiltin at h
      split at h
      · rename_i t x hts
        obtain ⟨u, h1, rfl, rfl⟩ := vres_some h
        simp only [VRL] at hl
        obtain ⟨xv, rest, e1, hx, rfl⟩ := hl
        have e2 : xs.map a.eval = #[xv] := by apply Array.ext'; simp [e1]
        have e3 : ts = #[t] := by apply Array.ext'; simp [hts]
        simp only [resolve, Sem.run_bind, Sem.run_pure, Result.andThen_ok, invoke, builtin, e2, e3, OpOk]
        obtain ⟨v, h2, h3⟩ := tlenOp_run (P := P) (ty := o.type) hx h1 w
        exact ⟨g, w, Ext.refl _ _, hw, v, by simp [h2], h3⟩
      · rename_i x ys
        obtain ⟨u, h1, rfl, rfl⟩ := vres_some h
        simp only [VRL] at hl
        obtain ⟨xv, rest, e1, hx, hr⟩ := hl
        have e2 : (xs.map a.eval).toList = xv :: rest := by simp [e1]
        simp only [resolve, Sem.run_bind, Sem.run_pure, Result.andThen_ok, invoke, builtin, Builtin.min_, e2, OpOk]
        obtain ⟨v, h2, h3⟩ := tmin_run (P := P) ys x u xv rest hx hr h1 w
        exact ⟨g, w, Ext.refl _ _, hw, v, by simp [h2], h3⟩
      · rename_i x ys
        obtain ⟨u, h1, rfl, rfl⟩ := vres_some h
        simp only [VRL] at hl
        obtain ⟨xv, rest, e1, hx, hr⟩ := hl
        have e2 : (xs.map a.eval).toList = xv :: rest := by simp [e1]
        simp only [resolve, Sem.run_bind, Sem.run_pure, Result.andThen_ok, invoke, builtin, Builtin.max_, e2, OpOk]
        obtain ⟨v, h2, h3⟩ := tmax_run (P := P) ys x u xv rest hx hr h1 w
        exact ⟨g, w, Ext.refl _ _, hw, v, by simp [h2], h3⟩
      · rename_i st xt s x hts
        obtain ⟨u, h1, rfl⟩ := sres_some h
        simp only [VRL] at hl
        obtain ⟨sv, rest, e1, hs, xv, rest', rfl, hx, rfl⟩ := hl
        have e2 : xs.map a.eval = #[sv, xv] := by apply Array.ext'; simp [e1]
        have e3 : ts = #[st, xt] := by apply Array.ext'; simp [hts]
        obtain ⟨g', w', v, h2, h3⟩ := tappend_ok (P := P) (ty := o.type) hw hs hx h1
        simp only [resolve, Sem.run_bind, Sem.run_pure, Result.andThen_ok, invoke, builtin, e2, e3, OpOk]
        exact ⟨g', w', h3.1, h3.2.1, v, by simp [h2], h3.2.2⟩
      · rename_i st xt s x hts
        obtain ⟨u, h1, rfl⟩ := sres_some h
        simp only [VRL] at hl
        obtain ⟨sv, rest, e1, hs, xv, rest', rfl, hx, rfl⟩ := hl
        have e2 : xs.map a.eval = #[sv, xv] := by apply Array.ext'; simp [e1]
        have e3 : ts = #[st, xt] := by apply Array.ext'; simp [hts]
        obtain ⟨g', w', v, h2, h3⟩ := tdelete_ok (P := P) (u := xt) (ty := o.type) hw hs hx h1
        simp only [resolve, Sem.run_bind, Sem.run_pure, Result.andThen_ok, invoke, builtin, e2, e3, OpOk]
        exact ⟨g', w', h3.1, h3.2.1, v, by simp [h2], h3.2.2⟩
      · rename_i st xt s x hts
        obtain ⟨u, h1, rfl⟩ := sres_some h
        simp only [VRL] at hl
        obtain ⟨sv, rest, e1, hs, xv, rest', rfl, hx, rfl⟩ := hl
        have e2 : xs.map a.eval = #[sv, xv] := by apply Array.ext'; simp [e1]
        have e3 : ts = #[st, xt] := by apply Array.ext'; simp [hts]
        obtain ⟨g', w', v, h2, h3⟩ := tcopy_ok (P := P) (st := xt) (ty := o.type) hw hs hx h1
        simp only [resolve, Sem.run_bind, Sem.run_pure, Result.andThen_ok, invoke, builtin, e2, e3, OpOk]
        exact ⟨g', w', h3.1, h3.2.1, v, by simp [h2], h3.2.2⟩
      · cases h
    · cases h
  case h_23 t hop =>
    simp only [hop]
    cases h
    exact OpOk.ofVal (tmakeMap_ok hw)
  case h_24 t x k ok hop =>
    simp only [hop]
    split at h
    · rename_i p q hp hq
      obtain ⟨u, h1, rfl, rfl⟩ := vres_some h
      exact OpOk.ofRun hw (tlookup_run hw (ev_sound hm hp) (ev_sound hm hq) h1)
    · cases h
  case h_25 t x k y hop =>
    simp only [hop]
    split at h
    · rename_i p q r hp hq hr
      obtain ⟨h1, rfl⟩ := ures_some h
      obtain ⟨w', q1, q2, q3⟩ := tmapUpdate_ok hw (ev_sound hm hp) (ev_sound hm hq) (ev_sound hm hr) h1
      exact ⟨g, w', q2, q3, by simp [q1]⟩
    · cases h
  case h_26 t x k hop =>
    simp only [hop]
    split at h
    · rename_i p q hp hq
      obtain ⟨u, h1, rfl⟩ := sres_some h
      exact OpOk.ofVal (tmapEntry_ok hw (ev_sound hm hp) (ev_sound hm hq) h1)
    · cases h
  case h_27 t x k y hop =>
    simp only [hop]
    split at h
    · rename_i p q r hp hq hr
      obtain ⟨h1, rfl⟩ := ures_some h
      obtain ⟨w', q1, q2, q3⟩ := tentryStore_ok (P := P) (t := t) hw (ev_sound hm hp) (ev_sound hm hq) (ev_sound hm hr) h1
      exact ⟨g, w', q2, q3, by simp [q1]⟩
    · cases h
  case h_28 x xt t ok hop =>
    simp only [hop]
    split at h
    · rename_i p hp
      obtain ⟨u, h1, rfl, rfl⟩ := vres_some h
      exact OpOk.ofRun hw (ttypeAssert_run (ev_sound hm hp) h1 w)
    · cases h
  case h_29 t x hop =>
    simp only [hop]
    split at h
    · rename_i p hp
      obtain ⟨u, h1, rfl, rfl⟩ := vres_some h
      exact OpOk.ofRun hw (tarrp_run (ev_sound hm hp) h1 w)
    · cases h
  case h_30 t x hop =>
    simp only [hop]
    split at h
    · rename_i p hp
      obtain ⟨u, h1, rfl⟩ := sres_some h
      exact OpOk.ofVal (trange_ok hw (ev_sound hm hp) h1)
    · cases h
  case h_31 x hop =>
    simp only [hop]
    split at h
    · rename_i p hp
      obtain ⟨u, h1, rfl, rfl⟩ := vres_some h
      exact OpOk.ofRun hw (tentry_run hw (ev_sound hm hp) h1)
    · cases h
  case h_32 => cases h

end Go.TM
