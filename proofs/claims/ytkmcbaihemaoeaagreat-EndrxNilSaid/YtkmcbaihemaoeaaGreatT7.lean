/- The T-machine, part 5: operations: stores, places, slices, numbers, texts, conversions, append. -/
import Derived.Test.YtkmcbaihemaoeaaGreatT4
import Derived.Laws.StructEq
import Derived.Lib.Strings
set_option linter.unusedVariables false
set_option linter.unusedSimpArgs false
namespace Go.TM
open Go.RowKit (Below)

/- stores -/
def tstore (T : Tab) (σ : TS) (t : TypeId) (p v : TV) : Option TS :=
  match T t, p with
  | some i, .ptr l off => match σ[l]? with
    | some (.cells cs) => if v.cells.length = i.size ∧ off + i.size ≤ cs.length ∧ v.cells.all TV.one = true then some (σ.set l (.cells (splice cs off v.cells))) else none
    | _ => none
  | some i, .rp l off => match σ[l]? with
    | some (.row cs) => if v.cells.length = i.size ∧ off + i.size ≤ cs.length ∧ v.cells.all TV.one = true then some (σ.set l (.row (splice cs off v.cells))) else none
    | _ => none
  | _, _ => none

theorem setCells_cells (b : Nat) (e : TypeId) (fz : Nat × Nat) : ∀ (vs : List Value) (o : Nat) (w : World) (c : Array Value), w.heap[b]? = some (.cells c e fz) → o + vs.length ≤ c.size →
    ∃ c', (w.setCells b o vs).heap[b]? = some (.cells c' e fz) ∧ c'.toList = c.toList.take o ++ vs ++ c.toList.drop (o + vs.length)
  | [], o, w, c, h, _ => ⟨c, h, by simp⟩
  | v :: vs, o, w, c, h, hl => by
    simp only [List.length_cons] at hl
    have h1 : (w.setCell ⟨b, o, none⟩ v).heap[b]? = some (.cells (c.setIfInBounds o v) e fz) := by
      simp [World.setCell, Array.getElem?_modify, h]
    obtain ⟨c', h2, h3⟩ := setCells_cells b e fz vs (o + 1) _ _ h1 (by simp; omega)
    refine ⟨c', h2, ?_⟩
    rw [h3, Array.toList_setIfInBounds]
    rw [List.take_succ_eq_append_getElem (by simp; omega), List.drop_set_of_lt (by omega), List.take_set_of_le (Nat.le_refl _)]
    simp [show o + 1 + vs.length = o + (vs.length + 1) by omega]

/-- Cells of a row are written. -/
theorem storeRow_cells {P : Program} {g : G} {σ : TS} {w : World} {l b base n off : Nat} {cs xs : List TV} {us : List Value} (hw : WR g σ w) (hl : σ[l]? = some (.row cs)) (hn : g.ν l = some (b, base, n)) (hv : VRL g σ xs us)
    (c2 : off + xs.length ≤ cs.length) (c3 : xs.all TV.one = true) :
    ∃ w', (storeCells ⟨b, base + off, none⟩ us).run P w = .ok () w' ∧ WR g (σ.set l (.row (splice cs off xs))) w' ∧ Ext g σ g (σ.set l (.row (splice cs off xs))) := by
  obtain ⟨b', base', n', hn', hok⟩ := hw.row l _ hl
  rw [hn] at hn'
  simp only [Option.some.injEq, Prod.mk.injEq] at hn'
  obtain ⟨rfl, rfl, rfl⟩ := hn'
  obtain ⟨c, e, fz, vs, h1, h2, h3, h4, h5, h6, h7⟩ := hok.cells
  have hvl := hv.length
  have hcl := h5.length
  have hst := run_storeCells_cells (P := P) b (base + off) us 0 w
    (fun j hj => by rw [cell_of_heap h1]; simp; omega)
    (fun j hj => by
      have hx := h4 (off + j) (by omega)
      simp only [World.frozen?, h1]
      simp only [decide_eq_true_eq, Bool.and_eq_false_imp, decide_eq_false_iff_not]
      intro hy hz; exact hx ⟨by omega, by omega⟩)
    (hv.one c3)
  simp only [Nat.add_zero] at hst
  obtain ⟨r1, r2, r3⟩ := setCells_rest b us (base + off) w
  obtain ⟨c', q1, q2⟩ := setCells_cells b e fz us (base + off) w c h1 (by omega)
  have hsz : c'.size = c.size := by rw [← Array.length_toList, q2]; simp; omega
  refine ⟨w.setCells b (base + off) us, hst, ?_⟩
  refine hw.setRow hl hn (setCells_size _ _ _ _) r1 r2 r3 (fun k hk => setCells_block b _ _ _ _ hk) ⟨c', e, fz, vs.take off ++ us ++ vs.drop (off + us.length), q1, by omega, ?_, h4, ?_, ?_, ?_⟩
  · rw [splice_length (by omega)]; exact h3
  · exact h5.splice hv
  · intro x hx
    rcases List.mem_append.1 hx with hx | hx
    · rcases List.mem_append.1 hx with hx | hx
      · exact h6 x (List.mem_of_mem_take hx)
      · exact hv.one c3 x hx
    · exact h6 x (List.mem_of_mem_drop hx)
  · intro i v hi
    rw [← Array.getElem?_toList, q2]
    rcases Nat.lt_or_ge i off with hio | hio
    · rw [List.getElem?_append_left (by simp; omega), List.getElem?_append_left (by simp; omega), List.getElem?_take_of_lt (by omega), Array.getElem?_toList]
      refine h7 i v ?_
      rw [List.getElem?_append_left (by simp; omega), List.getElem?_append_left (by simp; omega), List.getElem?_take_of_lt hio] at hi
      exact hi
    · rcases Nat.lt_or_ge i (off + us.length) with hiu | hiu
      · rw [List.getElem?_append_left (by simp; omega), List.getElem?_append_right (by simp; omega)]
        rw [List.getElem?_append_left (by simp; omega), List.getElem?_append_right (by simp; omega)] at hi
        simp only [List.length_take] at hi ⊢
        rw [Nat.min_eq_left (by omega)] at hi
        rw [Array.length_toList, Nat.min_eq_left (by omega), show base + i - (base + off) = i - off by omega]
        exact hi
      · rw [List.getElem?_append_right (by simp; omega), List.getElem?_drop, Array.getElem?_toList]
        rw [List.getElem?_append_right (by simp; omega), List.getElem?_drop] at hi
        have := h7 _ v hi
        simp only [List.length_append, List.length_take, Array.length_toList] at this ⊢
        rw [Nat.min_eq_left (by omega)] at this ⊢
        rw [show base + off + us.length + (base + i - (base + off + us.length)) = base + (off + us.length + (i - (off + us.length))) by omega]
        exact this

theorem tstore_ok {P : Program} {g : G} {σ σ' : TS} {w : World} (hw : WR g σ w) {t : TypeId} {p tv : TV} {pv v : Value} (hp : VR g σ p pv) (hv : VR g σ tv v)
    (h : tstore (mkTab P) σ t p tv = some σ') : ∃ w', (Instr.storeAt t pv v).run P w = .ok () w' ∧ Ext g σ g σ' ∧ WR g σ' w' := by
  unfold tstore at h
  split at h
  · rename_i i l off hi
    split at h
    · rename_i cs hl
      split at h
      · rename_i hcond
        cases h
        obtain ⟨c1, c2, c3⟩ := hcond
        simp only [VR] at hp
        obtain ⟨b, hb, rfl⟩ := hp
        have ho := hw.obj l b hb
        rw [hl] at ho
        obtain ⟨c, e, fz, vs, rest, h1, h0, h2, h3, h4⟩ := ho
        have hvl := hv.cells.length
        have hcl := h4.length
        have hc0 : c.size = vs.length + rest.length := by rw [← Array.length_toList, h0, List.length_append]
        simp only [Array.length_toList] at hvl
        have hst := run_storeCells_cells (P := P) b off v.cells.toList 0 w
          (fun j hj => by rw [cell_of_heap h1]; simp at hj ⊢; omega)
          (fun j hj => by
            have hx := h2 (off + 0 + j) (by simp at hj; omega)
            simp only [World.frozen?, h1]
            simp only [decide_eq_true_eq, Bool.and_eq_false_imp, decide_eq_false_iff_not]
            intro hy hz; exact hx ⟨hy, hz⟩)
          (hv.cells.one c3)
        simp only [Nat.add_zero] at hst
        have hnr : ∀ k sz, σ[l]? ≠ some (.right k sz) := fun k sz e => by rw [hl] at e; cases e
        refine ⟨w.setCells b off v.cells.toList, ?_, Ext.set hnr, ?_⟩
        · simp only [Instr.storeAt, Instr.sureAddr, Sem.run_bind, Sem.run_pure, Result.andThen_ok, storeVar, sizeOf_run hi]
          rw [if_neg (by omega)]
          exact hst
        · obtain ⟨r1, r2, r3⟩ := setCells_rest b v.cells.toList off w
          refine hw.setObj hb hnr (setCells_size _ _ _ _) r1 r2 r3 (fun k hk => setCells_block b _ _ _ _ hk) ?_
          obtain ⟨c', q1, q2⟩ := setCells_cells b e fz v.cells.toList off w c h1 (by simp; omega)
          have hsp : c'.toList = (vs.take off ++ v.cells.toList ++ vs.drop (off + v.cells.toList.length)) ++ rest := by
            rw [q2, h0, List.take_append_of_le_length (by omega), List.drop_append_of_le_length (by simp; omega)]
            simp
          refine ⟨c', e, fz, _, rest, q1, hsp, fun o ho => h2 o (by simp at ho; omega), ?_, h4.splice hv.cells⟩
          intro x hx'
          rcases List.mem_append.1 hx' with hx' | hx'
          · rcases List.mem_append.1 hx' with hx' | hx'
            · exact h3 x (List.mem_of_mem_take hx')
            · exact hv.cells.one c3 x hx'
          · exact h3 x (List.mem_of_mem_drop hx')
      · cases h
    · cases h
  · rename_i i l off hi
    split at h
    · rename_i cs hl
      split at h
      · rename_i hcond
        cases h
        obtain ⟨c1, c2, c3⟩ := hcond
        simp only [VR] at hp
        obtain ⟨_, b, o', rfl, hr⟩ := hp
        obtain ⟨base, n, hn, rfl⟩ := hr _ hl
        obtain ⟨b', base', n', hn', hok⟩ := hw.row l _ hl
        rw [hn] at hn'
        simp only [Option.some.injEq, Prod.mk.injEq] at hn'
        obtain ⟨rfl, rfl, rfl⟩ := hn'
        obtain ⟨w', q1, q2, q3⟩ := storeRow_cells (P := P) hw hl hn (off := off) hv.cells (by omega) c3
        refine ⟨w', ?_, q3, q2⟩
        have hvl := hv.cells.length
        simp only [Array.length_toList] at hvl
        simp only [Instr.storeAt, Instr.sureAddr, Sem.run_bind, Sem.run_pure, Result.andThen_ok, storeVar, sizeOf_run hi]
        rw [if_neg (by omega)]
        exact q1
      · cases h
    · cases h
  · cases h

/- fields and elements -/
def tfieldAddr (T : Tab) (s : TypeId) (p : TV) (f : Nat) : Option TV :=
  match T s with
  | some i => match i.k with
    | .struct fs _ => match fs[f]? with
      | some (t, off) => match T t with
        | some j => if j.size = 0 then none else match p with
          | .ptr l o => some (.ptr l (o + off))
          | .cp cs => some (.cp (cs.drop off))
          | .rp l o => some (.rp l (o + off))
          | _ => none
        | none => none
      | none => none
    | _ => none
  | none => none

theorem Kept.drop {g : G} {b o n : Nat} {vs : List Value} (h : Kept g b o vs) : Kept g b (o + n) (vs.drop n) := fun i v e => by
  rw [List.getElem?_drop] at e
  have := h _ _ e
  rwa [show o + n + i = o + (n + i) by omega]

theorem Kept.take {g : G} {b o n : Nat} {vs : List Value} (h : Kept g b o vs) : Kept g b o (vs.take n) := fun i v e => by
  rw [List.getElem?_take] at e
  split at e
  · exact h _ _ e
  · cases e

theorem TK.of_struct {d : TypeDesc} {fs : List (TypeId × Nat)} {nm : Bool} (h : TK.of d = .struct fs nm) : ∃ fields, d = .struct fields ∧ fs = fields.toList.map (fun f => (f.type, f.offset)) ∧ nm = fields.toList.all (fun f => f.name != "_") := by
  cases d <;> simp only [TK.of] at h <;> first | (cases h; done) | skip
  cases h
  exact ⟨_, rfl, rfl, rfl⟩
theorem TK.of_slice {d : TypeDesc} {e : TypeId} (h : TK.of d = .slice e) : d = .slice e := by
  cases d <;> simp only [TK.of] at h <;> first | (cases h; done) | skip
  cases h; rfl
theorem TK.of_arr {d : TypeDesc} {n : Nat} {e : TypeId} (h : TK.of d = .arr n e) : d = .array n e := by
  cases d <;> simp only [TK.of] at h <;> first | (cases h; done) | skip
  cases h; rfl
theorem TK.of_ptr {d : TypeDesc} {e : TypeId} (h : TK.of d = .ptr e) : d = .pointer e := by
  cases d <;> simp only [TK.of] at h <;> first | (cases h; done) | skip
  cases h; rfl
theorem TK.of_int {d : TypeDesc} {k : IntKind} (h : TK.of d = .int k) : d = .int k := by
  cases d <;> simp only [TK.of] at h <;> first | (cases h; done) | skip
  cases h; rfl
theorem TK.of_str {d : TypeDesc} (h : TK.of d = .str) : d = .string := by
  cases d <;> simp only [TK.of] at h <;> first | (cases h; done) | rfl
theorem TK.of_bool {d : TypeDesc} (h : TK.of d = .bool) : d = .bool := by
  cases d <;> simp only [TK.of] at h <;> first | (cases h; done) | rfl
theorem TK.of_map {d : TypeDesc} {k e : TypeId} (h : TK.of d = .map k e) : d = .map k e := by
  cases d <;> simp only [TK.of] at h <;> first | (cases h; done) | skip
  cases h; rfl
theorem TK.of_func {d : TypeDesc} (h : TK.of d = .func) : ∃ a b c, d = .func a b c := by
  cases d <;> simp only [TK.of] at h <;> first | (cases h; done) | exact ⟨_, _, _, rfl⟩
theorem TK.of_iface {d : TypeDesc} {b : Bool} (h : TK.of d = .iface b) : ∃ ms, d = .interface ms ∧ b = ms.isEmpty := by
  cases d <;> simp only [TK.of] at h <;> first | (cases h; done) | skip
  cases h
  exact ⟨_, rfl, rfl⟩

theorem tfieldAddr_run {P : Program} {g : G} {σ : TS} {s : TypeId} {p r : TV} {pv : Value} {f : Nat} (hp : VR g σ p pv) (h : tfieldAddr (mkTab P) s p f = some r) (w : World) :
    ∃ v, (Instr.fieldAt s pv f).run P w = .ok v w ∧ VR g σ r v := by
  unfold tfieldAddr at h
  split at h
  · rename_i i hi
    obtain ⟨info, d, k1, k2, k3, k4, k5, k6, k7⟩ := mkTab_sound hi
    split at h
    · rename_i fs nm hk
      rw [k3] at hk
      obtain ⟨fields, rfl, rfl, _⟩ := TK.of_struct hk
      split at h
      · rename_i t off hf
        split at h
        · rename_i j hj
          split at h
          · cases h
          · rename_i hz
            simp only [List.getElem?_map, Array.getElem?_toList] at hf
            cases hq : fields[f]? with
            | none => simp [hq] at hf
            | some fld =>
              simp only [hq, Option.map_some, Option.some.injEq, Prod.mk.injEq] at hf
              obtain ⟨rfl, rfl⟩ := hf
              have key : ∀ b o, pv = .pointer (some ⟨b, o, none⟩) → (Instr.fieldAt s pv f).run P w = .ok (.pointer (some ⟨b, o + fld.offset, none⟩)) w := by
                rintro b o rfl
                simp only [Instr.fieldAt, Sem.run_bind, run_underlying k2, Result.andThen_ok, hq, Instr.sureAddr, Sem.run_pure, fieldPlace, sizeOf_run hj]
                rw [if_neg hz]
                simp [Addr.add_lit]
              split at h
              · cases h
                simp only [VR] at hp
                obtain ⟨b, hb, hv⟩ := hp
                exact ⟨_, key _ _ hv, by simp only [VR]; exact ⟨b, hb, rfl⟩⟩
              · cases h
                simp only [VR] at hp
                obtain ⟨b, o, vs, hv, hk', hl⟩ := hp
                exact ⟨_, key _ _ hv, by simp only [VR]; exact ⟨b, _, _, rfl, hk'.drop, hl.drop _⟩⟩
              · cases h
                simp only [VR] at hp
                obtain ⟨hlt, b, o', hv, hr⟩ := hp
                refine ⟨_, key _ _ hv, ?_⟩
                simp only [VR]
                refine ⟨hlt, b, _, rfl, fun cs q => ?_⟩
                obtain ⟨base, n, e1, rfl⟩ := hr cs q
                exact ⟨base, n, e1, Nat.add_assoc ..⟩
              · cases h
        · cases h
      · cases h
    · cases h
  · cases h

def tfield (T : Tab) (s : TypeId) (x : TV) (f : Nat) : Option TV :=
  match T s, x with
  | some i, .agg cs => match i.k with
    | .struct fs _ => match fs[f]? with
      | some (t, off) => tpart T t cs off
      | none => none
    | _ => none
  | _, _ => none

theorem tfield_run {P : Program} {g : G} {σ : TS} {s : TypeId} {x r : TV} {xv : Value} {f : Nat} (hx : VR g σ x xv) (h : tfield (mkTab P) s x f = some r) (w : World) :
    ∃ v, (Instr.field s xv f).run P w = .ok v w ∧ VR g σ r v := by
  unfold tfield at h
  split at h
  · rename_i i cs hi
    obtain ⟨info, d, k1, k2, k3, k4, k5, k6, k7⟩ := mkTab_sound hi
    split at h
    · rename_i fs nm hk
      rw [k3] at hk
      obtain ⟨fields, rfl, rfl, _⟩ := TK.of_struct hk
      split at h
      · rename_i t off hf
        simp only [List.getElem?_map, Array.getElem?_toList] at hf
        cases hq : fields[f]? with
        | none => simp [hq] at hf
        | some fld =>
          simp only [hq, Option.map_some, Option.some.injEq, Prod.mk.injEq] at hf
          obtain ⟨rfl, rfl⟩ := hf
          simp only [VR] at hx
          obtain ⟨us, rfl, hu⟩ := hx
          obtain ⟨v, hr, hv⟩ := part_run hu h w
          refine ⟨v, ?_, hv⟩
          simp only [Instr.field, Sem.run_bind, run_underlying k2, Result.andThen_ok, hq, asAgg, Sem.run_pure, hr]
      · cases h
    · cases h
  · cases h

def tindexAddr (T : Tab) (t : TypeId) (x ix : TV) : Option TV :=
  match T t, ix with
  | some i, .int _ n => match i.k, x with
    | .arr len e, .ptr l o => match T e with
      | some j => if 0 ≤ n ∧ n < len then some (.ptr l (o + n.toNat * j.size)) else none
      | none => none
    | .arr len e, .cp cs => match T e with
      | some j => if 0 ≤ n ∧ n < len then some (.cp (cs.drop (n.toNat * j.size))) else none
      | none => none
    | .slice e, .sl _ len cs => match T e with
      | some j => if 0 ≤ n ∧ n < len ∧ n.toNat * j.size < cs.length then some (.cp (cs.drop (n.toNat * j.size))) else none
      | none => none
    | .slice e, .msl l o len => match T e with
      | some j => if 0 ≤ n ∧ n < len then some (.ptr l (o + n.toNat * j.size)) else none
      | none => none
    | .slice e, .rs l o len sz => match T e with
      | some j => if 0 ≤ n ∧ n < len then some (.rp l (o + n.toNat * j.size)) else none
      | none => none
    | .arr len e, .rp l o => match T e with
      | some j => if 0 ≤ n ∧ n < len then some (.rp l (o + n.toNat * j.size)) else none
      | none => none
    | _, _ => none
  | _, _ => none

theorem Addr.add_of {a : Addr} {k : Nat} (h : a.spot = none) : a.add k = ⟨a.block, a.off + k, none⟩ := by
  cases a
  simp only at h
  subst h
  exact Addr.add_lit _ _ _

theorem tindexAddr_run {P : Program} {g : G} {σ : TS} {t : TypeId} {x ix r : TV} {xv iv : Value} (hx : VR g σ x xv) (hi' : VR g σ ix iv) (h : tindexAddr (mkTab P) t x ix = some r) (w : World) :
    ∃ v, (Instr.indexAt t xv iv).run P w = .ok v w ∧ VR g σ r v := by
  unfold tindexAddr at h
  split at h
  · rename_i i _ n hi
    obtain ⟨info, d, k1, k2, k3, k4, k5, k6, k7⟩ := mkTab_sound hi
    simp only [VR] at hi'
    subst hi'
    split at h
    · rename_i len e l o hk
      rw [k3] at hk
      obtain rfl := TK.of_arr hk
      split at h
      · rename_i j hj
        split at h
        · rename_i hn
          cases h
          simp only [VR] at hx
          obtain ⟨b, hb, rfl⟩ := hx
          refine ⟨.pointer (some ⟨b, o + n.toNat * j.size, none⟩), ?_, by simp only [VR]; exact ⟨b, hb, rfl⟩⟩
          simp only [Instr.indexAt, asIntOf, Sem.run_bind, run_underlying k2, Result.andThen_ok, Sem.run_pure, Instr.sureAddr, sizeOf_run hj]
          rw [if_pos hn]
          simp [sizeOf_run hj, Addr.add_lit]
        · cases h
      · cases h
    · rename_i len e cs hk
      rw [k3] at hk
      obtain rfl := TK.of_arr hk
      split at h
      · rename_i j hj
        split at h
        · rename_i hn
          cases h
          simp only [VR] at hx
          obtain ⟨b, o, vs, rfl, hk', hl⟩ := hx
          refine ⟨.pointer (some ⟨b, o + n.toNat * j.size, none⟩), ?_, by simp only [VR]; exact ⟨b, _, _, rfl, hk'.drop, hl.drop _⟩⟩
          simp only [Instr.indexAt, asIntOf, Sem.run_bind, run_underlying k2, Result.andThen_ok, Sem.run_pure, Instr.sureAddr, sizeOf_run hj]
          rw [if_pos hn]
          simp [sizeOf_run hj, Addr.add_lit]
        · cases h
      · cases h
    · rename_i e own len cs hk
      rw [k3] at hk
      obtain rfl := TK.of_slice hk
      split at h
      · rename_i j hj
        split at h
        · rename_i hn
          cases h
          simp only [VR] at hx
          obtain ⟨a, cap, vs, rfl, hle, hk', hs, hl, ho⟩ := hx
          have hsp : a.spot = none := by
            rcases hs with hs | hs
            · exact hs
            · subst hs
              have := hl.length
              simp at this; omega
          refine ⟨.pointer (some ⟨a.block, a.off + n.toNat * j.size, none⟩), ?_, by simp only [VR]; exact ⟨_, _, _, rfl, hk'.drop, hl.drop _⟩⟩
          simp only [Instr.indexAt, asIntOf, Sem.run_bind, run_underlying k2, Result.andThen_ok, Sem.run_pure, sizeOf_run hj]
          rw [if_pos ⟨hn.1, hn.2.1⟩]
          simp [sizeOf_run hj, Addr.add_of hsp]
        · cases h
      · cases h
    · rename_i e l o len hk
      rw [k3] at hk
      obtain rfl := TK.of_slice hk
      split at h
      · rename_i j hj
        split at h
        · rename_i hn
          cases h
          simp only [VR] at hx
          obtain ⟨b, cap, hb, rfl, hle⟩ := hx
          refine ⟨.pointer (some ⟨b, o + n.toNat * j.size, none⟩), ?_, by simp only [VR]; exact ⟨b, hb, rfl⟩⟩
          simp only [Instr.indexAt, asIntOf, Sem.run_bind, run_underlying k2, Result.andThen_ok, Sem.run_pure, sizeOf_run hj]
          rw [if_pos hn]
          simp [sizeOf_run hj, Addr.add_lit]
        · cases h
      · cases h
    · rename_i e l o len sz hk
      rw [k3] at hk
      obtain rfl := TK.of_slice hk
      split at h
      · rename_i j hj
        split at h
        · rename_i hn
          cases h
          simp only [VR] at hx
          obtain ⟨hlt, b, o', cap, rfl, hle, hr⟩ := hx
          refine ⟨.pointer (some ⟨b, o' + n.toNat * j.size, none⟩), ?_, ?_⟩
          · simp only [Instr.indexAt, asIntOf, Sem.run_bind, run_underlying k2, Result.andThen_ok, Sem.run_pure, sizeOf_run hj]
            rw [if_pos hn]
            simp [sizeOf_run hj, Addr.add_lit]
          · simp only [VR]
            refine ⟨hlt, b, _, rfl, fun cs q => ?_⟩
            obtain ⟨base, m, e1, e2, _⟩ := hr cs q
            exact ⟨base, m, e1, by rw [e2 (by omega), Nat.add_assoc]⟩
        · cases h
      · cases h
    · rename_i len e l o hk
      rw [k3] at hk
      obtain rfl := TK.of_arr hk
      split at h
      · rename_i j hj
        split at h
        · rename_i hn
          cases h
          simp only [VR] at hx
          obtain ⟨hlt, b, o', rfl, hr⟩ := hx
          refine ⟨.pointer (some ⟨b, o' + n.toNat * j.size, none⟩), ?_, ?_⟩
          · simp only [Instr.indexAt, asIntOf, Sem.run_bind, run_underlying k2, Result.andThen_ok, Sem.run_pure, Instr.sureAddr, sizeOf_run hj]
            rw [if_pos hn]
            simp [sizeOf_run hj, Addr.add_lit]
          · simp only [VR]
            refine ⟨hlt, b, _, rfl, fun cs q => ?_⟩
            obtain ⟨base, m, e1, rfl⟩ := hr cs q
            exact ⟨base, m, e1, Nat.add_assoc ..⟩
        · cases h
      · cases h
    · cases h
  · cases h

def tindex (T : Tab) (t : TypeId) (x ix : TV) : Option TV :=
  match T t, ix with
  | some i, .int _ n => match i.k, x with
    | .arr len e, .agg cs => match T e with
      | some j => if 0 ≤ n ∧ n < len then tpart T e cs (n.toNat * j.size) else none
      | none => none
    | .str, .str s => if 0 ≤ n then match s[n.toNat]? with
      | some b => some (.int .u8 b.toNat)
      | none => none
      else none
    | _, _ => none
  | _, _ => none

theorem tindex_run {P : Program} {g : G} {σ : TS} {t : TypeId} {x ix r : TV} {xv iv : Value} (hx : VR g σ x xv) (hi' : VR g σ ix iv) (h : tindex (mkTab P) t x ix = some r) (w : World) :
    ∃ v, (Instr.index t xv iv).run P w = .ok v w ∧ VR g σ r v := by
  unfold tindex at h
  split at h
  · rename_i i _ n hi
    obtain ⟨info, d, k1, k2, k3, k4, k5, k6, k7⟩ := mkTab_sound hi
    simp only [VR] at hi'
    subst hi'
    split at h
    · rename_i len e cs hk
      rw [k3] at hk
      obtain rfl := TK.of_arr hk
      split at h
      · rename_i j hj
        split at h
        · rename_i hn
          simp only [VR] at hx
          obtain ⟨us, rfl, hu⟩ := hx
          obtain ⟨v, hr, hv⟩ := part_run hu h w
          refine ⟨v, ?_, hv⟩
          simp only [Instr.index, asIntOf, Sem.run_bind, run_underlying k2, Result.andThen_ok, Sem.run_pure]
          rw [if_pos hn]
          simp only [Sem.run_bind, sizeOf_run hj, Result.andThen_ok, hr]
        · cases h
      · cases h
    · rename_i s hk
      rw [k3] at hk
      obtain rfl := TK.of_str hk
      split at h
      · rename_i hn
        split at h
        · rename_i b hb
          cases h
          simp only [VR] at hx
          subst hx
          refine ⟨.int .u8 b.toNat, ?_, by simp only [VR]⟩
          simp only [Instr.index, asIntOf, Sem.run_bind, run_underlying k2, Result.andThen_ok, Sem.run_pure]
          rw [if_pos hn, hb]
          simp
        · cases h
      · cases h
    · cases h
  · cases h

end Go.TM

/- The T-machine, part 6: slices of slices and texts, numbers, comparisons. -/
set_option linter.unusedVariables false
namespace Go.TM
open Go.RowKit (Below)

/- bounds -/
def BR : Option Nat → Option Value → Prop
  | none, v => v = none
  | some n, v => ∃ k, v = some (.int k (n : Int))

theorem sliceBound_run {P : Program} (k : IntKind) (n y : Nat) (code : BoundsCode) (h : n ≤ y) (w : World) : (Instr.sliceBound (.int k (n : Int)) y code).run P w = .ok n w := by
  simp only [Instr.sliceBound, asIntOf, Sem.run_bind, Sem.run_pure, Result.andThen_ok]
  rw [if_pos ⟨by omega, by omega⟩]
  simp

theorem sliceBounds_run {P : Program} (isSlice : Bool) (len cap : Nat) {lo hi mx : Option Nat} {lov hiv mxv : Option Value} (hl : BR lo lov) (hh : BR hi hiv) (hm : BR mx mxv)
    (h1 : lo.getD 0 ≤ hi.getD len) (h2 : hi.isSome = true → hi.getD len ≤ mx.getD cap) (h3 : mx.getD cap ≤ cap) (h4 : mx.isSome = true → hi.isSome = true) (w : World) :
    (Instr.sliceBounds isSlice len cap lov hiv mxv).run P w = .ok (lo.getD 0, hi.getD len, mx.getD cap) w := by
  cases mx with
  | none =>
    simp only [BR] at hm; subst hm
    cases hi with
    | none =>
      simp only [BR] at hh; subst hh
      cases lo with
      | none =>
        simp only [BR] at hl; subst hl
        simp [Instr.sliceBounds]
      | some l =>
        simp only [BR] at hl
        obtain ⟨k, rfl⟩ := hl
        simp at h1
        simp [Instr.sliceBounds, sliceBound_run k l len _ h1]
    | some h =>
      simp only [BR] at hh
      obtain ⟨kh, rfl⟩ := hh
      simp at h2
      cases lo with
      | none =>
        simp only [BR] at hl; subst hl
        simp [Instr.sliceBounds, sliceBound_run kh h cap _ h2]
      | some l =>
        simp only [BR] at hl
        obtain ⟨k, rfl⟩ := hl
        simp at h1
        simp [Instr.sliceBounds, sliceBound_run kh h cap _ h2, sliceBound_run k l h _ h1]
  | some m =>
    simp only [BR] at hm
    obtain ⟨km, rfl⟩ := hm
    simp at h3
    cases hi with
    | none => simp at h4
    | some h =>
      simp only [BR] at hh
      obtain ⟨kh, rfl⟩ := hh
      simp at h2
      cases lo with
      | none =>
        simp only [BR] at hl; subst hl
        simp [Instr.sliceBounds, sliceBound_run km m cap _ h3, sliceBound_run kh h m _ h2]
      | some l =>
        simp only [BR] at hl
        obtain ⟨k, rfl⟩ := hl
        simp at h1
        simp [Instr.sliceBounds, sliceBound_run km m cap _ h3, sliceBound_run kh h m _ h2, sliceBound_run k l h _ h1]

def tslice (T : Tab) (t : TypeId) (x : TV) (lo hi mx : Option Nat) : Option TV :=
  match T t with
  | none => none
  | some i => match i.k, x with
    | .str, .str s => if mx = none ∧ lo.getD 0 ≤ hi.getD s.size ∧ hi.getD s.size ≤ s.size then some (.str (s.extract (lo.getD 0) (hi.getD s.size))) else none
    | .slice e, .sl own len cs => match T e with
      | some j => if lo.getD 0 ≤ hi.getD len ∧ hi.getD len ≤ mx.getD len ∧ mx.getD len ≤ len ∧ (mx.isSome = true → hi.isSome = true) ∧ hi.getD len * j.size ≤ cs.length then
          some (.sl (if hi.getD len = len ∧ mx = none ∧ cs.length = len * j.size then own else none) (hi.getD len - lo.getD 0) ((cs.drop (lo.getD 0 * j.size)).take ((hi.getD len - lo.getD 0) * j.size)))
        else none
      | none => none
    | .slice e, .nils => match T e with
      | some _ => if lo.getD 0 = 0 ∧ hi.getD 0 = 0 ∧ mx.getD 0 = 0 ∧ (mx.isSome = true → hi.isSome = true) then some .nils else none
      | none => none
    | .slice e, .msl l o len => match T e with
      | some j => if lo.getD 0 ≤ hi.getD len ∧ hi.getD len ≤ mx.getD len ∧ mx.getD len ≤ len ∧ (mx.isSome = true → hi.isSome = true) ∧ hi.getD len - lo.getD 0 ≠ 0 then some (.msl l (o + lo.getD 0 * j.size) (hi.getD len - lo.getD 0)) else none
      | none => none
    | .slice e, .rs l o len sz => match T e with
      | some j => if j.size = sz ∧ lo.getD 0 ≤ hi.getD len ∧ hi.getD len ≤ mx.getD len ∧ mx.getD len ≤ len ∧ (mx.isSome = true → hi.isSome = true) then some (.rs l (o + lo.getD 0 * sz) (hi.getD len - lo.getD 0) sz) else none
      | none => none
    | .arr n e, .ptr l o => match T e with
      | some j => if lo.getD 0 ≤ hi.getD n ∧ hi.getD n ≤ mx.getD n ∧ mx.getD n ≤ n ∧ (mx.isSome = true → hi.isSome = true) ∧ hi.getD n - lo.getD 0 ≠ 0 then some (.msl l (o + lo.getD 0 * j.size) (hi.getD n - lo.getD 0)) else none
      | none => none
    | _, _ => none

theorem tslice_run {P : Program} {g : G} {σ : TS} {t : TypeId} {x r : TV} {xv : Value} {lo hi mx : Option Nat} {lov hiv mxv : Option Value} (hx : VR g σ x xv) (hl : BR lo lov) (hh : BR hi hiv) (hm : BR mx mxv)
    (h : tslice (mkTab P) t x lo hi mx = some r) (w : World) : ∃ v, (Instr.sliceAt t xv lov hiv mxv).run P w = .ok v w ∧ VR g σ r v := by
  unfold tslice at h
  split at h
  · cases h
  · rename_i i hi'
    obtain ⟨info, d, k1, k2, k3, k4, k5, k6, k7⟩ := mkTab_sound hi'
    split at h
    · rename_i s hk
      rw [k3] at hk
      obtain rfl := TK.of_str hk
      split at h
      · rename_i hc
        cases h
        obtain ⟨rfl, c1, c2⟩ := hc
        simp only [VR] at hx; subst hx
        simp only [BR] at hm; subst hm
        have hb := sliceBounds_run (P := P) false s.size s.size (mx := none) (mxv := none) hl hh rfl c1 (fun _ => by simpa using c2) (by simp) (by simp) w
        refine ⟨.string (s.extract (lo.getD 0) (hi.getD s.size)), ?_, by simp only [VR]⟩
        simp only [Instr.sliceAt, Sem.run_bind, run_underlying k2, Result.andThen_ok, Instr.slice]
        simp [hb]
      · cases h
    · rename_i e own len cs hk
      rw [k3] at hk
      obtain rfl := TK.of_slice hk
      split at h
      · rename_i j hj
        split at h
        · rename_i hc
          cases h
          obtain ⟨c1, c2, c3, c4, c5⟩ := hc
          simp only [VR] at hx
          obtain ⟨a, cap, vs, rfl, hle, hk', hs, hvl, ho⟩ := hx
          have hmc : mx.getD cap ≤ cap := by cases mx <;> simp_all; omega
          have hhm : hi.isSome = true → hi.getD len ≤ mx.getD cap := by intro _; cases mx <;> simp_all; omega
          have hb := sliceBounds_run (P := P) true len cap hl hh hm c1 hhm hmc c4 w
          have hvlen := hvl.length
          have hmul : lo.getD 0 * j.size ≤ hi.getD len * j.size := Nat.mul_le_mul_right _ c1
          have hle2 : hi.getD len ≤ mx.getD cap := by cases mx <;> simp_all <;> omega
          refine ⟨.slice (some (if mx.getD cap = lo.getD 0 then a else a.add (lo.getD 0 * j.size))) (hi.getD len - lo.getD 0) (mx.getD cap - lo.getD 0), ?_, ?_⟩
          · simp only [Instr.sliceAt, Sem.run_bind, run_underlying k2, Result.andThen_ok, Instr.slice, hb, sizeOf_run hj, Sem.run_pure]
            split <;> simp_all
          · simp only [VR]
            have hvs : (vs.drop (lo.getD 0 * j.size)).take ((hi.getD len - lo.getD 0) * j.size) = (vs.drop (lo.getD 0 * j.size)).take ((hi.getD len - lo.getD 0) * j.size) := rfl
            refine ⟨_, _, (vs.drop (lo.getD 0 * j.size)).take ((hi.getD len - lo.getD 0) * j.size), rfl, by omega, ?_, ?_, (hvl.drop _).take _, ?_⟩
            · split
              · rename_i heq
                have h0 : hi.getD len - lo.getD 0 = 0 := by omega
                rw [h0]
                intro i v e; simp at e
              · rcases hs with hs | hs
                · rw [Addr.add_of hs]
                  exact hk'.drop.take
                · subst hs
                  intro i v e; simp at e
            · split
              · rcases hs with hs | hs
                · exact .inl hs
                · subst hs; exact .inr (by simp)
              · rcases hs with hs | hs
                · rw [Addr.add_of hs]; exact .inl rfl
                · subst hs; exact .inr (by simp)
            · split
              · rename_i hcond
                obtain ⟨e1, rfl, e3⟩ := hcond
                match own, ho with
                | none, _ => trivial
                | some (tk, en), ⟨k, sz, q1, q2, q3⟩ =>
                  refine ⟨k, sz, q1, q2, fun he => ?_⟩
                  obtain ⟨b, x, p1, p2⟩ := q3 he
                  refine ⟨b, x, ?_, fun hne => ?_⟩
                  · have e4 : (none : Option Nat).getD cap - lo.getD 0 - (hi.getD len - lo.getD 0) = cap - len := by
                      rw [Option.getD_none]
                      omega
                    rw [e4]
                    exact p1
                  · simp only [Option.getD_none] at *
                    have hne' : cap - len ≠ 0 := by omega
                    obtain ⟨r1, r2, r3⟩ := p2 hne'
                    rw [if_neg (by omega), Addr.add_of r3]
                    refine ⟨r1, ?_, rfl⟩
                    rw [r2, hvlen, e3]
                    have hlen : ((vs.drop (lo.getD 0 * j.size)).take ((hi.getD len - lo.getD 0) * j.size)).length = (len - lo.getD 0) * j.size := by
                      rw [e1, List.length_take, List.length_drop, hvlen, e3, Nat.sub_mul]
                      omega
                    rw [hlen, Nat.sub_mul]
                    have : lo.getD 0 * j.size ≤ len * j.size := Nat.mul_le_mul_right _ (by omega)
                    simp only
                    omega
              · trivial
        · cases h
      · cases h
    · rename_i e hk
      rw [k3] at hk
      obtain rfl := TK.of_slice hk
      split at h
      · rename_i j hj
        split at h
        · rename_i hc
          cases h
          obtain ⟨c1, c2, c3, c4⟩ := hc
          simp only [VR] at hx; subst hx
          have hb := sliceBounds_run (P := P) true 0 0 hl hh hm (by omega) (fun _ => by omega) (by omega) c4 w
          refine ⟨.slice none 0 0, ?_, by simp only [VR]⟩
          simp only [Instr.sliceAt, Sem.run_bind, run_underlying k2, Result.andThen_ok, Instr.slice, hb, sizeOf_run hj, Sem.run_pure, c1, c2, c3]
          simp
        · cases h
      · cases h
    · rename_i e l o len hk
      rw [k3] at hk
      obtain rfl := TK.of_slice hk
      split at h
      · rename_i j hj
        split at h
        · rename_i hc
          cases h
          obtain ⟨c1, c2, c3, c4, c5⟩ := hc
          simp only [VR] at hx
          obtain ⟨b, cap, hb', rfl, hle⟩ := hx
          have hmc : mx.getD cap ≤ cap := by cases mx <;> simp_all; omega
          have hhm : hi.isSome = true → hi.getD len ≤ mx.getD cap := by intro _; cases mx <;> simp_all; omega
          have hle2 : hi.getD len ≤ mx.getD cap := by cases mx <;> simp_all <;> omega
          have hb := sliceBounds_run (P := P) true len cap hl hh hm c1 hhm hmc c4 w
          refine ⟨.slice (some ⟨b, o + lo.getD 0 * j.size, none⟩) (hi.getD len - lo.getD 0) (mx.getD cap - lo.getD 0), ?_, ?_⟩
          · simp only [Instr.sliceAt, Sem.run_bind, run_underlying k2, Result.andThen_ok, Instr.slice, hb, sizeOf_run hj, Sem.run_pure]
            rw [if_neg (by omega)]
            simp [Addr.add_lit]
          · simp only [VR]
            exact ⟨b, _, hb', rfl, by omega⟩
        · cases h
      · cases h
    · rename_i e l o len sz hk
      rw [k3] at hk
      obtain rfl := TK.of_slice hk
      split at h
      · rename_i j hj
        split at h
        · rename_i hc
          cases h
          obtain ⟨c0, c1, c2, c3, c4⟩ := hc
          simp only [VR] at hx
          obtain ⟨hlt, b, o', cap, rfl, hle, hr⟩ := hx
          have hmc : mx.getD cap ≤ cap := by cases mx <;> simp_all; omega
          have hhm : hi.isSome = true → hi.getD len ≤ mx.getD cap := by intro _; cases mx <;> simp_all; omega
          have hle2 : hi.getD len ≤ mx.getD cap := by cases mx <;> simp_all <;> omega
          have hb := sliceBounds_run (P := P) true len cap hl hh hm c1 hhm hmc c4 w
          refine ⟨.slice (some ⟨b, if mx.getD cap = lo.getD 0 then o' else o' + lo.getD 0 * j.size, none⟩) (hi.getD len - lo.getD 0) (mx.getD cap - lo.getD 0), ?_, ?_⟩
          · simp only [Instr.sliceAt, Sem.run_bind, run_underlying k2, Result.andThen_ok, Instr.slice, hb, sizeOf_run hj, Sem.run_pure]
            by_cases hq : mx.getD cap = lo.getD 0
            · simp [hq]
            · have hq' : mx.getD cap - lo.getD 0 ≠ 0 := by omega
              simp [hq, hq', Addr.add_lit]
          · simp only [VR]
            refine ⟨hlt, b, _, _, rfl, by omega, fun cs q => ?_⟩
            obtain ⟨base, m, e1, e2, e3⟩ := hr cs q
            refine ⟨base, m, e1, fun hne => ?_, ?_⟩
            · rw [if_neg (by omega), e2 (by omega), c0, Nat.add_assoc]
            · have h1 : lo.getD 0 * sz + (mx.getD cap - lo.getD 0) * sz = mx.getD cap * sz := by rw [← Nat.add_mul]; congr 1; omega
              have h2 : mx.getD cap * sz ≤ cap * sz := Nat.mul_le_mul_right _ hmc
              omega
        · cases h
      · cases h
    · rename_i n e l o hk
      rw [k3] at hk
      obtain rfl := TK.of_arr hk
      split at h
      · rename_i j hj
        split at h
        · rename_i hc
          cases h
          obtain ⟨c1, c2, c3, c4, c5⟩ := hc
          simp only [VR] at hx
          obtain ⟨b, hb', rfl⟩ := hx
          have hb := sliceBounds_run (P := P) false n n hl hh hm c1 (fun _ => c2) c3 c4 w
          refine ⟨.slice (some ⟨b, o + lo.getD 0 * j.size, none⟩) (hi.getD n - lo.getD 0) (mx.getD n - lo.getD 0), ?_, ?_⟩
          · simp only [Instr.sliceAt, Instr.sureAddr, Sem.run_bind, run_underlying k2, Result.andThen_ok, hb, sizeOf_run hj, Sem.run_pure]
            rw [if_neg (by omega)]
            simp [Addr.add_lit]
          · simp only [VR]
            exact ⟨b, _, hb', rfl, by omega⟩
        · cases h
      · cases h
    · cases h

/- pure reckonings of the model's own -/
def ofSem (s : Sem Value) : Option TV :=
  match s with
  | .pure v => const1 v
  | _ => none

theorem ofSem_run {P : Program} {g : G} {σ : TS} {s : Sem Value} {tv : TV} (h : ofSem s = some tv) (w : World) : ∃ v, s.run P w = .ok v w ∧ VR g σ tv v := by
  unfold ofSem at h
  split at h
  · rename_i v
    exact ⟨v, rfl, const1_sound h⟩
  · cases h

/- equality -/
def teq1 (k : TK) (cst : Bool) (x y : TV) : Option Bool :=
  match k, x, y with
  | .bool, .bool a, .bool b => some (a == b)
  | .int _, .int k a, .int k' b => if k = k' then some (a == b) else none
  | .str, .str a, .str b => some (a == b)
  | .ptr _, .nilp, .nilp => some true
  | .ptr _, .nilp, .ptr .. | .ptr _, .nilp, .cp _ | .ptr _, .ptr .., .nilp | .ptr _, .cp _, .nilp => some false
  | .iface n, .nili, .nili => if cst || n then some true else none
  | .iface _, .nili, .iface .. | .iface _, .iface .., .nili => some false
  | .slice _, .nils, .nils => some true
  | .slice _, .nils, .sl .. | .slice _, .sl .., .nils => some false
  | .map .., .nilm, .nilm => some true
  | .map .., .nilm, .map _ | .map .., .map _, .nilm => some false
  | .func, .nilf, .nilf => some true
  | .func, .nilf, .func .. | .func, .func .., .nilf => some false
  | _, _, _ => none

def tall {α : Type} (f : α → Option Bool) : List α → Option Bool
  | [] => some true
  | a :: as => match f a with
    | some true => tall f as
    | some false => some false
    | none => none

def teqIn (T : Tab) (cst : Bool) : Nat → TypeId → TV → TV → Option Bool
  | 0, _, _, _ => none
  | d + 1, t, x, y => match T t with
    | none => none
    | some i => match i.k, x, y with
      | .struct fs true, .agg xs, .agg ys => if i.eqok = true then tall (fun f => match tpart T f.1 xs f.2, tpart T f.1 ys f.2 with
          | some a, some b => teqIn T true d f.1 a b
          | _, _ => none) fs else none
      | .arr n e, .agg xs, .agg ys => match T e with
        | some j => if i.eqok = true then tall (fun m => match tpart T e xs (m * j.size), tpart T e ys (m * j.size) with
          | some a, some b => teqIn T true d e a b
          | _, _ => none) (List.range n) else none
        | none => none
      | k, x, y => teq1 k cst x y

theorem teq1_run {P : Program} {g : G} {σ : TS} {t : TypeId} {d : TypeDesc} {cst r : Bool} {x y : TV} {xv yv : Value} (hx : VR g σ x xv) (hy : VR g σ y yv) (hd : P.underlying t = some d)
    (h : teq1 (TK.of d) cst x y = some r) (D : Nat) (w : World) : (Op.equalIn (D + 1) t xv yv).run P w = .ok r w := by
  unfold teq1 at h
  split at h
  case h_1 hk => cases h; simp only [VR] at hx hy; subst hx hy; rw [TK.of_bool hk] at hd; simp [Op.equalIn, run_underlying hd]
  case h_2 hk =>
    split at h
    · cases h; simp only [VR] at hx hy; subst hx hy; rename_i hkk; subst hkk; rw [TK.of_int hk] at hd; simp [Op.equalIn, run_underlying hd]
    · cases h
  case h_3 hk => cases h; simp only [VR] at hx hy; subst hx hy; rw [TK.of_str hk] at hd; simp [Op.equalIn, run_underlying hd]
  case h_4 hk => cases h; simp only [VR] at hx hy; subst hx hy; rw [TK.of_ptr hk] at hd; simp [Op.equalIn, run_underlying hd]
  case h_5 hk => cases h; simp only [VR] at hx hy; subst hx; obtain ⟨_, _, rfl⟩ := hy; rw [TK.of_ptr hk] at hd; simp [Op.equalIn, run_underlying hd]
  case h_6 hk => cases h; simp only [VR] at hx hy; subst hx; obtain ⟨_, _, _, rfl, _⟩ := hy; rw [TK.of_ptr hk] at hd; simp [Op.equalIn, run_underlying hd]
  case h_7 hk => cases h; simp only [VR] at hx hy; subst hy; obtain ⟨_, _, rfl⟩ := hx; rw [TK.of_ptr hk] at hd; simp [Op.equalIn, run_underlying hd]
  case h_8 hk => cases h; simp only [VR] at hx hy; subst hy; obtain ⟨_, _, _, rfl, _⟩ := hx; rw [TK.of_ptr hk] at hd; simp [Op.equalIn, run_underlying hd]
  case h_9 hk =>
    split at h
    · cases h; simp only [VR] at hx hy; subst hx hy
      obtain ⟨ms, rfl, _⟩ := TK.of_iface hk; simp [Op.equalIn, run_underlying hd]
    · cases h
  case h_10 hk => cases h; simp only [VR] at hx hy; subst hx; obtain ⟨_, rfl, _⟩ := hy; obtain ⟨ms, rfl, _⟩ := TK.of_iface hk; simp [Op.equalIn, run_underlying hd]
  case h_11 hk => cases h; simp only [VR] at hx hy; subst hy; obtain ⟨_, rfl, _⟩ := hx; obtain ⟨ms, rfl, _⟩ := TK.of_iface hk; simp [Op.equalIn, run_underlying hd]
  case h_12 hk => cases h; simp only [VR] at hx hy; subst hx hy; rw [TK.of_slice hk] at hd; simp [Op.equalIn, run_underlying hd]
  case h_13 hk => cases h; simp only [VR] at hx hy; subst hx; obtain ⟨_, _, _, rfl, _⟩ := hy; rw [TK.of_slice hk] at hd; simp [Op.equalIn, run_underlying hd]
  case h_14 hk => cases h; simp only [VR] at hx hy; subst hy; obtain ⟨_, _, _, rfl, _⟩ := hx; rw [TK.of_slice hk] at hd; simp [Op.equalIn, run_underlying hd]
  case h_15 hk => cases h; simp only [VR] at hx hy; subst hx hy; rw [TK.of_map hk] at hd; simp [Op.equalIn, run_underlying hd]
  case h_16 hk => cases h; simp only [VR] at hx hy; subst hx; obtain ⟨_, _, rfl⟩ := hy; rw [TK.of_map hk] at hd; simp [Op.equalIn, run_underlying hd]
  case h_17 hk => cases h; simp only [VR] at hx hy; subst hy; obtain ⟨_, _, rfl⟩ := hx; rw [TK.of_map hk] at hd; simp [Op.equalIn, run_underlying hd]
  case h_18 hk => cases h; simp only [VR] at hx hy; subst hx hy; obtain ⟨_, _, _, rfl⟩ := TK.of_func hk; simp [Op.equalIn, run_underlying hd]
  case h_19 hk => cases h; simp only [VR] at hx hy; subst hx; obtain ⟨_, _, rfl, _⟩ := hy; obtain ⟨_, _, _, rfl⟩ := TK.of_func hk; simp [Op.equalIn, run_underlying hd]
  case h_20 hk => cases h; simp only [VR] at hx hy; subst hy; obtain ⟨_, _, rfl, _⟩ := hx; obtain ⟨_, _, _, rfl⟩ := TK.of_func hk; simp [Op.equalIn, run_underlying hd]
  case h_21 => cases h

theorem tall_fields {P : Program} {g : G} {σ : TS} {xs ys : List TV} {us vs : Array Value} (hx : VRL g σ xs us.toList) (hy : VRL g σ ys vs.toList) (D : Nat) (f : TypeId → TV → TV → Option Bool)
    (ih : ∀ t a b av bv r, VR g σ a av → VR g σ b bv → f t a b = some r → ∀ w, (Op.equalIn D t av bv).run P w = .ok r w) :
    ∀ (fs : List Field) (r : Bool), (fs.all fun f => f.name != "_") = true →
      tall (fun q : TypeId × Nat => match tpart (mkTab P) q.1 xs q.2, tpart (mkTab P) q.1 ys q.2 with | some a, some b => f q.1 a b | _, _ => none) (fs.map fun f => (f.type, f.offset)) = some r →
      ∀ w, (Op.eqFields D us vs fs).run P w = .ok r w
  | [], r, _, h, w => by simp only [List.map_nil, tall] at h; cases h; simp [Op.eqFields]
  | fl :: fs, r, hn, h, w => by
    simp only [List.all_cons, Bool.and_eq_true] at hn
    simp only [List.map_cons, tall] at h
    cases ha : tpart (mkTab P) fl.type xs fl.offset with
    | none => simp [ha] at h
    | some a =>
      cases hb : tpart (mkTab P) fl.type ys fl.offset with
      | none => simp [ha, hb] at h
      | some b =>
        simp only [ha, hb] at h
        obtain ⟨av, r1, v1⟩ := part_run hx ha w
        obtain ⟨bv, r2, v2⟩ := part_run hy hb w
        have hnm : fl.name ≠ "_" := by simpa using hn.1
        simp only [Op.eqFields]
        rw [if_pos hnm]
        cases hq : f fl.type a b with
        | none => simp [hq] at h
        | some q =>
          have h3 := ih _ _ _ _ _ _ v1 v2 hq w
          simp only [Sem.run_bind, r1, r2, h3, Result.andThen_ok]
          cases q with
          | false => simp only [hq] at h; cases h; simp
          | true =>
            simp only [hq] at h
            simpa using tall_fields hx hy D f ih fs r hn.2 h w

theorem tall_range {P : Program} {g : G} {σ : TS} {xs ys : List TV} {us vs : Array Value} (hx : VRL g σ xs us.toList) (hy : VRL g σ ys vs.toList) (D : Nat) (e : TypeId) (sz : Nat) (f : TV → TV → Option Bool)
    (ih : ∀ a b av bv r, VR g σ a av → VR g σ b bv → f a b = some r → ∀ w, (Op.equalIn D e av bv).run P w = .ok r w) :
    ∀ (l : List Nat) (r : Bool),
      tall (fun m => match tpart (mkTab P) e xs (m * sz), tpart (mkTab P) e ys (m * sz) with | some a, some b => f a b | _, _ => none) l = some r →
      ∀ w, ((forIn l ((none, ()) : Option Bool × Unit) fun i _ => do
        let a ← part e us (i * sz)
        let b ← part e vs (i * sz)
        let q ← Op.equalIn D e a b
        if (!q) = true then pure (ForInStep.done (some false, ())) else pure (ForInStep.yield (none, ()))) : Sem (Option Bool × Unit)).run P w =
        .ok (if r then (none, ()) else (some false, ())) w
  | [], r, h, w => by simp only [tall] at h; cases h; simp
  | m :: l, r, h, w => by
    simp only [tall] at h
    cases ha : tpart (mkTab P) e xs (m * sz) with
    | none => simp [ha] at h
    | some a =>
      cases hb : tpart (mkTab P) e ys (m * sz) with
      | none => simp [ha, hb] at h
      | some b =>
        simp only [ha, hb] at h
        obtain ⟨av, r1, v1⟩ := part_run hx ha w
        obtain ⟨bv, r2, v2⟩ := part_run hy hb w
        cases hq : f a b with
        | none => simp [hq] at h
        | some q =>
          have h3 := ih _ _ _ _ _ v1 v2 hq w
          simp only [List.forIn_cons, Sem.run_bind, r1, r2, h3, Result.andThen_ok]
          cases q with
          | false => simp only [hq] at h; cases h; simp
          | true =>
            simp only [hq] at h
            simpa using tall_range hx hy D e sz f ih l r h w

theorem teqIn_run {P : Program} {g : G} {σ : TS} : ∀ (d D : Nat) (cst : Bool) (t : TypeId) (x y : TV) (xv yv : Value) (r : Bool), d ≤ D → VR g σ x xv → VR g σ y yv → teqIn (mkTab P) cst d t x y = some r →
    ∀ w, (Op.equalIn D t xv yv).run P w = .ok r w
  | 0, _, _, _, _, _, _, _, _, _, _, _, h, _ => by simp [teqIn] at h
  | d + 1, 0, _, _, _, _, _, _, _, hle, _, _, _, _ => by omega
  | d + 1, D + 1, cst, t, x, y, xv, yv, r, hle, hx, hy, h, w => by
    simp only [teqIn] at h
    split at h
    · cases h
    · rename_i i hi
      obtain ⟨info, ds, k1, k2, k3, k4, k5, k6, k7⟩ := mkTab_sound hi
      split at h
      · rename_i fs xs ys hk
        rw [k3] at hk
        obtain ⟨fields, rfl, rfl, hnm⟩ := TK.of_struct hk
        split at h
        · rename_i heq
          simp only [VR] at hx hy
          obtain ⟨us, rfl, hu⟩ := hx
          obtain ⟨vs, rfl, hv⟩ := hy
          rw [k7] at heq
          simp only [eqOk, Bool.and_eq_true, Bool.not_eq_true'] at heq
          have hfo : P.fieldsOf t = fields := by simp [Program.fieldsOf, k2]
          rw [run_equalIn_struct w D t us vs (by rw [hfo]; exact k2) heq.1, hfo]
          exact tall_fields hu hv D (fun t a b => teqIn (mkTab P) true d t a b) (fun t a b av bv r ha hb hr w => teqIn_run d D true t a b av bv r (by omega) ha hb hr w) fields.toList r hnm.symm h w
        · cases h
      · rename_i n e xs ys hk
        rw [k3] at hk
        obtain rfl := TK.of_arr hk
        split at h
        · rename_i j hj
          split at h
          · simp only [VR] at hx hy
            obtain ⟨us, rfl, hu⟩ := hx
            obtain ⟨vs, rfl, hv⟩ := hy
            have := tall_range hu hv D e j.size (fun a b => teqIn (mkTab P) true d e a b) (fun a b av bv r ha hb hr w => teqIn_run d D true e a b av bv r (by omega) ha hb hr w) (List.range n) r h w
            simp only [Op.equalIn, Sem.run_bind, run_underlying k2, Result.andThen_ok, sizeOf_run hj]
            rw [Std.Legacy.Range.forIn_eq_forIn_range']
            simp only [Std.Legacy.Range.size, Nat.sub_zero, Nat.add_sub_cancel, Nat.div_one, ← List.range_eq_range']
            rw [this]
            cases r <;> simp
          · cases h
        · cases h
      · rw [k3] at h
        exact teq1_run hx hy k2 h D w

end Go.TM

/- The T-machine, part 7: binary and unary operators, conversions, lengths, append. -/
set_option linter.unusedVariables false
namespace Go.TM
open Go.RowKit (Below)

def isC : Operand → Bool
  | .const _ => true
  | _ => false

def Value.both (p : Value → Bool) (x y : Value) : Bool := p x && p y
def Value.isInt : Value → Bool | .int .. => true | _ => false
def Value.isStr : Value → Bool | .string .. => true | _ => false
def Value.isFlt : Value → Bool | .float .. | .complex .. => true | _ => false

theorem binOp_eql (t : TypeId) (x y : Value) (h1 : (Value.isInt x && Value.isInt y) = false) (h2 : (Value.isStr x && Value.isStr y) = false) (h3 : Value.isFlt x = false) :
    binOp .eql t x y = (do pure (.bool (← Op.equal t x y))) := by
  unfold binOp
  split <;> simp_all [Value.isInt, Value.isStr, Value.isFlt]

theorem binOp_neq (t : TypeId) (x y : Value) (h1 : (Value.isInt x && Value.isInt y) = false) (h2 : (Value.isStr x && Value.isStr y) = false) (h3 : Value.isFlt x = false) :
    binOp .neq t x y = (do pure (.bool (!(← Op.equal t x y)))) := by
  unfold binOp
  split <;> simp_all [Value.isInt, Value.isStr, Value.isFlt]

def TV.isInt : TV → Bool | .int .. => true | _ => false
def TV.isStr : TV → Bool | .str .. => true | _ => false

theorem VR.isInt {g : G} {σ : TS} {x : TV} {v : Value} (h : VR g σ x v) : Value.isInt v = x.isInt ∧ Value.isStr v = x.isStr ∧ Value.isFlt v = false := by
  cases x <;> simp only [VR] at h <;> first
    | (subst h; exact ⟨rfl, rfl, rfl⟩)
    | (obtain ⟨_, _, rfl⟩ := h; exact ⟨rfl, rfl, rfl⟩)
    | (obtain ⟨_, rfl, _⟩ := h; exact ⟨rfl, rfl, rfl⟩)
    | (obtain ⟨_, _, _, rfl, _⟩ := h; exact ⟨rfl, rfl, rfl⟩)
    | (obtain ⟨_, _, rfl, _⟩ := h; exact ⟨rfl, rfl, rfl⟩)
    | (obtain ⟨_, _, _, _, rfl, _⟩ := h; exact ⟨rfl, rfl, rfl⟩)

def tbin (T : Tab) (cst : Bool) (op : BinOp) (t : TypeId) (x y : TV) : Option TV :=
  match x, y with
  | .int k a, .int k' b => ofSem (binOp op t (.int k a) (.int k' b))
  | .str a, .str b => ofSem (Op.stringOp op a b)
  | x, y => if x.isInt && y.isInt || x.isStr && y.isStr then none else match op with
    | .eql => match teqIn T cst 64 t x y with
      | some r => some (.bool r)
      | none => none
    | .neq => match teqIn T cst 64 t x y with
      | some r => some (.bool (!r))
      | none => none
    | _ => none

def Value.isNilI : Value → Bool | .nilIface => true | _ => false
def Value.isAggV : Value → Bool | .agg _ => true | _ => false
def TV.isNilI : TV → Bool | .nili => true | _ => false
def TV.isAggV : TV → Bool | .agg _ => true | _ => false

theorem VR.shape {g : G} {σ : TS} {x : TV} {v : Value} (h : VR g σ x v) : Value.isNilI v = x.isNilI ∧ Value.isAggV v = x.isAggV := by
  cases x <;> simp only [VR] at h <;> first
    | (subst h; exact ⟨rfl, rfl⟩)
    | (obtain ⟨_, _, rfl⟩ := h; exact ⟨rfl, rfl⟩)
    | (obtain ⟨_, rfl, _⟩ := h; exact ⟨rfl, rfl⟩)
    | (obtain ⟨_, _, _, rfl, _⟩ := h; exact ⟨rfl, rfl⟩)
    | (obtain ⟨_, _, rfl, _⟩ := h; exact ⟨rfl, rfl⟩)
    | (obtain ⟨_, _, _, _, rfl, _⟩ := h; exact ⟨rfl, rfl⟩)

theorem eqGuard_other {P : Program} (op : BinOp) (t : TypeId) (xo yo : Operand) (a b : Value) (h1 : (Value.isNilI a && Value.isNilI b) = false) (h2 : (Value.isAggV a && Value.isAggV b) = false) (w : World) :
    (eqGuard op t xo yo a b).run P w = .ok () w := by
  cases op <;> first
    | rfl
    | (simp only [eqGuard]
       split
       · rfl
       · split <;> simp_all [Value.isNilI, Value.isAggV])

theorem eqGuardIn_nil {P : Program} (D : Nat) (t : TypeId) (ms : Array (String × TypeId)) (hu : P.underlying t = some (.interface ms)) (w : World) : (Op.eqGuardIn (D + 1) t .nilIface .nilIface).run P w = .ok (!ms.isEmpty) w := by
  simp [Op.eqGuardIn, run_underlying hu]

theorem eqGuard_nil {P : Program} (op : BinOp) (t : TypeId) (xo yo : Operand) (ms : Array (String × TypeId)) (hu : P.underlying t = some (.interface ms)) (h : (isC xo || isC yo) = true ∨ ms.isEmpty = true) (w : World) :
    (eqGuard op t xo yo .nilIface .nilIface).run P w = .ok () w := by
  have he : (Op.eqGuardIn Op.maxDepth t .nilIface .nilIface).run P w = .ok (!ms.isEmpty) w := eqGuardIn_nil 9999 t ms hu w
  have key : ∀ c : Bool, (c = true ∨ ms.isEmpty = true) → ((if c = true then pure () else do
      if ← Op.eqGuardIn Op.maxDepth t .nilIface .nilIface then unsupported (.noEntry "binop/eql: two nil values of an interface type with methods, neither of them the literal nil")) : Sem Unit).run P w = .ok () w := by
    intro c hc
    cases c with
    | true => simp
    | false =>
      rcases hc with hc | hc
      · cases hc
      · simp [he, hc]
  cases op <;> first
    | rfl
    | (simp only [eqGuard]
       refine key _ ?_
       refine h.imp (fun hc => ?_) id
       cases xo <;> cases yo <;> simp_all [isC])

theorem eqGuard_run {P : Program} {g : G} {σ : TS} {t : TypeId} {x y : TV} {xv yv : Value} {xo yo : Operand} {r : Bool} {d : Nat} (op : BinOp) (hx : VR g σ x xv) (hy : VR g σ y yv)
    (h : teqIn (mkTab P) (isC xo || isC yo) d t x y = some r) (w : World) : (eqGuard op t xo yo xv yv).run P w = .ok () w := by
  cases d with
  | zero => simp [teqIn] at h
  | succ d =>
    obtain ⟨s1, s2⟩ := hx.shape
    obtain ⟨q1, q2⟩ := hy.shape
    by_cases hn : x.isNilI = true ∧ y.isNilI = true
    · cases x <;> simp [TV.isNilI] at hn
      cases y <;> simp at hn
      simp only [VR] at hx hy; subst hx hy
      simp only [teqIn] at h
      split at h
      · cases h
      · rename_i i hi
        obtain ⟨info, ds, k1, k2, k3, k4, k5, k6, k7⟩ := mkTab_sound hi
        have h' : teq1 i.k (isC xo || isC yo) .nili .nili = some r := by
          revert h
          cases i.k <;> intro h <;> simpa using h
        unfold teq1 at h'
        split at h' <;> first | (rename_i heq; cases heq; done) | (rename_i heq _; cases heq; done) | (rename_i _ heq; cases heq; done) | skip
        · rename_i n hk _ _
          rw [k3] at hk
          obtain ⟨ms, rfl, rfl⟩ := TK.of_iface hk
          split at h'
          · rename_i hor
            exact eqGuard_nil op t xo yo ms k2 (by simpa only [Bool.or_eq_true] using hor) w
          · cases h'
        · cases h'
    · have hnil : (Value.isNilI xv && Value.isNilI yv) = false := by rw [s1, q1]; simpa using hn
      by_cases ha : x.isAggV = true ∧ y.isAggV = true
      · cases x <;> simp [TV.isAggV] at ha
        cases y <;> simp at ha
        simp only [teqIn] at h
        split at h
        · cases h
        · rename_i i hi
          obtain ⟨info, ds, k1, k2, k3, k4, k5, k6, k7⟩ := mkTab_sound hi
          simp only [VR] at hx hy
          obtain ⟨us, rfl, hu⟩ := hx
          obtain ⟨vs, rfl, hv⟩ := hy
          split at h
          · rename_i hk _ _
            rw [k3] at hk
            obtain ⟨fields, rfl, rfl, hnm⟩ := TK.of_struct hk
            split at h
            · rename_i heq
              rw [k7] at heq
              simp only [eqOk, Bool.and_eq_true, Bool.not_eq_true'] at heq
              exact run_eqGuard_agg w op t xo yo us vs heq.2
            · cases h
          · rename_i hk _ _
            rw [k3] at hk
            obtain rfl := TK.of_arr hk
            split at h
            · split at h
              · rename_i heq
                rw [k7] at heq
                simp only [eqOk, Bool.not_eq_true'] at heq
                exact run_eqGuard_agg w op t xo yo us vs heq
              · cases h
            · cases h
          · unfold teq1 at h
            split at h <;> first | (rename_i heq; cases heq; done) | (rename_i heq _; cases heq; done) | (rename_i _ heq; cases heq; done) | (cases h; done)
      · exact eqGuard_other op t xo yo xv yv hnil (by rw [s2, q2]; simpa using ha) w

theorem tbin_run {P : Program} {g : G} {σ : TS} {t : TypeId} {x y r : TV} {xv yv : Value} {xo yo : Operand} {op : BinOp} (hx : VR g σ x xv) (hy : VR g σ y yv)
    (h : tbin (mkTab P) (isC xo || isC yo) op t x y = some r) (w : World) : ∃ v, (do eqGuard op t xo yo xv yv; binOp op t xv yv : Sem Value).run P w = .ok v w ∧ VR g σ r v := by
  unfold tbin at h
  split at h
  · rename_i k a k' b
    simp only [VR] at hx hy; subst hx hy
    obtain ⟨v, h1, h2⟩ := ofSem_run (P := P) (g := g) (σ := σ) h w
    refine ⟨v, ?_, h2⟩
    have : (eqGuard op t xo yo (.int k a) (.int k' b)).run P w = .ok () w := by unfold eqGuard; split <;> rfl
    rw [Sem.run_bind, this]
    exact h1
  · rename_i a b
    simp only [VR] at hx hy; subst hx hy
    obtain ⟨v, h1, h2⟩ := ofSem_run (P := P) (g := g) (σ := σ) h w
    refine ⟨v, ?_, h2⟩
    have : (eqGuard op t xo yo (.string a) (.string b)).run P w = .ok () w := by unfold eqGuard; split <;> rfl
    rw [Sem.run_bind, this]
    have : binOp op t (.string a) (.string b) = Op.stringOp op a b := by cases op <;> rfl
    rw [Result.andThen_ok, this]
    exact h1
  · split at h
    · cases h
    · rename_i hb
      simp only [Bool.or_eq_true, not_or, Bool.not_eq_true] at hb
      obtain ⟨q1, q2, q3⟩ := hx.isInt
      obtain ⟨p1, p2, p3⟩ := hy.isInt
      split at h
      · split at h
        · rename_i rr hq
          cases h
          have hg := eqGuard_run (xo := xo) (yo := yo) .eql hx hy hq w
          have he := teqIn_run 64 10000 _ t x y xv yv rr (by omega) hx hy hq w
          refine ⟨.bool rr, ?_, by simp only [VR]⟩
          rw [Sem.run_bind, hg, Result.andThen_ok, binOp_eql t xv yv (by rw [q1, p1]; exact hb.1) (by rw [q2, p2]; exact hb.2) q3]
          simp [Op.equal, Op.maxDepth, he]
        · cases h
      · split at h
        · rename_i rr hq
          cases h
          have hg := eqGuard_run (xo := xo) (yo := yo) .neq hx hy hq w
          have he := teqIn_run 64 10000 _ t x y xv yv rr (by omega) hx hy hq w
          refine ⟨.bool (!rr), ?_, by simp only [VR]⟩
          rw [Sem.run_bind, hg, Result.andThen_ok, binOp_neq t xv yv (by rw [q1, p1]; exact hb.1) (by rw [q2, p2]; exact hb.2) q3]
          simp [Op.equal, Op.maxDepth, he]
        · cases h
      · cases h

def tun (op : UnOp) (x : TV) : Option TV :=
  match x with
  | .int k n => ofSem (Op.unary op (.int k n))
  | .bool b => ofSem (Op.unary op (.bool b))
  | _ => none

theorem tun_run {P : Program} {g : G} {σ : TS} {op : UnOp} {x r : TV} {xv : Value} (hx : VR g σ x xv) (h : tun op x = some r) (w : World) : ∃ v, (Op.unary op xv).run P w = .ok v w ∧ VR g σ r v := by
  unfold tun at h
  split at h
  · simp only [VR] at hx; subst hx; exact ofSem_run h w
  · simp only [VR] at hx; subst hx; exact ofSem_run h w
  · cases h

/- bytes -/
def byteTVs (s : ByteArray) : List TV := s.data.toList.map fun b => .int .u8 b.toNat

def tbytes : List TV → Option (List UInt8)
  | [] => some []
  | .int .u8 n :: r => match tbytes r with
    | some bs => some (UInt8.ofNat n.toNat :: bs)
    | none => none
  | _ => none

/-- The cells of a slice that is read. -/
def tslcells (σ : TS) : TV → Option (List TV)
  | .sl _ _ cs => some cs
  | .nils => some []
  | .msl l o len => match σ[l]? with
    | some (.cells cs) => some (cs.drop o)
    | _ => none
  | .rs l o len _ => if len = 0 then some [] else match σ[l]? with
    | some (.row cs) => some (cs.drop o)
    | _ => none
  | _ => none

def tlen : TV → Option Nat
  | .sl _ len _ => some len
  | .nils => some 0
  | .msl _ _ len => some len
  | .rs _ _ len _ => some len
  | .str s => some s.size
  | _ => none

theorem tslcells_sound {g : G} {σ : TS} {w : World} (hw : WR g σ w) {x : TV} {xv : Value} (hx : VR g σ x xv) {cs : List TV} {n : Nat} (h : tslcells σ x = some cs) (hn : tlen x = some n) :
    ∃ a cap vs, xv = .slice a n cap ∧ n ≤ cap ∧ VRL g σ cs vs ∧ (∀ ad, a = some ad → ∀ i v, vs[i]? = some v → w.cell? (ad.add i) = some v) ∧ (a = none → n = 0 ∧ cap = 0 ∧ vs = []) ∧ (∀ ad, a = some ad → vs ≠ [] → ad.spot = none) := by
  unfold tslcells at h
  split at h
  · rename_i own len cs'
    cases h
    simp only [tlen, Option.some.injEq] at hn; subst hn
    simp only [VR] at hx
    obtain ⟨a, cap, vs, rfl, hle, hk, hs, hl, ho⟩ := hx
    refine ⟨some a, cap, vs, rfl, hle, hl, ?_, by simp, ?_⟩
    · rintro ad h i v e
      cases h
      rcases hs with hs | hs
      · rw [Addr.add_of hs]; exact (hw.keep _ _ _ (hk i v e)).1
      · subst hs; simp at e
    · rintro ad h hne
      cases h
      rcases hs with hs | hs
      · exact hs
      · exact absurd hs hne
  · cases h
    simp only [tlen, Option.some.injEq] at hn; subst hn
    simp only [VR] at hx; subst hx
    exact ⟨none, 0, [], rfl, Nat.le_refl _, by simp [VRL], by simp, by simp, by simp⟩
  · rename_i l o len
    split at h
    · rename_i cs' hl
      cases h
      simp only [tlen, Option.some.injEq] at hn; subst hn
      simp only [VR] at hx
      obtain ⟨b, cap, hb, rfl, hle⟩ := hx
      have ho := hw.obj l b hb
      rw [hl] at ho
      obtain ⟨c, e, fz, vs, rest, h1, h2, h3, h4, h5⟩ := ho
      refine ⟨some ⟨b, o, none⟩, cap, vs.drop o, rfl, hle, h5.drop o, ?_, by simp, by rintro ad h _; cases h; rfl⟩
      rintro ad h i v e
      cases h
      rw [Addr.add_lit, cell_of_heap h1, ← Array.getElem?_toList, h2]
      rw [List.getElem?_drop] at e
      rw [List.getElem?_append_left (List.getElem?_eq_some_iff.1 e).1]
      exact e
    · cases h
  · rename_i l o len sz
    simp only [tlen, Option.some.injEq] at hn; subst hn
    simp only [VR] at hx
    obtain ⟨hlt, b, o', cap, rfl, hle, hr⟩ := hx
    split at h
    · cases h
      exact ⟨_, cap, [], rfl, hle, by simp [VRL], by simp, by simp, by simp⟩
    · split at h
      · rename_i hlen cs' hl
        cases h
        obtain ⟨base, m, e1, e2, e3⟩ := hr _ hl
        obtain ⟨b', base', n', hn', hok⟩ := hw.row l _ hl
        rw [e1] at hn'
        simp only [Option.some.injEq, Prod.mk.injEq] at hn'
        obtain ⟨rfl, rfl, rfl⟩ := hn'
        obtain ⟨c, e, fz, vs, h1, h2, h3, h4, h5, h6, h7⟩ := hok.cells
        obtain rfl := e2 (by omega)
        refine ⟨some ⟨b, base + o, none⟩, cap, vs.drop o, rfl, hle, h5.drop o, ?_, by simp, by rintro ad h _; cases h; rfl⟩
        rintro ad h i v e
        cases h
        rw [Addr.add_lit, cell_of_heap h1, Nat.add_assoc]
        rw [List.getElem?_drop] at e
        exact h7 _ _ e
      · cases h
  · cases h

def tconv (T : Tab) (want mu : Bool) (σ : TS) (src dst : TypeId) (x : TV) : Option (TV × TS) :=
  match T src, T dst with
  | some i, some j => match i.k, j.k, x with
    | _, .int k, .int _ n => some (.int k (k.wrap n), σ)
    | _, .str, .str s => some (.str s, σ)
    | _, .slice e, .str s => match T e with
      | some m => match m.k with
        | .int .u8 => if mu then some (.msl σ.length 0 s.size, σ ++ [.cells (byteTVs s)]) else some (tright want σ s.size 1 (byteTVs s))
        | _ => none
      | none => none
    | .slice e, .str, x => match T e, tslcells σ x, tlen x with
      | some m, some cs, some n => match m.k, tbytes (cs.take n) with
        | .int .u8, some bs => if n ≤ cs.length then some (.str ⟨bs.toArray⟩, σ) else none
        | _, _ => none
      | _, _, _ => none
    | _, _, _ => none
  | _, _ => none

theorem byteTVs_VRL {g : G} {σ : TS} (s : ByteArray) : VRL g σ (byteTVs s) (byteCells s) := by
  refine VRL.ofGet (by simp [byteTVs, byteCells]) fun i x v hx hv => ?_
  simp only [byteTVs, byteCells, List.getElem?_map] at hx hv
  cases h : s.data.toList[i]? with
  | none => simp [h] at hx
  | some b =>
    simp only [h, Option.map_some, Option.some.injEq] at hx hv
    subst hx hv
    simp only [VR]

theorem byteTVs_one (s : ByteArray) : (byteTVs s).all TV.one = true := by
  unfold byteTVs
  rw [List.all_map, List.all_eq_true]
  intro x _; rfl

theorem bytesLoop_run {P : Program} {g : G} {σ : TS} : ∀ (cs : List TV) (vs : List Value) (bs : List UInt8) (acc : ByteArray) (w : World), VRL g σ cs vs → tbytes cs = some bs →
    ((forIn vs acc fun c s => (match c with
      | .int .u8 n => do pure (ForInStep.yield (s.push (UInt8.ofNat n.toNat)))
      | _ => stuck "bytesToString: byte expected")) : Sem ByteArray).run P w = .ok ⟨(acc.data.toList ++ bs).toArray⟩ w
  | [], vs, bs, acc, w, h, hb => by
    simp only [VRL] at h; subst h
    simp only [tbytes, Option.some.injEq] at hb; subst hb
    simp
  | c :: cs, vs, bs, acc, w, h, hb => by
    simp only [VRL] at h
    obtain ⟨v, rest, rfl, hv, hr⟩ := h
    unfold tbytes at hb
    split at hb
    · rename_i heq; cases heq
    · rename_i n r heq
      cases heq
      split at hb
      · rename_i bs' hbs
        cases hb
        simp only [VR] at hv
        subst hv
        simp only [List.forIn_cons, Sem.run_bind, Sem.run_pure, Result.andThen_ok]
        rw [bytesLoop_run cs rest bs' _ w hr hbs]
        simp [ByteArray.push]
      · cases hb
    · cases hb

end Go.TM
