/- The T-machine, part 5: operations: stores, places, slices, numbers, texts, conversions, append. -/
import Derived.Test.YtgkcackpffimmaaT4
set_option linter.unusedVariables false
set_option linter.unusedSimpArgs false
namespace Go.TM
open Go.RowKit (Below)

/- stores -/
def tstore (T : Tab) (σ : TS) (t : TypeId) (p v : TV) : Option TS :=
  match T t, p with
  | some i, .ptr l off => match σ[l]? with
    | some (.cells cs) => if v.cells.length = i.size ∧ off + i.size ≤ cs.length ∧ v.cells.all TV.one = true then some (σ.set l (.cells (splice cs off v.cells))) else none
    | _ => none
  | _, _ => none

theorem setCells_cells (b : Nat) (e : TypeId) (fz : Nat × Nat) : ∀ (vs : List Value) (o : Nat) (w : World) (c : Array Value), w.heap[b]? = some (.cells c e fz) → o + vs.length ≤ c.size →
    ∃ c', (w.setCells b o vs).heap[b]? = some (.cells c' e fz) ∧ c'.toList = c.toList.take o ++ vs ++ c.toList.drop (o + vs.length)
  | [], o, w, c, h, _ => ⟨c, h, by simp⟩
  | v :: vs, o, w, c, h, hl => by
    simp only [List.length_cons] at hl
    have h1 : (w.setCell ⟨b, o, none⟩ v).heap[b]? = some (.cells (c.setIfInBounds o v) e fz) := by
      simp [World.setCell, Array.getElem?_modify, h]
    obtain ⟨c', h2, h3⟩ := setCells_cells b e fz vs (o + 1) _ _ h1 (by simp; omega)
    refine ⟨c', h2, ?_⟩
    rw [h3, Array.toList_setIfInBounds]
    rw [List.take_succ_eq_append_getElem (by simp; omega), List.drop_set_of_lt (by omega), List.take_set_of_le (Nat.le_refl _)]
    simp [show o + 1 + vs.length = o + (vs.length + 1) by omega]

theorem tstore_ok {P : Program} {g : G} {σ σ' : TS} {w : World} (hw : WR g σ w) {t : TypeId} {p tv : TV} {pv v : Value} (hp : VR g σ p pv) (hv : VR g σ tv v)
    (h : tstore (mkTab P) σ t p tv = some σ') : ∃ w', (Instr.storeAt t pv v).run P w = .ok () w' ∧ Ext g σ g σ' ∧ WR g σ' w' := by
  unfold tstore at h
  split at h
  · rename_i i l off hi
    split at h
    · rename_i cs hl
      split at h
      · rename_i hcond
        cases h
        obtain ⟨c1, c2, c3⟩ := hcond
        simp only [VR] at hp
        obtain ⟨b, hb, rfl⟩ := hp
        have ho := hw.obj l b hb
        rw [hl] at ho
        obtain ⟨c, e, fz, vs, rest, h1, h0, h2, h3, h4⟩ := ho
        have hvl := hv.cells.length
        have hcl := h4.length
        have hc0 : c.size = vs.length + rest.length := by rw [← Array.length_toList, h0, List.length_append]
        simp only [Array.length_toList] at hvl
        have hst := run_storeCells_cells (P := P) b off v.cells.toList 0 w
          (fun j hj => by rw [cell_of_heap h1]; simp at hj ⊢; omega)
          (fun j hj => by
            have hx := h2 (off + 0 + j) (by simp at hj; omega)
            simp only [World.frozen?, h1]
            simp only [decide_eq_true_eq, Bool.and_eq_false_imp, decide_eq_false_iff_not]
            intro hy hz; exact hx ⟨hy, hz⟩)
          (hv.cells.one c3)
        simp only [Nat.add_zero] at hst
        have hnr : ∀ k sz, σ[l]? ≠ some (.right k sz) := fun k sz e => by rw [hl] at e; cases e
        refine ⟨w.setCells b off v.cells.toList, ?_, Ext.set hnr, ?_⟩
        · simp only [Instr.storeAt, Instr.sureAddr, Sem.run_bind, Sem.run_pure, Result.andThen_ok, storeVar, sizeOf_run hi]
          rw [if_neg (by omega)]
          exact hst
        · obtain ⟨r1, r2, r3⟩ := setCells_rest b v.cells.toList off w
          refine hw.setObj hb hnr (setCells_size _ _ _ _) r1 r2 r3 (fun k hk => setCells_block b _ _ _ _ hk) ?_
          obtain ⟨c', q1, q2⟩ := setCells_cells b e fz v.cells.toList off w c h1 (by simp; omega)
          have hsp : c'.toList = (vs.take off ++ v.cells.toList ++ vs.drop (off + v.cells.toList.length)) ++ rest := by
            rw [q2, h0, List.take_append_of_le_length (by omega), List.drop_append_of_le_length (by simp; omega)]
            simp
          refine ⟨c', e, fz, _, rest, q1, hsp, fun o ho => h2 o (by simp at ho; omega), ?_, h4.splice hv.cells⟩
          intro x hx'
          rcases List.mem_append.1 hx' with hx' | hx'
          · rcases List.mem_append.1 hx' with hx' | hx'
            · exact h3 x (List.mem_of_mem_take hx')
            · exact hv.cells.one c3 x hx'
          · exact h3 x (List.mem_of_mem_drop hx')
      · cases h
    · cases h
  · cases h

/- fields and elements -/
def tfieldAddr (T : Tab) (s : TypeId) (p : TV) (f : Nat) : Option TV :=
  match T s with
  | some i => match i.k with
    | .struct fs _ => match fs[f]? with
      | some (t, off) => match T t with
        | some j => if j.size = 0 then none else match p with
          | .ptr l o => some (.ptr l (o + off))
          | .cp cs => some (.cp (cs.drop off))
          | _ => none
        | none => none
      | none => none
    | _ => none
  | none => none

theorem Kept.drop {g : G} {b o n : Nat} {vs : List Value} (h : Kept g b o vs) : Kept g b (o + n) (vs.drop n) := fun i v e => by
  rw [List.getElem?_drop] at e
  have := h _ _ e
  rwa [show o + n + i = o + (n + i) by omega]

theorem Kept.take {g : G} {b o n : Nat} {vs : List Value} (h : Kept g b o vs) : Kept g b o (vs.take n) := fun i v e => by
  rw [List.getElem?_take] at e
  split at e
  · exact h _ _ e
  · cases e

theorem TK.of_struct {d : TypeDesc} {fs : List (TypeId × Nat)} {nm : Bool} (h : TK.of d = .struct fs nm) : ∃ fields, d = .struct fields ∧ fs = fields.toList.map (fun f => (f.type, f.offset)) ∧ nm = fields.toList.all (fun f => f.name != "_") := by
  cases d <;> simp only [TK.of] at h <;> first | (cases h; done) | skip
  cases h
  exact ⟨_, rfl, rfl, rfl⟩
theorem TK.of_slice {d : TypeDesc} {e : TypeId} (h : TK.of d = .slice e) : d = .slice e := by
  cases d <;> simp only [TK.of] at h <;> first | (cases h; done) | skip
  cases h; rfl
theorem TK.of_arr {d : TypeDesc} {n : Nat} {e : TypeId} (h : TK.of d = .arr n e) : d = .array n e := by
  cases d <;> simp only [TK.of] at h <;> first | (cases h; done) | skip
  cases h; rfl
theorem TK.of_ptr {d : TypeDesc} {e : TypeId} (h : TK.of d = .ptr e) : d = .pointer e := by
  cases d <;> simp only [TK.of] at h <;> first | (cases h; done) | skip
  cases h; rfl
theorem TK.of_int {d : TypeDesc} {k : IntKind} (h : TK.of d = .int k) : d = .int k := by
  cases d <;> simp only [TK.of] at h <;> first | (cases h; done) | skip
  cases h; rfl
theorem TK.of_str {d : TypeDesc} (h : TK.of d = .str) : d = .string := by
  cases d <;> simp only [TK.of] at h <;> first | (cases h; done) | rfl
theorem TK.of_bool {d : TypeDesc} (h : TK.of d = .bool) : d = .bool := by
  cases d <;> simp only [TK.of] at h <;> first | (cases h; done) | rfl
theorem TK.of_map {d : TypeDesc} {k e : TypeId} (h : TK.of d = .map k e) : d = .map k e := by
  cases d <;> simp only [TK.of] at h <;> first | (cases h; done) | skip
  cases h; rfl
theorem TK.of_func {d : TypeDesc} (h : TK.of d = .func) : ∃ a b c, d = .func a b c := by
  cases d <;> simp only [TK.of] at h <;> first | (cases h; done) | exact ⟨_, _, _, rfl⟩
theorem TK.of_iface {d : TypeDesc} {b : Bool} (h : TK.of d = .iface b) : ∃ ms, d = .interface ms ∧ b = ms.isEmpty := by
  cases d <;> simp only [TK.of] at h <;> first | (cases h; done) | skip
  cases h
  exact ⟨_, rfl, rfl⟩

theorem tfieldAddr_run {P : Program} {g : G} {σ : TS} {s : TypeId} {p r : TV} {pv : Value} {f : Nat} (hp : VR g σ p pv) (h : tfieldAddr (mkTab P) s p f = some r) (w : World) :
    ∃ v, (Instr.fieldAt s pv f).run P w = .ok v w ∧ VR g σ r v := by
  unfold tfieldAddr at h
  split at h
  · rename_i i hi
    obtain ⟨info, d, k1, k2, k3, k4, k5, k6, k7⟩ := mkTab_sound hi
    split at h
    · rename_i fs nm hk
      rw [k3] at hk
      obtain ⟨fields, rfl, rfl, _⟩ := TK.of_struct hk
      split at h
      · rename_i t off hf
        split at h
        · rename_i j hj
          split at h
          · cases h
          · rename_i hz
            simp only [List.getElem?_map, Array.getElem?_toList] at hf
            cases hq : fields[f]? with
            | none => simp [hq] at hf
            | some fld =>
              simp only [hq, Option.map_some, Option.some.injEq, Prod.mk.injEq] at hf
              obtain ⟨rfl, rfl⟩ := hf
              have key : ∀ b o, pv = .pointer (some ⟨b, o, none⟩) → (Instr.fieldAt s pv f).run P w = .ok (.pointer (some ⟨b, o + fld.offset, none⟩)) w := by
                rintro b o rfl
                simp only [Instr.fieldAt, Sem.run_bind, run_underlying k2, Result.andThen_ok, hq, Instr.sureAddr, Sem.run_pure, fieldPlace, sizeOf_run hj]
                rw [if_neg hz]
                simp [Addr.add_lit]
              split at h
              · cases h
                simp only [VR] at hp
                obtain ⟨b, hb, hv⟩ := hp
                exact ⟨_, key _ _ hv, by simp only [VR]; exact ⟨b, hb, rfl⟩⟩
              · cases h
                simp only [VR] at hp
                obtain ⟨b, o, vs, hv, hk', hl⟩ := hp
                exact ⟨_, key _ _ hv, by simp only [VR]; exact ⟨b, _, _, rfl, hk'.drop, hl.drop _⟩⟩
              · cases h
        · cases h
      · cases h
    · cases h
  · cases h

def tfield (T : Tab) (s : TypeId) (x : TV) (f : Nat) : Option TV :=
  match T s, x with
  | some i, .agg cs => match i.k with
    | .struct fs _ => match fs[f]? with
      | some (t, off) => tpart T t cs off
      | none => none
    | _ => none
  | _, _ => none

theorem tfield_run {P : Program} {g : G} {σ : TS} {s : TypeId} {x r : TV} {xv : Value} {f : Nat} (hx : VR g σ x xv) (h : tfield (mkTab P) s x f = some r) (w : World) :
    ∃ v, (Instr.field s xv f).run P w = .ok v w ∧ VR g σ r v := by
  unfold tfield at h
  split at h
  · rename_i i cs hi
    obtain ⟨info, d, k1, k2, k3, k4, k5, k6, k7⟩ := mkTab_sound hi
    split at h
    · rename_i fs nm hk
      rw [k3] at hk
      obtain ⟨fields, rfl, rfl, _⟩ := TK.of_struct hk
      split at h
      · rename_i t off hf
        simp only [List.getElem?_map, Array.getElem?_toList] at hf
        cases hq : fields[f]? with
        | none => simp [hq] at hf
        | some fld =>
          simp only [hq, Option.map_some, Option.some.injEq, Prod.mk.injEq] at hf
          obtain ⟨rfl, rfl⟩ := hf
          simp only [VR] at hx
          obtain ⟨us, rfl, hu⟩ := hx
          obtain ⟨v, hr, hv⟩ := part_run hu h w
          refine ⟨v, ?_, hv⟩
          simp only [Instr.field, Sem.run_bind, run_underlying k2, Result.andThen_ok, hq, asAgg, Sem.run_pure, hr]
      · cases h
    · cases h
  · cases h

def tindexAddr (T : Tab) (t : TypeId) (x ix : TV) : Option TV :=
  match T t, ix with
  | some i, .int _ n => match i.k, x with
    | .arr len e, .ptr l o => match T e with
      | some j => if 0 ≤ n ∧ n < len then some (.ptr l (o + n.toNat * j.size)) else none
      | none => none
    | .arr len e, .cp cs => match T e with
      | some j => if 0 ≤ n ∧ n < len then some (.cp (cs.drop (n.toNat * j.size))) else none
      | none => none
    | .slice e, .sl _ len cs => match T e with
      | some j => if 0 ≤ n ∧ n < len ∧ n.toNat * j.size < cs.length then some (.cp (cs.drop (n.toNat * j.size))) else none
      | none => none
    | .slice e, .msl l o len => match T e with
      | some j => if 0 ≤ n ∧ n < len then some (.ptr l (o + n.toNat * j.size)) else none
      | none => none
    | _, _ => none
  | _, _ => none

theorem Addr.add_of {a : Addr} {k : Nat} (h : a.spot = none) : a.add k = ⟨a.block, a.off + k, none⟩ := by
  cases a
  simp only at h
  subst h
  exact Addr.add_lit _ _ _

theorem tindexAddr_run {P : Program} {g : G} {σ : TS} {t : TypeId} {x ix r : TV} {xv iv : Value} (hx : VR g σ x xv) (hi' : VR g σ ix iv) (h : tindexAddr (mkTab P) t x ix = some r) (w : World) :
    ∃ v, (Instr.indexAt t xv iv).run P w = .ok v w ∧ VR g σ r v := by
  unfold tindexAddr at h
  split at h
  · rename_i i _ n hi
    obtain ⟨info, d, k1, k2, k3, k4, k5, k6, k7⟩ := mkTab_sound hi
    simp only [VR] at hi'
    subst hi'
    split at h
    · rename_i len e l o hk
      rw [k3] at hk
      obtain rfl := TK.of_arr hk
      split at h
      · rename_i j hj
        split at h
        · rename_i hn
          cases h
          simp only [VR] at hx
          obtain ⟨b, hb, rfl⟩ := hx
          refine ⟨.pointer (some ⟨b, o + n.toNat * j.size, none⟩), ?_, by simp only [VR]; exact ⟨b, hb, rfl⟩⟩
          simp only [Instr.indexAt, asIntOf, Sem.run_bind, run_underlying k2, Result.andThen_ok, Sem.run_pure, Instr.sureAddr, sizeOf_run hj]
          rw [if_pos hn]
          simp [sizeOf_run hj, Addr.add_lit]
        · cases h
      · cases h
    · rename_i len e cs hk
      rw [k3] at hk
      obtain rfl := TK.of_arr hk
      split at h
      · rename_i j hj
        split at h
        · rename_i hn
          cases h
          simp only [VR] at hx
          obtain ⟨b, o, vs, rfl, hk', hl⟩ := hx
          refine ⟨.pointer (some ⟨b, o + n.toNat * j.size, none⟩), ?_, by simp only [VR]; exact ⟨b, _, _, rfl, hk'.drop, hl.drop _⟩⟩
          simp only [Instr.indexAt, asIntOf, Sem.run_bind, run_underlying k2, Result.andThen_ok, Sem.run_pure, Instr.sureAddr, sizeOf_run hj]
          rw [if_pos hn]
          simp [sizeOf_run hj, Addr.add_lit]
        · cases h
      · cases h
    · rename_i e own len cs hk
      rw [k3] at hk
      obtain rfl := TK.of_slice hk
      split at h
      · rename_i j hj
        split at h
        · rename_i hn
          cases h
          simp only [VR] at hx
          obtain ⟨a, cap, vs, rfl, hle, hk', hs, hl, ho⟩ := hx
          have hsp : a.spot = none := by
            rcases hs with hs | hs
            · exact hs
            · subst hs
              have := hl.length
              simp at this; omega
          refine ⟨.pointer (some ⟨a.block, a.off + n.toNat * j.size, none⟩), ?_, by simp only [VR]; exact ⟨_, _, _, rfl, hk'.drop, hl.drop _⟩⟩
          simp only [Instr.indexAt, asIntOf, Sem.run_bind, run_underlying k2, Result.andThen_ok, Sem.run_pure, sizeOf_run hj]
          rw [if_pos ⟨hn.1, hn.2.1⟩]
          simp [sizeOf_run hj, Addr.add_of hsp]
        · cases h
      · cases h
    · rename_i e l o len hk
      rw [k3] at hk
      obtain rfl := TK.of_slice hk
      split at h
      · rename_i j hj
        split at h
        · rename_i hn
          cases h
          simp only [VR] at hx
          obtain ⟨b, cap, hb, rfl, hle⟩ := hx
          refine ⟨.pointer (some ⟨b, o + n.toNat * j.size, none⟩), ?_, by simp only [VR]; exact ⟨b, hb, rfl⟩⟩
          simp only [Instr.indexAt, asIntOf, Sem.run_bind, run_underlying k2, Result.andThen_ok, Sem.run_pure, sizeOf_run hj]
          rw [if_pos hn]
          simp [sizeOf_run hj, Addr.add_lit]
        · cases h
      · cases h
    · cases h
  · cases h

def tindex (T : Tab) (t : TypeId) (x ix : TV) : Option TV :=
  match T t, ix with
  | some i, .int _ n => match i.k, x with
    | .arr len e, .agg cs => match T e with
      | some j => if 0 ≤ n ∧ n < len then tpart T e cs (n.toNat * j.size) else none
      | none => none
    | .str, .str s => if 0 ≤ n then match s[n.toNat]? with
      | some b => some (.int .u8 b.toNat)
      | none => none
      else none
    | _, _ => none
  | _, _ => none

theorem tindex_run {P : Program} {g : G} {σ : TS} {t : TypeId} {x ix r : TV} {xv iv : Value} (hx : VR g σ x xv) (hi' : VR g σ ix iv) (h : tindex (mkTab P) t x ix = some r) (w : World) :
    ∃ v, (Instr.index t xv iv).run P w = .ok v w ∧ VR g σ r v := by
  unfold tindex at h
  split at h
  · rename_i i _ n hi
    obtain ⟨info, d, k1, k2, k3, k4, k5, k6, k7⟩ := mkTab_sound hi
    simp only [VR] at hi'
    subst hi'
    split at h
    · rename_i len e cs hk
      rw [k3] at hk
      obtain rfl := TK.of_arr hk
      split at h
      · rename_i j hj
        split at h
        · rename_i hn
          simp only [VR] at hx
          obtain ⟨us, rfl, hu⟩ := hx
          obtain ⟨v, hr, hv⟩ := part_run hu h w
          refine ⟨v, ?_, hv⟩
          simp only [Instr.index, asIntOf, Sem.run_bind, run_underlying k2, Result.andThen_ok, Sem.run_pure]
          rw [if_pos hn]
          simp only [Sem.run_bind, sizeOf_run hj, Result.andThen_ok, hr]
        · cases h
      · cases h
    · rename_i s hk
      rw [k3] at hk
      obtain rfl := TK.of_str hk
      split at h
      · rename_i hn
        split at h
        · rename_i b hb
          cases h
          simp only [VR] at hx
          subst hx
          refine ⟨.int .u8 b.toNat, ?_, by simp only [VR]⟩
          simp only [Instr.index, asIntOf, Sem.run_bind, run_underlying k2, Result.andThen_ok, Sem.run_pure]
          rw [if_pos hn, hb]
          simp
        · cases h
      · cases h
    · cases h
  · cases h

end Go.TM
