/- The T-machine, part 8: conversions, appends, lengths, least and greatest, interfaces. -/
import Derived.Test.YtgkcackpffimmaaT7
set_option linter.unusedVariables false
set_option linter.unusedSimpArgs false
namespace Go.TM
open Go.RowKit (Below)

theorem tbytes_ints {g : G} {σ : TS} : ∀ {cs : List TV} {vs : List Value} {bs : List UInt8}, VRL g σ cs vs → tbytes cs = some bs →
    ∃ ns : List Int, vs = ns.map (Value.int .u8) ∧ bs = ns.map fun n => UInt8.ofNat n.toNat
  | [], _, _, h, hb => by
    simp only [VRL] at h; subst h
    simp only [tbytes, Option.some.injEq] at hb; subst hb
    exact ⟨[], rfl, rfl⟩
  | c :: cs, _, _, h, hb => by
    simp only [VRL] at h
    obtain ⟨v, rest, rfl, hv, hr⟩ := h
    unfold tbytes at hb
    split at hb
    · rename_i heq; cases heq
    · rename_i n r heq
      cases heq
      split at hb
      · rename_i bs' hbs
        cases hb
        simp only [VR] at hv
        subst hv
        obtain ⟨ns, rfl, rfl⟩ := tbytes_ints hr hbs
        exact ⟨n :: ns, rfl, rfl⟩
      · cases hb
    · cases hb

theorem push_fold : ∀ (ns : List Int) (acc : ByteArray), ns.foldl (fun (r : ByteArray) n => r.push (UInt8.ofNat n.toNat)) acc = ⟨(acc.data.toList ++ ns.map fun n => UInt8.ofNat n.toNat).toArray⟩
  | [], acc => by simp
  | n :: ns, acc => by
    rw [List.foldl_cons, push_fold ns]
    simp [ByteArray.push]

theorem tconv_ok {P : Program} {g : G} {σ σ' : TS} {w : World} (hw : WR g σ w) {want mu : Bool} {src dst : TypeId} {x r : TV} {xv : Value} (hx : VR g σ x xv)
    (h : tconv (mkTab P) want mu σ src dst x = some (r, σ')) : ValOk P g σ w (convert src dst xv) r σ' := by
  unfold tconv at h
  split at h
  · rename_i i j hi hj
    obtain ⟨info, d, k1, k2, k3, k4, k5, k6, k7⟩ := mkTab_sound hi
    obtain ⟨info', d', k1', k2', k3', k4', k5', k6', k7'⟩ := mkTab_sound hj
    split at h
    · rename_i k k0 n hk
      cases h
      rw [k3'] at hk
      obtain rfl := TK.of_int hk
      simp only [VR] at hx; subst hx
      refine ValOk.same hw (v := .int k (k.wrap n)) ?_ (by simp only [VR])
      simp only [convert, Sem.run_bind, run_underlying k2, run_underlying k2', Result.andThen_ok]
      rfl
    · rename_i s hk
      cases h
      rw [k3'] at hk
      obtain rfl := TK.of_str hk
      simp only [VR] at hx; subst hx
      refine ValOk.same hw (v := .string s) ?_ (by simp only [VR])
      simp only [convert, Sem.run_bind, run_underlying k2, run_underlying k2', Result.andThen_ok]
      rfl
    · rename_i e s hk
      split at h
      · rename_i m hm
        split at h
        · rename_i hmk
          obtain ⟨info2, d2, m1, m2, m3, m4, m5, m6, m7⟩ := mkTab_sound hm
          rw [k3'] at hk
          obtain rfl := TK.of_slice hk
          rw [m3] at hmk
          obtain rfl := TK.of_int hmk
          simp only [VR] at hx; subst hx
          let cap := grownCap w s.size 0 e
          have hcap : s.size ≤ cap := grownCap_ge w s.size 0 e
          let c : Array Value := (s.data.map fun b => Value.int .u8 b.toNat) ++ Array.replicate (cap - s.size) (.int .u8 0)
          have hcl : c.toList = byteCells s ++ List.replicate (cap - s.size) (.int .u8 0) := by simp [c, byteCells]
          have hcs : c.size = cap := by
            have hl : c.toList.length = cap := by rw [hcl, List.length_append, byteCells_length]; simp; omega
            simpa using hl
          let w1 : World := (w.drew.alloc (.cells c e)).freeze ⟨w.heap.size, c.size, none⟩ 1
          have hrun : (convert src dst (.string s)).run P w = .ok (.slice (some ⟨w.heap.size, 0, none⟩) s.size cap) w1 := by
            simp only [convert, Sem.run_bind, run_underlying k2, run_underlying k2', run_underlying m2, Result.andThen_ok, Conv.stringToBytes, run_choose, Question.forced]
            simp only [Bool.false_eq_true, if_false, Result.andThen_ok, newRow, Sem.run_bind, run_newObj, Sem.run_pure, markStringish, run_shape, run_freeze]
            have hsh : (w.drew.alloc (.cells c e)).shape? w.heap.size = some (e, c.size) := by
              simp only [World.shape?]
              rw [show w.heap.size = w.drew.heap.size from rfl, heap_alloc_new w.drew (.cells c e)]
            have hsh' : World.shape? { tape := w.tape, drawn := w.drawn + 1, os := w.os, output := w.output, heap := w.heap.push (.cells c e) } w.heap.size = some (e, c.size) := hsh
            simp only [grownCap, cap, c] at hsh' ⊢
            simp only [hsh', Sem.run_bind, run_freeze, Result.andThen_ok, Sem.run_pure]
            rfl
          have hfz : w1.heap[w.heap.size]? = some (.cells c e (c.size, c.size + 1)) := by
            have h0 := heap_alloc_new w.drew (.cells c e)
            simp only [w1, World.freeze]
            rw [if_neg (by omega)]
            rw [Array.getElem?_modify, if_pos rfl]
            rw [show (w.drew.alloc (.cells c e)).heap[w.heap.size]? = some (.cells c e) from h0]
            simp
          have hb : Below w.heap.size w w1 := by
            refine ⟨rfl, rfl, rfl, ?_, fun k hk => ?_⟩
            · simp only [w1, World.freeze]; rw [if_neg (by omega)]; simp
            · simp only [w1, World.freeze]
              rw [if_neg (by omega)]
              simp only [Array.getElem?_modify]
              rw [if_neg (by omega)]
              exact heap_alloc_old w.drew _ hk
          split at h
          · cases h
            obtain ⟨n1, n2⟩ := hw.newLoc (b := w.heap.size) (o := .cells (byteTVs s)) hb (Nat.le_refl _) (by rw [Array.getElem?_eq_some_iff] at hfz; exact hfz.1)
              ⟨c, e, (c.size, c.size + 1), byteCells s, _, hfz, hcl, fun o ho => by rw [byteCells_length] at ho; simp only [not_and, Nat.not_lt]; omega, (byteTVs_VRL (g := g) (σ := σ) s).one (byteTVs_one s), byteTVs_VRL s⟩
            exact ⟨_, _, _, hrun, n2, n1, by simp only [VR]; exact ⟨_, cap, upd_same _ _ _, rfl, hcap⟩⟩
          have h' := Option.some.inj h
          obtain rfl : r = (tright want σ s.size 1 (byteTVs s)).1 := by rw [h']
          obtain rfl : σ' = (tright want σ s.size 1 (byteTVs s)).2 := by rw [h']
          obtain ⟨g', q1, q2, q3⟩ := newRow_ok (P := P) (b := w.heap.size) (sz := 1) hw want hb (Nat.le_refl _) (by rw [Array.getElem?_eq_some_iff] at hfz; exact hfz.1) (byteTVs s) (byteCells s) (byteTVs_VRL s) (byteTVs_one s)
            (fun j v hj => by
              rw [cell_of_heap hfz, Nat.zero_add, ← Array.getElem?_toList, hcl, List.getElem?_append_left (List.getElem?_eq_some_iff.1 hj).1]
              exact hj) s.size cap hcap (fun j hj => by
              rw [byteCells_length]
              refine ⟨?_, ?_⟩
              · rw [cell_of_heap hfz]; simp; omega
              · simp only [World.frozen?, hfz]; simp; omega)
          exact ⟨g', _, _, hrun, q2, q1, q3⟩
        · cases h
      · cases h
    · rename_i e hk hk' _
      split at h
      · rename_i m cs n hm hcs hn
        split at h
        · rename_i bs hmk hbs
          split at h
          · rename_i hle
            cases h
            obtain ⟨info2, d2, m1, m2, m3, m4, m5, m6, m7⟩ := mkTab_sound hm
            rw [k3] at hk
            obtain rfl := TK.of_slice hk
            rw [k3'] at hk'
            obtain rfl := TK.of_str hk'
            rw [m3] at hmk
            obtain rfl := TK.of_int hmk
            obtain ⟨a, cap, vs, rfl, hcap, hvl, hcell, hnone, hspot⟩ := tslcells_sound hw hx hcs hn
            obtain ⟨ns, hns, rfl⟩ := tbytes_ints (hvl.take n) hbs
            have hlen : vs.length = cs.length := hvl.length
            refine ValOk.same hw (v := .string ⟨(ns.map fun n => UInt8.ofNat n.toNat).toArray⟩) ?_ (by simp only [VR])
            rw [run_convert_bytes_string w src dst e a n cap k2 m2 k2']
            cases a with
            | none =>
              obtain ⟨rfl, rfl, rfl⟩ := hnone rfl
              simp at hns
              subst hns
              rfl
            | some ad =>
              have hload : (loadCells ad n).run P w = .ok (ns.map (Value.int .u8)).toArray w := by
                have := run_loadCells_list (P := P) w ad (vs.take n) (fun j v e => by
                  rw [List.getElem?_take] at e
                  split at e
                  · exact hcell ad rfl j v e
                  · cases e)
                rw [List.length_take, Nat.min_eq_left (by omega)] at this
                rw [this, hns]
              rw [run_bytesToString w ad n cap ns hload, push_fold]
              rfl
          · cases h
        · cases h
      · cases h
    · cases h
  · cases h

/- what is appended -/
def tsrc (T : Tab) (σ : TS) (sz : Nat) (t : TypeId) (x : TV) : Option (Nat × List TV) :=
  match T t, x with
  | some i, .str s => match i.k with
    | .str => if sz = 1 then some (s.size, byteTVs s) else none
    | _ => none
  | some i, x => match i.k, tslcells σ x, tlen x with
    | .slice _, some cs, some n => if n * sz ≤ cs.length then some (n, cs.take (n * sz)) else none
    | _, _, _ => none
  | none, _ => none

theorem tsrc_sound {P : Program} {g : G} {σ : TS} {w : World} (hw : WR g σ w) {sz : Nat} {t : TypeId} {x : TV} {xv : Value} (hx : VR g σ x xv) {n : Nat} {cs : List TV}
    (h : tsrc (mkTab P) σ sz t x = some (n, cs)) (hone : cs.all TV.one = true) : ∃ vs, Src P sz t xv n vs w ∧ VRL g σ cs vs := by
  unfold tsrc at h
  split at h
  · rename_i i s hi
    obtain ⟨info, d, k1, k2, k3, k4, k5, k6, k7⟩ := mkTab_sound hi
    split at h
    · rename_i hk
      split at h
      · rename_i hsz
        cases h
        subst hsz
        rw [k3] at hk
        obtain rfl := TK.of_str hk
        simp only [VR] at hx; subst hx
        exact ⟨byteCells s, Src.ofString w k2 s, byteTVs_VRL s⟩
      · cases h
    · cases h
  · rename_i i x' hi _
    obtain ⟨info, d, k1, k2, k3, k4, k5, k6, k7⟩ := mkTab_sound hi
    split at h
    · rename_i e cs' n' hk hcs hn
      split at h
      · rename_i hle
        cases h
        rw [k3] at hk
        obtain rfl := TK.of_slice hk
        obtain ⟨a, cap, vs, rfl, hcap, hvl, hcell, hnone, hspot⟩ := tslcells_sound hw hx hcs hn
        refine ⟨vs.take (n * sz), ?_, hvl.take _⟩
        have hlen := hvl.length
        cases a with
        | none =>
          obtain ⟨rfl, rfl, rfl⟩ := hnone rfl
          simpa using Src.ofNil (P := P) (size := sz) w k2 0
        | some ad =>
          refine Src.ofSlice w k2 ad n cap _ (by rw [List.length_take]; omega) ?_ ((hvl.take _).one hone)
          intro j u e'
          rw [List.getElem?_take] at e'
          split at e'
          · exact hcell ad rfl j u e'
          · cases e'
      · cases h
    · cases h
  · cases h

def tappend (T : Tab) (want : Bool) (σ : TS) (st xt : TypeId) (s x : TV) : Option (TV × TS) :=
  match T st with
  | some i => match i.k with
    | .slice e => match T e with
      | some j => match j.zero, tsrc T σ j.size xt x with
        | some z, some (n, new) => if z.cells.length = j.size ∧ new.all TV.one = true ∧ new.length = n * j.size then match s with
            | .nils => if n = 0 then some (.nils, σ) else if n * j.bytes ≤ 140737488355328 ∧ n ≤ 9223372036854775807 then some (tright want σ n j.size new) else none
            | .sl own len cs => if cs.length = len * j.size then
                if n = 0 then some (.sl own len cs, σ) else
                if (len + n) * j.bytes ≤ 140737488355328 ∧ len + n ≤ 9223372036854775807 then match own with
                  | some (t, e) => match σ[t]? with
                    | some (.right k sz) => if k = e ∧ sz = j.size then some (.sl (some (t, e + n)) (len + n) (cs ++ new), σ.set t (.right (e + n) sz)) else none
                    | _ => none
                  | none => none
                else none
              else none
            | _ => none
          else none
        | _, _ => none
      | none => none
    | _ => none
  | none => none

theorem zeroCells_size (z : Array Value) (n : Nat) : (Builtin.zeroCells z n).size = n * z.size := by simp [Builtin.zeroCells]

/-- The block that an append makes. -/
theorem grow_facts {w : World} (olds news : List Value) (z : Array Value) (e : TypeId) (need cap sz : Nat) (hz : z.size = sz) (hl : (olds ++ news).length = need * sz) (hle : need ≤ cap) :
    (w.drew.alloc (.cells ((olds ++ news).toArray ++ Builtin.zeroCells z (cap - need)) e)).rangeAt w.heap.size 0 (olds ++ news) ∧
    (∀ j, j < (cap - need) * sz → ((w.drew.alloc (.cells ((olds ++ news).toArray ++ Builtin.zeroCells z (cap - need)) e)).cell? ⟨w.heap.size, (olds ++ news).length + j, none⟩).isSome = true ∧
      (w.drew.alloc (.cells ((olds ++ news).toArray ++ Builtin.zeroCells z (cap - need)) e)).frozen? ⟨w.heap.size, (olds ++ news).length + j, none⟩ = false) := by
  have h0 := heap_alloc_new w.drew (.cells ((olds ++ news).toArray ++ Builtin.zeroCells z (cap - need)) e)
  have h0' : (w.drew.alloc (.cells ((olds ++ news).toArray ++ Builtin.zeroCells z (cap - need)) e)).heap[w.heap.size]? = some (.cells ((olds ++ news).toArray ++ Builtin.zeroCells z (cap - need)) e) := h0
  refine ⟨fun j v hj => ?_, fun j hj => ⟨?_, ?_⟩⟩
  · rw [cell_of_heap h0', Nat.zero_add, Array.getElem?_append_left (by simpa using (List.getElem?_eq_some_iff.1 hj).1)]
    simpa using hj
  · rw [cell_of_heap h0']
    have := zeroCells_size z (cap - need)
    rw [hz] at this
    rw [Array.getElem?_eq_getElem (by simp only [Array.size_append, List.size_toArray, this]; omega)]
    rfl
  · unfold World.frozen?
    rw [h0']
    simp

theorem tappend_ok {P : Program} {g : G} {σ σ' : TS} {w : World} (hw : WR g σ w) {want : Bool} {st xt ty : TypeId} {s x r : TV} {sv xv : Value} (hs : VR g σ s sv) (hx : VR g σ x xv)
    (h : tappend (mkTab P) want σ st xt s x = some (r, σ')) : ValOk P g σ w (Builtin.append_ #[st, xt] ty #[sv, xv]) r σ' := by
  unfold tappend at h
  split at h
  · rename_i i hi
    obtain ⟨info, d, k1, k2, k3, k4, k5, k6, k7⟩ := mkTab_sound hi
    split at h
    · rename_i e hk
      split at h
      · rename_i j hj
        obtain ⟨einfo, ed, m1, m2, m3, m4, m5, m6, m7⟩ := mkTab_sound hj
        split at h
        · rename_i z n new hz hsrc
          split at h
          · rename_i hcond
            obtain ⟨c1, c2, c3⟩ := hcond
            rw [k3] at hk
            obtain rfl := TK.of_slice hk
            obtain ⟨vs, hS, hvl⟩ := tsrc_sound hw hx hsrc c2
            obtain ⟨zv, hzr, hzc, ⟨zi, hzi, hzz⟩⟩ := zero_run hj hz w
            rw [m1] at hzi; cases hzi
            have hzsz : zv.cells.size = j.size := by
              have := (constV_sound (g := g) (σ := σ) hzc).cells.length
              simp at this; omega
            have hS' : Src P einfo.size xt xv n vs w := by rw [m4]; exact hS
            have hvlen : vs.length = n * j.size := by rw [hvl.length]; exact c3
            split at h
            · -- nil
              simp only [VR] at hs; subst hs
              split at h
              · rename_i hn0
                cases h
                subst hn0
                have hvs : vs = [] := List.eq_nil_of_length_eq_zero (by simpa using hvlen)
                subst hvs
                refine ValOk.same hw (v := .slice none 0 0) ?_ (by simp only [VR])
                have hsd := hS'.kind
                rcases hS'.kind with ⟨e', hkk⟩ | hkk <;> simp [Builtin.append_, run_underlying k2, run_underlying hkk, sizeOf, typeInfo, m1, hS'.len, hS'.cells]
              · rename_i hn0
                split at h
                · rename_i hb
                  have h' := Option.some.inj h
                  obtain rfl : r = (tright want σ n j.size new).1 := by rw [h']
                  obtain rfl : σ' = (tright want σ n j.size new).2 := by rw [h']
                  have hrun := run_append_grow_src (P := P) w st xt ty e einfo zv k2 m1 hzz none 0 0 [] (by simp [Builtin.firstCells]) xv n vs hS' (by omega) (by omega)
                    (growslice_fits (by omega) (by rw [m5]; simpa using hb.1))
                  simp only [Nat.zero_add] at hrun
                  have hge := grownCap_ge w n 0 e
                  obtain ⟨f1, f2⟩ := grow_facts (w := w) [] vs zv.cells e n (grownCap w n 0 e) j.size hzsz (by simpa using hvlen) hge
                  have hb' : Below w.heap.size w (w.drew.alloc (.cells (([] ++ vs).toArray ++ Builtin.zeroCells zv.cells (grownCap w n 0 e - n)) e)) :=
                    ((Below.refl _ _).drew).alloc (Nat.le_refl _) _
                  obtain ⟨g', q1, q2, q3⟩ := newRow_ok (P := P) (b := w.heap.size) (sz := j.size) hw want hb' (Nat.le_refl _) (by simp) new ([] ++ vs) (by simpa using hvl) c2 f1 n (grownCap w n 0 e) hge f2
                  exact ⟨g', _, _, hrun, q2, q1, q3⟩
                · cases h
            · -- a tree
              rename_i own len cs
              split at h
              · rename_i hcl
                simp only [VR] at hs
                obtain ⟨a, cap, us, rfl, hle, hkept, hsp, hul, hown⟩ := hs
                have hulen : us.length = len * j.size := by rw [hul.length]; exact hcl
                split at h
                · rename_i hn0
                  cases h
                  subst hn0
                  have hvs : vs = [] := List.eq_nil_of_length_eq_zero (by simpa using hvlen)
                  subst hvs
                  refine ValOk.same hw (v := .slice (some a) len cap) ?_ (by simp only [VR]; exact ⟨a, cap, us, rfl, hle, hkept, hsp, hul, hown⟩)
                  rcases hS'.kind with ⟨e', hkk⟩ | hkk <;> simp [Builtin.append_, run_underlying k2, run_underlying hkk, sizeOf, typeInfo, m1, hS'.len, hS'.cells, hle, storeCells]
                · rename_i hn0
                  split at h
                  · rename_i hb
                    split at h
                    · rename_i t en
                      split at h
                      · rename_i k sz hk
                        split at h
                        · rename_i hke
                          cases h
                          obtain ⟨rfl, rfl⟩ := hke
                          obtain ⟨k0, sz0, p1, p2, p3⟩ := hown
                          rw [hk] at p1
                          simp only [Option.some.injEq, TObj.right.injEq] at p1
                          obtain ⟨rfl, rfl⟩ := p1
                          obtain ⟨b, y, p4, p5⟩ := p3 rfl
                          have hnpos : 0 < n := Nat.pos_of_ne_zero hn0
                          by_cases hroom : len + n ≤ cap
                          · -- in place
                            obtain ⟨rfl, rfl, hspot⟩ := p5 (by omega)
                            obtain ⟨g', q1, q2, q3, q4⟩ := hw.fillSpare (m := n) (vs := vs) hk p4 (by omega) hvlen hnpos (hvl.one c2)
                            obtain ⟨t1, t2, k1', sz1', t3, t4⟩ := hw.tok t a.block (a.off + us.length) (cap - len) p4
                            rw [hk] at t3
                            simp only [Option.some.injEq, TObj.right.injEq] at t3
                            obtain ⟨rfl, rfl⟩ := t3
                            have hmn : n * j.size ≤ (cap - len) * j.size := Nat.mul_le_mul_right _ (by omega)
                            have hrun := run_append_room_src (P := P) w st xt ty e einfo k2 m1 a.block a.off len cap xv n vs hS' hroom
                              (fun x hx => by have := (t4 x (by omega)).2.1; rw [m4, ← hulen]; exact this)
                              (fun x hx => by have := (t4 x (by omega)).2.2; rw [m4, ← hulen]; exact this)
                            rw [m4, ← hulen] at hrun
                            have ha : (⟨a.block, a.off, none⟩ : Addr) = a := by cases a; simp_all
                            rw [ha] at hrun
                            refine ⟨g', _, _, hrun, q2, q1, ?_⟩
                            simp only [VR]
                            refine ⟨a, cap, us ++ vs, rfl, hroom, ?_, .inl hspot, ?_, ?_⟩
                            · intro i v hi'
                              rcases Nat.lt_or_ge i us.length with hlt | hge
                              · rw [List.getElem?_append_left hlt] at hi'
                                exact q2.κ _ _ _ (hkept i v hi')
                              · rw [List.getElem?_append_right hge] at hi'
                                have := q3 _ v hi'
                                rwa [show a.off + us.length + (i - us.length) = a.off + i by omega] at this
                            · exact VRL.append (VRL.mono q2 _ _ hul) (VRL.mono q2 _ _ hvl)
                            · refine ⟨k + n, j.size, by rw [List.getElem?_set_self (List.getElem?_eq_some_iff.1 hk).1], Nat.le_refl _, fun _ => ⟨a.block, a.off + us.length + vs.length, ?_, fun _ => ⟨rfl, by simp; omega, hspot⟩⟩⟩
                              rw [q4]
                              congr 3
                              omega
                          · -- a new row
                            have hold : (Builtin.firstCells einfo.size len (.slice (some a) len cap)).run P w.drew = .ok us.toArray w.drew := by
                              refine run_firstCells_some w.drew einfo.size len a len cap us (by rw [m4]; exact hulen) fun i v hi' => ?_
                              rcases hsp with hsp | hsp
                              · rw [Addr.add_of hsp]
                                exact (hw.keep _ _ _ (hkept i v hi')).1
                              · subst hsp; simp at hi'
                            have hrun := run_append_grow_src (P := P) w st xt ty e einfo zv k2 m1 hzz (some a) len cap us hold xv n vs hS' (by omega) (by omega)
                              (growslice_fits (by omega) (by rw [m5]; exact hb.1))
                            have hge := grownCap_ge w (len + n) cap e
                            have hall : (us ++ vs).length = (len + n) * j.size := by rw [List.length_append, hulen, hvlen, Nat.add_mul]
                            obtain ⟨f1, f2⟩ := grow_facts (w := w) us vs zv.cells e (len + n) (grownCap w (len + n) cap e) j.size hzsz hall hge
                            have hb' : Below w.heap.size w (w.drew.alloc (.cells ((us ++ vs).toArray ++ Builtin.zeroCells zv.cells (grownCap w (len + n) cap e - (len + n))) e)) :=
                              ((Below.refl _ _).drew).alloc (Nat.le_refl _) _
                            have honeall : ∀ v ∈ us ++ vs, v.oneCell' = true := by
                              intro v hv
                              rcases List.mem_append.1 hv with hv | hv
                              · obtain ⟨i, hi', rfl⟩ := List.getElem_of_mem hv
                                exact (hw.keep _ _ _ (hkept i _ (List.getElem?_eq_getElem hi'))).2
                              · exact hvl.one c2 v hv
                            obtain ⟨n1, n2, n3⟩ := hw.newKept (b := w.heap.size) hb' (Nat.le_refl _) f1 honeall
                            have h0 := hw.below.size
                            obtain ⟨s1, s2⟩ := n1.moveRight (t := t) (k := k) (k' := k + n) (b := w.heap.size) (e := (us ++ vs).length) (n := grownCap w (len + n) cap e - (len + n)) (sz := j.size) hk (by omega) h0 (by simp)
                              (fun l el => by have := (hw.new l _ el).2.1; omega)
                              (fun t' e' n' et => by have := (hw.tok t' _ e' n' et).2.1; omega)
                              (fun x hx => ⟨by show keepRow _ _ _ _ _ = _; unfold keepRow; simp, f2 x hx⟩)
                            refine ⟨_, _, _, hrun, n2.trans s2, s1, ?_⟩
                            simp only [VR]
                            refine ⟨_, _, us ++ vs, rfl, hge, n3.mono s2, .inl rfl, ?_, ?_⟩
                            · exact VRL.append (VRL.mono (n2.trans s2) _ _ hul) (VRL.mono (n2.trans s2) _ _ hvl)
                            · exact ⟨k + n, j.size, by rw [List.getElem?_set_self (List.getElem?_eq_some_iff.1 hk).1], Nat.le_refl _, fun _ => ⟨w.heap.size, (us ++ vs).length, upd_same _ _ _, fun _ => ⟨rfl, by simp, rfl⟩⟩⟩
                        · cases h
                      · cases h
                    · cases h
                  · cases h
              · cases h
            · cases h
          · cases h
        · cases h
      · cases h
    · cases h
  · cases h

end Go.TM
