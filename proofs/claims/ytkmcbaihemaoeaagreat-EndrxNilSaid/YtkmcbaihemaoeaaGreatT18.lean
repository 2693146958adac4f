/- The T-machine, part 8: conversions, appends, lengths, least and greatest, interfaces. -/
import Derived.Test.YtkmcbaihemaoeaaGreatT7
import Derived.MapKept
set_option linter.unusedVariables false
set_option linter.unusedSimpArgs false
namespace Go.TM
open Go.RowKit (Below)

theorem tbytes_ints {g : G} {σ : TS} : ∀ {cs : List TV} {vs : List Value} {bs : List UInt8}, VRL g σ cs vs → tbytes cs = some bs →
    ∃ ns : List Int, vs = ns.map (Value.int .u8) ∧ bs = ns.map fun n => UInt8.ofNat n.toNat
  | [], _, _, h, hb => by
    simp only [VRL] at h; subst h
    simp only [tbytes, Option.some.injEq] at hb; subst hb
    exact ⟨[], rfl, rfl⟩
  | c :: cs, _, _, h, hb => by
    simp only [VRL] at h
    obtain ⟨v, rest, rfl, hv, hr⟩ := h
    unfold tbytes at hb
    split at hb
    · rename_i heq; cases heq
    · rename_i n r heq
      cases heq
      split at hb
      · rename_i bs' hbs
        cases hb
        simp only [VR] at hv
        subst hv
        obtain ⟨ns, rfl, rfl⟩ := tbytes_ints hr hbs
        exact ⟨n :: ns, rfl, rfl⟩
      · cases hb
    · cases hb

theorem push_fold : ∀ (ns : List Int) (acc : ByteArray), ns.foldl (fun (r : ByteArray) n => r.push (UInt8.ofNat n.toNat)) acc = ⟨(acc.data.toList ++ ns.map fun n => UInt8.ofNat n.toNat).toArray⟩
  | [], acc => by simp
  | n :: ns, acc => by
    rw [List.foldl_cons, push_fold ns]
    simp [ByteArray.push]

theorem tconv_ok {P : Program} {g : G} {σ σ' : TS} {w : World} (hw : WR g σ w) {want mu : Bool} {src dst : TypeId} {x r : TV} {xv : Value} (hx : VR g σ x xv)
    (h : tconv (mkTab P) want mu σ src dst x = some (r, σ')) : ValOk P g σ w (convert src dst xv) r σ' := by
  unfold tconv at h
  split at h
  · rename_i i j hi hj
    obtain ⟨info, d, k1, k2, k3, k4, k5, k6, k7⟩ := mkTab_sound hi
    obtain ⟨info', d', k1', k2', k3', k4', k5', k6', k7'⟩ := mkTab_sound hj
    split at h
    · rename_i k k0 n hk
      cases h
      rw [k3'] at hk
      obtain rfl := TK.of_int hk
      simp only [VR] at hx; subst hx
      refine ValOk.same hw (v := .int k (k.wrap n)) ?_ (by simp only [VR])
      simp only [convert, Sem.run_bind, run_underlying k2, run_underlying k2', Result.andThen_ok]
      rfl
    · rename_i s hk
      cases h
      rw [k3'] at hk
      obtain rfl := TK.of_str hk
      simp only [VR] at hx; subst hx
      refine ValOk.same hw (v := .string s) ?_ (by simp only [VR])
      simp only [convert, Sem.run_bind, run_underlying k2, run_underlying k2', Result.andThen_ok]
      rfl
    · rename_i e s hk
      split at h
      · rename_i m hm
        split at h
        · rename_i hmk
          obtain ⟨info2, d2, m1, m2, m3, m4, m5, m6, m7⟩ := mkTab_sound hm
          rw [k3'] at hk
          obtain rfl := TK.of_slice hk
          rw [m3] at hmk
          obtain rfl := TK.of_int hmk
          simp only [VR] at hx; subst hx
          let cap := grownCap w s.size 0 e
          have hcap : s.size ≤ cap := grownCap_ge w s.size 0 e
          let c : Array Value := (s.data.map fun b => Value.int .u8 b.toNat) ++ Array.replicate (cap - s.size) (.int .u8 0)
          have hcl : c.toList = byteCells s ++ List.replicate (cap - s.size) (.int .u8 0) := by simp [c, byteCells]
          have hcs : c.size = cap := by
            have hl : c.toList.length = cap := by rw [hcl, List.length_append, byteCells_length]; simp; omega
            simpa using hl
          let w1 : World := (w.drew.alloc (.cells c e)).freeze ⟨w.heap.size, c.size, none⟩ 1
          have hrun : (convert src dst (.string s)).run P w = .ok (.slice (some ⟨w.heap.size, 0, none⟩) s.size cap) w1 := by
            simp only [convert, Sem.run_bind, run_underlying k2, run_underlying k2', run_underlying m2, Result.andThen_ok, Conv.stringToBytes, run_choose, Question.forced]
            simp only [Bool.false_eq_true, if_false, Result.andThen_ok, newRow, Sem.run_bind, run_newObj, Sem.run_pure, markStringish, run_shape, run_freeze]
            have hsh : (w.drew.alloc (.cells c e)).shape? w.heap.size = some (e, c.size) := by
              simp only [World.shape?]
              rw [show w.heap.size = w.drew.heap.size from rfl, heap_alloc_new w.drew (.cells c e)]
            have hsh' : World.shape? { tape := w.tape, drawn := w.drawn + 1, os := w.os, output := w.output, heap := w.heap.push (.cells c e) } w.heap.size = some (e, c.size) := hsh
            simp only [grownCap, cap, c] at hsh' ⊢
            simp only [hsh', Sem.run_bind, run_freeze, Result.andThen_ok, Sem.run_pure]
            rfl
          have hfz : w1.heap[w.heap.size]? = some (.cells c e (c.size, c.size + 1)) := by
            have h0 := heap_alloc_new w.drew (.cells c e)
            simp only [w1, World.freeze]
            rw [if_neg (by omega)]
            rw [Array.getElem?_modify, if_pos rfl]
            rw [show (w.drew.alloc (.cells c e)).heap[w.heap.size]? = some (.cells c e) from h0]
            simp
          have hb : Below w.heap.size w w1 := by
            refine ⟨rfl, rfl, rfl, ?_, fun k hk => ?_⟩
            · simp only [w1, World.freeze]; rw [if_neg (by omega)]; simp
            · simp only [w1, World.freeze]
              rw [if_neg (by omega)]
              simp only [Array.getElem?_modify]
              rw [if_neg (by omega)]
              exact heap_alloc_old w.drew _ hk
          split at h
          · cases h
            obtain ⟨n1, n2⟩ := hw.newLoc (b := w.heap.size) (o := .cells (byteTVs s)) hb (Nat.le_refl _) (by rw [Array.getElem?_eq_some_iff] at hfz; exact hfz.1)
              ⟨c, e, (c.size, c.size + 1), byteCells s, _, hfz, hcl, fun o ho => by rw [byteCells_length] at ho; simp only [not_and, Nat.not_lt]; omega, (byteTVs_VRL (g := g) (σ := σ) s).one (byteTVs_one s), byteTVs_VRL s⟩
            exact ⟨_, _, _, hrun, n2, n1, by simp only [VR]; exact ⟨_, cap, upd_same _ _ _, rfl, hcap⟩⟩
          have h' := Option.some.inj h
          obtain rfl : r = (tright want σ s.size 1 (byteTVs s)).1 := by rw [h']
          obtain rfl : σ' = (tright want σ s.size 1 (byteTVs s)).2 := by rw [h']
          obtain ⟨g', q1, q2, q3⟩ := newRow_ok (P := P) (b := w.heap.size) (sz := 1) hw want hb (Nat.le_refl _) (by rw [Array.getElem?_eq_some_iff] at hfz; exact hfz.1) (byteTVs s) (byteCells s) (byteTVs_VRL s) (byteTVs_one s)
            (fun j v hj => by
              rw [cell_of_heap hfz, Nat.zero_add, ← Array.getElem?_toList, hcl, List.getElem?_append_left (List.getElem?_eq_some_iff.1 hj).1]
              exact hj) s.size cap hcap (fun j hj => by
              rw [byteCells_length]
              refine ⟨?_, ?_⟩
              · rw [cell_of_heap hfz]; simp; omega
              · simp only [World.frozen?, hfz]; simp; omega)
          exact ⟨g', _, _, hrun, q2, q1, q3⟩
        · cases h
      · cases h
    · rename_i e hk hk' _
      split at h
      · rename_i m cs n hm hcs hn
        split at h
        · rename_i bs hmk hbs
          split at h
          · rename_i hle
            cases h
            obtain ⟨info2, d2, m1, m2, m3, m4, m5, m6, m7⟩ := mkTab_sound hm
            rw [k3] at hk
            obtain rfl := TK.of_slice hk
            rw [k3'] at hk'
            obtain rfl := TK.of_str hk'
            rw [m3] at hmk
            obtain rfl := TK.of_int hmk
            obtain ⟨a, cap, vs, rfl, hcap, hvl, hcell, hnone, hspot⟩ := tslcells_sound hw hx hcs hn
            obtain ⟨ns, hns, rfl⟩ := tbytes_ints (hvl.take n) hbs
            have hlen : vs.length = cs.length := hvl.length
            refine ValOk.same hw (v := .string ⟨(ns.map fun n => UInt8.ofNat n.toNat).toArray⟩) ?_ (by simp only [VR])
            rw [run_convert_bytes_string w src dst e a n cap k2 m2 k2']
            cases a with
            | none =>
              obtain ⟨rfl, rfl, rfl⟩ := hnone rfl
              simp at hns
              subst hns
              rfl
            | some ad =>
              have hload : (loadCells ad n).run P w = .ok (ns.map (Value.int .u8)).toArray w := by
                have := run_loadCells_list (P := P) w ad (vs.take n) (fun j v e => by
                  rw [List.getElem?_take] at e
                  split at e
                  · exact hcell ad rfl j v e
                  · cases e)
                rw [List.length_take, Nat.min_eq_left (by omega)] at this
                rw [this, hns]
              rw [run_bytesToString w ad n cap ns hload, push_fold]
              rfl
          · cases h
        · cases h
      · cases h
    · cases h
  · cases h

/- what is appended -/
def tsrc (T : Tab) (σ : TS) (sz : Nat) (t : TypeId) (x : TV) : Option (Nat × List TV) :=
  match T t, x with
  | some i, .str s => match i.k with
    | .str => if sz = 1 then some (s.size, byteTVs s) else none
    | _ => none
  | some i, x => match i.k, tslcells σ x, tlen x with
    | .slice _, some cs, some n => if n * sz ≤ cs.length then some (n, cs.take (n * sz)) else none
    | _, _, _ => none
  | none, _ => none

theorem tsrc_sound {P : Program} {g : G} {σ : TS} {w : World} (hw : WR g σ w) {sz : Nat} {t : TypeId} {x : TV} {xv : Value} (hx : VR g σ x xv) {n : Nat} {cs : List TV}
    (h : tsrc (mkTab P) σ sz t x = some (n, cs)) (hone : cs.all TV.one = true) : ∃ vs, Src P sz t xv n vs w ∧ VRL g σ cs vs := by
  unfold tsrc at h
  split at h
  · rename_i i s hi
    obtain ⟨info, d, k1, k2, k3, k4, k5, k6, k7⟩ := mkTab_sound hi
    split at h
    · rename_i hk
      split at h
      · rename_i hsz
        cases h
        subst hsz
        rw [k3] at hk
        obtain rfl := TK.of_str hk
        simp only [VR] at hx; subst hx
        exact ⟨byteCells s, Src.ofString w k2 s, byteTVs_VRL s⟩
      · cases h
    · cases h
  · rename_i i x' hi _
    obtain ⟨info, d, k1, k2, k3, k4, k5, k6, k7⟩ := mkTab_sound hi
    split at h
    · rename_i e cs' n' hk hcs hn
      split at h
      · rename_i hle
        cases h
        rw [k3] at hk
        obtain rfl := TK.of_slice hk
        obtain ⟨a, cap, vs, rfl, hcap, hvl, hcell, hnone, hspot⟩ := tslcells_sound hw hx hcs hn
        refine ⟨vs.take (n * sz), ?_, hvl.take _⟩
        have hlen := hvl.length
        cases a with
        | none =>
          obtain ⟨rfl, rfl, rfl⟩ := hnone rfl
          simpa using Src.ofNil (P := P) (size := sz) w k2 0
        | some ad =>
          refine Src.ofSlice w k2 ad n cap _ (by rw [List.length_take]; omega) ?_ ((hvl.take _).one hone)
          intro j u e'
          rw [List.getElem?_take] at e'
          split at e'
          · exact hcell ad rfl j u e'
          · cases e'
      · cases h
    · cases h
  · cases h

def tappend (T : Tab) (want : Bool) (σ : TS) (st xt : TypeId) (s x : TV) : Option (TV × TS) :=
  match T st with
  | some i => match i.k with
    | .slice e => match T e with
      | some j => match j.zero, tsrc T σ j.size xt x with
        | some z, some (n, new) => if z.cells.length = j.size ∧ new.all TV.one = true ∧ new.length = n * j.size then match s with
            | .nils => if n = 0 then some (.nils, σ) else if n * j.bytes ≤ 140737488355328 ∧ n ≤ 9223372036854775807 then some (tright want σ n j.size new) else none
            | .sl own len cs => if cs.length = len * j.size then
                if n = 0 then some (.sl own len cs, σ) else
                if (len + n) * j.bytes ≤ 140737488355328 ∧ len + n ≤ 9223372036854775807 then match own with
                  | some (t, e) => match σ[t]? with
                    | some (.right k sz) => if k = e ∧ sz = j.size then some (.sl (some (t, e + n)) (len + n) (cs ++ new), σ.set t (.right (e + n) sz)) else none
                    | _ => none
                  | none => none
                else none
              else none
            | _ => none
          else none
        | _, _ => none
      | none => none
    | _ => none
  | none => none

theorem zeroCells_size (z : Array Value) (n : Nat) : (Builtin.zeroCells z n).size = n * z.size := by simp [Builtin.zeroCells]

/-- The block that an append makes. -/
theorem grow_facts {w : World} (olds news : List Value) (z : Array Value) (e : TypeId) (need cap sz : Nat) (hz : z.size = sz) (hl : (olds ++ news).length = need * sz) (hle : need ≤ cap) :
    (w.drew.alloc (.cells ((olds ++ news).toArray ++ Builtin.zeroCells z (cap - need)) e)).rangeAt w.heap.size 0 (olds ++ news) ∧
    (∀ j, j < (cap - need) * sz → ((w.drew.alloc (.cells ((olds ++ news).toArray ++ Builtin.zeroCells z (cap - need)) e)).cell? ⟨w.heap.size, (olds ++ news).length + j, none⟩).isSome = true ∧
      (w.drew.alloc (.cells ((olds ++ news).toArray ++ Builtin.zeroCells z (cap - need)) e)).frozen? ⟨w.heap.size, (olds ++ news).length + j, none⟩ = false) := by
  have h0 := heap_alloc_new w.drew (.cells ((olds ++ news).toArray ++ Builtin.zeroCells z (cap - need)) e)
  have h0' : (w.drew.alloc (.cells ((olds ++ news).toArray ++ Builtin.zeroCells z (cap - need)) e)).heap[w.heap.size]? = some (.cells ((olds ++ news).toArray ++ Builtin.zeroCells z (cap - need)) e) := h0
  refine ⟨fun j v hj => ?_, fun j hj => ⟨?_, ?_⟩⟩
  · rw [cell_of_heap h0', Nat.zero_add, Array.getElem?_append_left (by simpa using (List.getElem?_eq_some_iff.1 hj).1)]
    simpa using hj
  · rw [cell_of_heap h0']
    have := zeroCells_size z (cap - need)
    rw [hz] at this
    rw [Array.getElem?_eq_getElem (by simp only [Array.size_append, List.size_toArray, this]; omega)]
    rfl
  · unfold World.frozen?
    rw [h0']
    simp

theorem tappend_ok {P : Program} {g : G} {σ σ' : TS} {w : World} (hw : WR g σ w) {want : Bool} {st xt ty : TypeId} {s x r : TV} {sv xv : Value} (hs : VR g σ s sv) (hx : VR g σ x xv)
    (h : tappend (mkTab P) want σ st xt s x = some (r, σ')) : ValOk P g σ w (Builtin.append_ #[st, xt] ty #[sv, xv]) r σ' := by
  unfold tappend at h
  split at h
  · rename_i i hi
    obtain ⟨info, d, k1, k2, k3, k4, k5, k6, k7⟩ := mkTab_sound hi
    split at h
    · rename_i e hk
      split at h
      · rename_i j hj
        obtain ⟨einfo, ed, m1, m2, m3, m4, m5, m6, m7⟩ := mkTab_sound hj
        split at h
        · rename_i z n new hz hsrc
          split at h
          · rename_i hcond
            obtain ⟨c1, c2, c3⟩ := hcond
            rw [k3] at hk
            obtain rfl := TK.of_slice hk
            obtain ⟨vs, hS, hvl⟩ := tsrc_sound hw hx hsrc c2
            obtain ⟨zv, hzr, hzc, ⟨zi, hzi, hzz⟩⟩ := zero_run hj hz w
            rw [m1] at hzi; cases hzi
            have hzsz : zv.cells.size = j.size := by
              have := (constV_sound (g := g) (σ := σ) hzc).cells.length
              simp at this; omega
            have hS' : Src P einfo.size xt xv n vs w := by rw [m4]; exact hS
            have hvlen : vs.length = n * j.size := by rw [hvl.length]; exact c3
            split at h
            · -- nil
              simp only [VR] at hs; subst hs
              split at h
              · rename_i hn0
                cases h
                subst hn0
                have hvs : vs = [] := List.eq_nil_of_length_eq_zero (by simpa using hvlen)
                subst hvs
                refine ValOk.same hw (v := .slice none 0 0) ?_ (by simp only [VR])
                have hsd := hS'.kind
                rcases hS'.kind with ⟨e', hkk⟩ | hkk <;> simp [Builtin.append_, run_underlying k2, run_underlying hkk, sizeOf, typeInfo, m1, hS'.len, hS'.cells]
              · rename_i hn0
                split at h
                · rename_i hb
                  have h' := Option.some.inj h
                  obtain rfl : r = (tright want σ n j.size new).1 := by rw [h']
                  obtain rfl : σ' = (tright want σ n j.size new).2 := by rw [h']
                  have hrun := run_append_grow_src (P := P) w st xt ty e einfo zv k2 m1 hzz none 0 0 [] (by simp [Builtin.firstCells]) xv n vs hS' (by omega) (by omega)
                    (growslice_fits (by omega) (by rw [m5]; simpa using hb.1))
                  simp only [Nat.zero_add] at hrun
                  have hge := grownCap_ge w n 0 e
                  obtain ⟨f1, f2⟩ := grow_facts (w := w) [] vs zv.cells e n (grownCap w n 0 e) j.size hzsz (by simpa using hvlen) hge
                  have hb' : Below w.heap.size w (w.drew.alloc (.cells (([] ++ vs).toArray ++ Builtin.zeroCells zv.cells (grownCap w n 0 e - n)) e)) :=
                    ((Below.refl _ _).drew).alloc (Nat.le_refl _) _
                  obtain ⟨g', q1, q2, q3⟩ := newRow_ok (P := P) (b := w.heap.size) (sz := j.size) hw want hb' (Nat.le_refl _) (by simp) new ([] ++ vs) (by simpa using hvl) c2 f1 n (grownCap w n 0 e) hge f2
                  exact ⟨g', _, _, hrun, q2, q1, q3⟩
                · cases h
            · -- a tree
              rename_i own len cs
              split at h
              · rename_i hcl
                simp only [VR] at hs
                obtain ⟨a, cap, us, rfl, hle, hkept, hsp, hul, hown⟩ := hs
                have hulen : us.length = len * j.size := by rw [hul.length]; exact hcl
                split at h
                · rename_i hn0
                  cases h
                  subst hn0
                  have hvs : vs = [] := List.eq_nil_of_length_eq_zero (by simpa using hvlen)
                  subst hvs
                  refine ValOk.same hw (v := .slice (some a) len cap) ?_ (by simp only [VR]; exact ⟨a, cap, us, rfl, hle, hkept, hsp, hul, hown⟩)
                  rcases hS'.kind with ⟨e', hkk⟩ | hkk <;> simp [Builtin.append_, run_underlying k2, run_underlying hkk, sizeOf, typeInfo, m1, hS'.len, hS'.cells, hle, storeCells]
                · rename_i hn0
                  split at h
                  · rename_i hb
                    split at h
                    · rename_i t en
                      split at h
                      · rename_i k sz hk
                        split at h
                        · rename_i hke
                          cases h
                          obtain ⟨rfl, rfl⟩ := hke
                          obtain ⟨k0, sz0, p1, p2, p3⟩ := hown
                          rw [hk] at p1
                          simp only [Option.some.injEq, TObj.right.injEq] at p1
                          obtain ⟨rfl, rfl⟩ := p1
                          obtain ⟨b, y, p4, p5⟩ := p3 rfl
                          have hnpos : 0 < n := Nat.pos_of_ne_zero hn0
                          by_cases hroom : len + n ≤ cap
                          · -- in place
                            obtain ⟨rfl, rfl, hspot⟩ := p5 (by omega)
                            obtain ⟨g', q1, q2, q3, q4⟩ := hw.fillSpare (m := n) (vs := vs) hk p4 (by omega) hvlen hnpos (hvl.one c2)
                            obtain ⟨t1, t2, k1', sz1', t3, t4⟩ := hw.tok t a.block (a.off + us.length) (cap - len) p4
                            rw [hk] at t3
                            simp only [Option.some.injEq, TObj.right.injEq] at t3
                            obtain ⟨rfl, rfl⟩ := t3
                            have hmn : n * j.size ≤ (cap - len) * j.size := Nat.mul_le_mul_right _ (by omega)
                            have hrun := run_append_room_src (P := P) w st xt ty e einfo k2 m1 a.block a.off len cap xv n vs hS' hroom
                              (fun x hx => by have := (t4 x (by omega)).2.1; rw [m4, ← hulen]; exact this)
                              (fun x hx => by have := (t4 x (by omega)).2.2; rw [m4, ← hulen]; exact this)
                            rw [m4, ← hulen] at hrun
                            have ha : (⟨a.block, a.off, none⟩ : Addr) = a := by cases a; simp_all
                            rw [ha] at hrun
                            refine ⟨g', _, _, hrun, q2, q1, ?_⟩
                            simp only [VR]
                            refine ⟨a, cap, us ++ vs, rfl, hroom, ?_, .inl hspot, ?_, ?_⟩
                            · intro i v hi'
                              rcases Nat.lt_or_ge i us.length with hlt | hge
                              · rw [List.getElem?_append_left hlt] at hi'
                                exact q2.κ _ _ _ (hkept i v hi')
                              · rw [List.getElem?_append_right hge] at hi'
                                have := q3 _ v hi'
                                rwa [show a.off + us.length + (i - us.length) = a.off + i by omega] at this
                            · exact VRL.append (VRL.mono q2 _ _ hul) (VRL.mono q2 _ _ hvl)
                            · refine ⟨k + n, j.size, by rw [List.getElem?_set_self (List.getElem?_eq_some_iff.1 hk).1], Nat.le_refl _, fun _ => ⟨a.block, a.off + us.length + vs.length, ?_, fun _ => ⟨rfl, by simp; omega, hspot⟩⟩⟩
                              rw [q4]
                              congr 3
                              omega
                          · -- a new row
                            have hold : (Builtin.firstCells einfo.size len (.slice (some a) len cap)).run P w.drew = .ok us.toArray w.drew := by
                              refine run_firstCells_some w.drew einfo.size len a len cap us (by rw [m4]; exact hulen) fun i v hi' => ?_
                              rcases hsp with hsp | hsp
                              · rw [Addr.add_of hsp]
                                exact (hw.keep _ _ _ (hkept i v hi')).1
                              · subst hsp; simp at hi'
                            have hrun := run_append_grow_src (P := P) w st xt ty e einfo zv k2 m1 hzz (some a) len cap us hold xv n vs hS' (by omega) (by omega)
                              (growslice_fits (by omega) (by rw [m5]; exact hb.1))
                            have hge := grownCap_ge w (len + n) cap e
                            have hall : (us ++ vs).length = (len + n) * j.size := by rw [List.length_append, hulen, hvlen, Nat.add_mul]
                            obtain ⟨f1, f2⟩ := grow_facts (w := w) us vs zv.cells e (len + n) (grownCap w (len + n) cap e) j.size hzsz hall hge
                            have hb' : Below w.heap.size w (w.drew.alloc (.cells ((us ++ vs).toArray ++ Builtin.zeroCells zv.cells (grownCap w (len + n) cap e - (len + n))) e)) :=
                              ((Below.refl _ _).drew).alloc (Nat.le_refl _) _
                            have honeall : ∀ v ∈ us ++ vs, v.oneCell' = true := by
                              intro v hv
                              rcases List.mem_append.1 hv with hv | hv
                              · obtain ⟨i, hi', rfl⟩ := List.getElem_of_mem hv
                                exact (hw.keep _ _ _ (hkept i _ (List.getElem?_eq_getElem hi'))).2
                              · exact hvl.one c2 v hv
                            obtain ⟨n1, n2, n3⟩ := hw.newKept (b := w.heap.size) hb' (Nat.le_refl _) f1 honeall
                            have h0 := hw.below.size
                            obtain ⟨s1, s2⟩ := n1.moveRight (t := t) (k := k) (k' := k + n) (b := w.heap.size) (e := (us ++ vs).length) (n := grownCap w (len + n) cap e - (len + n)) (sz := j.size) hk (by omega) h0 (by simp)
                              (fun l el => by have := (hw.new l _ el).2.1; omega)
                              (fun t' e' n' et => by have := (hw.tok t' _ e' n' et).2.1; omega)
                              (fun l cs q x y => (hw.fresh (Nat.le_refl _)).ν l cs q x y)
                              (fun x hx => ⟨by show keepRow _ _ _ _ _ = _; unfold keepRow; simp, f2 x hx⟩)
                            refine ⟨_, _, _, hrun, n2.trans s2, s1, ?_⟩
                            simp only [VR]
                            refine ⟨_, _, us ++ vs, rfl, hge, n3.mono s2, .inl rfl, ?_, ?_⟩
                            · exact VRL.append (VRL.mono (n2.trans s2) _ _ hul) (VRL.mono (n2.trans s2) _ _ hvl)
                            · exact ⟨k + n, j.size, by rw [List.getElem?_set_self (List.getElem?_eq_some_iff.1 hk).1], Nat.le_refl _, fun _ => ⟨w.heap.size, (us ++ vs).length, upd_same _ _ _, fun _ => ⟨rfl, by simp, rfl⟩⟩⟩
                        · cases h
                      · cases h
                    · cases h
                  · cases h
              · cases h
            · cases h
          · cases h
        · cases h
      · cases h
    · cases h
  · cases h

/- append to a row of one's own -/
def tappendR (T : Tab) (σ : TS) (st xt : TypeId) (s x : TV) : Option (TV × TS) :=
  match T st with
  | some i => match i.k with
    | .slice e => match T e with
      | some j => match j.zero, tsrc T σ j.size xt x with
        | some z, some (n, new) => if z.cells.length = j.size ∧ new.all TV.one = true ∧ new.length = n * j.size ∧ n ≠ 0 then match s with
            | .nils => if n * j.bytes ≤ 140737488355328 ∧ n ≤ 9223372036854775807 then some (.rs σ.length 0 n j.size, σ ++ [.row new]) else none
            | .rs l o len sz => match σ[l]? with
              | some (.row cs) => if sz = j.size ∧ o + len * sz ≤ cs.length ∧ (len + n) * j.bytes ≤ 140737488355328 ∧ len + n ≤ 9223372036854775807 then
                  some (.rs σ.length 0 (len + n) sz, σ.set l .dead ++ [.row ((cs.drop o).take (len * sz) ++ new)])
                else none
              | _ => none
            | _ => none
          else none
        | _, _ => none
      | none => none
    | _ => none
  | none => none

theorem grow_row {w : World} (olds news : List Value) (z : Array Value) (e : TypeId) (need cap sz : Nat) (hz : z.size = sz) (hl : (olds ++ news).length = need * sz) (hle : need ≤ cap) {g : G} {σ : TS} {cs : List TV} (hv : VRL g σ cs (olds ++ news)) (h1 : cs.all TV.one = true) :
    ∃ c e' fz vs, (w.drew.alloc (.cells ((olds ++ news).toArray ++ Builtin.zeroCells z (cap - need)) e)).heap[w.heap.size]? = some (.cells c e' fz) ∧ 0 + cap * sz ≤ c.size ∧ cs.length ≤ cap * sz ∧ (∀ j, j < cap * sz → ¬ (fz.1 ≤ 0 + j ∧ 0 + j < fz.2)) ∧ VRL g σ cs vs ∧ (∀ v ∈ vs, v.oneCell' = true) ∧ ∀ i v, vs[i]? = some v → c[0 + i]? = some v := by
  have hm : need * sz + (cap - need) * sz = cap * sz := by rw [← Nat.add_mul]; congr 1; omega
  refine ⟨_, _, _, olds ++ news, heap_alloc_new w.drew _, ?_, ?_, ?_, hv, hv.one h1, fun i v hi => ?_⟩
  · rw [Array.size_append, List.size_toArray, zeroCells_size, hz]; omega
  · rw [← hv.length, hl]; omega
  · intro j _ ⟨_, h⟩; exact absurd h (Nat.not_lt_zero _)
  · rw [Nat.zero_add, Array.getElem?_append_left (by simpa using (List.getElem?_eq_some_iff.1 hi).1)]
    simpa using hi

theorem tappendR_ok {P : Program} {g : G} {σ σ' : TS} {w : World} (hw : WR g σ w) {st xt ty : TypeId} {s x r : TV} {sv xv : Value} (hs : VR g σ s sv) (hx : VR g σ x xv)
    (h : tappendR (mkTab P) σ st xt s x = some (r, σ')) : ValOk P g σ w (Builtin.append_ #[st, xt] ty #[sv, xv]) r σ' := by
  unfold tappendR at h
  split at h
  · rename_i i hi
    obtain ⟨info, d, k1, k2, k3, k4, k5, k6, k7⟩ := mkTab_sound hi
    split at h
    · rename_i e hk
      split at h
      · rename_i j hj
        obtain ⟨einfo, ed, m1, m2, m3, m4, m5, m6, m7⟩ := mkTab_sound hj
        split at h
        · rename_i z n new hz hsrc
          split at h
          · rename_i hcond
            obtain ⟨c1, c2, c3, hn0⟩ := hcond
            rw [k3] at hk
            obtain rfl := TK.of_slice hk
            obtain ⟨vs, hS, hvl⟩ := tsrc_sound hw hx hsrc c2
            obtain ⟨zv, hzr, hzc, ⟨zi, hzi, hzz⟩⟩ := zero_run hj hz w
            rw [m1] at hzi; cases hzi
            have hzsz : zv.cells.size = j.size := by
              have := (constV_sound (g := g) (σ := σ) hzc).cells.length
              simp at this; omega
            have hS' : Src P einfo.size xt xv n vs w := by rw [m4]; exact hS
            have hvlen : vs.length = n * j.size := by rw [hvl.length]; exact c3
            split at h
            · -- nil
              simp only [VR] at hs; subst hs
              split at h
              · rename_i hb
                cases h
                have hrun := run_append_grow_src (P := P) w st xt ty e einfo zv k2 m1 hzz none 0 0 [] (by simp [Builtin.firstCells]) xv n vs hS' (by omega) (by omega)
                  (growslice_fits (by omega) (by rw [m5]; simpa using hb.1))
                simp only [Nat.zero_add] at hrun
                have hge := grownCap_ge w n 0 e
                have hb' : Below w.heap.size w (w.drew.alloc (.cells (([] ++ vs).toArray ++ Builtin.zeroCells zv.cells (grownCap w n 0 e - n)) e)) :=
                  ((Below.refl _ _).drew).alloc (Nat.le_refl _) _
                obtain ⟨q1, q2⟩ := (hw.grow hb').newRowObj (hw.fresh (Nat.le_refl _)) (by simp) (grow_row [] vs zv.cells e n (grownCap w n 0 e) j.size hzsz (by simpa using hvlen) hge (by simpa using hvl) c2)
                refine ⟨_, _, _, hrun, q2, q1, ?_⟩
                simp only [VR]
                refine ⟨by simp, _, _, _, rfl, hge, fun cs q => ⟨0, grownCap w n 0 e * j.size, upd_same _ _ _, fun _ => rfl, by omega⟩⟩
              · cases h
            · -- a row
              rename_i l o len sz
              split at h
              · rename_i cs hl
                split at h
                · rename_i hb
                  cases h
                  obtain ⟨rfl, hlen, hb⟩ := hb
                  simp only [VR] at hs
                  obtain ⟨hlt, b, o', cap, rfl, hle, hr⟩ := hs
                  obtain ⟨base, nr, hn, ho', hreg⟩ := hr _ hl
                  obtain ⟨b', base', n', hn', hok⟩ := hw.row l _ hl
                  rw [hn] at hn'
                  simp only [Option.some.injEq, Prod.mk.injEq] at hn'
                  obtain ⟨rfl, rfl, rfl⟩ := hn'
                  obtain ⟨c, e', fz, us, h1, h2, h3, h4, h5, h6, h7⟩ := hok.cells
                  have hul := h5.length
                  have hold2 := (h5.drop o).take (len * j.size)
                  have holen : ((us.drop o).take (len * j.size)).length = len * j.size := by rw [List.length_take, List.length_drop]; omega
                  have hone2 : ((cs.drop o).take (len * j.size)).all TV.one = true ∨ True := .inr trivial
                  have hones : ∀ v ∈ (us.drop o).take (len * j.size), v.oneCell' = true := fun v hv => h6 v (List.mem_of_mem_drop (List.mem_of_mem_take hv))
                  have hall : ((us.drop o).take (len * j.size) ++ vs).length = (len + n) * j.size := by rw [List.length_append, holen, hvlen, Nat.add_mul]
                  have honeA : ∀ v ∈ (us.drop o).take (len * j.size) ++ vs, v.oneCell' = true := fun v hv => by
                    rcases List.mem_append.1 hv with hv | hv
                    · exact hones v hv
                    · exact hvl.one c2 v hv
                  obtain ⟨kw, kx⟩ := hw.kill hl
                  have hvk : VRL g (σ.set l .dead) ((cs.drop o).take (len * j.size) ++ new) ((us.drop o).take (len * j.size) ++ vs) := (VRL.mono kx _ _ hold2).append (VRL.mono kx _ _ hvl)
                  have hsl : (σ.set l .dead).length = σ.length := List.length_set ..
                  by_cases hroom : len + n ≤ cap
                  · -- in place
                    have hcap : cap ≠ 0 := by omega
                    obtain rfl := ho' hcap
                    have hm1 : (len + n) * j.size ≤ cap * j.size := Nat.mul_le_mul_right _ hroom
                    rw [Nat.add_mul] at hm1
                    have hrun := run_append_room_src (P := P) w st xt ty e einfo k2 m1 b (base + o) len cap xv n vs hS' hroom
                      (fun x hx => by rw [cell_of_heap h1, m4]; simp; omega)
                      (fun x hx => by
                        have hq := h4 (o + len * j.size + x) (by omega)
                        rw [m4]
                        simp only [World.frozen?, h1, decide_eq_true_eq, Bool.and_eq_false_imp, decide_eq_false_iff_not]
                        intro hy hz'; exact hq ⟨by omega, by omega⟩)
                    rw [m4] at hrun
                    obtain ⟨r1, r2, r3⟩ := setCells_rest b vs (base + o + len * j.size) w
                    obtain ⟨c', q1, q2⟩ := setCells_cells b e' fz vs (base + o + len * j.size) w c h1 (by omega)
                    have hsz : c'.size = c.size := by rw [← Array.length_toList, q2]; simp; omega
                    have hu := hw.killed hl hn
                    have hw2 := kw.scratch (w' := w.setCells b (base + o + len * j.size) vs) hu (setCells_size _ _ _ _) r1 r2 r3 (fun k hk => setCells_block b _ _ _ _ hk)
                    obtain ⟨p1, p2⟩ := hw2.newRowObj (base := base + o) (n := nr - o) (cs := (cs.drop o).take (len * j.size) ++ new) hu (by rw [setCells_size]; exact hok.new.2)
                      ⟨c', e', fz, (us.drop o).take (len * j.size) ++ vs, q1, by omega, by rw [← hvk.length, hall, Nat.add_mul]; omega, fun y hy hz' => h4 (o + y) (by omega) ⟨by omega, by omega⟩, hvk, honeA, fun y v hv => by
                        rw [← Array.getElem?_toList, q2]
                        rcases Nat.lt_or_ge y (len * j.size) with hy | hy
                        · rw [List.getElem?_append_left (by omega), List.getElem?_take_of_lt hy, List.getElem?_drop] at hv
                          rw [List.getElem?_append_left (by simp; omega), List.getElem?_append_left (by simp; omega), List.getElem?_take_of_lt (by omega), Array.getElem?_toList]
                          have := h7 _ _ hv
                          rw [show base + o + y = base + (o + y) by omega]
                          exact this
                        · rw [List.getElem?_append_right (by omega), holen] at hv
                          have hyl := (List.getElem?_eq_some_iff.1 hv).1
                          rw [List.getElem?_append_left (by simp; omega), List.getElem?_append_right (by simp; omega)]
                          simp only [List.length_take, Array.length_toList]
                          rw [Nat.min_eq_left (by omega), show base + o + y - (base + o + len * j.size) = y - len * j.size by omega]
                          exact hv⟩
                    rw [hsl] at p1 p2
                    refine ⟨_, _, _, hrun, kx.trans p2, p1, ?_⟩
                    simp only [VR]
                    refine ⟨by simp, _, _, _, rfl, hroom, fun cs' q => ⟨base + o, nr - o, upd_same _ _ _, fun _ => by omega, by omega⟩⟩
                  · -- a new block
                    have hold : (Builtin.firstCells einfo.size len (.slice (some ⟨b, o', none⟩) len cap)).run P w.drew = .ok ((us.drop o).take (len * j.size)).toArray w.drew := by
                      refine run_firstCells_some w.drew einfo.size len ⟨b, o', none⟩ len cap _ (by rw [m4]; exact holen) fun y v hv => ?_
                      have hy := (List.getElem?_eq_some_iff.1 hv).1
                      have hcap : cap ≠ 0 := by
                        intro h0
                        have : len = 0 := by omega
                        subst this
                        rw [holen] at hy
                        simp at hy
                      obtain rfl := ho' hcap
                      rw [Addr.add_lit]
                      show w.cell? _ = _
                      rw [List.getElem?_take_of_lt (by omega), List.getElem?_drop] at hv
                      rw [cell_of_heap h1]
                      have := h7 _ _ hv
                      rw [show base + o + y = base + (o + y) by omega]
                      exact this
                    have hrun := run_append_grow_src (P := P) w st xt ty e einfo zv k2 m1 hzz (some ⟨b, o', none⟩) len cap _ hold xv n vs hS' (by omega) (by omega)
                      (growslice_fits (by omega) (by rw [m5]; exact hb.1))
                    have hge := grownCap_ge w (len + n) cap e
                    have hb' : Below w.heap.size w (w.drew.alloc (.cells (((us.drop o).take (len * j.size) ++ vs).toArray ++ Builtin.zeroCells zv.cells (grownCap w (len + n) cap e - (len + n))) e)) :=
                      ((Below.refl _ _).drew).alloc (Nat.le_refl _) _
                    obtain ⟨q1, q2⟩ := (kw.grow hb').newRowObj (base := 0) (n := grownCap w (len + n) cap e * j.size) (cs := (cs.drop o).take (len * j.size) ++ new) (kw.fresh (Nat.le_refl _)) (by simp) (by
                      have hm : (len + n) * j.size + (grownCap w (len + n) cap e - (len + n)) * j.size = grownCap w (len + n) cap e * j.size := by rw [← Nat.add_mul]; congr 1; omega
                      refine ⟨_, _, _, _, heap_alloc_new w.drew _, ?_, ?_, ?_, hvk, honeA, fun y v hy => ?_⟩
                      · rw [Array.size_append, List.size_toArray, zeroCells_size, hzsz]; omega
                      · rw [← hvk.length, hall]; omega
                      · intro j _ ⟨_, h⟩; exact absurd h (Nat.not_lt_zero _)
                      · rw [Nat.zero_add, Array.getElem?_append_left (by simpa using (List.getElem?_eq_some_iff.1 hy).1)]
                        simpa using hy)
                    rw [hsl] at q1 q2
                    refine ⟨_, _, _, hrun, kx.trans q2, q1, ?_⟩
                    simp only [VR]
                    refine ⟨by simp, _, _, _, rfl, hge, fun cs q => ⟨0, grownCap w (len + n) cap e * j.size, upd_same _ _ _, fun _ => rfl, by omega⟩⟩
                · cases h
              · cases h
            · cases h
          · cases h
        · cases h
      · cases h
    · cases h
  · cases h

end Go.TM

/- The T-machine, part 18 (it stands ahead of part 9): maps. -/
set_option linter.unusedVariables false
set_option linter.unusedSimpArgs false
namespace Go.TM
open Go.RowKit (Below)
open Go.Instr (checkKey findAsking findNow findKey sameNow sameBits keyThatStays)

/- keys -/
def beqA : TV → TV → Bool
  | .int j a, .int k b => j == k && a == b
  | .bool a, .bool b => a == b
  | .str a, .str b => decide (a = b)
  | _, _ => false

theorem bytes_refl (a : ByteArray) : (a == a) = true := by
  show (a.data == a.data) = true
  simp

def beqP : Nat → TV → TV → Bool
  | 0, a, b => beqA a b
  | n + 1, a, b => match a, b with
    | .agg xs, .agg ys => xs.length == ys.length && (xs.zip ys).all fun x => beqP n x.1 x.2
    | a, b => beqA a b

theorem beqA_run {g : G} {σ : TS} {D : Nat} {a b : TV} {av bv : Value} (ha : VR g σ a av) (hb : VR g σ b bv) (h : beqA a b = true) : av = bv ∧ sameBits D bv av = true := by
  unfold beqA at h
  split at h
  · simp only [Bool.and_eq_true, beq_iff_eq] at h
    obtain ⟨rfl, rfl⟩ := h
    simp only [VR] at ha hb; subst ha hb
    exact ⟨rfl, by cases D <;> simp [sameBits]⟩
  · simp only [beq_iff_eq] at h
    subst h
    simp only [VR] at ha hb; subst ha hb
    exact ⟨rfl, by cases D <;> simp [sameBits]⟩
  · simp only [decide_eq_true_eq] at h
    subst h
    simp only [VR] at ha hb; subst ha hb
    exact ⟨rfl, by cases D <;> simp [sameBits, bytes_refl]⟩
  · cases h

theorem beqP_run {g : G} {σ : TS} : ∀ (n D : Nat) (a b : TV) (av bv : Value), n ≤ D → VR g σ a av → VR g σ b bv → beqP n a b = true → av = bv ∧ sameBits D bv av = true := by
  intro n
  induction n with
  | zero => intro D a b av bv hle ha hb h; exact beqA_run ha hb h
  | succ n ih =>
    intro D a b av bv hle ha hb h
    simp only [beqP] at h
    split at h
    · rename_i xs ys
      cases D with
      | zero => omega
      | succ D =>
        simp only [VR] at ha hb
        obtain ⟨us, rfl, hu⟩ := ha
        obtain ⟨vs, rfl, hv⟩ := hb
        simp only [Bool.and_eq_true, beq_iff_eq] at h
        have key : ∀ (xs ys : List TV) (us vs : List Value), VRL g σ xs us → VRL g σ ys vs → xs.length = ys.length → ((xs.zip ys).all fun x => beqP n x.1 x.2) = true →
            us = vs ∧ ((vs.zip us).all fun x => sameBits D x.1 x.2) = true := by
          intro xs
          induction xs with
          | nil =>
            intro ys us vs h1 h2 h3 _
            cases ys with
            | nil => simp only [VRL] at h1 h2; subst h1 h2; exact ⟨rfl, rfl⟩
            | cons y ys => simp at h3
          | cons x xs ihx =>
            intro ys us vs h1 h2 h3 h4
            cases ys with
            | nil => simp at h3
            | cons y ys =>
              simp only [VRL] at h1 h2
              obtain ⟨u, us, rfl, p1, p2⟩ := h1
              obtain ⟨v, vs, rfl, q1, q2⟩ := h2
              simp only [List.zip_cons_cons, List.all_cons, Bool.and_eq_true] at h4
              obtain ⟨e1, e2⟩ := ih D x y u v (by omega) p1 q1 h4.1
              obtain ⟨e3, e4⟩ := ihx ys us vs p2 q2 (by simpa using h3) h4.2
              subst e1 e3
              exact ⟨rfl, by simp only [List.zip_cons_cons, List.all_cons, Bool.and_eq_true]; exact ⟨e2, e4⟩⟩
        obtain ⟨e1, e2⟩ := key xs ys us.toList vs.toList hu hv h.1 h.2
        have e3 : us = vs := by rw [← Array.toList_inj]; exact e1
        subst e3
        refine ⟨rfl, ?_⟩
        simp only [sameBits, beq_self_eq_true, Bool.true_and]
        exact e2
    · exact beqA_run ha hb h

def tkey (T : Tab) : Nat → TypeId → TV → Bool
  | 0, _, _ => false
  | n + 1, t, v => match T t with
    | none => false
    | some i => match i.k, v with
      | .struct fs true, .agg cs => fs.all fun f => match tpart T f.1 cs f.2 with
        | some x => tkey T n f.1 x
        | none => false
      | .bool, _ | .int _, _ | .str, _ | .ptr _, _ => true
      | _, _ => false

theorem forIn_unit {P : Program} {α : Type} (f : α → Sem Unit) (w : World) : ∀ (l : List α), (∀ x ∈ l, (f x).run P w = .ok () w) →
    ((forIn l PUnit.unit fun x _ => do f x; pure (ForInStep.yield PUnit.unit)) : Sem PUnit).run P w = .ok PUnit.unit w
  | [], _ => by simp
  | x :: l, h => by
    simp only [List.forIn_cons, Sem.run_bind, h x (by simp), Result.andThen_ok, Sem.run_pure]
    exact forIn_unit f w l fun y hy => h y (by simp [hy])

theorem tkey_run {P : Program} {g : G} {σ : TS} : ∀ (n D : Nat) (t : TypeId) (v : TV) (vv : Value), n ≤ D → VR g σ v vv → tkey (mkTab P) n t v = true → ∀ (em : Bool) (w : World), (checkKey em D t vv).run P w = .ok () w
  | 0, _, _, _, _, _, _, h, _, _ => by simp [tkey] at h
  | n + 1, 0, _, _, _, hle, _, _, _, _ => by omega
  | n + 1, D + 1, t, v, vv, hle, hv, h, em, w => by
    simp only [tkey] at h
    split at h
    · cases h
    · rename_i i hi
      obtain ⟨info, d, k1, k2, k3, k4, k5, k6, k7⟩ := mkTab_sound hi
      rw [k3] at h
      split at h
      · rename_i fs cs hk
        obtain ⟨fields, rfl⟩ : ∃ fields, d = .struct fields := by cases d <;> simp [TK.of] at hk; exact ⟨_, rfl⟩
        simp only [TK.of, TK.struct.injEq] at hk
        obtain ⟨rfl, hk2⟩ := hk
        simp only [VR] at hv
        obtain ⟨us, rfl, hu⟩ := hv
        simp only [checkKey, Sem.run_bind, run_underlying k2, Result.andThen_ok]
        rw [← Array.forIn_toList]
        have loop : ∀ (l : List Field), (l.all fun f => f.name != "_") = true → ((l.map fun f => (f.type, f.offset)).all fun f => match tpart (mkTab P) f.1 cs f.2 with | some x => tkey (mkTab P) n f.1 x | none => false) = true →
            ((forIn l PUnit.unit fun f _ => if f.name ≠ "_" then do
                let x ← part f.type us f.offset
                checkKey em D f.type x
                pure (ForInStep.yield PUnit.unit)
              else pure (ForInStep.yield PUnit.unit)) : Sem PUnit).run P w = .ok PUnit.unit w := by
          intro l
          induction l with
          | nil => intro _ _; simp
          | cons f l ihl =>
            intro h1 h2
            simp only [List.all_cons, List.map_cons, Bool.and_eq_true] at h1 h2
            cases hp : tpart (mkTab P) f.type cs f.offset with
            | none => simp [hp] at h2
            | some x =>
              obtain ⟨xv, r1, v1⟩ := part_run hu hp w
              simp only [hp] at h2
              have r2 := tkey_run n D f.type x xv (by omega) v1 h2.1 em w
              have hnm : f.name ≠ "_" := by simpa using h1.1
              simp only [List.forIn_cons, hnm, ne_eq, not_false_eq_true, if_true, Sem.run_bind, r1, r2, Result.andThen_ok, Sem.run_pure]
              exact ihl h1.2 h2.2
        rw [loop fields.toList hk2 h]
        simp
      · rename_i hk; rw [TK.of_bool hk] at k2; simp [checkKey, run_underlying k2]
      · rename_i hk; rw [TK.of_int hk] at k2; simp [checkKey, run_underlying k2]
      · rename_i hk; rw [TK.of_str hk] at k2; simp [checkKey, run_underlying k2]
      · rename_i hk; rw [TK.of_ptr hk] at k2; simp [checkKey, run_underlying k2]
      · cases h

/- entries -/
theorem EntriesR.length {g : G} {σ : TS} : ∀ {xs : List TEntry} {es : List MapEntry}, EntriesR g σ xs es → es.length = xs.length
  | [], es, h => by simp only [EntriesR] at h; subst h; rfl
  | x :: xs, es, h => by
    simp only [EntriesR] at h
    obtain ⟨e, rest, rfl, _, _, _, h⟩ := h
    simp [h.length]

theorem EntriesR.append {g : G} {σ : TS} : ∀ {xs ys : List TEntry} {es fs : List MapEntry}, EntriesR g σ xs es → EntriesR g σ ys fs → EntriesR g σ (xs ++ ys) (es ++ fs)
  | [], ys, es, fs, h, k => by simp only [EntriesR] at h; subst h; exact k
  | x :: xs, ys, es, fs, h, k => by
    simp only [EntriesR] at h
    obtain ⟨e, rest, rfl, h1, h2, h3, h⟩ := h
    simp only [List.cons_append, EntriesR]
    exact ⟨e, rest ++ fs, rfl, h1, h2, h3, h.append k⟩

theorem EntriesR.set {g : G} {σ : TS} {y : TEntry} {f : MapEntry} (h1 : VR g σ y.key f.key) (h2 : f.born = y.born) (h3 : VR g σ y.val f.val) : ∀ {xs : List TEntry} {es : List MapEntry} (j : Nat), EntriesR g σ xs es → EntriesR g σ (xs.set j y) (es.set j f)
  | [], es, j, h => by simp only [EntriesR] at h; subst h; simp [EntriesR]
  | x :: xs, es, j, h => by
    simp only [EntriesR] at h
    obtain ⟨e, rest, rfl, q1, q2, q3, h⟩ := h
    cases j with
    | zero => simp only [List.set_cons_zero, EntriesR]; exact ⟨f, rest, rfl, h1, h2, h3, h⟩
    | succ j => simp only [List.set_cons_succ, EntriesR]; exact ⟨e, _, rfl, q1, q2, q3, h.set h1 h2 h3 j⟩

theorem EntriesR.erase {g : G} {σ : TS} : ∀ {xs : List TEntry} {es : List MapEntry} (j : Nat), EntriesR g σ xs es → EntriesR g σ (xs.eraseIdx j) (es.eraseIdx j)
  | [], es, j, h => by simp only [EntriesR] at h; subst h; simp [EntriesR]
  | x :: xs, es, j, h => by
    simp only [EntriesR] at h
    obtain ⟨e, rest, rfl, q1, q2, q3, h⟩ := h
    cases j with
    | zero => simpa using h
    | succ j => simp only [List.eraseIdx_cons_succ, EntriesR]; exact ⟨e, _, rfl, q1, q2, q3, h.erase j⟩

theorem EntriesR.get {g : G} {σ : TS} {x : TEntry} {e : MapEntry} : ∀ {xs : List TEntry} {es : List MapEntry} {j : Nat}, EntriesR g σ xs es → xs[j]? = some x → es[j]? = some e → VR g σ x.key e.key ∧ e.born = x.born ∧ VR g σ x.val e.val
  | [], es, j, h, hx, _ => by simp at hx
  | x :: xs, es, j, h, hx, he => by
    simp only [EntriesR] at h
    obtain ⟨e, rest, rfl, q1, q2, q3, h⟩ := h
    cases j with
    | zero => simp at hx he; subst hx he; exact ⟨q1, q2, q3⟩
    | succ j => exact h.get (by simpa using hx) (by simpa using he)

theorem EntriesR.find {g : G} {σ : TS} (p : Nat → Bool) : ∀ {xs : List TEntry} {es : List MapEntry}, EntriesR g σ xs es → es.findIdx? (fun e => p e.born) = xs.findIdx? (fun e => p e.born)
  | [], es, h => by simp only [EntriesR] at h; subst h; rfl
  | x :: xs, es, h => by
    simp only [EntriesR] at h
    obtain ⟨e, rest, rfl, q1, q2, q3, h⟩ := h
    simp only [List.findIdx?_cons, q2, h.find p]

def tfind (T : Tab) (kt : TypeId) (k : TV) : List TEntry → Nat → Option (Option (Nat × TEntry))
  | [], _ => some none
  | e :: es, i => match teqIn T false 64 kt k e.key with
    | some true => if beqP 64 k e.key then some (some (i, e)) else none
    | some false => tfind T kt k es (i + 1)
    | none => none

theorem sameNow_run {P : Program} {t : TypeId} {d : TypeDesc} {a b : Value} {c : Bool} (hd : P.underlying t = some d) (h : sameNow d a b = some c) (D : Nat) (w : World) : (Op.equalIn (D + 1) t a b).run P w = .ok c w := by
  unfold sameNow at h
  split at h
  · split at h
    · rename_i hk; subst hk; cases h; simp [Op.equalIn, run_underlying hd]
    · cases h
  · cases h; simp [Op.equalIn, run_underlying hd]
  · cases h; simp [Op.equalIn, run_underlying hd]
  · cases h

/-- What a search finds. -/
def Found (g : G) (σ : TS) (k : TV) (xs : List TEntry) (es : List MapEntry) (i : Nat) : Option (Nat × TEntry) → Option (Nat × Value) → Prop
  | none, rv => rv = none
  | some (j, x), rv => ∃ e n, j = i + n ∧ xs[n]? = some x ∧ es[n]? = some e ∧ rv = some (j, e.val) ∧ VR g σ x.key e.key ∧ e.born = x.born ∧ VR g σ x.val e.val ∧ beqP 64 k x.key = true

theorem tfind_run {P : Program} {g : G} {σ : TS} {kt : TypeId} {k : TV} {kv : Value} {d : TypeDesc} (hk : VR g σ k kv) (hd : P.underlying kt = some d) : ∀ (xs : List TEntry) (es : List MapEntry) (i : Nat) (r : Option (Nat × TEntry)),
    EntriesR g σ xs es → tfind (mkTab P) kt k xs i = some r → ∀ w, ∃ rv, (findAsking kt kv es i).run P w = .ok rv w ∧ (∀ q, findNow d kv es i = some q → q = rv) ∧ Found g σ k xs es i r rv
  | [], es, i, r, he, h, w => by
    simp only [EntriesR] at he; subst he
    simp only [tfind] at h; cases h
    exact ⟨none, by simp [findAsking], fun q hq => by simp only [findNow] at hq; exact (Option.some.inj hq).symm, rfl⟩
  | x :: xs, es, i, r, he, h, w => by
    simp only [EntriesR] at he
    obtain ⟨e, rest, rfl, q1, q2, q3, he⟩ := he
    simp only [tfind] at h
    have hm : (64 : Nat) ≤ Op.maxDepth := by decide
    cases hq : teqIn (mkTab P) false 64 kt k x.key with
    | none => simp [hq] at h
    | some b =>
      have hr := teqIn_run 64 Op.maxDepth false kt k x.key kv e.key b hm hk q1 hq w
      have hs : ∀ c, sameNow d kv e.key = some c → c = b := fun c hc => by
        have h1 := sameNow_run hd hc (Op.maxDepth - 1) w
        rw [show Op.maxDepth - 1 + 1 = Op.maxDepth from rfl, hr] at h1
        cases h1; rfl
      cases b with
      | true =>
        simp only [hq] at h
        split at h
        · rename_i hb
          cases h
          refine ⟨some (i, e.val), by simp [findAsking, Op.equal, hr], fun q hq' => ?_, e, 0, by omega, rfl, rfl, rfl, q1, q2, q3, hb⟩
          simp only [findNow] at hq'
          split at hq'
          · cases hq'; rfl
          · rename_i hc; cases hs _ hc
          · cases hq'
        · cases h
      | false =>
        simp only [hq] at h
        obtain ⟨rv, r1, r2, r3⟩ := tfind_run hk hd xs rest (i + 1) r he h w
        refine ⟨rv, by simp [findAsking, Op.equal, hr, r1], fun q hq' => ?_, ?_⟩
        · simp only [findNow] at hq'
          split at hq'
          · rename_i hc; cases hs _ hc
          · exact r2 q hq'
          · cases hq'
        · match r, r3 with
          | none, r3 => exact r3
          | some (j, y), ⟨f, n, e1, e2, e3, e4, e5⟩ => exact ⟨f, n + 1, by omega, by simpa using e2, by simpa using e3, e4, e5⟩

theorem tfind_key {P : Program} {g : G} {σ : TS} {kt : TypeId} {k : TV} {kv : Value} {d : TypeDesc} (hk : VR g σ k kv) (hd : P.underlying kt = some d) {xs : List TEntry} {es : List MapEntry} {r : Option (Nat × TEntry)}
    (he : EntriesR g σ xs es) (h : tfind (mkTab P) kt k xs 0 = some r) (w : World) : ∃ rv, (findKey kt kv es).run P w = .ok rv w ∧ Found g σ k xs es 0 r rv := by
  obtain ⟨rv, h1, h2, h3⟩ := tfind_run hk hd xs es 0 r he h w
  refine ⟨rv, ?_, h3⟩
  simp only [findKey, Sem.run_bind, run_underlying hd, Result.andThen_ok]
  cases hq : findNow d kv es 0 with
  | some q => simp [h2 q hq]
  | none => simpa using h1

/- the map operations -/
theorem map_obj {g : G} {σ : TS} {w : World} (hw : WR g σ w) {l b : Nat} {xs : List TEntry} {c : Nat} (hl : σ[l]? = some (.map xs c)) (hb : g.ρ l = some b) :
    ∃ es : Array MapEntry, w.heap[b]? = some (.map es c) ∧ EntriesR g σ xs es.toList := by
  have ho := hw.obj l b hb
  rw [hl] at ho
  exact ho

theorem map_set {g : G} {σ : TS} {w : World} (hw : WR g σ w) {l b : Nat} {xs ys : List TEntry} {c c' : Nat} (hl : σ[l]? = some (.map xs c)) (hb : g.ρ l = some b) {es es' : Array MapEntry}
    (h1 : w.heap[b]? = some (.map es c)) (h2 : EntriesR g σ ys es'.toList) :
    Ext g σ g (σ.set l (.map ys c')) ∧ WR g (σ.set l (.map ys c')) { w with heap := w.heap.setIfInBounds b (.map es' c') } := by
  have hnr : ∀ k sz, σ[l]? ≠ some (.right k sz) := fun k sz e => by rw [hl] at e; cases e
  have hlt : b < w.heap.size := (Array.getElem?_eq_some_iff.1 h1).1
  refine ⟨Ext.set hnr, hw.setObj hb hnr (by simp) rfl rfl rfl (fun k hk => by simp [Array.getElem?_setIfInBounds_ne (Ne.symm hk)]) ?_⟩
  exact ⟨es', by simp [hlt], h2⟩

def tentries (σ : TS) : TV → Option (List TEntry)
  | .nilm => some []
  | .map l => match σ[l]? with
    | some (.map es _) => some es
    | _ => none
  | _ => none

def tlookup (T : Tab) (σ : TS) (t : TypeId) (x k : TV) (ok : Bool) : Option TV :=
  match T t with
  | some i => match i.k, tentries σ x with
    | .map kt et, some es => match T et with
      | some j => if tkey T 64 kt k then match tfind T kt k es 0, j.zero with
          | some (some (_, e)), _ => some (if ok then .tup [e.val, .bool true] else e.val)
          | some none, some z => some (if ok then .tup [z, .bool false] else z)
          | _, _ => none
        else none
      | none => none
    | _, _ => none
  | none => none

theorem VR_pair {g : G} {σ : TS} {x : TV} {v : Value} {b : Bool} (h : VR g σ x v) : VR g σ (.tup [x, .bool b]) (.tuple #[v, .bool b]) := by
  simp only [VR, VRL]
  exact ⟨_, rfl, v, _, rfl, h, _, _, rfl, rfl, rfl⟩

theorem tkey_under {P : Program} {t : TypeId} {k : TV} {n : Nat} (h : tkey (mkTab P) n t k = true) : ∃ d, P.underlying t = some d := by
  cases n with
  | zero => simp [tkey] at h
  | succ n =>
    unfold tkey at h
    split at h
    · cases h
    · rename_i i hi
      obtain ⟨_, d, _, q, _⟩ := mkTab_sound hi
      exact ⟨d, q⟩

theorem tlookup_run {P : Program} {g : G} {σ : TS} {w : World} (hw : WR g σ w) {t : TypeId} {x k r : TV} {xv kv : Value} {ok : Bool} (hx : VR g σ x xv) (hk : VR g σ k kv) (h : tlookup (mkTab P) σ t x k ok = some r) :
    ∃ v, (Instr.lookup t xv kv ok).run P w = .ok v w ∧ VR g σ r v := by
  unfold tlookup at h
  split at h
  · rename_i i hi
    obtain ⟨info, d, k1, k2, k3, k4, k5, k6, k7⟩ := mkTab_sound hi
    split at h
    · rename_i kt et es hik hes
      rw [k3] at hik
      obtain rfl := TK.of_map hik
      split at h
      · rename_i j hj
        split at h
        · rename_i hkey
          obtain ⟨dk, hkd⟩ := tkey_under hkey
          have fin : ∀ ev : Array MapEntry, EntriesR g σ es ev.toList → ∃ v, VR g σ r v ∧ ((checkKey ev.isEmpty 10000 kt kv).run P w = .ok () w ∧
              ((∃ n u, (findKey kt kv ev.toList).run P w = .ok (some (n, u)) w ∧ v = if ok then .tuple #[u, .bool true] else u) ∨
               (∃ z, (findKey kt kv ev.toList).run P w = .ok none w ∧ (zeroValue et).run P w = .ok z w ∧ v = if ok then .tuple #[z, .bool false] else z))) := by
            intro ev hER
            have hc := tkey_run 64 10000 kt k kv (by decide) hk hkey ev.isEmpty w
            split at h
            · rename_i n e hf
              cases h
              obtain ⟨rv, f1, f2⟩ := tfind_key hk hkd hER hf w
              obtain ⟨e', n', e1, e2, e3, rfl, e5, e6, e7, e8⟩ := f2
              refine ⟨if ok then .tuple #[e'.val, .bool true] else e'.val, ?_, hc, .inl ⟨_, _, f1, rfl⟩⟩
              cases ok
              · exact e7
              · exact VR_pair e7
            · rename_i z hf hz
              cases h
              obtain ⟨rv, f1, f2⟩ := tfind_key hk hkd hER hf w
              have f2 : rv = none := f2
              subst f2
              obtain ⟨zv, hr, hcz, _⟩ := zero_run hj hz w
              have hzv := constV_sound (g := g) (σ := σ) hcz
              refine ⟨if ok then .tuple #[zv, .bool false] else zv, ?_, hc, .inr ⟨_, f1, hr, rfl⟩⟩
              cases ok
              · exact hzv
              · exact VR_pair hzv
            · cases h
          unfold tentries at hes
          split at hes
          · cases hes
            simp only [VR] at hx; subst hx
            obtain ⟨v, q1, q2, q3⟩ := fin #[] (by simp [EntriesR])
            refine ⟨v, ?_, q1⟩
            rcases q3 with ⟨n, u, f1, rfl⟩ | ⟨z, f1, f2, rfl⟩
            · simp only [Instr.lookup, Sem.run_bind, run_underlying k2, Result.andThen_ok, Sem.run_pure, q2, f1]
            · simp only [Instr.lookup, Sem.run_bind, run_underlying k2, Result.andThen_ok, Sem.run_pure, q2, f1, f2]
          · rename_i l
            split at hes
            · rename_i es' c hl
              cases hes
              simp only [VR] at hx
              obtain ⟨b, hb, rfl⟩ := hx
              obtain ⟨ev, h1, h2⟩ := map_obj hw hl hb
              obtain ⟨v, q1, q2, q3⟩ := fin ev h2
              refine ⟨v, ?_, q1⟩
              rcases q3 with ⟨n, u, f1, rfl⟩ | ⟨z, f1, f2, rfl⟩
              · simp only [Instr.lookup, Sem.run_bind, run_underlying k2, Result.andThen_ok, Sem.run_pure, MapKept.run_getObj_map h1, q2, f1]
              · simp only [Instr.lookup, Sem.run_bind, run_underlying k2, Result.andThen_ok, Sem.run_pure, MapKept.run_getObj_map h1, q2, f1, f2]
            · cases hes
          · cases hes
        · cases h
      · cases h
    · cases h
  · cases h

def tmakeMap (σ : TS) : TV × TS := (.map σ.length, σ ++ [.map [] 0])

theorem tmakeMap_ok {P : Program} {g : G} {σ : TS} {w : World} (hw : WR g σ w) {t : TypeId} : ValOk P g σ w (Instr.makeMap t none) (tmakeMap σ).1 (tmakeMap σ).2 := by
  have hb : Below w.heap.size w { w with heap := w.heap.push (.map #[] 0) } := by
    refine ⟨rfl, rfl, rfl, by simp, fun k hk => ?_⟩
    simp [Array.getElem?_push_lt hk]
  obtain ⟨h1, h2⟩ := hw.newLoc (o := .map [] 0) hb (Nat.le_refl _) (by simp) ⟨#[], by simp, by simp [EntriesR]⟩
  refine ⟨_, _, .map (some w.heap.size), ?_, h2, h1, ?_⟩
  · simp only [Instr.makeMap, newObj, Sem.run_bind, Sem.run_pure]
    rfl
  · simp only [tmakeMap, VR]
    exact ⟨w.heap.size, upd_same _ _ _, rfl⟩

/-- A key is laid, and what stands by it. -/
def tmapUpdate (T : Tab) (σ : TS) (t : TypeId) (m k v : TV) : Option TS :=
  match T t, m with
  | some i, .map l => match i.k, σ[l]? with
    | .map kt et, some (.map es c) => if tkey T 64 kt k then match tfind T kt k es 0 with
        | some none => some (σ.set l (.map (es ++ [⟨k, v, c⟩]) (c + 1)))
        | some (some (n, e)) => some (σ.set l (.map (es.set n ⟨k, v, e.born⟩) c))
        | none => none
      else none
    | _, _ => none
  | _, _ => none

/-- A key's entry, laid with the zero where there is none: its value, and its stamp. -/
def tmapEntry (T : Tab) (σ : TS) (t : TypeId) (m k : TV) : Option (TV × TS) :=
  match T t, m with
  | some i, .map l => match i.k, σ[l]? with
    | .map kt et, some (.map es c) => if tkey T 64 kt k then match tfind T kt k es 0, (T et).bind (·.zero) with
        | some none, some z => some (.tup [z, .int .i64 c], σ.set l (.map (es ++ [⟨k, z, c⟩]) (c + 1)))
        | some (some (n, e)), _ => some (.tup [e.val, .int .i64 e.born], σ.set l (.map (es.set n ⟨k, e.val, e.born⟩) c))
        | _, _ => none
      else none
    | _, _ => none
  | _, _ => none

def tentryStore (σ : TS) (m s v : TV) : Option TS :=
  match m, s with
  | .map l, .int _ b => match σ[l]? with
    | some (.map es c) => match es.findIdx? (fun e => (e.born : Int) == b) with
      | some n => match es[n]? with
        | some e => some (σ.set l (.map (es.set n ⟨e.key, v, e.born⟩) c))
        | none => none
      | none => none
    | _ => none
  | _, _ => none

def tdelete (T : Tab) (σ : TS) (t : TypeId) (m k : TV) : Option (TV × TS) :=
  match T t with
  | some i => match i.k, m with
    | .map kt et, .nilm => if tkey T 64 kt k then some (.tup [], σ) else none
    | .map kt et, .map l => match σ[l]? with
      | some (.map es c) => if tkey T 64 kt k then match tfind T kt k es 0 with
          | some none => some (.tup [], σ.set l (.map es c))
          | some (some (n, _)) => some (.tup [], σ.set l (.map (es.eraseIdx n) c))
          | none => none
        else none
      | _ => none
    | _, _ => none
  | none => none

def ttypeAssert (T : Tab) (x : TV) (asserted : TypeId) (ok : Bool) : Option TV :=
  match T asserted with
  | some i => match i.k with
    | .iface _ => none
    | _ => match x with
      | .iface t v => if t = asserted then some (if ok then .tup [v, .bool true] else v) else if ok then (i.zero.map fun z => .tup [z, .bool false]) else none
      | .nili => if ok then (i.zero.map fun z => .tup [z, .bool false]) else none
      | _ => none
  | none => none

theorem modify_set {es : Array MapEntry} {n : Nat} {e : MapEntry} (f : MapEntry → MapEntry) (h : es.toList[n]? = some e) : (es.modify n f).toList = es.toList.set n (f e) := by
  rw [Array.toList_modify]
  apply List.ext_getElem?
  intro j
  rw [List.getElem?_modify, List.getElem?_set]
  by_cases hj : n = j
  · subst hj
    have hlt := (List.getElem?_eq_some_iff.1 h).1
    simp [h]
    simpa using hlt
  · simp [hj]

theorem tmapUpdate_ok {P : Program} {g : G} {σ σ' : TS} {w : World} (hw : WR g σ w) {t : TypeId} {m k v : TV} {mv kv vv : Value} (hm : VR g σ m mv) (hk : VR g σ k kv) (hv : VR g σ v vv)
    (h : tmapUpdate (mkTab P) σ t m k v = some σ') : ∃ w', (Instr.mapUpdate t mv kv vv).run P w = .ok () w' ∧ Ext g σ g σ' ∧ WR g σ' w' := by
  unfold tmapUpdate at h
  split at h
  · rename_i i l hi
    obtain ⟨info, d, k1, k2, k3, k4, k5, k6, k7⟩ := mkTab_sound hi
    split at h
    · rename_i kt et es c hik hl
      rw [k3] at hik
      obtain rfl := TK.of_map hik
      split at h
      · rename_i hkey
        obtain ⟨dk, hkd⟩ := tkey_under hkey
        simp only [VR] at hm
        obtain ⟨b, hb, rfl⟩ := hm
        obtain ⟨ev, h1, h2⟩ := map_obj hw hl hb
        have hc := tkey_run 64 10000 kt k kv (by decide) hk hkey false w
        split at h
        · rename_i hf
          cases h
          obtain ⟨rv, f1, f2⟩ := tfind_key hk hkd h2 hf w
          have f2 : rv = none := f2
          subst f2
          obtain ⟨q1, q2⟩ := map_set (c' := c + 1) hw hl hb h1 (es' := ev.push ⟨kv, vv, c⟩) (ys := es ++ [⟨k, v, c⟩]) (by
            rw [Array.toList_push]
            exact h2.append (by simp only [EntriesR]; exact ⟨_, _, rfl, hk, rfl, hv, rfl⟩))
          refine ⟨_, ?_, q1, q2⟩
          simp only [Instr.mapUpdate, Sem.run_bind, run_underlying k2, Result.andThen_ok, MapKept.run_getObj_map h1, hc, f1, MapKept.run_setObj_map _ h1]
        · rename_i n e hf
          cases h
          obtain ⟨rv, f1, f2⟩ := tfind_key hk hkd h2 hf w
          obtain ⟨e', n', e1, e2, e3, rfl, e5, e6, e7, e8⟩ := f2
          obtain rfl : n' = n := by omega
          obtain ⟨s1, s2⟩ := beqP_run 64 10000 k e.key kv e'.key (by decide) hk e5 e8
          obtain ⟨q1, q2⟩ := map_set (c' := c) hw hl hb h1 (es' := ev.modify n' fun x => { x with key := kv, val := vv }) (ys := es.set n' ⟨k, v, e.born⟩) (by
            rw [modify_set _ e3]
            exact h2.set (y := ⟨k, v, e.born⟩) (f := { e' with key := kv, val := vv }) hk e6 hv n')
          refine ⟨_, ?_, q1, q2⟩
          have e3' : ev[n']? = some e' := by rw [← Array.getElem?_toList]; exact e3
          simp only [Instr.mapUpdate, Sem.run_bind, run_underlying k2, Result.andThen_ok, MapKept.run_getObj_map h1, hc, f1, e3', Option.map_some, Option.getD_some, keyThatStays, s2, if_true, Sem.run_pure, MapKept.run_setObj_map _ h1]
        · cases h
      · cases h
    · cases h
  · cases h

theorem VR_entry {g : G} {σ : TS} {x : TV} {v : Value} {n : Nat} (h : VR g σ x v) : VR g σ (.tup [x, .int .i64 n]) (.tuple #[v, goInt n]) := by
  simp only [VR, VRL]
  exact ⟨_, rfl, v, _, rfl, h, _, _, rfl, rfl, rfl⟩

theorem tmapEntry_ok {P : Program} {g : G} {σ σ' : TS} {w : World} (hw : WR g σ w) {t : TypeId} {m k r : TV} {mv kv : Value} (hm : VR g σ m mv) (hk : VR g σ k kv)
    (h : tmapEntry (mkTab P) σ t m k = some (r, σ')) : ValOk P g σ w (Instr.mapEntry t mv kv) r σ' := by
  unfold tmapEntry at h
  split at h
  · rename_i i l hi
    obtain ⟨info, d, k1, k2, k3, k4, k5, k6, k7⟩ := mkTab_sound hi
    split at h
    · rename_i kt et es c hik hl
      rw [k3] at hik
      obtain rfl := TK.of_map hik
      split at h
      · rename_i hkey
        obtain ⟨dk, hkd⟩ := tkey_under hkey
        simp only [VR] at hm
        obtain ⟨b, hb, rfl⟩ := hm
        obtain ⟨ev, h1, h2⟩ := map_obj hw hl hb
        have hc := tkey_run 64 10000 kt k kv (by decide) hk hkey false w
        split at h
        · rename_i z hf hz
          cases h
          obtain ⟨j, hj, hzz⟩ : ∃ j, mkTab P et = some j ∧ j.zero = some z := by
            cases hj : mkTab P et with
            | none => simp [hj] at hz
            | some j => exact ⟨j, rfl, by simpa [hj] using hz⟩
          obtain ⟨zv, hr, hcz, _⟩ := zero_run hj hzz w
          have hzv := constV_sound (g := g) (σ := σ) hcz
          obtain ⟨rv, f1, f2⟩ := tfind_key hk hkd h2 hf w
          have f2 : rv = none := f2
          subst f2
          obtain ⟨q1, q2⟩ := map_set (c' := c + 1) hw hl hb h1 (es' := ev.push ⟨kv, zv, c⟩) (ys := es ++ [⟨k, z, c⟩]) (by
            rw [Array.toList_push]
            exact h2.append (by simp only [EntriesR]; exact ⟨_, _, rfl, hk, rfl, hzv, rfl⟩))
          refine ⟨g, _, _, ?_, q1, q2, (VR_entry hzv).mono q1⟩
          simp only [Instr.mapEntry, Sem.run_bind, run_underlying k2, Result.andThen_ok, MapKept.run_getObj_map h1, hc, f1, hr, MapKept.run_setObj_map _ h1, Sem.run_pure]
        · rename_i n e hf
          cases h
          obtain ⟨rv, f1, f2⟩ := tfind_key hk hkd h2 hf w
          obtain ⟨e', n', e1, e2, e3, rfl, e5, e6, e7, e8⟩ := f2
          obtain rfl : n' = n := by omega
          obtain ⟨s1, s2⟩ := beqP_run 64 10000 k e.key kv e'.key (by decide) hk e5 e8
          obtain ⟨q1, q2⟩ := map_set (c' := c) hw hl hb h1 (es' := ev.modify n' fun x => { x with key := kv }) (ys := es.set n' ⟨k, e.val, e.born⟩) (by
            rw [modify_set _ e3]
            exact h2.set (y := ⟨k, e.val, e.born⟩) (f := { e' with key := kv }) hk e6 e7 n')
          have e3' : ev[n']? = some e' := by rw [← Array.getElem?_toList]; exact e3
          refine ⟨g, _, .tuple #[e'.val, goInt e'.born], ?_, q1, q2, ?_⟩
          · simp only [Instr.mapEntry, Sem.run_bind, run_underlying k2, Result.andThen_ok, MapKept.run_getObj_map h1, hc, f1, e3', Option.map_some, Option.getD_some, keyThatStays, s2, if_true, Sem.run_pure, MapKept.run_setObj_map _ h1]
          · rw [e6]; exact (VR_entry e7).mono q1
        · cases h
      · cases h
    · cases h
  · cases h

theorem tentryStore_ok {P : Program} {g : G} {σ σ' : TS} {w : World} (hw : WR g σ w) {t : TypeId} {m s v : TV} {mv sv vv : Value} (hm : VR g σ m mv) (hs : VR g σ s sv) (hv : VR g σ v vv)
    (h : tentryStore σ m s v = some σ') : ∃ w', (Instr.entryStore t mv sv vv).run P w = .ok () w' ∧ Ext g σ g σ' ∧ WR g σ' w' := by
  unfold tentryStore at h
  split at h
  · rename_i l kd n
    split at h
    · rename_i es c hl
      split at h
      · rename_i j hj
        split at h
        · rename_i e he
          cases h
          simp only [VR] at hm hs
          subst hs
          obtain ⟨b, hb, rfl⟩ := hm
          obtain ⟨ev, h1, h2⟩ := map_obj hw hl hb
          have hfi : ev.findIdx? (fun e => (e.born : Int) == n) = some j := by
            have hq := h2.find (fun b => (b : Int) == n)
            obtain ⟨evl⟩ := ev
            rw [List.findIdx?_toArray]
            exact hq.trans hj
          have hlen := h2.length
          have hjl : j < ev.toList.length := by rw [hlen]; exact (List.getElem?_eq_some_iff.1 he).1
          obtain ⟨e', he'⟩ : ∃ e', ev.toList[j]? = some e' := ⟨_, List.getElem?_eq_getElem hjl⟩
          obtain ⟨g1, g2, g3⟩ := h2.get he he'
          obtain ⟨q1, q2⟩ := map_set (c' := c) hw hl hb h1 (es' := ev.modify j fun x => { x with val := vv }) (ys := es.set j ⟨e.key, v, e.born⟩) (by
            rw [modify_set _ he']
            exact h2.set (y := ⟨e.key, v, e.born⟩) (f := { e' with val := vv }) g1 g2 hv j)
          refine ⟨_, ?_, q1, q2⟩
          simp only [Instr.entryStore, Sem.run_bind, Result.andThen_ok, MapKept.run_getObj_map h1, asInt, asIntOf, Sem.run_pure, hfi, MapKept.run_setObj_map _ h1]
        · cases h
      · cases h
    · cases h
  · cases h

theorem VR_none {g : G} {σ : TS} : VR g σ (.tup []) (.tuple #[]) := by
  simp only [VR, VRL]
  exact ⟨#[], rfl, rfl⟩

theorem tdelete_ok {P : Program} {g : G} {σ σ' : TS} {w : World} (hw : WR g σ w) {t u ty : TypeId} {m k r : TV} {mv kv : Value} (hm : VR g σ m mv) (hk : VR g σ k kv)
    (h : tdelete (mkTab P) σ t m k = some (r, σ')) : ValOk P g σ w (Builtin.delete_ #[t, u] ty #[mv, kv]) r σ' := by
  unfold tdelete at h
  split at h
  · rename_i i hi
    obtain ⟨info, d, k1, k2, k3, k4, k5, k6, k7⟩ := mkTab_sound hi
    split at h
    · rename_i kt et hik
      rw [k3] at hik
      obtain rfl := TK.of_map hik
      split at h
      · rename_i hkey
        cases h
        simp only [VR] at hm; subst hm
        have hc := tkey_run 64 10000 kt k kv (by decide) hk hkey true w
        refine ⟨g, w, .tuple #[], ?_, Ext.refl _ _, hw, VR_none⟩
        simp [Builtin.delete_, run_underlying k2, hc]
      · cases h
    · rename_i kt et l hik
      rw [k3] at hik
      obtain rfl := TK.of_map hik
      split at h
      · rename_i es c hl
        split at h
        · rename_i hkey
          obtain ⟨dk, hkd⟩ := tkey_under hkey
          simp only [VR] at hm
          obtain ⟨b, hb, rfl⟩ := hm
          obtain ⟨ev, h1, h2⟩ := map_obj hw hl hb
          have hc := tkey_run 64 10000 kt k kv (by decide) hk hkey ev.isEmpty w
          split at h
          · rename_i hf
            cases h
            obtain ⟨rv, f1, f2⟩ := tfind_key hk hkd h2 hf w
            have f2 : rv = none := f2
            subst f2
            obtain ⟨q1, q2⟩ := map_set (c' := c) hw hl hb h1 h2
            refine ⟨g, _, .tuple #[], ?_, q1, q2, VR_none⟩
            simp [Builtin.delete_, run_underlying k2, MapKept.run_getObj_map h1, hc, f1, MapKept.run_setObj_map _ h1]
          · rename_i n e hf
            cases h
            obtain ⟨rv, f1, f2⟩ := tfind_key hk hkd h2 hf w
            obtain ⟨e', n', e1, e2, e3, rfl, e5, e6, e7, e8⟩ := f2
            obtain rfl : n' = n := by omega
            have e3' : ev[n']? = some e' := by rw [← Array.getElem?_toList]; exact e3
            have hlt : n' < ev.size := (Array.getElem?_eq_some_iff.1 e3').1
            obtain ⟨q1, q2⟩ := map_set (c' := c) hw hl hb h1 (es' := ev.eraseIdxIfInBounds n') (ys := es.eraseIdx n') (by
              rw [Array.toList_eraseIdxIfInBounds]
              exact h2.erase n')
            refine ⟨g, _, .tuple #[], ?_, q1, q2, VR_none⟩
            simp [Builtin.delete_, run_underlying k2, MapKept.run_getObj_map h1, hc, f1, MapKept.run_setObj_map _ h1]
          · cases h
        · cases h
      · cases h
    · cases h
  · cases h

theorem ttypeAssert_run {P : Program} {g : G} {σ : TS} {x r : TV} {xv : Value} {xt at' : TypeId} {ok : Bool} (hx : VR g σ x xv) (h : ttypeAssert (mkTab P) x at' ok = some r) (w : World) :
    ∃ v, (Instr.typeAssert xv xt at' ok).run P w = .ok v w ∧ VR g σ r v := by
  unfold ttypeAssert at h
  split at h
  · rename_i i hi
    obtain ⟨info, d, k1, k2, k3, k4, k5, k6, k7⟩ := mkTab_sound hi
    have hzero : ∀ z, i.zero = some z → ∃ zv, (zeroValue at').run P w = .ok zv w ∧ VR g σ z zv := fun z hz => by
      obtain ⟨zv, hr, hcz, _⟩ := zero_run hi hz w
      exact ⟨zv, hr, constV_sound hcz⟩
    split at h
    · cases h
    · rename_i hk
      have hni : ∀ ms, d ≠ .interface ms := fun ms e => by subst e; exact hk _ (by rw [k3]; rfl)
      split at h
      · rename_i t v
        simp only [VR] at hx
        obtain ⟨u, rfl, hu⟩ := hx
        split at h
        · rename_i ht
          subst ht
          cases h
          refine ⟨if ok then .tuple #[u, .bool true] else u, ?_, by cases ok; exact hu; exact VR_pair hu⟩
          simp only [Instr.typeAssert, Sem.run_bind, run_underlying k2, Result.andThen_ok]
          cases d <;> first | (exact absurd rfl (hni _)) | simp
        · rename_i ht
          split at h
          · rename_i hok
            cases hz : i.zero with
            | none => simp [hz] at h
            | some z =>
              obtain ⟨zv, z1, z2⟩ := hzero z hz
              simp only [hz, Option.map_some, Option.some.injEq] at h
              subst h
              refine ⟨.tuple #[zv, .bool false], ?_, VR_pair z2⟩
              simp only [Instr.typeAssert, Sem.run_bind, run_underlying k2, Result.andThen_ok]
              cases d <;> first | (exact absurd rfl (hni _)) | simp [ht, hok, z1]
          · cases h
      · simp only [VR] at hx
        subst hx
        split at h
        · rename_i hok
          cases hz : i.zero with
          | none => simp [hz] at h
          | some z =>
            obtain ⟨zv, z1, z2⟩ := hzero z hz
            simp only [hz, Option.map_some, Option.some.injEq] at h
            subst h
            refine ⟨.tuple #[zv, .bool false], ?_, VR_pair z2⟩
            simp only [Instr.typeAssert, Sem.run_bind, run_underlying k2, Result.andThen_ok]
            cases d <;> first | (exact absurd rfl (hni _)) | simp [hok, z1]
        · cases h
      · cases h
  · cases h

end Go.TM
