/- The T-machine, part 18 (it stands ahead of part 9): maps. -/
import Derived.Test.YtgkcackpffimmaaT8
import Derived.MapKept
set_option linter.unusedVariables false
set_option linter.unusedSimpArgs false
namespace Go.TM
open Go.RowKit (Below)
open Go.Instr (checkKey findAsking findNow findKey sameNow sameBits keyThatStays)

/- keys -/
def beqA : TV → TV → Bool
  | .int j a, .int k b => j == k && a == b
  | .bool a, .bool b => a == b
  | .str a, .str b => decide (a = b)
  | _, _ => false

theorem bytes_refl (a : ByteArray) : (a == a) = true := by
  show (a.data == a.data) = true
  simp

def beqP : Nat → TV → TV → Bool
  | 0, a, b => beqA a b
  | n + 1, a, b => match a, b with
    | .agg xs, .agg ys => xs.length == ys.length && (xs.zip ys).all fun x => beqP n x.1 x.2
    | a, b => beqA a b

theorem beqA_run {g : G} {σ : TS} {D : Nat} {a b : TV} {av bv : Value} (ha : VR g σ a av) (hb : VR g σ b bv) (h : beqA a b = true) : av = bv ∧ sameBits D bv av = true := by
  unfold beqA at h
  split at h
  · simp only [Bool.and_eq_true, beq_iff_eq] at h
    obtain ⟨rfl, rfl⟩ := h
    simp only [VR] at ha hb; subst ha hb
    exact ⟨rfl, by cases D <;> simp [sameBits]⟩
  · simp only [beq_iff_eq] at h
    subst h
    simp only [VR] at ha hb; subst ha hb
    exact ⟨rfl, by cases D <;> simp [sameBits]⟩
  · simp only [decide_eq_true_eq] at h
    subst h
    simp only [VR] at ha hb; subst ha hb
    exact ⟨rfl, by cases D <;> simp [sameBits, bytes_refl]⟩
  · cases h

theorem beqP_run {g : G} {σ : TS} : ∀ (n D : Nat) (a b : TV) (av bv : Value), n ≤ D → VR g σ a av → VR g σ b bv → beqP n a b = true → av = bv ∧ sameBits D bv av = true := by
  intro n
  induction n with
  | zero => intro D a b av bv hle ha hb h; exact beqA_run ha hb h
  | succ n ih =>
    intro D a b av bv hle ha hb h
    simp only [beqP] at h
    split at h
    · rename_i xs ys
      cases D with
      | zero => omega
      | succ D =>
        simp only [VR] at ha hb
        obtain ⟨us, rfl, hu⟩ := ha
        obtain ⟨vs, rfl, hv⟩ := hb
        simp only [Bool.and_eq_true, beq_iff_eq] at h
        have key : ∀ (xs ys : List TV) (us vs : List Value), VRL g σ xs us → VRL g σ ys vs → xs.length = ys.length → ((xs.zip ys).all fun x => beqP n x.1 x.2) = true →
            us = vs ∧ ((vs.zip us).all fun x => sameBits D x.1 x.2) = true := by
          intro xs
          induction xs with
          | nil =>
            intro ys us vs h1 h2 h3 _
            cases ys with
            | nil => simp only [VRL] at h1 h2; subst h1 h2; exact ⟨rfl, rfl⟩
            | cons y ys => simp at h3
          | cons x xs ihx =>
            intro ys us vs h1 h2 h3 h4
            cases ys with
            | nil => simp at h3
            | cons y ys =>
              simp only [VRL] at h1 h2
              obtain ⟨u, us, rfl, p1, p2⟩ := h1
              obtain ⟨v, vs, rfl, q1, q2⟩ := h2
              simp only [List.zip_cons_cons, List.all_cons, Bool.and_eq_true] at h4
              obtain ⟨e1, e2⟩ := ih D x y u v (by omega) p1 q1 h4.1
              obtain ⟨e3, e4⟩ := ihx ys us vs p2 q2 (by simpa using h3) h4.2
              subst e1 e3
              exact ⟨rfl, by simp only [List.zip_cons_cons, List.all_cons, Bool.and_eq_true]; exact ⟨e2, e4⟩⟩
        obtain ⟨e1, e2⟩ := key xs ys us.toList vs.toList hu hv h.1 h.2
        have e3 : us = vs := by rw [← Array.toList_inj]; exact e1
        subst e3
        refine ⟨rfl, ?_⟩
        simp only [sameBits, beq_self_eq_true, Bool.true_and]
        exact e2
    · exact beqA_run ha hb h

def tkey (T : Tab) : Nat → TypeId → TV → Bool
  | 0, _, _ => false
  | n + 1, t, v => match T t with
    | none => false
    | some i => match i.k, v with
      | .struct fs true, .agg cs => fs.all fun f => match tpart T f.1 cs f.2 with
        | some x => tkey T n f.1 x
        | none => false
      | .bool, _ | .int _, _ | .str, _ | .ptr _, _ => true
      | _, _ => false

theorem forIn_unit {P : Program} {α : Type} (f : α → Sem Unit) (w : World) : ∀ (l : List α), (∀ x ∈ l, (f x).run P w = .ok () w) →
    ((forIn l PUnit.unit fun x _ => do f x; pure (ForInStep.yield PUnit.unit)) : Sem PUnit).run P w = .ok PUnit.unit w
  | [], _ => by simp
  | x :: l, h => by
    simp only [List.forIn_cons, Sem.run_bind, h x (by simp), Result.andThen_ok, Sem.run_pure]
    exact forIn_unit f w l fun y hy => h y (by simp [hy])

theorem tkey_run {P : Program} {g : G} {σ : TS} : ∀ (n D : Nat) (t : TypeId) (v : TV) (vv : Value), n ≤ D → VR g σ v vv → tkey (mkTab P) n t v = true → ∀ (em : Bool) (w : World), (checkKey em D t vv).run P w = .ok () w
  | 0, _, _, _, _, _, _, h, _, _ => by simp [tkey] at h
  | n + 1, 0, _, _, _, hle, _, _, _, _ => by omega
  | n + 1, D + 1, t, v, vv, hle, hv, h, em, w => by
    simp only [tkey] at h
    split at h
    · cases h
    · rename_i i hi
      obtain ⟨info, d, k1, k2, k3, k4, k5, k6, k7⟩ := mkTab_sound hi
      rw [k3] at h
      split at h
      · rename_i fs cs hk
        obtain ⟨fields, rfl⟩ : ∃ fields, d = .struct fields := by cases d <;> simp [TK.of] at hk; exact ⟨_, rfl⟩
        simp only [TK.of, TK.struct.injEq] at hk
        obtain ⟨rfl, hk2⟩ := hk
        simp only [VR] at hv
        obtain ⟨us, rfl, hu⟩ := hv
        simp only [checkKey, Sem.run_bind, run_underlying k2, Result.andThen_ok]
        rw [← Array.forIn_toList]
        have loop : ∀ (l : List Field), (l.all fun f => f.name != "_") = true → ((l.map fun f => (f.type, f.offset)).all fun f => match tpart (mkTab P) f.1 cs f.2 with | some x => tkey (mkTab P) n f.1 x | none => false) = true →
            ((forIn l PUnit.unit fun f _ => if f.name ≠ "_" then do
                let x ← part f.type us f.offset
                checkKey em D f.type x
                pure (ForInStep.yield PUnit.unit)
              else pure (ForInStep.yield PUnit.unit)) : Sem PUnit).run P w = .ok PUnit.unit w := by
          intro l
          induction l with
          | nil => intro _ _; simp
          | cons f l ihl =>
            intro h1 h2
            simp only [List.all_cons, List.map_cons, Bool.and_eq_true] at h1 h2
            cases hp : tpart (mkTab P) f.type cs f.offset with
            | none => simp [hp] at h2
            | some x =>
              obtain ⟨xv, r1, v1⟩ := part_run hu hp w
              simp only [hp] at h2
              have r2 := tkey_run n D f.type x xv (by omega) v1 h2.1 em w
              have hnm : f.name ≠ "_" := by simpa using h1.1
              simp only [List.forIn_cons, hnm, ne_eq, not_false_eq_true, if_true, Sem.run_bind, r1, r2, Result.andThen_ok, Sem.run_pure]
              exact ihl h1.2 h2.2
        rw [loop fields.toList hk2 h]
        simp
      · rename_i hk; rw [TK.of_bool hk] at k2; simp [checkKey, run_underlying k2]
      · rename_i hk; rw [TK.of_int hk] at k2; simp [checkKey, run_underlying k2]
      · rename_i hk; rw [TK.of_str hk] at k2; simp [checkKey, run_underlying k2]
      · rename_i hk; rw [TK.of_ptr hk] at k2; simp [checkKey, run_underlying k2]
      · cases h

/- entries -/
theorem EntriesR.length {g : G} {σ : TS} : ∀ {xs : List TEntry} {es : List MapEntry}, EntriesR g σ xs es → es.length = xs.length
  | [], es, h => by simp only [EntriesR] at h; subst h; rfl
  | x :: xs, es, h => by
    simp only [EntriesR] at h
    obtain ⟨e, rest, rfl, _, _, _, h⟩ := h
    simp [h.length]

theorem EntriesR.append {g : G} {σ : TS} : ∀ {xs ys : List TEntry} {es fs : List MapEntry}, EntriesR g σ xs es → EntriesR g σ ys fs → EntriesR g σ (xs ++ ys) (es ++ fs)
  | [], ys, es, fs, h, k => by simp only [EntriesR] at h; subst h; exact k
  | x :: xs, ys, es, fs, h, k => by
    simp only [EntriesR] at h
    obtain ⟨e, rest, rfl, h1, h2, h3, h⟩ := h
    simp only [List.cons_append, EntriesR]
    exact ⟨e, rest ++ fs, rfl, h1, h2, h3, h.append k⟩

theorem EntriesR.set {g : G} {σ : TS} {y : TEntry} {f : MapEntry} (h1 : VR g σ y.key f.key) (h2 : f.born = y.born) (h3 : VR g σ y.val f.val) : ∀ {xs : List TEntry} {es : List MapEntry} (j : Nat), EntriesR g σ xs es → EntriesR g σ (xs.set j y) (es.set j f)
  | [], es, j, h => by simp only [EntriesR] at h; subst h; simp [EntriesR]
  | x :: xs, es, j, h => by
    simp only [EntriesR] at h
    obtain ⟨e, rest, rfl, q1, q2, q3, h⟩ := h
    cases j with
    | zero => simp only [List.set_cons_zero, EntriesR]; exact ⟨f, rest, rfl, h1, h2, h3, h⟩
    | succ j => simp only [List.set_cons_succ, EntriesR]; exact ⟨e, _, rfl, q1, q2, q3, h.set h1 h2 h3 j⟩

theorem EntriesR.erase {g : G} {σ : TS} : ∀ {xs : List TEntry} {es : List MapEntry} (j : Nat), EntriesR g σ xs es → EntriesR g σ (xs.eraseIdx j) (es.eraseIdx j)
  | [], es, j, h => by simp only [EntriesR] at h; subst h; simp [EntriesR]
  | x :: xs, es, j, h => by
    simp only [EntriesR] at h
    obtain ⟨e, rest, rfl, q1, q2, q3, h⟩ := h
    cases j with
    | zero => simpa using h
    | succ j => simp only [List.eraseIdx_cons_succ, EntriesR]; exact ⟨e, _, rfl, q1, q2, q3, h.erase j⟩

theorem EntriesR.get {g : G} {σ : TS} {x : TEntry} {e : MapEntry} : ∀ {xs : List TEntry} {es : List MapEntry} {j : Nat}, EntriesR g σ xs es → xs[j]? = some x → es[j]? = some e → VR g σ x.key e.key ∧ e.born = x.born ∧ VR g σ x.val e.val
  | [], es, j, h, hx, _ => by simp at hx
  | x :: xs, es, j, h, hx, he => by
    simp only [EntriesR] at h
    obtain ⟨e, rest, rfl, q1, q2, q3, h⟩ := h
    cases j with
    | zero => simp at hx he; subst hx he; exact ⟨q1, q2, q3⟩
    | succ j => exact h.get (by simpa using hx) (by simpa using he)

theorem EntriesR.find {g : G} {σ : TS} (p : Nat → Bool) : ∀ {xs : List TEntry} {es : List MapEntry}, EntriesR g σ xs es → es.findIdx? (fun e => p e.born) = xs.findIdx? (fun e => p e.born)
  | [], es, h => by simp only [EntriesR] at h; subst h; rfl
  | x :: xs, es, h => by
    simp only [EntriesR] at h
    obtain ⟨e, rest, rfl, q1, q2, q3, h⟩ := h
    simp only [List.findIdx?_cons, q2, h.find p]

def tfind (T : Tab) (kt : TypeId) (k : TV) : List TEntry → Nat → Option (Option (Nat × TEntry))
  | [], _ => some none
  | e :: es, i => match teqIn T false 64 kt k e.key with
    | some true => if beqP 64 k e.key then some (some (i, e)) else none
    | some false => tfind T kt k es (i + 1)
    | none => none

theorem sameNow_run {P : Program} {t : TypeId} {d : TypeDesc} {a b : Value} {c : Bool} (hd : P.underlying t = some d) (h : sameNow d a b = some c) (D : Nat) (w : World) : (Op.equalIn (D + 1) t a b).run P w = .ok c w := by
  unfold sameNow at h
  split at h
  · split at h
    · rename_i hk; subst hk; cases h; simp [Op.equalIn, run_underlying hd]
    · cases h
  · cases h; simp [Op.equalIn, run_underlying hd]
  · cases h; simp [Op.equalIn, run_underlying hd]
  · cases h

/-- What a search finds. -/
def Found (g : G) (σ : TS) (k : TV) (xs : List TEntry) (es : List MapEntry) (i : Nat) : Option (Nat × TEntry) → Option (Nat × Value) → Prop
  | none, rv => rv = none
  | some (j, x), rv => ∃ e n, j = i + n ∧ xs[n]? = some x ∧ es[n]? = some e ∧ rv = some (j, e.val) ∧ VR g σ x.key e.key ∧ e.born = x.born ∧ VR g σ x.val e.val ∧ beqP 64 k x.key = true

theorem tfind_run {P : Program} {g : G} {σ : TS} {kt : TypeId} {k : TV} {kv : Value} {d : TypeDesc} (hk : VR g σ k kv) (hd : P.underlying kt = some d) : ∀ (xs : List TEntry) (es : List MapEntry) (i : Nat) (r : Option (Nat × TEntry)),
    EntriesR g σ xs es → tfind (mkTab P) kt k xs i = some r → ∀ w, ∃ rv, (findAsking kt kv es i).run P w = .ok rv w ∧ (∀ q, findNow d kv es i = some q → q = rv) ∧ Found g σ k xs es i r rv
  | [], es, i, r, he, h, w => by
    simp only [EntriesR] at he; subst he
    simp only [tfind] at h; cases h
    exact ⟨none, by simp [findAsking], fun q hq => by simp only [findNow] at hq; exact (Option.some.inj hq).symm, rfl⟩
  | x :: xs, es, i, r, he, h, w => by
    simp only [EntriesR] at he
    obtain ⟨e, rest, rfl, q1, q2, q3, he⟩ := he
    simp only [tfind] at h
    have hm : (64 : Nat) ≤ Op.maxDepth := by decide
    cases hq : teqIn (mkTab P) false 64 kt k x.key with
    | none => simp [hq] at h
    | some b =>
      have hr := teqIn_run 64 Op.maxDepth false kt k x.key kv e.key b hm hk q1 hq w
      have hs : ∀ c, sameNow d kv e.key = some c → c = b := fun c hc => by
        have h1 := sameNow_run hd hc (Op.maxDepth - 1) w
        rw [show Op.maxDepth - 1 + 1 = Op.maxDepth from rfl, hr] at h1
        cases h1; rfl
      cases b with
      | true =>
        simp only [hq] at h
        split at h
        · rename_i hb
          cases h
          refine ⟨some (i, e.val), by simp [findAsking, Op.equal, hr], fun q hq' => ?_, e, 0, by omega, rfl, rfl, rfl, q1, q2, q3, hb⟩
          simp only [findNow] at hq'
          split at hq'
          · cases hq'; rfl
          · rename_i hc; cases hs _ hc
          · cases hq'
        · cases h
      | false =>
        simp only [hq] at h
        obtain ⟨rv, r1, r2, r3⟩ := tfind_run hk hd xs rest (i + 1) r he h w
        refine ⟨rv, by simp [findAsking, Op.equal, hr, r1], fun q hq' => ?_, ?_⟩
        · simp only [findNow] at hq'
          split at hq'
          · rename_i hc; cases hs _ hc
          · exact r2 q hq'
          · cases hq'
        · match r, r3 with
          | none, r3 => exact r3
          | some (j, y), ⟨f, n, e1, e2, e3, e4, e5⟩ => exact ⟨f, n + 1, by omega, by simpa using e2, by simpa using e3, e4, e5⟩

theorem tfind_key {P : Program} {g : G} {σ : TS} {kt : TypeId} {k : TV} {kv : Value} {d : TypeDesc} (hk : VR g σ k kv) (hd : P.underlying kt = some d) {xs : List TEntry} {es : List MapEntry} {r : Option (Nat × TEntry)}
    (he : EntriesR g σ xs es) (h : tfind (mkTab P) kt k xs 0 = some r) (w : World) : ∃ rv, (findKey kt kv es).run P w = .ok rv w ∧ Found g σ k xs es 0 r rv := by
  obtain ⟨rv, h1, h2, h3⟩ := tfind_run hk hd xs es 0 r he h w
  refine ⟨rv, ?_, h3⟩
  simp only [findKey, Sem.run_bind, run_underlying hd, Result.andThen_ok]
  cases hq : findNow d kv es 0 with
  | some q => simp [h2 q hq]
  | none => simpa using h1

/- the map operations -/
theorem map_obj {g : G} {σ : TS} {w : World} (hw : WR g σ w) {l b : Nat} {xs : List TEntry} {c : Nat} (hl : σ[l]? = some (.map xs c)) (hb : g.ρ l = some b) :
    ∃ es : Array MapEntry, w.heap[b]? = some (.map es c) ∧ EntriesR g σ xs es.toList := by
  have ho := hw.obj l b hb
  rw [hl] at ho
  exact ho

theorem map_set {g : G} {σ : TS} {w : World} (hw : WR g σ w) {l b : Nat} {xs ys : List TEntry} {c c' : Nat} (hl : σ[l]? = some (.map xs c)) (hb : g.ρ l = some b) {es es' : Array MapEntry}
    (h1 : w.heap[b]? = some (.map es c)) (h2 : EntriesR g σ ys es'.toList) :
    Ext g σ g (σ.set l (.map ys c')) ∧ WR g (σ.set l (.map ys c')) { w with heap := w.heap.setIfInBounds b (.map es' c') } := by
  have hnr : ∀ k sz, σ[l]? ≠ some (.right k sz) := fun k sz e => by rw [hl] at e; cases e
  have hlt : b < w.heap.size := (Array.getElem?_eq_some_iff.1 h1).1
  refine ⟨Ext.set hnr, hw.setObj hb hnr (by simp) rfl rfl rfl (fun k hk => by simp [Array.getElem?_setIfInBounds_ne (Ne.symm hk)]) ?_⟩
  exact ⟨es', by simp [hlt], h2⟩

def tentries (σ : TS) : TV → Option (List TEntry)
  | .nilm => some []
  | .map l => match σ[l]? with
    | some (.map es _) => some es
    | _ => none
  | _ => none

def tlookup (T : Tab) (σ : TS) (t : TypeId) (x k : TV) (ok : Bool) : Option TV :=
  match T t with
  | some i => match i.k, tentries σ x with
    | .map kt et, some es => match T et with
      | some j => if tkey T 64 kt k then match tfind T kt k es 0, j.zero with
          | some (some (_, e)), _ => some (if ok then .tup [e.val, .bool true] else e.val)
          | some none, some z => some (if ok then .tup [z, .bool false] else z)
          | _, _ => none
        else none
      | none => none
    | _, _ => none
  | none => none

theorem VR_pair {g : G} {σ : TS} {x : TV} {v : Value} {b : Bool} (h : VR g σ x v) : VR g σ (.tup [x, .bool b]) (.tuple #[v, .bool b]) := by
  simp only [VR, VRL]
  exact ⟨_, rfl, v, _, rfl, h, _, _, rfl, rfl, rfl⟩

theorem tkey_under {P : Program} {t : TypeId} {k : TV} {n : Nat} (h : tkey (mkTab P) n t k = true) : ∃ d, P.underlying t = some d := by
  cases n with
  | zero => simp [tkey] at h
  | succ n =>
    unfold tkey at h
    split at h
    · cases h
    · rename_i i hi
      obtain ⟨_, d, _, q, _⟩ := mkTab_sound hi
      exact ⟨d, q⟩

theorem tlookup_run {P : Program} {g : G} {σ : TS} {w : World} (hw : WR g σ w) {t : TypeId} {x k r : TV} {xv kv : Value} {ok : Bool} (hx : VR g σ x xv) (hk : VR g σ k kv) (h : tlookup (mkTab P) σ t x k ok = some r) :
    ∃ v, (Instr.lookup t xv kv ok).run P w = .ok v w ∧ VR g σ r v := by
  unfold tlookup at h
  split at h
  · rename_i i hi
    obtain ⟨info, d, k1, k2, k3, k4, k5, k6, k7⟩ := mkTab_sound hi
    split at h
    · rename_i kt et es hik hes
      rw [k3] at hik
      obtain rfl := TK.of_map hik
      split at h
      · rename_i j hj
        split at h
        · rename_i hkey
          obtain ⟨dk, hkd⟩ := tkey_under hkey
          have fin : ∀ ev : Array MapEntry, EntriesR g σ es ev.toList → ∃ v, VR g σ r v ∧ ((checkKey ev.isEmpty 10000 kt kv).run P w = .ok () w ∧
              ((∃ n u, (findKey kt kv ev.toList).run P w = .ok (some (n, u)) w ∧ v = if ok then .tuple #[u, .bool true] else u) ∨
               (∃ z, (findKey kt kv ev.toList).run P w = .ok none w ∧ (zeroValue et).run P w = .ok z w ∧ v = if ok then .tuple #[z, .bool false] else z))) := by
            intro ev hER
            have hc := tkey_run 64 10000 kt k kv (by decide) hk hkey ev.isEmpty w
            split at h
            · rename_i n e hf
              cases h
              obtain ⟨rv, f1, f2⟩ := tfind_key hk hkd hER hf w
              obtain ⟨e', n', e1, e2, e3, rfl, e5, e6, e7, e8⟩ := f2
              refine ⟨if ok then .tuple #[e'.val, .bool true] else e'.val, ?_, hc, .inl ⟨_, _, f1, rfl⟩⟩
              cases ok
              · exact e7
              · exact VR_pair e7
            · rename_i z hf hz
              cases h
              obtain ⟨rv, f1, f2⟩ := tfind_key hk hkd hER hf w
              have f2 : rv = none := f2
              subst f2
              obtain ⟨zv, hr, hcz, _⟩ := zero_run hj hz w
              have hzv := constV_sound (g := g) (σ := σ) hcz
              refine ⟨if ok then .tuple #[zv, .bool false] else zv, ?_, hc, .inr ⟨_, f1, hr, rfl⟩⟩
              cases ok
              · exact hzv
              · exact VR_pair hzv
            · cases h
          unfold tentries at hes
          split at hes
          · cases hes
            simp only [VR] at hx; subst hx
            obtain ⟨v, q1, q2, q3⟩ := fin #[] (by simp [EntriesR])
            refine ⟨v, ?_, q1⟩
            rcases q3 with ⟨n, u, f1, rfl⟩ | ⟨z, f1, f2, rfl⟩
            · simp only [Instr.lookup, Sem.run_bind, run_underlying k2, Result.andThen_ok, Sem.run_pure, q2, f1]
            · simp only [Instr.lookup, Sem.run_bind, run_underlying k2, Result.andThen_ok, Sem.run_pure, q2, f1, f2]
          · rename_i l
            split at hes
            · rename_i es' c hl
              cases hes
              simp only [VR] at hx
              obtain ⟨b, hb, rfl⟩ := hx
              obtain ⟨ev, h1, h2⟩ := map_obj hw hl hb
              obtain ⟨v, q1, q2, q3⟩ := fin ev h2
              refine ⟨v, ?_, q1⟩
              rcases q3 with ⟨n, u, f1, rfl⟩ | ⟨z, f1, f2, rfl⟩
              · simp only [Instr.lookup, Sem.run_bind, run_underlying k2, Result.andThen_ok, Sem.run_pure, MapKept.run_getObj_map h1, q2, f1]
              · simp only [Instr.lookup, Sem.run_bind, run_underlying k2, Result.andThen_ok, Sem.run_pure, MapKept.run_getObj_map h1, q2, f1, f2]
            · cases hes
          · cases hes
        · cases h
      · cases h
    · cases h
  · cases h

def tmakeMap (σ : TS) : TV × TS := (.map σ.length, σ ++ [.map [] 0])

theorem tmakeMap_ok {P : Program} {g : G} {σ : TS} {w : World} (hw : WR g σ w) {t : TypeId} : ValOk P g σ w (Instr.makeMap t none) (tmakeMap σ).1 (tmakeMap σ).2 := by
  have hb : Below w.heap.size w { w with heap := w.heap.push (.map #[] 0) } := by
    refine ⟨rfl, rfl, rfl, by simp, fun k hk => ?_⟩
    simp [Array.getElem?_push_lt hk]
  obtain ⟨h1, h2⟩ := hw.newLoc (o := .map [] 0) hb (Nat.le_refl _) (by simp) ⟨#[], by simp, by simp [EntriesR]⟩
  refine ⟨_, _, .map (some w.heap.size), ?_, h2, h1, ?_⟩
  · simp only [Instr.makeMap, newObj, Sem.run_bind, Sem.run_pure]
    rfl
  · simp only [tmakeMap, VR]
    exact ⟨w.heap.size, upd_same _ _ _, rfl⟩

/-- A key is laid, and what stands by it. -/
def tmapUpdate (T : Tab) (σ : TS) (t : TypeId) (m k v : TV) : Option TS :=
  match T t, m with
  | some i, .map l => match i.k, σ[l]? with
    | .map kt et, some (.map es c) => if tkey T 64 kt k then match tfind T kt k es 0 with
        | some none => some (σ.set l (.map (es ++ [⟨k, v, c⟩]) (c + 1)))
        | some (some (n, e)) => some (σ.set l (.map (es.set n ⟨k, v, e.born⟩) c))
        | none => none
      else none
    | _, _ => none
  | _, _ => none

/-- A key's entry, laid with the zero where there is none: its value, and its stamp. -/
def tmapEntry (T : Tab) (σ : TS) (t : TypeId) (m k : TV) : Option (TV × TS) :=
  match T t, m with
  | some i, .map l => match i.k, σ[l]? with
    | .map kt et, some (.map es c) => if tkey T 64 kt k then match tfind T kt k es 0, (T et).bind (·.zero) with
        | some none, some z => some (.tup [z, .int .i64 c], σ.set l (.map (es ++ [⟨k, z, c⟩]) (c + 1)))
        | some (some (n, e)), _ => some (.tup [e.val, .int .i64 e.born], σ.set l (.map (es.set n ⟨k, e.val, e.born⟩) c))
        | _, _ => none
      else none
    | _, _ => none
  | _, _ => none

def tentryStore (σ : TS) (m s v : TV) : Option TS :=
  match m, s with
  | .map l, .int _ b => match σ[l]? with
    | some (.map es c) => match es.findIdx? (fun e => (e.born : Int) == b) with
      | some n => match es[n]? with
        | some e => some (σ.set l (.map (es.set n ⟨e.key, v, e.born⟩) c))
        | none => none
      | none => none
    | _ => none
  | _, _ => none

def tdelete (T : Tab) (σ : TS) (t : TypeId) (m k : TV) : Option (TV × TS) :=
  match T t with
  | some i => match i.k, m with
    | .map kt et, .nilm => if tkey T 64 kt k then some (.tup [], σ) else none
    | .map kt et, .map l => match σ[l]? with
      | some (.map es c) => if tkey T 64 kt k then match tfind T kt k es 0 with
          | some none => some (.tup [], σ.set l (.map es c))
          | some (some (n, _)) => some (.tup [], σ.set l (.map (es.eraseIdx n) c))
          | none => none
        else none
      | _ => none
    | _, _ => none
  | none => none

def ttypeAssert (T : Tab) (x : TV) (asserted : TypeId) (ok : Bool) : Option TV :=
  match T asserted with
  | some i => match i.k with
    | .iface _ => none
    | _ => match x with
      | .iface t v => if t = asserted then some (if ok then .tup [v, .bool true] else v) else if ok then (i.zero.map fun z => .tup [z, .bool false]) else none
      | .nili => if ok then (i.zero.map fun z => .tup [z, .bool false]) else none
      | _ => none
  | none => none

theorem modify_set {es : Array MapEntry} {n : Nat} {e : MapEntry} (f : MapEntry → MapEntry) (h : es.toList[n]? = some e) : (es.modify n f).toList = es.toList.set n (f e) := by
  rw [Array.toList_modify]
  apply List.ext_getElem?
  intro j
  rw [List.getElem?_modify, List.getElem?_set]
  by_cases hj : n = j
  · subst hj
    have hlt := (List.getElem?_eq_some_iff.1 h).1
    simp [h]
    simpa using hlt
  · simp [hj]

theorem tmapUpdate_ok {P : Program} {g : G} {σ σ' : TS} {w : World} (hw : WR g σ w) {t : TypeId} {m k v : TV} {mv kv vv : Value} (hm : VR g σ m mv) (hk : VR g σ k kv) (hv : VR g σ v vv)
    (h : tmapUpdate (mkTab P) σ t m k v = some σ') : ∃ w', (Instr.mapUpdate t mv kv vv).run P w = .ok () w' ∧ Ext g σ g σ' ∧ WR g σ' w' := by
  unfold tmapUpdate at h
  split at h
  · rename_i i l hi
    obtain ⟨info, d, k1, k2, k3, k4, k5, k6, k7⟩ := mkTab_sound hi
    split at h
    · rename_i kt et es c hik hl
      rw [k3] at hik
      obtain rfl := TK.of_map hik
      split at h
      · rename_i hkey
        obtain ⟨dk, hkd⟩ := tkey_under hkey
        simp only [VR] at hm
        obtain ⟨b, hb, rfl⟩ := hm
        obtain ⟨ev, h1, h2⟩ := map_obj hw hl hb
        have hc := tkey_run 64 10000 kt k kv (by decide) hk hkey false w
        split at h
        · rename_i hf
          cases h
          obtain ⟨rv, f1, f2⟩ := tfind_key hk hkd h2 hf w
          have f2 : rv = none := f2
          subst f2
          obtain ⟨q1, q2⟩ := map_set (c' := c + 1) hw hl hb h1 (es' := ev.push ⟨kv, vv, c⟩) (ys := es ++ [⟨k, v, c⟩]) (by
            rw [Array.toList_push]
            exact h2.append (by simp only [EntriesR]; exact ⟨_, _, rfl, hk, rfl, hv, rfl⟩))
          refine ⟨_, ?_, q1, q2⟩
          simp only [Instr.mapUpdate, Sem.run_bind, run_underlying k2, Result.andThen_ok, MapKept.run_getObj_map h1, hc, f1, MapKept.run_setObj_map _ h1]
        · rename_i n e hf
          cases h
          obtain ⟨rv, f1, f2⟩ := tfind_key hk hkd h2 hf w
          obtain ⟨e', n', e1, e2, e3, rfl, e5, e6, e7, e8⟩ := f2
          obtain rfl : n' = n := by omega
          obtain ⟨s1, s2⟩ := beqP_run 64 10000 k e.key kv e'.key (by decide) hk e5 e8
          obtain ⟨q1, q2⟩ := map_set (c' := c) hw hl hb h1 (es' := ev.modify n' fun x => { x with key := kv, val := vv }) (ys := es.set n' ⟨k, v, e.born⟩) (by
            rw [modify_set _ e3]
            exact h2.set (y := ⟨k, v, e.born⟩) (f := { e' with key := kv, val := vv }) hk e6 hv n')
          refine ⟨_, ?_, q1, q2⟩
          have e3' : ev[n']? = some e' := by rw [← Array.getElem?_toList]; exact e3
          simp only [Instr.mapUpdate, Sem.run_bind, run_underlying k2, Result.andThen_ok, MapKept.run_getObj_map h1, hc, f1, e3', Option.map_some, Option.getD_some, keyThatStays, s2, if_true, Sem.run_pure, MapKept.run_setObj_map _ h1]
        · cases h
      · cases h
    · cases h
  · cases h

theorem VR_entry {g : G} {σ : TS} {x : TV} {v : Value} {n : Nat} (h : VR g σ x v) : VR g σ (.tup [x, .int .i64 n]) (.tuple #[v, goInt n]) := by
  simp only [VR, VRL]
  exact ⟨_, rfl, v, _, rfl, h, _, _, rfl, rfl, rfl⟩

theorem tmapEntry_ok {P : Program} {g : G} {σ σ' : TS} {w : World} (hw : WR g σ w) {t : TypeId} {m k r : TV} {mv kv : Value} (hm : VR g σ m mv) (hk : VR g σ k kv)
    (h : tmapEntry (mkTab P) σ t m k = some (r, σ')) : ValOk P g σ w (Instr.mapEntry t mv kv) r σ' := by
  unfold tmapEntry at h
  split at h
  · rename_i i l hi
    obtain ⟨info, d, k1, k2, k3, k4, k5, k6, k7⟩ := mkTab_sound hi
    split at h
    · rename_i kt et es c hik hl
      rw [k3] at hik
      obtain rfl := TK.of_map hik
      split at h
      · rename_i hkey
        obtain ⟨dk, hkd⟩ := tkey_under hkey
        simp only [VR] at hm
        obtain ⟨b, hb, rfl⟩ := hm
        obtain ⟨ev, h1, h2⟩ := map_obj hw hl hb
        have hc := tkey_run 64 10000 kt k kv (by decide) hk hkey false w
        split at h
        · rename_i z hf hz
          cases h
          obtain ⟨j, hj, hzz⟩ : ∃ j, mkTab P et = some j ∧ j.zero = some z := by
            cases hj : mkTab P et with
            | none => simp [hj] at hz
            | some j => exact ⟨j, rfl, by simpa [hj] using hz⟩
          obtain ⟨zv, hr, hcz, _⟩ := zero_run hj hzz w
          have hzv := constV_sound (g := g) (σ := σ) hcz
          obtain ⟨rv, f1, f2⟩ := tfind_key hk hkd h2 hf w
          have f2 : rv = none := f2
          subst f2
          obtain ⟨q1, q2⟩ := map_set (c' := c + 1) hw hl hb h1 (es' := ev.push ⟨kv, zv, c⟩) (ys := es ++ [⟨k, z, c⟩]) (by
            rw [Array.toList_push]
            exact h2.append (by simp only [EntriesR]; exact ⟨_, _, rfl, hk, rfl, hzv, rfl⟩))
          refine ⟨g, _, _, ?_, q1, q2, (VR_entry hzv).mono q1⟩
          simp only [Instr.mapEntry, Sem.run_bind, run_underlying k2, Result.andThen_ok, MapKept.run_getObj_map h1, hc, f1, hr, MapKept.run_setObj_map _ h1, Sem.run_pure]
        · rename_i n e hf
          cases h
          obtain ⟨rv, f1, f2⟩ := tfind_key hk hkd h2 hf w
          obtain ⟨e', n', e1, e2, e3, rfl, e5, e6, e7, e8⟩ := f2
          obtain rfl : n' = n := by omega
          obtain ⟨s1, s2⟩ := beqP_run 64 10000 k e.key kv e'.key (by decide) hk e5 e8
          obtain ⟨q1, q2⟩ := map_set (c' := c) hw hl hb h1 (es' := ev.modify n' fun x => { x with key := kv }) (ys := es.set n' ⟨k, e.val, e.born⟩) (by
            rw [modify_set _ e3]
            exact h2.set (y := ⟨k, e.val, e.born⟩) (f := { e' with key := kv }) hk e6 e7 n')
          have e3' : ev[n']? = some e' := by rw [← Array.getElem?_toList]; exact e3
          refine ⟨g, _, .tuple #[e'.val, goInt e'.born], ?_, q1, q2, ?_⟩
          · simp only [Instr.mapEntry, Sem.run_bind, run_underlying k2, Result.andThen_ok, MapKept.run_getObj_map h1, hc, f1, e3', Option.map_some, Option.getD_some, keyThatStays, s2, if_true, Sem.run_pure, MapKept.run_setObj_map _ h1]
          · rw [e6]; exact (VR_entry e7).mono q1
        · cases h
      · cases h
    · cases h
  · cases h

theorem tentryStore_ok {P : Program} {g : G} {σ σ' : TS} {w : World} (hw : WR g σ w) {t : TypeId} {m s v : TV} {mv sv vv : Value} (hm : VR g σ m mv) (hs : VR g σ s sv) (hv : VR g σ v vv)
    (h : tentryStore σ m s v = some σ') : ∃ w', (Instr.entryStore t mv sv vv).run P w = .ok () w' ∧ Ext g σ g σ' ∧ WR g σ' w' := by
  unfold tentryStore at h
  split at h
  · rename_i l kd n
    split at h
    · rename_i es c hl
      split at h
      · rename_i j hj
        split at h
        · rename_i e he
          cases h
          simp only [VR] at hm hs
          subst hs
          obtain ⟨b, hb, rfl⟩ := hm
          obtain ⟨ev, h1, h2⟩ := map_obj hw hl hb
          have hfi : ev.findIdx? (fun e => (e.born : Int) == n) = some j := by
            have hq := h2.find (fun b => (b : Int) == n)
            obtain ⟨evl⟩ := ev
            rw [List.findIdx?_toArray]
            exact hq.trans hj
          have hlen := h2.length
          have hjl : j < ev.toList.length := by rw [hlen]; exact (List.getElem?_eq_some_iff.1 he).1
          obtain ⟨e', he'⟩ : ∃ e', ev.toList[j]? = some e' := ⟨_, List.getElem?_eq_getElem hjl⟩
          obtain ⟨g1, g2, g3⟩ := h2.get he he'
          obtain ⟨q1, q2⟩ := map_set (c' := c) hw hl hb h1 (es' := ev.modify j fun x => { x with val := vv }) (ys := es.set j ⟨e.key, v, e.born⟩) (by
            rw [modify_set _ he']
            exact h2.set (y := ⟨e.key, v, e.born⟩) (f := { e' with val := vv }) g1 g2 hv j)
          refine ⟨_, ?_, q1, q2⟩
          simp only [Instr.entryStore, Sem.run_bind, Result.andThen_ok, MapKept.run_getObj_map h1, asInt, asIntOf, Sem.run_pure, hfi, MapKept.run_setObj_map _ h1]
        · cases h
      · cases h
    · cases h
  · cases h

theorem VR_none {g : G} {σ : TS} : VR g σ (.tup []) (.tuple #[]) := by
  simp only [VR, VRL]
  exact ⟨#[], rfl, rfl⟩

theorem tdelete_ok {P : Program} {g : G} {σ σ' : TS} {w : World} (hw : WR g σ w) {t u ty : TypeId} {m k r : TV} {mv kv : Value} (hm : VR g σ m mv) (hk : VR g σ k kv)
    (h : tdelete (mkTab P) σ t m k = some (r, σ')) : ValOk P g σ w (Builtin.delete_ #[t, u] ty #[mv, kv]) r σ' := by
  unfold tdelete at h
  split at h
  · rename_i i hi
    obtain ⟨info, d, k1, k2, k3, k4, k5, k6, k7⟩ := mkTab_sound hi
    split at h
    · rename_i kt et hik
      rw [k3] at hik
      obtain rfl := TK.of_map hik
      split at h
      · rename_i hkey
        cases h
        simp only [VR] at hm; subst hm
        have hc := tkey_run 64 10000 kt k kv (by decide) hk hkey true w
        refine ⟨g, w, .tuple #[], ?_, Ext.refl _ _, hw, VR_none⟩
        simp [Builtin.delete_, run_underlying k2, hc]
      · cases h
    · rename_i kt et l hik
      rw [k3] at hik
      obtain rfl := TK.of_map hik
      split at h
      · rename_i es c hl
        split at h
        · rename_i hkey
          obtain ⟨dk, hkd⟩ := tkey_under hkey
          simp only [VR] at hm
          obtain ⟨b, hb, rfl⟩ := hm
          obtain ⟨ev, h1, h2⟩ := map_obj hw hl hb
          have hc := tkey_run 64 10000 kt k kv (by decide) hk hkey ev.isEmpty w
          split at h
          · rename_i hf
            cases h
            obtain ⟨rv, f1, f2⟩ := tfind_key hk hkd h2 hf w
            have f2 : rv = none := f2
            subst f2
            obtain ⟨q1, q2⟩ := map_set (c' := c) hw hl hb h1 h2
            refine ⟨g, _, .tuple #[], ?_, q1, q2, VR_none⟩
            simp [Builtin.delete_, run_underlying k2, MapKept.run_getObj_map h1, hc, f1, MapKept.run_setObj_map _ h1]
          · rename_i n e hf
            cases h
            obtain ⟨rv, f1, f2⟩ := tfind_key hk hkd h2 hf w
            obtain ⟨e', n', e1, e2, e3, rfl, e5, e6, e7, e8⟩ := f2
            obtain rfl : n' = n := by omega
            have e3' : ev[n']? = some e' := by rw [← Array.getElem?_toList]; exact e3
            have hlt : n' < ev.size := (Array.getElem?_eq_some_iff.1 e3').1
            obtain ⟨q1, q2⟩ := map_set (c' := c) hw hl hb h1 (es' := ev.eraseIdxIfInBounds n') (ys := es.eraseIdx n') (by
              rw [Array.toList_eraseIdxIfInBounds]
              exact h2.erase n')
            refine ⟨g, _, .tuple #[], ?_, q1, q2, VR_none⟩
            simp [Builtin.delete_, run_underlying k2, MapKept.run_getObj_map h1, hc, f1, MapKept.run_setObj_map _ h1]
          · cases h
        · cases h
      · cases h
    · cases h
  · cases h

theorem ttypeAssert_run {P : Program} {g : G} {σ : TS} {x r : TV} {xv : Value} {xt at' : TypeId} {ok : Bool} (hx : VR g σ x xv) (h : ttypeAssert (mkTab P) x at' ok = some r) (w : World) :
    ∃ v, (Instr.typeAssert xv xt at' ok).run P w = .ok v w ∧ VR g σ r v := by
  unfold ttypeAssert at h
  split at h
  · rename_i i hi
    obtain ⟨info, d, k1, k2, k3, k4, k5, k6, k7⟩ := mkTab_sound hi
    have hzero : ∀ z, i.zero = some z → ∃ zv, (zeroValue at').run P w = .ok zv w ∧ VR g σ z zv := fun z hz => by
      obtain ⟨zv, hr, hcz, _⟩ := zero_run hi hz w
      exact ⟨zv, hr, constV_sound hcz⟩
    split at h
    · cases h
    · rename_i hk
      have hni : ∀ ms, d ≠ .interface ms := fun ms e => by subst e; exact hk _ (by rw [k3]; rfl)
      split at h
      · rename_i t v
        simp only [VR] at hx
        obtain ⟨u, rfl, hu⟩ := hx
        split at h
        · rename_i ht
          subst ht
          cases h
          refine ⟨if ok then .tuple #[u, .bool true] else u, ?_, by cases ok; exact hu; exact VR_pair hu⟩
          simp only [Instr.typeAssert, Sem.run_bind, run_underlying k2, Result.andThen_ok]
          cases d <;> first | (exact absurd rfl (hni _)) | simp
        · rename_i ht
          split at h
          · rename_i hok
            cases hz : i.zero with
            | none => simp [hz] at h
            | some z =>
              obtain ⟨zv, z1, z2⟩ := hzero z hz
              simp only [hz, Option.map_some, Option.some.injEq] at h
              subst h
              refine ⟨.tuple #[zv, .bool false], ?_, VR_pair z2⟩
              simp only [Instr.typeAssert, Sem.run_bind, run_underlying k2, Result.andThen_ok]
              cases d <;> first | (exact absurd rfl (hni _)) | simp [ht, hok, z1]
          · cases h
      · simp only [VR] at hx
        subst hx
        split at h
        · rename_i hok
          cases hz : i.zero with
          | none => simp [hz] at h
          | some z =>
            obtain ⟨zv, z1, z2⟩ := hzero z hz
            simp only [hz, Option.map_some, Option.some.injEq] at h
            subst h
            refine ⟨.tuple #[zv, .bool false], ?_, VR_pair z2⟩
            simp only [Instr.typeAssert, Sem.run_bind, run_underlying k2, Result.andThen_ok]
            cases d <;> first | (exact absurd rfl (hni _)) | simp [hok, z1]
        · cases h
      · cases h
  · cases h

end Go.TM
