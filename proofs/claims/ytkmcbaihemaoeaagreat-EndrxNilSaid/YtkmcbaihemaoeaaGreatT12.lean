/- The T-machine, part 12: a law's row (it returns true, its arguments read as they did) out of its calls over trees; results cut back to the heap that was. -/
import Derived.Test.YtkmcbaihemaoeaaGreatT11
set_option linter.unusedSimpArgs false
set_option linter.unusedVariables false
namespace Go.TM
open Go.RowKit (Below shut_bool)
open Go.ChangeShapes

def TyV (T : Tab) (d : Nat) (t : TypeId) (tv : TV) : Prop := Ty T d t tv.cells ∧ ∀ i, T t = some i → tv.isAggV = i.k.isAgg

def TyAll (T : Tab) (d : Nat) : List TypeId → List TV → Prop
  | [], [] => True
  | t :: ts, v :: vs => TyV T d t v ∧ TyAll T d ts vs
  | _, _ => False

section
variable {P : Program} {H : Type} {enc : TypeId × Value → H}

theorem open_value {W : World} {base : Nat} {d : Nat} {t : TypeId} {v : Value} {x : DataW H} {ps : List MemPlace} (hp : plainT (mkTab P) d t = true) (hok : Value.okWide P W .any base t v)
    (h : DataW.Trod enc P W 0 (fun _ => true) true t v x ps) : ∃ tv, VR (g0 W) [] tv v ∧ TyV (mkTab P) d t tv := by
  obtain ⟨fuel, hf⟩ := h
  obtain ⟨tcs, h1, h2, h3⟩ := open_trod d t fuel v.cells.toList _ hp hf
  cases d with
  | zero => simp [plainT] at hp
  | succ d =>
    have hp' := hp
    simp only [plainT] at hp'
    split at hp'
    · cases hp'
    · rename_i i hi
      obtain ⟨info, ds, k1, k2, k3, k4, k5, k6, k7⟩ := mkTab_sound hi
      by_cases ha : i.k.isAgg = true
      · have : ∃ cs, v = .agg cs := by
          unfold Value.okWide at hok
          rw [k2] at hok
          rw [k3] at ha
          cases ds <;> simp only [TK.of, TK.isAgg] at ha <;> first | (cases ha; done) | skip
          · obtain ⟨cs, h, _⟩ := hok; exact ⟨cs, h⟩
          · obtain ⟨cs, h, _⟩ := hok; exact ⟨cs, h⟩
        obtain ⟨cs, rfl⟩ := this
        refine ⟨.agg tcs, by simp only [VR]; exact ⟨cs, rfl, by simpa [Value.cells] using h1⟩, h3, fun j hj => ?_⟩
        rw [hi] at hj; cases hj
        rw [ha]; rfl
      · have hna : ∀ cs, v ≠ .agg cs := by
          rintro cs rfl
          unfold Value.okWide at hok
          rw [k2] at hok
          rw [k3] at ha
          cases ds <;> simp only [TK.of, TK.isAgg] at ha <;> first | (exact absurd trivial ha) | (exact absurd rfl ha) | skip
          all_goals simp [Cell.okWide, k2, Cell.ok] at hok
        have hc : v.cells.toList = [v] := by
          cases v <;> first | rfl | exact absurd rfl (hna _)
        rw [hc] at h1
        have hl := h1.length
        match tcs, hl, h1, h2, h3 with
        | [x], _, h1, h2, h3 =>
          simp only [VRL] at h1
          obtain ⟨u, rest, he, hx, hr⟩ := h1
          obtain ⟨rfl, rfl⟩ : v = u ∧ rest = [] := by simpa using he
          have h1x : x.one = true := by simpa using h2
          have hxc : x.cells = [x] := by cases x <;> first | rfl | (simp [TV.one] at h1x; done)
          refine ⟨x, hx, by rw [hxc]; exact h3, fun j hj => ?_⟩
          rw [hi] at hj; cases hj
          have : x.isAggV = false := by cases x <;> first | rfl | (simp [TV.one] at h1x; done)
          rw [this]
          simpa using ha

theorem open_all {W : World} {base d : Nat} : ∀ {ts : List TypeId} {vs : List Value} {ds : List (DataW H)} {ps : List MemPlace}, ts.all (plainT (mkTab P) d) = true →
    (∀ (j : Nat) t v, ts[j]? = some t → vs[j]? = some v → Value.okWide P W .any base t v) → DataW.TrodAll enc P W 0 (fun _ => true) true ts vs ds ps →
    ∃ tvs, VRL (g0 W) [] tvs vs ∧ TyAll (mkTab P) d ts tvs
  | [], [], [], ps, _, _, _ => ⟨[], by simp [VRL], trivial⟩
  | t :: ts, v :: vs, x :: ds, ps, hp, hok, h => by
    obtain ⟨p, q, h1, h2, _⟩ := h
    simp only [List.all_cons, Bool.and_eq_true] at hp
    obtain ⟨tv, a1, a2⟩ := open_value hp.1 (hok 0 t v rfl rfl) h1
    obtain ⟨tvs, b1, b2⟩ := open_all hp.2 (fun j t v e1 e2 => hok (j + 1) t v (by simpa using e1) (by simpa using e2)) h2
    exact ⟨tv :: tvs, by simp only [VRL]; exact ⟨v, vs, rfl, a1, b1⟩, a2, b2⟩
  | [], _ :: _, _, _, _, _, h => h.elim
  | [], [], _ :: _, _, _, _, h => h.elim
  | _ :: _, [], _, _, _, _, h => h.elim
  | _ :: _, _ :: _, [], _, _, _, h => h.elim

theorem trodAll_lengths {W : World} {sp : Nat → Bool} {b : Bool} {base : Nat} : ∀ {ts : List TypeId} {vs : List Value} {ds : List (DataW H)} {ps : List MemPlace}, DataW.TrodAll enc P W base sp b ts vs ds ps → ds.length = ts.length
  | [], [], [], _, _ => rfl
  | t :: ts, v :: vs, x :: ds, ps, h => by
    obtain ⟨p, q, h1, h2, _⟩ := h
    simp [trodAll_lengths h2]
  | [], _ :: _, _, _, h => h.elim
  | [], [], _ :: _, _, h => h.elim
  | _ :: _, [], _, _, h => h.elim
  | _ :: _, _ :: _, [], _, h => h.elim

theorem shut_all (hl : laidOutB P = true) {W W' : World} (hb : Below W.heap.size W W') : ∀ {ts : List TypeId} {vs : List Value} {ds : List (DataW H)} {ps : List MemPlace},
    (ts.all fun t => P.readableRec t && decide (t < P.types.size)) = true → DataW.TrodAll enc P W 0 (fun _ => true) true ts vs ds ps →
    ∃ qs, DataW.TrodAll enc P W' 0 (fun b => decide (b < W.heap.size)) true ts vs ds qs
  | [], [], [], _, _, _ => ⟨[], rfl⟩
  | t :: ts, v :: vs, x :: ds, ps, hp, h => by
    obtain ⟨p, q, h1, h2, _⟩ := h
    simp only [List.all_cons, Bool.and_eq_true, decide_eq_true_eq] at hp
    obtain ⟨qs, h3⟩ := shut_all hl hb hp.2 h2
    have lt0 : ∀ x ∈ p, x.block < W.heap.size := by obtain ⟨m, hm⟩ := h1; exact DataW.trod_lt m _ _ _ hm
    exact ⟨p ++ qs, p, qs, Go.RowKit.Below.trod hl hp.1.1 hp.1.2 h1 hb lt0, h3, rfl⟩
  | [], _ :: _, _, _, _, h => h.elim
  | [], [], _ :: _, _, _, h => h.elim
  | _ :: _, [], _, _, _, h => h.elim
  | _ :: _, _ :: _, [], _, _, h => h.elim

/-- A law's contract as the row asks for it. -/
theorem law_contract {fn : Func} {s : ChangeSpec} {f : FuncId} {rt : TypeId} (d : Nat) (hlaid : laidOutB P = true) (hvars : s.vars = [])
    (hspec : ∀ ds : List (DataW H), ds.length = fn.params.toList.length → s.fn H ds = { results := [.lit (.bool true)], args := ds })
    (hplain : fn.params.toList.all (plainT (mkTab P) d) = true) (hread : (fn.params.toList.all fun t => P.readableRec t && decide (t < P.types.size)) = true)
    (hres : fn.resultTypes = #[rt]) (hrt : P.underlying rt = some .bool)
    (hcall : ∀ tvs, TyAll (mkTab P) d fn.params.toList tvs → TCalls P f tvs [] fun tv _ => tv = .bool true)
    (W : World) (base : Nat) (args : Array Value) (ds gs : List (DataW H)) (before : List MemPlace)
    (hval : ∀ (j : Nat) t v, fn.params[j]? = some t → args[j]? = some v → Value.okWide P W .any base t v)
    (hW : DataW.Whole enc P fn.params.toList s.vars false W args.toList ds gs before) :
    Calls P f args W fun e W' => ∃ v, e = .returned v ∧ s.post enc P fn false true false false W args v W' := by
  have hW' := hW
  obtain ⟨p, q, hA, hV, rfl, hfz, hnd⟩ := hW
  have hV' := hV
  rw [hvars] at hV'
  obtain ⟨rfl, rfl⟩ := trodVars_none hV'
  obtain ⟨tvs, hvr, hty⟩ := open_all hplain (fun j t v e1 e2 => hval j t v (by rw [← Array.getElem?_toList]; exact e1) (by rw [← Array.getElem?_toList]; exact e2)) hA
  refine ((hcall tvs hty).2 (g0 W) W args (g0_WR W) hvr).mono fun e W' hq => ?_
  obtain ⟨v, tv, σ', g', rfl, hx, hw, hv, rfl⟩ := hq
  simp only [VR] at hv; subst hv
  have hbel : Below W.heap.size W W' := by have := hw.below; rw [hx.w0] at this; exact this
  obtain ⟨qs, hargs⟩ := shut_all (enc := enc) hlaid hbel hread hA
  have hsp : s.fn H (ds ++ []) = { results := [.lit (.bool true)], args := ds } := by
    rw [List.append_nil]
    exact hspec ds (trodAll_lengths hA)
  refine ⟨_, rfl, ds, [], _, [], qs, [], hW', ?_, ?_, ?_, hbel.frame _, fun h => by cases h⟩
  · rw [hsp, hres]
    exact trodAll_mk1 (shut_bool hrt true)
  · rw [hsp]; exact hargs
  · rw [hsp, hvars]; rfl

end

/- results cut back -/
mutual
def TV.fits (n : Nat) : TV → Bool
  | .ptr l _ => decide (l < n)
  | .msl l _ _ => decide (l < n)
  | .rp l _ => decide (l < n)
  | .rs l _ _ _ => decide (l < n)
  | .map l => decide (l < n)
  | .yl l => decide (l < n)
  | .cp cs => TV.fitsL n cs
  | .sl own _ cs => (match own with | some (t, _) => decide (t < n) | none => true) && TV.fitsL n cs
  | .func _ a b => TV.fitsL n a && TV.fitsL n b
  | .iface _ v => TV.fits n v
  | .agg cs => TV.fitsL n cs
  | .tup cs => TV.fitsL n cs
  | _ => true
def TV.fitsL (n : Nat) : List TV → Bool
  | [] => true
  | x :: xs => TV.fits n x && TV.fitsL n xs
end

/-- The ghost that knows the first n places alone. -/
def G.cut (g : G) (n : Nat) : G := { g with ρ := fun l => if l < n then g.ρ l else none, ω := fun t => if t < n then g.ω t else none }

mutual
theorem VR.cut {g : G} {σ : TS} {n : Nat} : ∀ (tv : TV) (v : Value), TV.fits n tv = true → VR g σ tv v → VR (g.cut n) (σ.take n) tv v
  | .int .., _, _, e => by simpa only [VR] using e
  | .bool .., _, _, e => by simpa only [VR] using e
  | .str .., _, _, e => by simpa only [VR] using e
  | .ptr l o, _, h, e => by
    simp only [VR] at e ⊢
    simp only [TV.fits, decide_eq_true_eq] at h
    obtain ⟨b, hb, hv⟩ := e
    exact ⟨b, by simp only [G.cut, h, if_true]; exact hb, hv⟩
  | .nilp, _, _, e => by simpa only [VR] using e
  | .cp cs, _, h, e => by
    simp only [VR] at e ⊢
    simp only [TV.fits] at h
    obtain ⟨b, o, vs, hv, hk, hl⟩ := e
    exact ⟨b, o, vs, hv, hk, VRL.cut cs vs h hl⟩
  | .sl own len cs, _, h, e => by
    simp only [VR] at e ⊢
    simp only [TV.fits, Bool.and_eq_true] at h
    obtain ⟨a, cap, vs, hv, hc, hk, hs, hl, ho⟩ := e
    refine ⟨a, cap, vs, hv, hc, hk, hs, VRL.cut cs vs h.2 hl, ?_⟩
    match own, ho, h.1 with
    | none, _, _ => trivial
    | some (t, e), ⟨k, sz, q1, q2, q3⟩, ht =>
      simp only [decide_eq_true_eq] at ht
      refine ⟨k, sz, by rw [List.getElem?_take, if_pos ht]; exact q1, q2, fun he => ?_⟩
      obtain ⟨b, x, q4, q5⟩ := q3 he
      exact ⟨b, x, by simp only [G.cut, ht, if_true]; exact q4, q5⟩
  | .nils, _, _, e => by simpa only [VR] using e
  | .msl l o m, _, h, e => by
    simp only [VR] at e ⊢
    simp only [TV.fits, decide_eq_true_eq] at h
    obtain ⟨b, cap, hb, hv⟩ := e
    exact ⟨b, cap, by simp only [G.cut, h, if_true]; exact hb, hv⟩
  | .rp l o, _, h, e => by
    simp only [VR] at e ⊢
    simp only [TV.fits, decide_eq_true_eq] at h
    obtain ⟨hl, b, o', hv, hr⟩ := e
    exact ⟨by rw [List.length_take]; omega, b, o', hv, fun cs q => hr cs (by rwa [List.getElem?_take, if_pos h] at q)⟩
  | .rs l o len sz, _, h, e => by
    simp only [VR] at e ⊢
    simp only [TV.fits, decide_eq_true_eq] at h
    obtain ⟨hl, b, o', cap, hv, hc, hr⟩ := e
    exact ⟨by rw [List.length_take]; omega, b, o', cap, hv, hc, fun cs q => hr cs (by rwa [List.getElem?_take, if_pos h] at q)⟩
  | .map l, _, h, e => by
    simp only [VR] at e ⊢
    simp only [TV.fits, decide_eq_true_eq] at h
    obtain ⟨b, hb, hv⟩ := e
    exact ⟨b, by simp only [G.cut, h, if_true]; exact hb, hv⟩
  | .yl l, _, h, e => by
    simp only [VR] at e ⊢
    simp only [TV.fits, decide_eq_true_eq] at h
    obtain ⟨b, hb, hv⟩ := e
    exact ⟨b, by simp only [G.cut, h, if_true]; exact hb, hv⟩
  | .nilm, _, _, e => by simpa only [VR] using e
  | .func f xs ys, _, h, e => by
    simp only [VR] at e ⊢
    simp only [TV.fits, Bool.and_eq_true] at h
    obtain ⟨us, vs, hv, h1, h2⟩ := e
    exact ⟨us, vs, hv, VRL.cut xs _ h.1 h1, VRL.cut ys _ h.2 h2⟩
  | .nilf, _, _, e => by simpa only [VR] using e
  | .iface t x, _, h, e => by
    simp only [VR] at e ⊢
    simp only [TV.fits] at h
    obtain ⟨u, hv, hx⟩ := e
    exact ⟨u, hv, VR.cut x u h hx⟩
  | .nili, _, _, e => by simpa only [VR] using e
  | .agg cs, _, h, e => by
    simp only [VR] at e ⊢
    simp only [TV.fits] at h
    obtain ⟨us, hv, h1⟩ := e
    exact ⟨us, hv, VRL.cut cs _ h h1⟩
  | .tup cs, _, h, e => by
    simp only [VR] at e ⊢
    simp only [TV.fits] at h
    obtain ⟨us, hv, h1⟩ := e
    exact ⟨us, hv, VRL.cut cs _ h h1⟩
theorem VRL.cut {g : G} {σ : TS} {n : Nat} : ∀ (xs : List TV) (vs : List Value), TV.fitsL n xs = true → VRL g σ xs vs → VRL (g.cut n) (σ.take n) xs vs
  | [], _, _, e => by simpa only [VRL] using e
  | x :: xs, _, h, e => by
    simp only [VRL] at e ⊢
    simp only [TV.fitsL, Bool.and_eq_true] at h
    obtain ⟨v, rest, hv, hx, hr⟩ := e
    exact ⟨v, rest, hv, VR.cut x v h.1 hx, VRL.cut xs rest h.2 hr⟩
end

def TObj.fits (n : Nat) : TObj → Bool
  | .cells cs => TV.fitsL n cs
  | .row cs => TV.fitsL n cs
  | .map es _ => es.all fun e => TV.fits n e.key && TV.fits n e.val
  | .iter m _ _ _ => match m with | some l => decide (l < n) | none => true
  | .loop m _ => m.all fun x => match x with | some v => TV.fits n v | none => true
  | _ => true

theorem EntriesR.cut {g : G} {σ : TS} {n : Nat} : ∀ (xs : List TEntry) (es : List MapEntry), (xs.all fun e => TV.fits n e.key && TV.fits n e.val) = true → EntriesR g σ xs es → EntriesR (g.cut n) (σ.take n) xs es
  | [], _, _, e => e
  | x :: xs, _, h, e => by
    obtain ⟨v, rest, hv, h1, h2, hx, hr⟩ := e
    simp only [List.all_cons, Bool.and_eq_true] at h
    exact ⟨v, rest, hv, VR.cut _ _ h.1.1 h1, h2, VR.cut _ _ h.1.2 hx, EntriesR.cut xs rest h.2 hr⟩

/-- A world stands to the first n places alone, if these name no others. -/
theorem WR.cut {g : G} {σ : TS} {w : World} (hw : WR g σ w) (n : Nat) (hn : n ≤ σ.length) (hf : ∀ (l : Nat) (o : TObj), l < n → (g.ρ l ≠ none ∨ ∃ cs, o = .row cs) → σ[l]? = some o → o.fits n = true) : WR (g.cut n) (σ.take n) w where
  below := hw.below
  keep := hw.keep
  obj l b e := by
    simp only [G.cut] at e
    split at e
    · rename_i hl
      have ho := hw.obj l b e
      rw [List.getElem?_take, if_pos hl]
      cases hq : σ[l]? with
      | none => trivial
      | some o =>
        rw [hq] at ho
        have hfo : o.fits n = true := hf l o hl (.inl (by rw [e]; simp)) hq
        cases o with
        | cells cs =>
          obtain ⟨c, e', fz, vs, rest, h1, h2, h3, h4, h5⟩ := ho
          exact ⟨c, e', fz, vs, rest, h1, h2, h3, h4, VRL.cut _ _ hfo h5⟩
        | map es clock =>
          obtain ⟨entries, h1, h2⟩ := ho
          exact ⟨entries, h1, EntriesR.cut _ _ hfo h2⟩
        | iter m since seen stepped =>
          obtain ⟨m', h1, h2⟩ := ho
          cases m with
          | none => exact ⟨m', h1, h2⟩
          | some l' =>
            obtain ⟨mb, h3, h4⟩ := h2
            simp only [TObj.fits, decide_eq_true_eq] at hfo
            exact ⟨m', h1, mb, by simp only [G.cut, hfo, if_true]; exact h3, h4⟩
        | right _ _ => trivial
        | row _ => trivial
        | dead => trivial
        | raw _ => exact ho
        | loop m rec =>
          obtain ⟨tmps, h1, h2, h3⟩ := ho
          exact ⟨tmps, h1, h2, fun t tv et => by
            obtain ⟨v, q1, q2⟩ := h3 t tv et
            exact ⟨v, q1, VR.cut _ _ (List.all_eq_true.1 hfo _ (List.mem_of_getElem? et)) q2⟩⟩
    · cases e
  inj l l' b e e' := by
    simp only [G.cut] at e e'
    split at e
    · split at e'
      · exact hw.inj _ _ _ e e'
      · cases e'
    · cases e
  new l b e := by
    simp only [G.cut] at e
    split at e
    · rename_i hl
      obtain ⟨h1, h2, h3⟩ := hw.new l b e
      exact ⟨h1, h2, by simp; omega⟩
    · cases e
  sep l b e := by
    simp only [G.cut] at e
    split at e
    · exact hw.sep l b e
    · cases e
  tok t b e n' h := by
    simp only [G.cut] at h
    split at h
    · rename_i ht
      obtain ⟨h1, h2, k, sz, h3, h4⟩ := hw.tok t b e n' h
      exact ⟨h1, h2, k, sz, by rw [List.getElem?_take, if_pos ht]; exact h3, h4⟩
    · cases h
  tokinj t t' b e n1 e' n' h h' := by
    simp only [G.cut] at h h'
    split at h
    · split at h'
      · exact hw.tokinj _ _ _ _ _ _ _ h h'
      · cases h'
    · cases h
  toksep t l b e n1 h := by
    simp only [G.cut] at h ⊢
    split at h
    · split
      · exact hw.toksep _ _ _ _ _ h
      · simp
    · cases h
  row l cs e := by
    rw [List.getElem?_take] at e
    split at e
    · rename_i hl
      obtain ⟨b, base, m, m1, m2⟩ := hw.row l cs e
      have hfo := hf l (.row cs) hl (.inr ⟨cs, rfl⟩) e
      refine ⟨b, base, m, m1, m2.new, m2.κ, fun l' q => ?_, fun t a1 a2 q => ?_, ?_⟩
      · simp only [G.cut] at q
        split at q
        · exact m2.ρ _ q
        · cases q
      · simp only [G.cut] at q
        split at q
        · exact m2.ω _ _ _ q
        · cases q
      · obtain ⟨c, e', fz, vs, q1, q2, q3, q4, q5, q6⟩ := m2.cells
        exact ⟨c, e', fz, vs, q1, q2, q3, q4, VRL.cut _ _ hfo q5, q6⟩
    · cases e
  rowinj l l' cs cs' b x y x' y' e e' := by
    rw [List.getElem?_take] at e e'
    split at e
    · split at e'
      · exact hw.rowinj l l' cs cs' b x y x' y' e e'
      · cases e'
    · cases e

theorem Ext.cut {g g' : G} {σ σ' : TS} {w : World} (hw : WR g σ w) (h : Ext g σ g' σ') (n : Nat) (hn : σ.length ≤ n) : Ext g σ (g'.cut n) (σ'.take n) where
  w0 := h.w0
  ρ l b e := by
    have := (hw.new l b e).2.2
    simp only [G.cut]
    rw [if_pos (by omega)]
    exact h.ρ l b e
  κ := h.κ
  tip t k sz e := by
    have ht := (List.getElem?_eq_some_iff.1 e).1
    obtain ⟨k', h1, h2⟩ := h.tip t k sz e
    refine ⟨k', by rw [List.getElem?_take, if_pos (by omega)]; exact h1, h2.imp id fun ⟨q1, q2⟩ => ⟨q1, ?_⟩⟩
    simp only [G.cut]
    rw [if_pos (by omega)]
    exact q2
  len := by
    have := h.len
    simp
    omega
  back l hl := by
    simp only [G.cut]
    rw [if_pos (by omega)]
    exact h.back l hl
  row l cs hl e := by
    rw [List.getElem?_take, if_pos (by omega)] at e
    exact h.row l cs hl e

/-- A slice that lets its rights go. -/
def TV.bare : TV → TV
  | .sl _ len cs => .sl none len cs
  | v => v

theorem VR.bare {g : G} {σ : TS} {tv : TV} {v : Value} (h : VR g σ tv v) : VR g σ tv.bare v := by
  cases tv <;> first | exact h | skip
  simp only [VR, TV.bare] at h ⊢
  obtain ⟨a, cap, vs, hv, hc, hk, hs, hl, ho⟩ := h
  exact ⟨a, cap, vs, hv, hc, hk, hs, hl, trivial⟩

def TV.bareL : List TV → List TV
  | [] => []
  | x :: xs => x.bare :: TV.bareL xs

theorem VRL.bareL {g : G} {σ : TS} : ∀ {xs : List TV} {vs : List Value}, VRL g σ xs vs → VRL g σ (TV.bareL xs) vs
  | [], _, h => h
  | x :: xs, _, h => by
    simp only [VRL, TV.bareL] at h ⊢
    obtain ⟨v, rest, hv, h1, h2⟩ := h
    exact ⟨v, rest, hv, h1.bare, VRL.bareL h2⟩

def TV.bare1 : TV → TV
  | .agg ys => .agg (TV.bareL ys)
  | y => y

/-- A slice, a struct's slices, a tuple's slices let their rights go. -/
def TV.free : TV → TV
  | .sl _ len cs => .sl none len cs
  | .agg cs => .agg (TV.bareL cs)
  | .tup cs => .tup (TV.bareL (cs.map TV.bare1))
  | v => v

theorem VRL.aggs {g : G} {σ : TS} : ∀ {xs : List TV} {vs : List Value}, VRL g σ xs vs → VRL g σ (xs.map TV.bare1) vs
  | [], _, h => h
  | x :: xs, _, h => by
    simp only [VRL, List.map_cons] at h ⊢
    obtain ⟨v, rest, hv, h1, h2⟩ := h
    refine ⟨v, rest, hv, ?_, VRL.aggs h2⟩
    cases x <;> first | exact h1 | skip
    simp only [VR, TV.bare1] at h1 ⊢
    obtain ⟨us, hu, h3⟩ := h1
    exact ⟨us, hu, h3.bareL⟩

theorem VR.free {g : G} {σ : TS} {tv : TV} {v : Value} (h : VR g σ tv v) : VR g σ tv.free v := by
  cases tv <;> first | exact h | skip
  · exact VR.bare h
  · simp only [VR, TV.free] at h ⊢
    obtain ⟨us, hu, h3⟩ := h
    exact ⟨us, hu, h3.bareL⟩
  · simp only [VR, TV.free] at h ⊢
    obtain ⟨us, hu, h3⟩ := h
    exact ⟨us, hu, h3.aggs.bareL⟩

/-- What a call leaves behind the heap that was is let go. -/
theorem TCalls.cut {P : Program} {f : FuncId} {args : List TV} {σ : TS} {Q Q' : TV → TS → Prop} (h : TCalls P f args σ Q)
    (hq : ∀ tv σ', Q tv σ' → ∃ n, σ.length ≤ n ∧ n ≤ σ'.length ∧ ((σ'.take n).all (TObj.fits n)) = true ∧ TV.fits n tv.free = true ∧ Q' tv.free (σ'.take n)) : TCalls P f args σ Q' := by
  refine ⟨h.1, fun g w va hw hv => (h.2 g w va hw hv).mono fun e w' hx => ?_⟩
  obtain ⟨v, tv, σ', g', rfl, h2, h3, h4, h5⟩ := hx
  obtain ⟨n, h6, h7, h8, h9, h10⟩ := hq tv σ' h5
  refine ⟨v, tv.free, σ'.take n, g'.cut n, rfl, h2.cut hw n h6, h3.cut n h7 (fun l o hl _ ho => ?_), VR.cut _ _ h9 h4.free, h10⟩
  rw [List.all_eq_true] at h8
  exact h8 o (List.mem_of_getElem? (i := l) (by rw [List.getElem?_take, if_pos hl]; exact ho))

mutual
theorem TV.fits_le {n m : Nat} (h : n ≤ m) : ∀ (v : TV), TV.fits n v = true → TV.fits m v = true
  | .int .., _ => rfl
  | .bool .., _ => rfl
  | .str .., _ => rfl
  | .ptr l o, e => by simp only [TV.fits, decide_eq_true_eq] at e ⊢; omega
  | .nilp, _ => rfl
  | .cp cs, e => by simp only [TV.fits] at e ⊢; exact TV.fitsL_le h cs e
  | .sl own len cs, e => by
    simp only [TV.fits, Bool.and_eq_true] at e ⊢
    refine ⟨?_, TV.fitsL_le h cs e.2⟩
    match own, e.1 with
    | none, _ => rfl
    | some (t, e), q => simp only [decide_eq_true_eq] at q ⊢; omega
  | .nils, _ => rfl
  | .msl l o k, e => by simp only [TV.fits, decide_eq_true_eq] at e ⊢; omega
  | .rp l o, e => by simp only [TV.fits, decide_eq_true_eq] at e ⊢; omega
  | .rs l o k s, e => by simp only [TV.fits, decide_eq_true_eq] at e ⊢; omega
  | .map l, e => by simp only [TV.fits, decide_eq_true_eq] at e ⊢; omega
  | .yl l, e => by simp only [TV.fits, decide_eq_true_eq] at e ⊢; omega
  | .nilm, _ => rfl
  | .func f xs ys, e => by
    simp only [TV.fits, Bool.and_eq_true] at e ⊢
    exact ⟨TV.fitsL_le h xs e.1, TV.fitsL_le h ys e.2⟩
  | .nilf, _ => rfl
  | .iface t x, e => by simp only [TV.fits] at e ⊢; exact TV.fits_le h x e
  | .nili, _ => rfl
  | .agg cs, e => by simp only [TV.fits] at e ⊢; exact TV.fitsL_le h cs e
  | .tup cs, e => by simp only [TV.fits] at e ⊢; exact TV.fitsL_le h cs e
theorem TV.fitsL_le {n m : Nat} (h : n ≤ m) : ∀ (vs : List TV), TV.fitsL n vs = true → TV.fitsL m vs = true
  | [], _ => rfl
  | x :: xs, e => by
    simp only [TV.fitsL, Bool.and_eq_true] at e ⊢
    exact ⟨TV.fits_le h x e.1, TV.fitsL_le h xs e.2⟩
end

mutual
theorem VR.fits {g : G} {σ : TS} {w : World} (hw : WR g σ w) : ∀ (tv : TV) (v : Value), VR g σ tv v → TV.fits σ.length tv = true
  | .int .., _, _ => rfl
  | .bool .., _, _ => rfl
  | .str .., _, _ => rfl
  | .ptr l o, _, e => by
    simp only [VR] at e
    obtain ⟨b, hb, _⟩ := e
    simpa only [TV.fits, decide_eq_true_eq] using (hw.new _ _ hb).2.2
  | .nilp, _, _ => rfl
  | .cp cs, _, e => by
    simp only [VR] at e
    obtain ⟨b, o, vs, _, _, hl⟩ := e
    simpa only [TV.fits] using VRL.fits hw cs vs hl
  | .sl own len cs, _, e => by
    simp only [VR] at e
    obtain ⟨a, cap, vs, _, _, _, _, hl, ho⟩ := e
    simp only [TV.fits, Bool.and_eq_true]
    refine ⟨?_, VRL.fits hw cs vs hl⟩
    match own, ho with
    | none, _ => rfl
    | some (t, e), ⟨k, sz, q1, _⟩ => simpa only [decide_eq_true_eq] using (List.getElem?_eq_some_iff.1 q1).1
  | .nils, _, _ => rfl
  | .msl l o m, _, e => by
    simp only [VR] at e
    obtain ⟨b, cap, hb, _⟩ := e
    simpa only [TV.fits, decide_eq_true_eq] using (hw.new _ _ hb).2.2
  | .rp l o, _, e => by
    simp only [VR] at e
    simpa only [TV.fits, decide_eq_true_eq] using e.1
  | .rs l o m s, _, e => by
    simp only [VR] at e
    simpa only [TV.fits, decide_eq_true_eq] using e.1
  | .map l, _, e => by
    simp only [VR] at e
    obtain ⟨b, hb, _⟩ := e
    simpa only [TV.fits, decide_eq_true_eq] using (hw.new _ _ hb).2.2
  | .yl l, _, e => by
    simp only [VR] at e
    obtain ⟨b, hb, _⟩ := e
    simpa only [TV.fits, decide_eq_true_eq] using (hw.new _ _ hb).2.2
  | .nilm, _, _ => rfl
  | .func f xs ys, _, e => by
    simp only [VR] at e
    obtain ⟨us, vs, _, h1, h2⟩ := e
    simp only [TV.fits, Bool.and_eq_true]
    exact ⟨VRL.fits hw xs _ h1, VRL.fits hw ys _ h2⟩
  | .nilf, _, _ => rfl
  | .iface t x, _, e => by
    simp only [VR] at e
    obtain ⟨u, _, hx⟩ := e
    simpa only [TV.fits] using VR.fits hw x u hx
  | .nili, _, _ => rfl
  | .agg cs, _, e => by
    simp only [VR] at e
    obtain ⟨us, _, h1⟩ := e
    simpa only [TV.fits] using VRL.fits hw cs _ h1
  | .tup cs, _, e => by
    simp only [VR] at e
    obtain ⟨us, _, h1⟩ := e
    simpa only [TV.fits] using VRL.fits hw cs _ h1
theorem VRL.fits {g : G} {σ : TS} {w : World} (hw : WR g σ w) : ∀ (xs : List TV) (vs : List Value), VRL g σ xs vs → TV.fitsL σ.length xs = true
  | [], _, _ => rfl
  | x :: xs, _, e => by
    simp only [VRL] at e
    obtain ⟨v, rest, _, hx, hr⟩ := e
    simp only [TV.fitsL, Bool.and_eq_true]
    exact ⟨VR.fits hw x v hx, VRL.fits hw xs rest hr⟩
end

theorem EntriesR.fits {g : G} {σ : TS} {w : World} (hw : WR g σ w) : ∀ (xs : List TEntry) (es : List MapEntry), EntriesR g σ xs es → (xs.all fun e => TV.fits σ.length e.key && TV.fits σ.length e.val) = true
  | [], _, _ => rfl
  | x :: xs, _, e => by
    obtain ⟨v, rest, hv, h1, h2, hx, hr⟩ := e
    simp only [List.all_cons, Bool.and_eq_true]
    exact ⟨⟨VR.fits hw _ _ h1, VR.fits hw _ _ hx⟩, EntriesR.fits hw xs rest hr⟩

theorem ObjOk.fits {g : G} {σ : TS} {w w' : World} (hw : WR g σ w) {b : Nat} : ∀ {o : TObj}, (∀ cs, o ≠ .row cs) → ObjOk g σ w' b (some o) → o.fits σ.length = true
  | .cells cs, _, ⟨c, e, fz, vs, rest, h1, h2, h3, h4, h5⟩ => VRL.fits hw _ _ h5
  | .map es clock, _, ⟨entries, h1, h2⟩ => EntriesR.fits hw _ _ h2
  | .iter none _ _ _, _, _ => rfl
  | .iter (some l) _ _ _, _, ⟨m', h1, ⟨mb, h2, h3⟩⟩ => by simpa only [TObj.fits, decide_eq_true_eq] using (hw.new _ _ h2).2.2
  | .right _ _, _, _ => rfl
  | .row cs, h, _ => absurd rfl (h cs)
  | .dead, _, _ => rfl
  | .raw _, _, _ => rfl
  | .loop m rec, _, ⟨tmps, h1, h2, h3⟩ => List.all_eq_true.2 fun x hx => by
    cases x with
    | none => rfl
    | some tv =>
      obtain ⟨t, ht⟩ := List.mem_iff_getElem?.1 hx
      obtain ⟨v, _, q⟩ := h3 t tv ht
      exact VR.fits hw _ _ q

/-- What a call leaves behind the heap that was is let go; of the heap that was, what has turned names that heap alone. -/
theorem TCalls.trim {P : Program} {f : FuncId} {args : List TV} {σ : TS} {Q Q' : TV → TS → Prop} (h : TCalls P f args σ Q)
    (hq : ∀ tv s, Q tv s → ∃ σ1 τ, s = σ1 ++ τ ∧ σ1.length = σ.length ∧ (∀ l : Nat, σ1[l]? = σ[l]? ∨ ∃ o, σ1[l]? = some o ∧ TObj.fits σ.length o = true) ∧ TV.fits σ.length tv.free = true ∧ Q' tv.free σ1) : TCalls P f args σ Q' := by
  refine ⟨h.1, fun g w va hw hv => (h.2 g w va hw hv).mono fun e w' hx => ?_⟩
  obtain ⟨v, tv, s, g', rfl, h2, h3, h4, h5⟩ := hx
  obtain ⟨σ1, τ, rfl, h6, h7, h8, h9⟩ := hq tv s h5
  have ht : (σ1 ++ τ).take σ.length = σ1 := by rw [← h6, List.take_left]
  have hc := h2.cut hw σ.length (Nat.le_refl _)
  have hwc := h3.cut σ.length (by simp; omega) (fun l o hl hne ho => by
    rw [List.getElem?_append_left (by omega)] at ho
    rcases h7 l with h7 | ⟨o', h7, h10⟩
    · rw [h7] at ho
      by_cases hrow : ∃ cs, o = .row cs
      · obtain ⟨cs, rfl⟩ := hrow
        obtain ⟨b, base, m, m1, m2⟩ := hw.row l cs ho
        obtain ⟨c, e', fz, vs, q1, q2, q3, q4, q5, q6⟩ := m2.cells
        exact VRL.fits hw _ _ q5
      · have hne := hne.resolve_right hrow
        cases hb : g'.ρ l with
        | none => exact absurd hb hne
        | some b =>
          rw [h2.back l hl] at hb
          have := hw.obj l b hb
          rw [ho] at this
          exact ObjOk.fits hw (fun cs q => hrow ⟨cs, q⟩) this
    · rw [h7] at ho
      cases ho
      exact h10)
  have hv' := VR.cut (n := σ.length) _ _ h8 h4.free
  rw [ht] at hc hwc hv'
  exact ⟨v, tv.free, σ1, g'.cut σ.length, rfl, hc, hwc, hv', h9⟩

/-- A call that leaves the heap that was as it was, and answers what names no new thing. -/
theorem TCalls.pure {P : Program} {f : FuncId} {args : List TV} {σ : TS} {Q Q' : TV → TS → Prop} (h : TCalls P f args σ Q)
    (hq : ∀ tv s, Q tv s → (∃ τ, s = σ ++ τ) ∧ TV.fits 0 tv.free = true ∧ Q' tv.free σ) : TCalls P f args σ Q' :=
  TCalls.trim h fun tv s q => by
    obtain ⟨⟨τ, rfl⟩, h2, h3⟩ := hq tv s q
    exact ⟨σ, τ, rfl, rfl, fun l => .inl rfl, TV.fits_le (Nat.zero_le _) _ h2, h3⟩

end Go.TM
