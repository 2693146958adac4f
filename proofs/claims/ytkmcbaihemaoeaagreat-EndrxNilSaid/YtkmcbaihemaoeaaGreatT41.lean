/- The T-machine, part 29: the small heap's places may be renamed, and what nobody names may be let go. -/
import Derived.Test.YtkmcbaihemaoeaaGreatT50
set_option linter.unusedSimpArgs false
set_option linter.unusedVariables false
namespace Go.TM

mutual
def TV.ren (f : Nat → Nat) : TV → TV
  | .ptr l o => .ptr (f l) o
  | .cp cs => .cp (TV.renL f cs)
  | .sl own n cs => .sl (match own with | some (t, e) => some (f t, e) | none => none) n (TV.renL f cs)
  | .msl l o n => .msl (f l) o n
  | .rp l o => .rp (f l) o
  | .rs l o n s => .rs (f l) o n s
  | .map l => .map (f l)
  | .yl l => .yl (f l)
  | .func fn a b => .func fn (TV.renL f a) (TV.renL f b)
  | .iface t v => .iface t (TV.ren f v)
  | .agg cs => .agg (TV.renL f cs)
  | .tup cs => .tup (TV.renL f cs)
  | .int k n => .int k n
  | .bool b => .bool b
  | .str s => .str s
  | .nilp => .nilp
  | .nils => .nils
  | .nilm => .nilm
  | .nilf => .nilf
  | .nili => .nili
def TV.renL (f : Nat → Nat) : List TV → List TV
  | [] => []
  | x :: xs => TV.ren f x :: TV.renL f xs
end
mutual
/-- Whether all places that are named are such. -/
def TV.locs (p : Nat → Bool) : TV → Bool
  | .ptr l _ | .msl l _ _ | .rp l _ | .rs l _ _ _ | .map l | .yl l => p l
  | .cp cs | .agg cs | .tup cs => TV.locsL p cs
  | .sl own _ cs => (match own with | some (t, _) => p t | none => true) && TV.locsL p cs
  | .func _ a b => TV.locsL p a && TV.locsL p b
  | .iface _ v => TV.locs p v
  | _ => true
def TV.locsL (p : Nat → Bool) : List TV → Bool
  | [] => true
  | x :: xs => TV.locs p x && TV.locsL p xs
end
def TEntry.ren (f : Nat → Nat) (e : TEntry) : TEntry := ⟨TV.ren f e.key, TV.ren f e.val, e.born⟩
def TObj.ren (f : Nat → Nat) : TObj → TObj
  | .cells cs => .cells (TV.renL f cs)
  | .right t s => .right t s
  | .map es c => .map (es.map (TEntry.ren f)) c
  | .iter m a b c => .iter (m.map f) a b c
  | .row cs => .row (TV.renL f cs)
  | .dead => .dead
  | .raw o => .raw o
  | .loop m r => .loop (m.map (Option.map (TV.ren f))) r
def TObj.locs (p : Nat → Bool) : TObj → Bool
  | .cells cs | .row cs => TV.locsL p cs
  | .map es _ => es.all fun e => TV.locs p e.key && TV.locs p e.val
  | .iter m _ _ _ => match m with | some l => p l | none => true
  | .loop m _ => m.all fun x => match x with | some v => TV.locs p v | none => true
  | _ => true

/-- What p lets be goes by f to its new place; inv tells of a new place whose it was. -/
structure Renames (p : Nat → Bool) (f : Nat → Nat) (inv : Nat → Option Nat) (σ σ' : TS) : Prop where
  i : ∀ l, p l = true → inv (f l) = some l
  ii : ∀ l1 l, inv l1 = some l → p l = true ∧ f l = l1
  get : ∀ l1, σ'[l1]? = (inv l1).bind fun l => (σ[l]?).map (TObj.ren f)
  lt : ∀ l, p l = true → l < σ.length
  objs : ∀ (l : Nat) (o : TObj), p l = true → σ[l]? = some o → TObj.locs p o = true

def G.ren (g : G) (inv : Nat → Option Nat) : G := { g with ρ := fun l => (inv l).bind g.ρ, ω := fun l => (inv l).bind g.ω, ν := fun l => (inv l).bind g.ν }

section
variable {p : Nat → Bool} {f : Nat → Nat} {inv : Nat → Option Nat} {σ σ' : TS} {g : G}
theorem Renames.at (h : Renames p f inv σ σ') {l : Nat} (hl : p l = true) : σ'[f l]? = (σ[l]?).map (TObj.ren f) := by
  rw [h.get, h.i l hl]; rfl
theorem Renames.len (h : Renames p f inv σ σ') {l : Nat} (hl : p l = true) : f l < σ'.length := by
  have h1 := h.at hl
  rw [List.getElem?_eq_getElem (h.lt l hl)] at h1
  exact (List.getElem?_eq_some_iff.1 h1).1
theorem Renames.ρ (h : Renames p f inv σ σ') {l : Nat} (hl : p l = true) : (g.ren inv).ρ (f l) = g.ρ l := by
  show (inv (f l)).bind g.ρ = _
  rw [h.i l hl]; rfl
theorem Renames.ω (h : Renames p f inv σ σ') {l : Nat} (hl : p l = true) : (g.ren inv).ω (f l) = g.ω l := by
  show (inv (f l)).bind g.ω = _
  rw [h.i l hl]; rfl
theorem Renames.ν (h : Renames p f inv σ σ') {l : Nat} (hl : p l = true) : (g.ren inv).ν (f l) = g.ν l := by
  show (inv (f l)).bind g.ν = _
  rw [h.i l hl]; rfl
theorem Renames.row (h : Renames p f inv σ σ') {l : Nat} (hl : p l = true) {cs : List TV} (e : σ'[f l]? = some (.row cs)) : ∃ cs0, σ[l]? = some (.row cs0) ∧ cs = TV.renL f cs0 := by
  rw [h.at hl] at e
  cases hq : σ[l]? with
  | none => rw [hq] at e; cases e
  | some o =>
    rw [hq] at e
    cases o <;> simp only [Option.map_some, TObj.ren, Option.some.injEq, reduceCtorEq, TObj.row.injEq] at e
    exact ⟨_, rfl, e.symm⟩

mutual
theorem VR.ren (h : Renames p f inv σ σ') : ∀ (tv : TV) (v : Value), TV.locs p tv = true → VR g σ tv v → VR (g.ren inv) σ' (TV.ren f tv) v
  | .int .., _, _, e => by simpa only [VR, TV.ren] using e
  | .bool .., _, _, e => by simpa only [VR, TV.ren] using e
  | .str .., _, _, e => by simpa only [VR, TV.ren] using e
  | .nilp, _, _, e => by simpa only [VR, TV.ren] using e
  | .nils, _, _, e => by simpa only [VR, TV.ren] using e
  | .nilm, _, _, e => by simpa only [VR, TV.ren] using e
  | .nilf, _, _, e => by simpa only [VR, TV.ren] using e
  | .nili, _, _, e => by simpa only [VR, TV.ren] using e
  | .ptr l o, _, hp, e => by
    simp only [VR, TV.ren, TV.locs] at e hp ⊢
    obtain ⟨b, hb, hv⟩ := e
    exact ⟨b, by rw [h.ρ hp]; exact hb, hv⟩
  | .msl l o n, _, hp, e => by
    simp only [VR, TV.ren, TV.locs] at e hp ⊢
    obtain ⟨b, cap, hb, hv⟩ := e
    exact ⟨b, cap, by rw [h.ρ hp]; exact hb, hv⟩
  | .map l, _, hp, e => by
    simp only [VR, TV.ren, TV.locs] at e hp ⊢
    obtain ⟨b, hb, hv⟩ := e
    exact ⟨b, by rw [h.ρ hp]; exact hb, hv⟩
  | .yl l, _, hp, e => by
    simp only [VR, TV.ren, TV.locs] at e hp ⊢
    obtain ⟨b, hb, hv⟩ := e
    exact ⟨b, by rw [h.ρ hp]; exact hb, hv⟩
  | .rp l o, _, hp, e => by
    simp only [VR, TV.ren, TV.locs] at e hp ⊢
    obtain ⟨hl, b, o', hv, hr⟩ := e
    refine ⟨h.len hp, b, o', hv, fun cs q => ?_⟩
    obtain ⟨c0, q0, _⟩ := h.row hp q
    rw [h.ν hp]
    exact hr c0 q0
  | .rs l o n s, _, hp, e => by
    simp only [VR, TV.ren, TV.locs] at e hp ⊢
    obtain ⟨hl, b, o', cap, hv, hc, hr⟩ := e
    refine ⟨h.len hp, b, o', cap, hv, hc, fun cs q => ?_⟩
    obtain ⟨c0, q0, _⟩ := h.row hp q
    rw [h.ν hp]
    exact hr c0 q0
  | .cp cs, _, hp, e => by
    simp only [VR, TV.ren, TV.locs] at e hp ⊢
    obtain ⟨b, o, vs, hv, hk, hl⟩ := e
    exact ⟨b, o, vs, hv, hk, VRL.ren h cs vs hp hl⟩
  | .sl own len cs, _, hp, e => by
    simp only [VR, TV.ren, TV.locs, Bool.and_eq_true] at e hp ⊢
    obtain ⟨a, cap, vs, hv, hc, hk, hs, hl, ho⟩ := e
    refine ⟨a, cap, vs, hv, hc, hk, hs, VRL.ren h cs vs hp.2 hl, ?_⟩
    match own, ho, hp.1 with
    | none, _, _ => trivial
    | some (t, e), ⟨k, sz, q1, q2, q3⟩, ht =>
      refine ⟨k, sz, by rw [h.at ht, q1]; rfl, q2, fun he => ?_⟩
      rw [h.ω ht]
      exact q3 he
  | .func fn a b, _, hp, e => by
    simp only [VR, TV.ren, TV.locs, Bool.and_eq_true] at e hp ⊢
    obtain ⟨us, vs, hv, h1, h2⟩ := e
    exact ⟨us, vs, hv, VRL.ren h a _ hp.1 h1, VRL.ren h b _ hp.2 h2⟩
  | .iface t x, _, hp, e => by
    simp only [VR, TV.ren, TV.locs] at e hp ⊢
    obtain ⟨u, hv, hx⟩ := e
    exact ⟨u, hv, VR.ren h x u hp hx⟩
  | .agg cs, _, hp, e => by
    simp only [VR, TV.ren, TV.locs] at e hp ⊢
    obtain ⟨us, hv, h1⟩ := e
    exact ⟨us, hv, VRL.ren h cs _ hp h1⟩
  | .tup cs, _, hp, e => by
    simp only [VR, TV.ren, TV.locs] at e hp ⊢
    obtain ⟨us, hv, h1⟩ := e
    exact ⟨us, hv, VRL.ren h cs _ hp h1⟩
theorem VRL.ren (h : Renames p f inv σ σ') : ∀ (xs : List TV) (vs : List Value), TV.locsL p xs = true → VRL g σ xs vs → VRL (g.ren inv) σ' (TV.renL f xs) vs
  | [], _, _, e => by simpa only [VRL, TV.renL] using e
  | x :: xs, _, hp, e => by
    simp only [VRL, TV.renL, TV.locsL, Bool.and_eq_true] at e hp ⊢
    obtain ⟨v, rest, hv, hx, hr⟩ := e
    exact ⟨v, rest, hv, VR.ren h x v hp.1 hx, VRL.ren h xs rest hp.2 hr⟩
end
theorem EntriesR.ren (h : Renames p f inv σ σ') : ∀ (xs : List TEntry) (es : List MapEntry), (xs.all fun e => TV.locs p e.key && TV.locs p e.val) = true → EntriesR g σ xs es → EntriesR (g.ren inv) σ' (xs.map (TEntry.ren f)) es
  | [], _, _, e => e
  | x :: xs, _, hp, e => by
    obtain ⟨v, rest, hv, h1, h2, hx, hr⟩ := e
    simp only [List.all_cons, Bool.and_eq_true] at hp
    exact ⟨v, rest, hv, VR.ren h _ _ hp.1.1 h1, h2, VR.ren h _ _ hp.1.2 hx, EntriesR.ren h xs rest hp.2 hr⟩
theorem renL_one : ∀ (xs : List TV), (TV.renL f xs).length = xs.length
  | [] => rfl
  | x :: xs => by simp only [TV.renL, List.length_cons, renL_one xs]

theorem Renames.inv_ρ {l1 b : Nat} (e : (g.ren inv).ρ l1 = some b) : ∃ l, inv l1 = some l ∧ g.ρ l = some b := by
  change (inv l1).bind g.ρ = some b at e
  cases hq : inv l1 with
  | none => rw [hq] at e; cases e
  | some l => rw [hq] at e; exact ⟨l, rfl, e⟩
theorem Renames.inv_ω {l1 : Nat} {x : Nat × Nat × Nat} (e : (g.ren inv).ω l1 = some x) : ∃ l, inv l1 = some l ∧ g.ω l = some x := by
  change (inv l1).bind g.ω = some x at e
  cases hq : inv l1 with
  | none => rw [hq] at e; cases e
  | some l => rw [hq] at e; exact ⟨l, rfl, e⟩
theorem Renames.inv_row (h : Renames p f inv σ σ') {l1 : Nat} {cs : List TV} (e : σ'[l1]? = some (.row cs)) : ∃ l cs0, inv l1 = some l ∧ p l = true ∧ f l = l1 ∧ σ[l]? = some (.row cs0) ∧ cs = TV.renL f cs0 := by
  have e0 := e
  rw [h.get] at e
  cases hq : inv l1 with
  | none => rw [hq] at e; cases e
  | some l =>
    obtain ⟨h1, h2⟩ := h.ii _ _ hq
    obtain ⟨c0, h3, h4⟩ := h.row h1 (by rw [h2]; exact e0)
    exact ⟨l, c0, rfl, h1, h2, h3, h4⟩

theorem WR.ren {w : World} (hw : WR g σ w) (h : Renames p f inv σ σ') : WR (g.ren inv) σ' w where
  below := hw.below
  keep := hw.keep
  obj l1 b e := by
    obtain ⟨l, hi, hb⟩ := Renames.inv_ρ e
    obtain ⟨hp, rfl⟩ := h.ii _ _ hi
    have ho := hw.obj l b hb
    rw [h.at hp]
    cases hq : σ[l]? with
    | none => trivial
    | some o =>
      rw [hq] at ho
      have hlo := h.objs l o hp hq
      cases o with
      | cells cs =>
        obtain ⟨c, e', fz, vs, rest, h1, h2, h3, h4, h5⟩ := ho
        exact ⟨c, e', fz, vs, rest, h1, h2, h3, h4, VRL.ren h _ _ hlo h5⟩
      | map es clock =>
        obtain ⟨entries, h1, h2⟩ := ho
        exact ⟨entries, h1, EntriesR.ren h _ _ hlo h2⟩
      | iter m since seen stepped =>
        obtain ⟨m', h1, h2⟩ := ho
        cases m with
        | none => exact ⟨m', h1, h2⟩
        | some l' =>
          obtain ⟨mb, h3, h4⟩ := h2
          exact ⟨m', h1, mb, by rw [h.ρ hlo]; exact h3, h4⟩
      | right _ _ => trivial
      | row _ => trivial
      | raw _ => exact ho
      | loop m rec =>
        obtain ⟨tmps, h1, h2, h3⟩ := ho
        refine ⟨tmps, h1, by rw [List.length_map]; exact h2, fun t tv et => ?_⟩
        rw [List.getElem?_map] at et
        cases hm : m[t]? with
        | none => rw [hm] at et; cases et
        | some x =>
          cases x with
          | none => rw [hm] at et; cases et
          | some u =>
            rw [hm] at et
            simp only [Option.map_some, Option.some.injEq] at et
            subst et
            obtain ⟨v, q1, q2⟩ := h3 t u hm
            exact ⟨v, q1, VR.ren h _ _ (List.all_eq_true.1 hlo _ (List.mem_of_getElem? hm)) q2⟩
      | dead => trivial
  inj l l' b e e' := by
    obtain ⟨k, h1, h2⟩ := Renames.inv_ρ e
    obtain ⟨k', h3, h4⟩ := Renames.inv_ρ e'
    obtain rfl := hw.inj _ _ _ h2 h4
    rw [← (h.ii _ _ h1).2, ← (h.ii _ _ h3).2]
  new l b e := by
    obtain ⟨k, h1, h2⟩ := Renames.inv_ρ e
    obtain ⟨hp, rfl⟩ := h.ii _ _ h1
    exact ⟨(hw.new _ _ h2).1, (hw.new _ _ h2).2.1, h.len hp⟩
  sep l b e := by
    obtain ⟨k, h1, h2⟩ := Renames.inv_ρ e
    exact hw.sep _ _ h2
  tok t b e n q := by
    obtain ⟨k, h1, h2⟩ := Renames.inv_ω q
    obtain ⟨hp, rfl⟩ := h.ii _ _ h1
    obtain ⟨q1, q2, m, sz, q3, q4⟩ := hw.tok _ _ _ _ h2
    exact ⟨q1, q2, m, sz, by rw [h.at hp, q3]; rfl, q4⟩
  tokinj t t' b e n e' n' q q' := by
    obtain ⟨k, h1, h2⟩ := Renames.inv_ω q
    obtain ⟨k', h3, h4⟩ := Renames.inv_ω q'
    obtain rfl := hw.tokinj _ _ _ _ _ _ _ h2 h4
    rw [← (h.ii _ _ h1).2, ← (h.ii _ _ h3).2]
  toksep t l b e n q q' := by
    obtain ⟨k, h1, h2⟩ := Renames.inv_ω q
    obtain ⟨k', h3, h4⟩ := Renames.inv_ρ q'
    exact hw.toksep _ _ _ _ _ h2 h4
  row l1 cs e := by
    obtain ⟨l, c0, h1, hp, rfl, h3, rfl⟩ := h.inv_row e
    obtain ⟨b, base, n, m1, m2⟩ := hw.row l c0 h3
    refine ⟨b, base, n, by rw [h.ν hp]; exact m1, m2.new, m2.κ, fun l' q => ?_, fun t a1 a2 q => ?_, ?_⟩
    · obtain ⟨k, _, q2⟩ := Renames.inv_ρ q
      exact m2.ρ _ q2
    · obtain ⟨k, _, q2⟩ := Renames.inv_ω q
      exact m2.ω _ _ _ q2
    · obtain ⟨c, e', fz, vs, q1, q2, q3, q4, q5, q6⟩ := m2.cells
      exact ⟨c, e', fz, vs, q1, q2, by rw [renL_one]; exact q3, q4, VRL.ren h _ _ (h.objs _ _ hp h3) q5, q6⟩
  rowinj l l' cs cs' b x y x' y' e e' n1 n2 := by
    obtain ⟨k, c0, h1, hp, rfl, h3, _⟩ := h.inv_row e
    obtain ⟨k', c0', h1', hp', rfl, h3', _⟩ := h.inv_row e'
    rw [h.ν hp] at n1
    rw [h.ν hp'] at n2
    rw [hw.rowinj _ _ _ _ _ _ _ _ _ h3 h3' n1 n2]

theorem Ext.ren {g0 : G} {σ0 : TS} (hx : Ext g0 σ0 g σ) (h : Renames p f inv σ σ') (hρ : ∀ l b, g0.ρ l = some b → l < σ0.length) (hp : ∀ l, l < σ0.length → p l = true ∧ f l = l) : Ext g0 σ0 (g.ren inv) σ' where
  w0 := hx.w0
  ρ l b e := by
    obtain ⟨h1, h2⟩ := hp l (hρ l b e)
    have := h.ρ (g := g) h1
    rw [h2] at this
    rw [this]
    exact hx.ρ l b e
  κ := hx.κ
  tip t k sz e := by
    obtain ⟨h1, h2⟩ := hp t (List.getElem?_eq_some_iff.1 e).1
    obtain ⟨k', q1, q2⟩ := hx.tip t k sz e
    have ha := h.at h1
    have ho := h.ω (g := g) h1
    rw [h2] at ha ho
    exact ⟨k', by rw [ha, q1]; rfl, q2.imp id fun ⟨r1, r2⟩ => ⟨r1, ho.trans r2⟩⟩
  len := by
    rcases Nat.eq_zero_or_pos σ0.length with h0 | h0
    · omega
    · obtain ⟨h1, h2⟩ := hp (σ0.length - 1) (by omega)
      have := h.len h1
      omega
  back l hl := by
    obtain ⟨h1, h2⟩ := hp l hl
    have := h.ρ (g := g) h1
    rw [h2] at this
    rw [this]
    exact hx.back l hl
  row l cs hl e := by
    obtain ⟨h1, h2⟩ := hp l hl
    obtain ⟨c0, q1, _⟩ := h.row h1 (by rw [h2]; exact e)
    obtain ⟨c1, q2, q3⟩ := hx.row l c0 hl q1
    have := h.ν (g := g) h1
    rw [h2] at this
    exact ⟨c1, q2, this.trans q3⟩
end

/- which places are kept, and in which order -/
mutual
def TV.places : TV → List Nat
  | .ptr l _ | .msl l _ _ | .rp l _ | .rs l _ _ _ | .map l | .yl l => [l]
  | .cp cs | .agg cs | .tup cs => TV.placesL cs
  | .sl own _ cs => match own with | some (t, _) => t :: TV.placesL cs | none => TV.placesL cs
  | .func _ a b => TV.placesL a ++ TV.placesL b
  | .iface _ v => TV.places v
  | _ => []
def TV.placesL : List TV → List Nat
  | [] => []
  | x :: xs => TV.places x ++ TV.placesL xs
end
def TObj.places : TObj → List Nat
  | .cells cs | .row cs => TV.placesL cs
  | .map es _ => es.flatMap fun e => TV.places e.key ++ TV.places e.val
  | .iter m _ _ _ => match m with | some l => [l] | none => []
  | .loop m _ => m.flatMap fun x => match x with | some v => TV.places v | none => []
  | _ => []
def gather (σ : TS) (n0 : Nat) : Nat → List Nat → List Nat → List Nat
  | 0, _, acc => acc
  | _ + 1, [], acc => acc
  | n + 1, l :: work, acc => if l < n0 || acc.contains l then gather σ n0 n work acc else gather σ n0 n ((match σ[l]? with | some o => TObj.places o | none => []) ++ work) (acc ++ [l])
def keptBy (n0 : Nat) (ks : List Nat) (l : Nat) : Bool := decide (l < n0) || ks.contains l
def newPlace (n0 : Nat) (ks : List Nat) (l : Nat) : Nat := if l < n0 then l else n0 + ks.idxOf l
def oldPlace (n0 : Nat) (ks : List Nat) (l : Nat) : Option Nat := if l < n0 then some l else ks[l - n0]?
def renHeap (n0 : Nat) (ks : List Nat) (σ : TS) : TS := (σ.take n0 ++ ks.map fun l => (σ[l]?).getD .dead).map (TObj.ren (newPlace n0 ks))
def okKeep (n0 : Nat) (ks : List Nat) (σ : TS) : Bool :=
  decide (n0 ≤ σ.length) && ks.all (fun l => decide (n0 ≤ l) && decide (l < σ.length)) && decide ks.Nodup && (σ.take n0).all (TObj.locs (keptBy n0 ks)) && ks.all fun l => match σ[l]? with | some o => TObj.locs (keptBy n0 ks) o | none => false

theorem renames_of {n0 : Nat} {ks : List Nat} {σ : TS} (h : okKeep n0 ks σ = true) : Renames (keptBy n0 ks) (newPlace n0 ks) (oldPlace n0 ks) σ (renHeap n0 ks σ) := by
  simp only [okKeep, Bool.and_eq_true, decide_eq_true_eq, List.all_eq_true] at h
  obtain ⟨⟨⟨⟨h0, h1⟩, h2⟩, h3⟩, h4⟩ := h
  have hget : ∀ l1, (renHeap n0 ks σ)[l1]? = (oldPlace n0 ks l1).bind fun l => (σ[l]?).map (TObj.ren (newPlace n0 ks)) := fun l1 => by
    unfold renHeap oldPlace
    rw [List.getElem?_map]
    by_cases hl : l1 < n0
    · rw [if_pos hl, List.getElem?_append_left (by rw [List.length_take]; omega), List.getElem?_take_of_lt hl]; rfl
    · rw [if_neg hl, List.getElem?_append_right (by rw [List.length_take]; omega), List.length_take, Nat.min_eq_left h0, List.getElem?_map]
      cases hq : ks[l1 - n0]? with
      | none => rfl
      | some l =>
        have := (h1 l (List.mem_of_getElem? hq)).2
        simp only [Option.map_some, Option.bind_some, List.getElem?_eq_getElem this, Option.getD_some]
  refine ⟨fun l hl => ?_, fun l1 l hl => ?_, hget, fun l hl => ?_, fun l o hl ho => ?_⟩
  · simp only [keptBy, Bool.or_eq_true, decide_eq_true_eq, List.contains_iff_mem] at hl
    unfold newPlace oldPlace
    by_cases hlt : l < n0
    · rw [if_pos hlt, if_pos hlt]
    · have hm := hl.resolve_left hlt
      rw [if_neg hlt, if_neg (by omega), Nat.add_sub_cancel_left]
      have hi := List.idxOf_lt_length_of_mem hm
      rw [List.getElem?_eq_getElem hi, List.getElem_idxOf]
  · unfold oldPlace at hl
    by_cases hlt : l1 < n0
    · rw [if_pos hlt] at hl
      cases hl
      exact ⟨by simp [keptBy, hlt], by simp [newPlace, hlt]⟩
    · rw [if_neg hlt] at hl
      have hm := List.mem_of_getElem? hl
      have hge := (h1 l hm).1
      refine ⟨by simp [keptBy, hm], ?_⟩
      unfold newPlace
      rw [if_neg (by omega)]
      obtain ⟨hi, e⟩ := List.getElem?_eq_some_iff.1 hl
      have := h2.idxOf_getElem (l1 - n0) hi
      rw [e] at this
      rw [this]
      omega
  · simp only [keptBy, Bool.or_eq_true, decide_eq_true_eq, List.contains_iff_mem] at hl
    rcases hl with hl | hl
    · omega
    · exact (h1 l hl).2
  · simp only [keptBy, Bool.or_eq_true, decide_eq_true_eq, List.contains_iff_mem] at hl
    by_cases hlt : l < n0
    · exact h3 o (List.mem_of_getElem? (i := l) (by rw [List.getElem?_take_of_lt hlt]; exact ho))
    · have := h4 l (hl.resolve_left hlt)
      rw [ho] at this
      exact this

def canonKs (n0 fuel : Nat) (roots : List Nat) (σ : TS) : List Nat := gather σ n0 fuel (roots ++ (σ.take n0).flatMap TObj.places) []
def tlPlaces (m : TL) : List Nat := m.flatMap fun x => match x with | some v => TV.places v | none => []
def tlLocs (p : Nat → Bool) (m : TL) : Bool := m.all fun x => match x with | some v => TV.locs p v | none => true
def tlRen (f : Nat → Nat) (m : TL) : TL := m.map (Option.map (TV.ren f))

/-- The trees and the heap in one form, whatever the order in which new things were made. -/
def canon (n0 fuel : Nat) (z : TL × TS) : Option (TL × TS) :=
  let ks := canonKs n0 fuel (tlPlaces z.1) z.2
  if okKeep n0 ks z.2 && tlLocs (keptBy n0 ks) z.1 then some (tlRen (newPlace n0 ks) z.1, renHeap n0 ks z.2) else none

/-- Q holds of these trees under some names. -/
def Ren (n0 : Nat) (Q : TL → TS → Prop) (m : TL) (σ : TS) : Prop :=
  ∀ (g0 : G) (σ0 : TS) (g : G) (a : Act) (w : World), σ0.length = n0 → (∀ l b, g0.ρ l = some b → l < σ0.length) → Ext g0 σ0 g σ → WR g σ w → TLR g σ m a → ∃ m1 σ1 g1, Ext g0 σ0 g1 σ1 ∧ WR g1 σ1 w ∧ TLR g1 σ1 m1 a ∧ Q m1 σ1

theorem Ren.of {n0 : Nat} {Q : TL → TS → Prop} {m : TL} {σ : TS} (h : Q m σ) : Ren n0 Q m σ := fun g0 σ0 g a w _ _ hx hw hm => ⟨m, σ, g, hx, hw, hm, h⟩
theorem Ren.ren {n0 : Nat} {Q : TL → TS → Prop} {m : TL} {σ : TS} (h : Ren n0 (Ren n0 Q) m σ) : Ren n0 Q m σ := fun g0 σ0 g a w h0 hρ hx hw hm => by
  obtain ⟨m1, σ1, g1, h1, h2, h3, h4⟩ := h g0 σ0 g a w h0 hρ hx hw hm
  exact h4 g0 σ0 g1 a w h0 hρ h1 h2 h3

theorem TLR.ren {p : Nat → Bool} {f : Nat → Nat} {inv : Nat → Option Nat} {σ σ' : TS} {g : G} {m : TL} {a : Act} (hm : TLR g σ m a) (h : Renames p f inv σ σ') (hl : tlLocs p m = true) : TLR (g.ren inv) σ' (tlRen f m) a := by
  refine ⟨by rw [tlRen, List.length_map]; exact hm.1, fun t tv e => ?_⟩
  unfold tlRen at e
  rw [List.getElem?_map] at e
  cases hq : m[t]? with
  | none => rw [hq] at e; cases e
  | some x =>
    cases x with
    | none => rw [hq] at e; cases e
    | some u =>
      rw [hq] at e
      simp only [Option.map_some, Option.some.injEq] at e
      subst e
      obtain ⟨v, h1, h2⟩ := hm.2 t u hq
      refine ⟨v, h1, VR.ren h u v ?_ h2⟩
      have := List.all_eq_true.1 hl _ (List.mem_of_getElem? hq)
      simpa using this

theorem canon_sound {n0 fuel : Nat} {m m1 : TL} {σ σ1 : TS} (e : canon n0 fuel (m, σ) = some (m1, σ1)) {Q : TL → TS → Prop} (hq : Q m1 σ1) : Ren n0 Q m σ := by
  unfold canon at e
  simp only at e
  split at e
  · rename_i hc
    cases e
    simp only [Bool.and_eq_true] at hc
    intro g0 σ0 g a w h0 hρ hx hw hm
    have hr := renames_of hc.1
    refine ⟨_, _, g.ren (oldPlace n0 _), hx.ren hr hρ (fun l hl => ?_), hw.ren hr, hm.ren hr hc.2, hq⟩
    exact ⟨by simp [keptBy]; left; omega, by simp [newPlace]; intro h; omega⟩
  · cases e

/-- A call's answer under other names, what nobody names let go. -/
def canonV (n0 fuel : Nat) (v : TV) (σ : TS) : Option (TV × TS) :=
  let ks := canonKs n0 fuel (TV.places v) σ
  if okKeep n0 ks σ && TV.locs (keptBy n0 ks) v then some (TV.ren (newPlace n0 ks) v, renHeap n0 ks σ) else none

theorem canonV_sound {P : Program} {f : FuncId} {args : List TV} {σ σ' s : TS} {v u x : TV} {fuel : Nat} (hv : TCalls P f args σ fun tv s => tv = v ∧ s = σ') (hx : x = v ∨ x = v.free) (e : canonV σ.length fuel x σ' = some (u, s)) : TCalls P f args σ fun tv s' => tv = u ∧ s' = s := by
  unfold canonV at e
  simp only at e
  split at e
  · rename_i hc
    cases e
    simp only [Bool.and_eq_true] at hc
    refine ⟨hv.1, fun g w va hw hva => (hv.2 g w va hw hva).mono fun e w' ⟨r, tv, s, g', h1, h2, h3, h4, h5, h6⟩ => ?_⟩
    subst h5 h6
    have hr := renames_of hc.1
    have h7 : VR g' s x r := by
      rcases hx with rfl | rfl
      · exact h4
      · exact h4.free
    refine ⟨r, _, _, g'.ren (oldPlace σ.length _), h1, h2.ren hr (fun l b q => (hw.new l b q).2.2) (fun l hl => ?_), h3.ren hr, VR.ren hr _ _ hc.2 h7, rfl, rfl⟩
    exact ⟨by simp [keptBy, hl], by simp [newPlace, hl]⟩
  · cases e
end Go.TM
