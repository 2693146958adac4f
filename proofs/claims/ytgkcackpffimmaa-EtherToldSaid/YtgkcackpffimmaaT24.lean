/- The T-machine, part 24: maps whose keys and values are data. -/
import Derived.Test.YtgkcackpffimmaaT23
set_option linter.unusedVariables false
set_option linter.unusedSimpArgs false
namespace Go.TM

section
variable {κ α : Type} [DecidableEq κ]

/-- A map's entries, out of keys, values and births. -/
def mEnt (kf : κ → TV) (vf : α → TV) (l : List (κ × α × Nat)) : List TEntry := l.map fun x => ⟨kf x.1, vf x.2.1, x.2.2⟩
def mGet (l : List (κ × α × Nat)) (a : κ) : Option α := (l.find? fun x => decide (x.1 = a)).map fun x => x.2.1
def mPut (l : List (κ × α × Nat)) (c : Nat) (a : κ) (v : α) : List (κ × α × Nat) :=
  match l.findIdx? fun x => decide (x.1 = a) with
  | some n => l.set n (a, v, (l.getD n (a, v, c)).2.2)
  | none => l ++ [(a, v, c)]
def mClock (l : List (κ × α × Nat)) (c : Nat) (a : κ) : Nat := if (mGet l a).isSome then c else c + 1

structure KeyLaw (T : Tab) (kt : TypeId) (kf : κ → TV) : Prop where
  eq : ∀ a b, teqIn T false 64 kt (kf a) (kf b) = some (decide (a = b))
  same : ∀ a, beqP 64 (kf a) (kf a) = true
  key : ∀ a, tkey T 64 kt (kf a) = true

theorem mFind {T : Tab} {kt : TypeId} {kf : κ → TV} {vf : α → TV} (h : KeyLaw T kt kf) (a : κ) : ∀ (l : List (κ × α × Nat)) (i : Nat),
    tfind T kt (kf a) (mEnt kf vf l) i = some ((l.findIdx? fun x => decide (x.1 = a)).bind fun n => (l[n]?).map fun x => (i + n, ⟨kf x.1, vf x.2.1, x.2.2⟩))
  | [], i => rfl
  | x :: l, i => by
    simp only [mEnt, List.map_cons, tfind, h.eq]
    by_cases hx : x.1 = a
    · have : a = x.1 := hx.symm
      subst this
      simp [h.same, List.findIdx?_cons]
    · have h1 : ¬ a = x.1 := fun e => hx e.symm
      have ih := mFind (vf := vf) h a l (i + 1)
      simp only [mEnt] at ih
      simp only [h1, decide_false, ih, List.findIdx?_cons, hx, Bool.false_eq_true, if_false]
      cases l.findIdx? fun x => decide (x.1 = a) with
      | none => rfl
      | some n =>
        simp only [Option.bind_some, Option.map_some, List.getElem?_cons_succ]
        congr 2
        funext y
        congr 1
        omega

theorem findIdx_get {κ α : Type} {p : κ × α × Nat → Bool} : ∀ {l : List (κ × α × Nat)}, ((l.findIdx? p).bind fun n => l[n]?) = l.find? p
  | [] => rfl
  | x :: l => by
    rw [List.findIdx?_cons, List.find?_cons]
    cases hx : p x with
    | true => simp
    | false =>
      simp only [Bool.false_eq_true, if_false]
      rw [← findIdx_get (l := l)]
      cases l.findIdx? p with
      | none => rfl
      | some n => simp

theorem mFind_none {T : Tab} {kt : TypeId} {kf : κ → TV} {vf : α → TV} (h : KeyLaw T kt kf) {a : κ} {l : List (κ × α × Nat)} (hg : mGet l a = none) : tfind T kt (kf a) (mEnt kf vf l) 0 = some none := by
  rw [mFind h]
  have h1 : l.find? (fun x => decide (x.1 = a)) = none := by
    unfold mGet at hg
    simpa using hg
  cases hi : l.findIdx? fun x => decide (x.1 = a) with
  | none => rfl
  | some n =>
    have := findIdx_get (p := fun x => decide (x.1 = a)) (l := l)
    rw [hi, h1] at this
    simp only [Option.bind_some] at this
    simp [this]

theorem mFind_some {T : Tab} {kt : TypeId} {kf : κ → TV} {vf : α → TV} (h : KeyLaw T kt kf) {a : κ} {v : α} {l : List (κ × α × Nat)} (hg : mGet l a = some v) :
    ∃ n x, l.findIdx? (fun x => decide (x.1 = a)) = some n ∧ l[n]? = some x ∧ x.1 = a ∧ x.2.1 = v ∧ tfind T kt (kf a) (mEnt kf vf l) 0 = some (some (n, ⟨kf x.1, vf x.2.1, x.2.2⟩)) := by
  unfold mGet at hg
  cases hf : l.find? (fun x => decide (x.1 = a)) with
  | none => simp [hf] at hg
  | some x =>
    simp only [hf, Option.map_some, Option.some.injEq] at hg
    have hx : x.1 = a := by simpa using List.find?_some hf
    have h1 := findIdx_get (p := fun x => decide (x.1 = a)) (l := l)
    rw [hf] at h1
    cases hi : l.findIdx? fun x => decide (x.1 = a) with
    | none => simp [hi] at h1
    | some n =>
      simp only [hi, Option.bind_some] at h1
      refine ⟨n, x, rfl, h1, hx, hg, ?_⟩
      rw [mFind h, hi]
      simp [h1]

/-- What is laid is found; the rest stays. -/
theorem mGet_put (l : List (κ × α × Nat)) (c : Nat) (a b : κ) (v : α) : mGet (mPut l c a v) b = if b = a then some v else mGet l b := by
  unfold mPut mGet
  have key : ∀ (l : List (κ × α × Nat)) (n : Nat), l.findIdx? (fun x => decide (x.1 = a)) = some n → ∀ k, (((l.set n (a, v, k)).find? fun x => decide (x.1 = b)).map fun x => x.2.1) = if b = a then some v else (l.find? fun x => decide (x.1 = b)).map fun x => x.2.1 := by
    intro l
    induction l with
    | nil => intro n h; simp at h
    | cons x l ih =>
      intro n h k
      rw [List.findIdx?_cons] at h
      by_cases hx : x.1 = a
      · simp only [hx, decide_true, if_true, Option.some.injEq] at h
        subst h
        simp only [List.set_cons_zero, List.find?_cons]
        by_cases hb : b = a
        · simp [hb]
        · have h1 : ¬ a = b := fun e => hb e.symm
          simp [h1, hb, hx]
      · simp only [hx, decide_false, Bool.false_eq_true, if_false] at h
        cases hi : l.findIdx? (fun x => decide (x.1 = a)) with
        | none => simp [hi] at h
        | some m =>
          simp only [hi, Option.map_some, Option.some.injEq] at h
          subst h
          simp only [List.set_cons_succ, List.find?_cons]
          by_cases hb : x.1 = b
          · have h1 : ¬ b = a := fun e => hx (hb.trans e)
            simp [hb, h1]
          · simp only [hb, decide_false]
            exact ih m hi k
  split
  · rename_i n hi
    exact key l n hi _
  · rename_i hi
    rw [List.find?_append]
    have hn : ∀ x ∈ l, ¬ x.1 = a := by
      intro x hx
      have := List.findIdx?_eq_none_iff.1 hi x hx
      simpa using this
    by_cases hb : b = a
    · subst hb
      have h1 : l.find? (fun x => decide (x.1 = b)) = none := by
        rw [List.find?_eq_none]
        intro x hx
        simpa using hn x hx
      simp [h1]
    · have h1 : ¬ a = b := fun e => hb e.symm
      simp [h1, hb]

section
variable {T : Tab} {t kt et : TypeId} {i j : TI} {kf : κ → TV} {vf : α → TV} {z : TV} {σ : TS} {lm c : Nat} {l : List (κ × α × Nat)} {a : κ} {v : α}
theorem mapLook (hT : T t = some i) (hk : i.k = .map kt et) (hE : T et = some j) (hz : j.zero = some z) (h : KeyLaw T kt kf) (hm : σ[lm]? = some (.map (mEnt kf vf l) c)) (ok : Bool) :
    tlookup T σ t (.map lm) (kf a) ok = some (match mGet l a with | some v => (if ok then .tup [vf v, .bool true] else vf v) | none => (if ok then .tup [z, .bool false] else z)) := by
  unfold tlookup
  simp only [hT, hk, hE, hz, tentries, hm, h.key, if_true]
  cases hg : mGet l a with
  | none => rw [mFind_none h hg]
  | some v =>
    obtain ⟨n, x, -, -, -, hv, hf⟩ := mFind_some (vf := vf) h hg
    rw [hf, ← hv]
theorem mapPut (hT : T t = some i) (hk : i.k = .map kt et) (h : KeyLaw T kt kf) (hm : σ[lm]? = some (.map (mEnt kf vf l) c)) :
    tmapUpdate T σ t (.map lm) (kf a) (vf v) = some (σ.set lm (.map (mEnt kf vf (mPut l c a v)) (mClock l c a))) := by
  unfold tmapUpdate
  simp only [hT, hk, hm, h.key, if_true]
  cases hg : mGet l a with
  | none =>
    rw [mFind_none h hg]
    have hi : l.findIdx? (fun x => decide (x.1 = a)) = none := by
      unfold mGet at hg
      rw [List.findIdx?_eq_none_iff]
      intro x hx
      have : l.find? (fun x => decide (x.1 = a)) = none := by simpa using hg
      simpa using List.find?_eq_none.1 this x hx
    simp only [mPut, hi, mClock, hg, Option.isSome_none, Bool.false_eq_true, if_false, mEnt, List.map_append, List.map_cons, List.map_nil]
  | some w =>
    obtain ⟨n, x, hi, hx, ha, hw, hf⟩ := mFind_some (vf := vf) h hg
    rw [hf]
    simp only [mPut, hi, mClock, hg, Option.isSome_some, if_true, mEnt]
    rw [List.getD_eq_getElem?_getD, hx, Option.getD_some, List.map_set]
end

/-- Births differ, and none is to come. -/
def mOk (l : List (κ × α × Nat)) (c : Nat) : Prop := l.Pairwise (fun x y => x.2.2 ≠ y.2.2) ∧ ∀ x ∈ l, x.2.2 < c
def mBorn (l : List (κ × α × Nat)) (c : Nat) (a : κ) : Nat := ((l.find? fun x => decide (x.1 = a)).map fun x => x.2.2).getD c

theorem mOk_nil {κ α : Type} (c : Nat) : mOk ([] : List (κ × α × Nat)) c := ⟨List.Pairwise.nil, fun x h => by cases h⟩

theorem find_idx {l : List (κ × α × Nat)} {a : κ} {n : Nat} {x : κ × α × Nat} (hi : l.findIdx? (fun x => decide (x.1 = a)) = some n) (hx : l[n]? = some x) : l.find? (fun x => decide (x.1 = a)) = some x := by
  have := findIdx_get (p := fun x => decide (x.1 = a)) (l := l)
  rw [hi] at this
  simpa [hx] using this.symm

theorem mOk_put {l : List (κ × α × Nat)} {c : Nat} (h : mOk l c) (a : κ) (v : α) : mOk (mPut l c a v) (mClock l c a) := by
  obtain ⟨h1, h2⟩ := h
  unfold mPut mClock mGet
  cases hi : l.findIdx? fun x => decide (x.1 = a) with
  | some n =>
    have hn : n < l.length := by
      have := List.findIdx?_eq_some_iff_findIdx_eq.1 hi
      omega
    have hf := find_idx hi (List.getElem?_eq_getElem hn)
    simp only [hf, Option.map_some, Option.isSome_some, if_true]
    have hd : (l.getD n (a, v, c)).2.2 = l[n].2.2 := by rw [List.getD_eq_getElem?_getD, List.getElem?_eq_getElem hn, Option.getD_some]
    have hmap : (l.set n (a, v, (l.getD n (a, v, c)).2.2)).map (fun x => x.2.2) = l.map fun x => x.2.2 := by
      rw [List.map_set, hd]
      apply List.ext_getElem?
      intro k
      rw [List.getElem?_set]
      split
      · rename_i e
        subst e
        simp [hn]
      · rfl
    constructor
    · have h3 : ((l.map fun x => x.2.2)).Pairwise (· ≠ ·) := List.pairwise_map.2 h1
      rw [← hmap] at h3
      exact List.pairwise_map.1 h3
    · intro x hx
      rcases List.mem_or_eq_of_mem_set hx with hx | rfl
      · exact h2 x hx
      · show (l.getD n (a, v, c)).2.2 < c
        rw [hd]
        exact h2 _ (List.getElem_mem hn)
  | none =>
    have hf : l.find? (fun x => decide (x.1 = a)) = none := by
      rw [List.find?_eq_none]
      intro x hx
      simpa using List.findIdx?_eq_none_iff.1 hi x hx
    simp only [hf, Option.map_none, Option.isSome_none, Bool.false_eq_true, if_false]
    constructor
    · rw [List.pairwise_append]
      refine ⟨h1, by simp, fun x hx y hy => ?_⟩
      simp only [List.mem_singleton] at hy
      subst hy
      have := h2 x hx
      simp only
      omega
    · intro x hx
      rcases List.mem_append.1 hx with hx | hx
      · have := h2 x hx; omega
      · simp only [List.mem_singleton] at hx
        subst hx
        simp

section
variable {T : Tab} {t kt et : TypeId} {i j : TI} {kf : κ → TV} {vf : α → TV} {z : TV} {z0 : α} {σ : TS} {lm c : Nat} {l : List (κ × α × Nat)} {a : κ} {v : α}
theorem mapEnter (hT : T t = some i) (hk : i.k = .map kt et) (hE : T et = some j) (hz : j.zero = some (vf z0)) (h : KeyLaw T kt kf) (hm : σ[lm]? = some (.map (mEnt kf vf l) c)) :
    tmapEntry T σ t (.map lm) (kf a) = some (.tup [vf ((mGet l a).getD z0), .int .i64 (mBorn l c a)], σ.set lm (.map (mEnt kf vf (mPut l c a ((mGet l a).getD z0))) (mClock l c a))) := by
  unfold tmapEntry
  simp only [hT, hk, hm, h.key, if_true, hE, Option.bind_some, hz]
  cases hg : mGet l a with
  | none =>
    rw [mFind_none h hg]
    have hf : l.find? (fun x => decide (x.1 = a)) = none := by unfold mGet at hg; simpa using hg
    have hi : l.findIdx? (fun x => decide (x.1 = a)) = none := by
      rw [List.findIdx?_eq_none_iff]
      intro x hx
      simpa using List.find?_eq_none.1 hf x hx
    simp only [mPut, hi, mClock, hg, mBorn, hf, Option.map_none, Option.getD_none, Option.isSome_none, Bool.false_eq_true, if_false, mEnt, List.map_append, List.map_cons, List.map_nil]
  | some w =>
    obtain ⟨n, x, hi, hx, ha, hw, hf⟩ := mFind_some (vf := vf) h hg
    rw [hf]
    simp only [mPut, hi, mClock, hg, mBorn, find_idx hi hx, Option.map_some, Option.getD_some, Option.isSome_some, if_true, mEnt]
    rw [List.getD_eq_getElem?_getD, hx, Option.getD_some, List.map_set, hw]
end

theorem idx_born {κ α : Type} : ∀ {l : List (κ × α × Nat)} {n : Nat} {x : κ × α × Nat}, l.Pairwise (fun x y => x.2.2 ≠ y.2.2) → l[n]? = some x → l.findIdx? (fun y => ((y.2.2 : Nat) : Int) == (x.2.2 : Int)) = some n
  | [], _, _, _, h => by simp at h
  | y :: l, 0, x, _, h => by
    simp only [List.getElem?_cons_zero, Option.some.injEq] at h
    subst h
    simp [List.findIdx?_cons]
  | y :: l, n + 1, x, hp, h => by
    rw [List.pairwise_cons] at hp
    simp only [List.getElem?_cons_succ] at h
    have hne := hp.1 x (List.mem_of_getElem? h)
    rw [List.findIdx?_cons, if_neg (by simp; omega), idx_born hp.2 h]
    rfl

theorem entryPut {kf : κ → TV} {vf : α → TV} {σ : TS} {lm c c' : Nat} {l : List (κ × α × Nat)} {a : κ} {w v : α} {k : IntKind} (h : mOk l c) (hm : σ[lm]? = some (.map (mEnt kf vf (mPut l c a w)) c')) :
    tentryStore σ (.map lm) (.int k (mBorn l c a)) (vf v) = some (σ.set lm (.map (mEnt kf vf (mPut l c a v)) c')) := by
  have hp := (mOk_put h a w).1
  have hfi : ∀ (l : List (κ × α × Nat)) (b : Int), (mEnt kf vf l).findIdx? (fun e => (e.born : Int) == b) = l.findIdx? fun y => ((y.2.2 : Nat) : Int) == b := by
    intro l b
    induction l with
    | nil => rfl
    | cons y l ih =>
      simp only [mEnt, List.map_cons, List.findIdx?_cons] at ih ⊢
      rw [ih]
  unfold tentryStore
  simp only [hm, hfi]
  unfold mPut mBorn at *
  cases hi : l.findIdx? fun x => decide (x.1 = a) with
  | some n =>
    have hn : n < l.length := by
      have := List.findIdx?_eq_some_iff_findIdx_eq.1 hi
      omega
    have hf := find_idx hi (List.getElem?_eq_getElem hn)
    have hd : (l.getD n (a, w, c)).2.2 = l[n].2.2 := by rw [List.getD_eq_getElem?_getD, List.getElem?_eq_getElem hn, Option.getD_some]
    have hd2 : (l.getD n (a, v, c)).2.2 = l[n].2.2 := by rw [List.getD_eq_getElem?_getD, List.getElem?_eq_getElem hn, Option.getD_some]
    simp only [hi] at hp ⊢
    simp only [hf, Option.map_some, Option.getD_some]
    have hx : (l.set n (a, w, (l.getD n (a, w, c)).2.2))[n]? = some (a, w, l[n].2.2) := by rw [List.getElem?_set_self hn, hd]
    have hb := idx_born hp hx
    simp only at hb
    rw [hb]
    have he : (mEnt kf vf (l.set n (a, w, (l.getD n (a, w, c)).2.2)))[n]? = some ⟨kf a, vf w, l[n].2.2⟩ := by
      unfold mEnt
      rw [List.getElem?_map, hx]; rfl
    simp only [he]
    congr 3
    unfold mEnt
    rw [hd, hd2, List.map_set, List.map_set, List.set_set]
  | none =>
    have hf : l.find? (fun x => decide (x.1 = a)) = none := by
      rw [List.find?_eq_none]
      intro x hx
      simpa using List.findIdx?_eq_none_iff.1 hi x hx
    simp only [hi] at hp ⊢
    simp only [hf, Option.map_none, Option.getD_none]
    have hx : (l ++ [(a, w, c)])[l.length]? = some (a, w, c) := by simp
    have hb := idx_born hp hx
    simp only at hb
    rw [hb]
    have he : (mEnt kf vf (l ++ [(a, w, c)]))[l.length]? = some ⟨kf a, vf w, c⟩ := by
      unfold mEnt
      rw [List.getElem?_map, hx]; rfl
    simp only [he]
    congr 3
    unfold mEnt
    simp

end
end Go.TM
