/- What config's port computes, over the heap in which it notes what it saw. -/
import Derived.Test.YtbhhmnfjjnnkiaaGreatF2
set_option linter.unusedVariables false
set_option linter.unusedSimpArgs false
set_option maxRecDepth 10000
set_option maxHeartbeats 2000000
namespace Go.Proofs.YtbhhmnfjjnnkiaaGreat
open Go.TM

/-- What tells ports apart. -/
structure Pl where
  host : Int
  out : Bool
  vl : Int
  udp : Int
deriving DecidableEq, Inhabited
abbrev plTV (p : Pl) : TV := .agg [.int .i64 p.host, .bool p.out, .int .i64 p.vl, .int .i64 p.udp]
abbrev plOf (p : Port) : Pl := ⟨p.host, p.out, p.vl, p.udp⟩

theorem beqD_int (a b : Int) : (a == b) = decide (a = b) := by by_cases h : a = b <;> simp [h]
theorem beqD_bool (a b : Bool) : (a == b) = decide (a = b) := by cases a <;> cases b <;> rfl

theorem pl_law : KeyLaw (mkTab Tryz.prog) 156 plTV where
  eq a b := by
    obtain ⟨a1, a2, a3, a4⟩ := a
    obtain ⟨b1, b2, b3, b4⟩ := b
    simp only [teqIn, tab156, tab3, tab4, plTV, if_true, tall, tpart, List.drop_zero, List.drop_succ_cons, List.length_cons, List.length_nil, teq1, TK.isAgg, List.take_succ_cons, List.take_zero]
    simp only [Bool.false_eq_true, if_false, List.getElem?_cons_zero, List.getElem?_cons_succ, if_true, beqD_int, beqD_bool]
    by_cases h1 : a1 = b1 <;> by_cases h2 : a2 = b2 <;> by_cases h3 : a3 = b3 <;> by_cases h4 : a4 = b4 <;> simp [h1, h2, h3, h4]
  same a := by simp [beqP, beqA, plTV]
  key a := by simp [tkey, tab156, tab3, tab4, plTV, tpart, TK.isAgg]

@[go_sem] theorem fitsP {n : Nat} (l : List (Pl × Int × Nat)) : ((mEnt plTV kI l).all fun e => TV.fits n e.key && TV.fits n e.val) = true := by
  rw [List.all_eq_true]
  intro e he
  obtain ⟨x, hx, rfl⟩ := List.mem_map.1 he
  rfl

/-- How often each place was seen. -/
def seenP (c : Cfg) : Nat → List (Pl × Int × Nat) × Nat
  | 0 => ([], 0)
  | i + 1 => (mPut (seenP c i).1 (seenP c i).2 (plOf (nth c.ports.l i)) ((mGet (seenP c i).1 (plOf (nth c.ports.l i))).getD 0 + 1), mClock (seenP c i).1 (seenP c i).2 (plOf (nth c.ports.l i)))

theorem seenP_ok (c : Cfg) : ∀ i, mOk (seenP c i).1 (seenP c i).2
  | 0 => mOk_nil _
  | i + 1 => mOk_put (seenP_ok c i) _ _

theorem pl_place (p q : Port) : plOf q = plOf p ↔ p.place q := by
  unfold Port.place
  constructor
  · intro h
    simp only [plOf, Pl.mk.injEq] at h
    exact h
  · rintro ⟨h1, h2, h3, h4⟩
    simp only [plOf, Pl.mk.injEq]
    exact ⟨h1, h2, h3, h4⟩

theorem portS_zero {c : Cfg} {i : Nat} (h : portS c i = 0) : i < 512 ∧ ¬ PortOff c (nth c.ports.l i) ∧ ¬ (0 < i ∧ (nth c.ports.l (i - 1)).id ≥ (nth c.ports.l i).id) ∧
    ∃ v, findL c.vls.l (nth c.ports.l i).vl = some v ∧ (nth c.ports.l i).host = nth c.parts.l (nth c.ports.l i).part.toNat ∧ portV (nth c.ports.l i) v = 0 ∧ ∀ k, k < i → ¬ (nth c.ports.l i).place (nth c.ports.l k) := by
  unfold portS at h
  split at h
  · cases h
  rename_i h1
  split at h
  · cases h
  rename_i h2
  split at h
  · cases h
  rename_i v hv
  split at h
  · cases h
  rename_i h3
  split at h
  · rename_i h4; exact absurd h h4
  rename_i h4
  split at h
  · cases h
  rename_i h5
  exact ⟨by omega, fun h6 => h1 (.inr h6), h2, v, hv, by simpa using h3, by simpa using h4, fun k hk h6 => h5 ⟨k, hk, h6⟩⟩

open Classical in
theorem seenP_get (c : Cfg) (q : Pl) : ∀ i, (∀ k, k < i → portS c k = 0) → (mGet (seenP c i).1 q).getD 0 = if ∃ k, k < i ∧ plOf (nth c.ports.l k) = q then 1 else 0
  | 0, _ => by rw [if_neg (by rintro ⟨k, hk, _⟩; omega)]; rfl
  | i + 1, h => by
    have ih := fun q => seenP_get c q i fun k hk => h k (by omega)
    rw [seenP, mGet_put]
    by_cases hq : q = plOf (nth c.ports.l i)
    · subst hq
      rw [if_pos rfl, if_pos ⟨i, by omega, rfl⟩, Option.getD_some, ih, if_neg]
      · rfl
      · rintro ⟨k, hk, e⟩
        obtain ⟨_, _, _, v, _, _, _, hno⟩ := portS_zero (h i (by omega))
        exact hno k hk ((pl_place _ _).1 e)
    · rw [if_neg hq, ih]
      by_cases he : ∃ k, k < i ∧ plOf (nth c.ports.l k) = q
      · obtain ⟨k, hk, e⟩ := he
        rw [if_pos ⟨k, hk, e⟩, if_pos ⟨k, by omega, e⟩]
      · rw [if_neg he, if_neg]
        rintro ⟨k, hk, e⟩
        rcases Nat.lt_or_ge k i with h1 | h1
        · exact he ⟨k, h1, e⟩
        · obtain rfl : k = i := by omega
          exact hq e.symm

/-- Links that may be have numbers that rise. -/
theorem link_rise {c : Cfg} : ∀ (i k : Nat), (∀ j, j < i + 1 → linkS c j = 0) → k < i → (nth c.vls.l k).id < (nth c.vls.l i).id
  | 0, k, _, hk => by omega
  | i + 1, k, h, hk => by
    have h1 := (linkS_zero (h (i + 1) (by omega))).2.2.1
    have h2 : (nth c.vls.l i).id < (nth c.vls.l (i + 1)).id := by
      simp only [Nat.add_sub_cancel] at h1
      omega
    rcases Nat.lt_or_ge k i with h3 | h3
    · have := link_rise i k (fun j hj => h j (by omega)) h3
      omega
    · obtain rfl : k = i := by omega
      exact h2

theorem seenL_get (c : Cfg) (id : Int) : ∀ i, i ≤ c.vls.l.length → (∀ k, k < i → linkS c k = 0) → mGet (seenL c i).1 id = (c.vls.l.take i).find? fun v => v.id == id
  | 0, _, _ => by simp [seenL, mGet]
  | i + 1, hi, h => by
    have ih := seenL_get c id i (by omega) fun k hk => h k (by omega)
    rw [seenL, mGet_put, List.take_succ_eq_append_getElem (by omega), List.find?_append, ← ih, ← nth_eq (by omega : i < c.vls.l.length)]
    by_cases hid : id = (nth c.vls.l i).id
    · rw [if_pos hid]
      have hno : mGet (seenL c i).1 id = none := by
        rw [ih, List.find?_eq_none]
        intro x hx
        obtain ⟨k, hk, rfl⟩ := List.getElem_of_mem hx
        rw [List.length_take] at hk
        have := link_rise i k h (by omega)
        rw [List.getElem_take, ← nth_eq (by omega : k < c.vls.l.length), hid]
        simp only [beq_iff_eq]
        omega
      rw [hno, hid]
      simp
    · rw [if_neg hid]
      have : ((nth c.vls.l i).id == id) = false := by simpa using fun e => hid e.symm
      simp [this]

theorem seenL_find (c : Cfg) (id : Int) (h : ∀ k, k < c.vls.l.length → linkS c k = 0) : mGet (seenL c c.vls.l.length).1 id = findL c.vls.l id := by
  rw [seenL_get c id _ (Nat.le_refl _) h, List.take_length]; rfl

section
variable {σ : TS} {lm k : Nat} {l : List (Pl × Int × Nat)} (hm : σ[lm]? = some (.map (mEnt plTV kI l) k))
include hm
theorem lookP (ρ : TS) (h : Int) (o : Bool) (v u : Int) :
    tlookup (mkTab Tryz.prog) (σ ++ ρ) 86 (.map lm) (.agg [.int .i64 h, .bool o, .int .i64 v, .int .i64 u]) false = some (.int .i64 ((mGet l ⟨h, o, v, u⟩).getD 0)) := by
  have := mapLook (kf := plTV) (vf := kI) (a := ⟨h, o, v, u⟩) tab86 rfl tab3 rfl pl_law (Eq.trans (get_old (l := ρ) (lt_of_get hm)) hm) false
  rw [show TV.agg [.int .i64 h, .bool o, .int .i64 v, .int .i64 u] = plTV ⟨h, o, v, u⟩ from rfl, this]
  cases mGet l ⟨h, o, v, u⟩ <;> rfl
theorem lookP2 (ρ : TS) (l' : List (Pl × Int × Nat)) (k' : Nat) (h : Int) (o : Bool) (v u : Int) :
    tlookup (mkTab Tryz.prog) (σ.set lm (.map (mEnt plTV kI l') k') ++ ρ) 86 (.map lm) (.agg [.int .i64 h, .bool o, .int .i64 v, .int .i64 u]) false = some (.int .i64 ((mGet l' ⟨h, o, v, u⟩).getD 0)) :=
  lookP (σ := σ.set lm (.map (mEnt plTV kI l') k')) (List.getElem?_set_self (lt_of_get hm)) ρ h o v u
theorem entP (ρ : TS) (h : Int) (o : Bool) (v u : Int) :
    tmapEntry (mkTab Tryz.prog) (σ ++ ρ) 86 (.map lm) (.agg [.int .i64 h, .bool o, .int .i64 v, .int .i64 u]) =
      some (.tup [.int .i64 ((mGet l ⟨h, o, v, u⟩).getD 0), .int .i64 (mBorn l k ⟨h, o, v, u⟩)], σ.set lm (.map (mEnt plTV kI (mPut l k ⟨h, o, v, u⟩ ((mGet l ⟨h, o, v, u⟩).getD 0))) (mClock l k ⟨h, o, v, u⟩)) ++ ρ) := by
  have := mapEnter (kf := plTV) (vf := kI) (z0 := 0) (a := ⟨h, o, v, u⟩) tab86 rfl tab3 rfl pl_law (Eq.trans (get_old (l := ρ) (lt_of_get hm)) hm)
  rw [show TV.agg [.int .i64 h, .bool o, .int .i64 v, .int .i64 u] = plTV ⟨h, o, v, u⟩ from rfl, this, set_old (lt_of_get hm)]
theorem entP2 (ho : mOk l k) (ρ : TS) (p : Pl) (w n : Int) (k' : Nat) :
    tentryStore (σ.set lm (.map (mEnt plTV kI (mPut l k p w)) k') ++ ρ) (.map lm) (.int .i64 (mBorn l k p)) (.int .i64 n) = some (σ.set lm (.map (mEnt plTV kI (mPut l k p n)) k') ++ ρ) := by
  have := entryPut (kf := plTV) (vf := kI) (σ := σ.set lm (.map (mEnt plTV kI (mPut l k p w)) k') ++ ρ) (lm := lm) (c' := k') (a := p) (w := w) (v := n) (k := .i64) ho (by rw [List.getElem?_append_left (by simpa using lt_of_get hm), List.getElem?_set_self (lt_of_get hm)])
  rw [this, List.set_append_left _ _ (by simpa using lt_of_get hm), List.set_set]
end

end Go.Proofs.YtbhhmnfjjnnkiaaGreat
