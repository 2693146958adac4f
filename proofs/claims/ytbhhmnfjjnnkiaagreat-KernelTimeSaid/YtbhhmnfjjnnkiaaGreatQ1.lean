/- The windows of a host, as data: no two are open at a time, and in a frame each partition's are open as long as they are. -/
import Derived.Test.YtbhhmnfjjnnkiaaGreatD1
set_option linter.unusedVariables false
set_option linter.unusedSimpArgs false
set_option maxRecDepth 10000
namespace Go.Proofs.YtbhhmnfjjnnkiaaGreat
open Go.TM

def Owns (c : Cfg) (host p : Int) : Prop := IsPart c p ∧ nth c.parts.l p.toNat = host
instance (c : Cfg) (host p : Int) : Decidable (Owns c host p) := by unfold Owns; infer_instance
def OpenW (c : Cfg) (host t : Int) (w : Win) : Prop := Owns c host w.part ∧ w.begin_ ≤ t ∧ t < w.begin_ + w.long
instance (c : Cfg) (host t : Int) (w : Win) : Decidable (OpenW c host t w) := by unfold OpenW; infer_instance
/-- The window that is open at a tick of the frame. -/
def actW (c : Cfg) (host t : Int) : Option Win := c.wins.l.find? fun w => decide (OpenW c host t w)

theorem endOf_up {c : Cfg} {h : Int} (hw : ∀ k, k < c.wins.l.length → winS c k = 0) : ∀ {i j : Nat}, i ≤ j → j ≤ c.wins.l.length → endOf c h i ≤ endOf c h j
  | i, 0, hij, _ => by rw [Nat.le_zero.1 hij]; exact Int.le_refl _
  | i, j + 1, hij, hj => by
    rcases Nat.lt_or_ge j i with h1 | h1
    · rw [show i = j + 1 by omega]; exact Int.le_refl _
    · have h2 := endOf_up (h := h) hw h1 (by omega)
      have h3 := winS_zero (hw j (by omega))
      rw [endOf]
      split
      · rename_i e; rw [e] at h3; omega
      · exact h2
theorem win_apart {c : Cfg} {h : Int} (hw : ∀ k, k < c.wins.l.length → winS c k = 0) {i j : Nat} (hij : i < j) (hj : j < c.wins.l.length)
    (h1 : nth c.parts.l (nth c.wins.l i).part.toNat = h) (h2 : nth c.parts.l (nth c.wins.l j).part.toNat = h) : (nth c.wins.l i).begin_ + (nth c.wins.l i).long ≤ (nth c.wins.l j).begin_ := by
  have h3 := endOf_up (h := h) hw (show i + 1 ≤ j from hij) (by omega)
  rw [endOf, if_pos h1] at h3
  have h4 := winS_zero (hw j hj)
  rw [h2] at h4
  omega
theorem open_one {c : Cfg} {host t : Int} (hw : ∀ k, k < c.wins.l.length → winS c k = 0) {i j : Nat} (hi : i < c.wins.l.length) (hj : j < c.wins.l.length)
    (h1 : OpenW c host t (nth c.wins.l i)) (h2 : OpenW c host t (nth c.wins.l j)) : i = j := by
  rcases Nat.lt_trichotomy i j with h | h | h
  · have := win_apart hw h hj h1.1.2 h2.1.2
    have := h1.2; have := h2.2; omega
  · exact h
  · have := win_apart hw h hi h2.1.2 h1.1.2
    have := h1.2; have := h2.2; omega
theorem act_of {c : Cfg} {host t : Int} (hw : ∀ k, k < c.wins.l.length → winS c k = 0) {i : Nat} (hi : i < c.wins.l.length) (h1 : OpenW c host t (nth c.wins.l i)) : actW c host t = some (nth c.wins.l i) := by
  unfold actW
  rw [List.find?_eq_some_iff_getElem]
  refine ⟨decide_eq_true h1, i, hi, (nth_eq hi).symm, fun j hj => ?_⟩
  have hjl : j < c.wins.l.length := by omega
  rw [← nth_eq hjl]
  by_cases e : OpenW c host t (nth c.wins.l j)
  · exact absurd (open_one hw hjl hi e h1) (by omega)
  · simpa using e
theorem act_none {c : Cfg} {host t : Int} (h : ∀ k, k < c.wins.l.length → ¬ OpenW c host t (nth c.wins.l k)) : actW c host t = none := by
  unfold actW
  rw [List.find?_eq_none]
  intro w hw
  obtain ⟨k, hk, rfl⟩ := List.getElem_of_mem hw
  have := h k hk
  rw [nth_eq hk] at this
  simpa using this
theorem act_some {c : Cfg} {host t : Int} {w : Win} (h : actW c host t = some w) : OpenW c host t w ∧ w ∈ c.wins.l := by
  unfold actW at h
  exact ⟨by simpa using List.find?_some h, List.mem_of_find?_eq_some h⟩
/-- How a search for the first one goes on. -/
theorem find_at {α : Type} [Inhabited α] {p : α → Bool} {l : List α} {i : Nat} (hi : i < l.length) (h0 : ∀ k, k < i → p (nth l k) = false) (h1 : p (nth l i) = true) : l.find? p = some (nth l i) := by
  rw [List.find?_eq_some_iff_getElem]
  exact ⟨h1, i, hi, (nth_eq hi).symm, fun j hj => by rw [← nth_eq (by omega), h0 j hj]; rfl⟩
theorem find_no {α : Type} [Inhabited α] {p : α → Bool} {l : List α} (h0 : ∀ k, k < l.length → p (nth l k) = false) : l.find? p = none := by
  rw [List.find?_eq_none]
  intro w hw
  obtain ⟨k, hk, rfl⟩ := List.getElem_of_mem hw
  have := h0 k hk
  rw [nth_eq hk] at this
  simp [this]

/-- Which ticks of the first t ones a partition is active at, and how many. -/
def actN (c : Cfg) (host p : Int) : Nat → Int
  | 0 => 0
  | t + 1 => actN c host p t + (match actW c host t with | some w => if w.part = p then 1 else 0 | none => 0)
/-- How long a partition's windows are, of the first k ones. -/
def longN (c : Cfg) (host p : Int) : Nat → Int
  | 0 => 0
  | k + 1 => longN c host p k + (if (nth c.wins.l k).part = p ∧ nth c.parts.l p.toNat = host then (nth c.wins.l k).long else 0)
/-- How many ticks of the first t ones are in a window. -/
def inW (w : Win) (t : Nat) : Int := max 0 (min (t : Int) (w.begin_ + w.long) - w.begin_)
/-- The same, of the first k windows of a partition. -/
def inN (c : Cfg) (host p : Int) (t : Nat) : Nat → Int
  | 0 => 0
  | k + 1 => inN c host p t k + (if (nth c.wins.l k).part = p ∧ nth c.parts.l p.toNat = host then inW (nth c.wins.l k) t else 0)
/-- How many of the first k windows of a partition are open at a tick. -/
def opN (c : Cfg) (host p : Int) (t : Nat) : Nat → Int
  | 0 => 0
  | k + 1 => opN c host p t k + (if (nth c.wins.l k).part = p ∧ nth c.parts.l p.toNat = host ∧ (nth c.wins.l k).begin_ ≤ t ∧ (t : Int) < (nth c.wins.l k).begin_ + (nth c.wins.l k).long then 1 else 0)
theorem inN_zero {c : Cfg} {host p : Int} (hw : ∀ k, k < c.wins.l.length → winS c k = 0) : ∀ k, k ≤ c.wins.l.length → inN c host p 0 k = 0
  | 0, _ => rfl
  | k + 1, hk => by
    have := winS_zero (hw k (by omega))
    rw [inN, inN_zero hw k (by omega)]
    split
    · unfold inW; omega
    · rfl
theorem inN_succ {c : Cfg} {host p : Int} (hw : ∀ k, k < c.wins.l.length → winS c k = 0) (t : Nat) : ∀ k, k ≤ c.wins.l.length → inN c host p (t + 1) k = inN c host p t k + opN c host p t k
  | 0, _ => rfl
  | k + 1, hk => by
    have := winS_zero (hw k (by omega))
    rw [inN, inN, opN, inN_succ hw t k (by omega)]
    by_cases h : (nth c.wins.l k).part = p ∧ nth c.parts.l p.toNat = host
    · rw [if_pos h, if_pos h]
      unfold inW
      split <;> omega
    · rw [if_neg h, if_neg h, if_neg (fun e => h ⟨e.1, e.2.1⟩)]
      omega
theorem inN_all {c : Cfg} {host p : Int} (hw : ∀ k, k < c.wins.l.length → winS c k = 0) (hM : 1 ≤ c.major) : ∀ k, k ≤ c.wins.l.length → inN c host p c.major.toNat k = longN c host p k
  | 0, _ => rfl
  | k + 1, hk => by
    have := winS_zero (hw k (by omega))
    rw [inN, longN, inN_all hw hM k (by omega)]
    split
    · unfold inW; omega
    · rfl
theorem opN_none {c : Cfg} {host p : Int} {t : Nat} (hw : ∀ k, k < c.wins.l.length → winS c k = 0) : ∀ k, k ≤ c.wins.l.length → (∀ j, j < k → ¬ (OpenW c host t (nth c.wins.l j) ∧ (nth c.wins.l j).part = p)) → opN c host p t k = 0
  | 0, _, _ => rfl
  | k + 1, hk, h => by
    have h0 := winS_zero (hw k (by omega))
    rw [opN, opN_none hw k (by omega) fun j hj => h j (by omega), if_neg]
    · rfl
    · rintro ⟨e1, e2, e3, e4⟩
      subst e1
      exact h k (by omega) ⟨⟨⟨h0.2.1, e2⟩, e3, e4⟩, rfl⟩
theorem opN_one {c : Cfg} {host p : Int} {t : Nat} (hw : ∀ k, k < c.wins.l.length → winS c k = 0) {i : Nat} (ho : OpenW c host t (nth c.wins.l i)) (hp : (nth c.wins.l i).part = p) : ∀ k, k ≤ c.wins.l.length → i < k → opN c host p t k = 1
  | 0, _, h => by omega
  | k + 1, hk, h => by
    have h0 := winS_zero (hw k (by omega))
    rw [opN]
    rcases Nat.lt_or_ge i k with h1 | h1
    · rw [opN_one hw ho hp k (by omega) h1, if_neg]
      · rfl
      · rintro ⟨e1, e2, e3, e4⟩
        subst e1
        have := open_one hw (by omega) (by omega) ho (show OpenW c host t (nth c.wins.l k) from ⟨⟨h0.2.1, e2⟩, e3, e4⟩)
        omega
    · obtain rfl : i = k := by omega
      rw [opN_none hw i (by omega) fun j hj e => by have := open_one hw (by omega) (by omega) e.1 ho; omega]
      subst hp
      rw [if_pos ⟨rfl, ho.1.2, ho.2.1, ho.2.2⟩]
      rfl
theorem actN_in {c : Cfg} {host p : Int} (hw : ∀ k, k < c.wins.l.length → winS c k = 0) : ∀ t, actN c host p t = inN c host p t c.wins.l.length
  | 0 => by rw [actN, inN_zero hw _ (Nat.le_refl _)]
  | t + 1 => by
    rw [actN, inN_succ hw t _ (Nat.le_refl _), actN_in hw t]
    congr 1
    cases ha : actW c host t with
    | none =>
      rw [opN_none hw _ (Nat.le_refl _)]
      rintro j hj ⟨h1, _⟩
      rw [act_of hw hj h1] at ha; cases ha
    | some w =>
      obtain ⟨h1, h2⟩ := act_some ha
      obtain ⟨i, hi, rfl⟩ := List.getElem_of_mem h2
      rw [← nth_eq hi] at h1 ⊢
      simp only
      split
      · rename_i hp
        rw [opN_one hw h1 hp _ (Nat.le_refl _) hi]
      · rename_i hp
        rw [opN_none hw _ (Nat.le_refl _)]
        rintro j hj ⟨h3, h4⟩
        have := open_one hw hi hj h1 h3
        subst this
        exact hp h4
theorem actN_long {c : Cfg} {host p : Int} (hw : ∀ k, k < c.wins.l.length → winS c k = 0) (hM : 1 ≤ c.major) : actN c host p c.major.toNat = longN c host p c.wins.l.length := by
  rw [actN_in hw, inN_all hw hM _ (Nat.le_refl _)]

end Go.Proofs.YtbhhmnfjjnnkiaaGreat
