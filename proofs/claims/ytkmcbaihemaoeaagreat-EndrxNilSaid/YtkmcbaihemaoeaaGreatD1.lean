/- What is wrong with a network, as the document says it: the plain words. -/
import Derived.Test.YtkmcbaihemaoeaaGreatD0
set_option linter.unusedVariables false
set_option linter.unusedSimpArgs false
set_option maxRecDepth 10000
namespace Go.Proofs.YtkmcbaihemaoeaaGreat
open Go.TM

abbrev IsHost (c : Cfg) (n : Int) : Prop := 0 ≤ n ∧ n < c.hosts
abbrev IsPart (c : Cfg) (n : Int) : Prop := 0 ≤ n ∧ n < c.parts.l.length

/-- Where the last window of a host ends, of the first k ones. -/
def endOf (c : Cfg) (h : Int) : Nat → Int
  | 0 => 0
  | k + 1 => if nth c.parts.l (nth c.wins.l k).part.toNat = h then (nth c.wins.l k).begin_ + (nth c.wins.l k).long else endOf c h k

def winS (c : Cfg) (i : Nat) : Int :=
  if 256 ≤ i ∨ ¬ IsPart c (nth c.wins.l i).part ∨ (nth c.wins.l i).begin_ < 0 ∨ (nth c.wins.l i).long < 1 ∨ (nth c.wins.l i).begin_ > c.major ∨ (nth c.wins.l i).long > c.major - (nth c.wins.l i).begin_ then 1
  else if (nth c.wins.l i).begin_ < endOf c (nth c.parts.l (nth c.wins.l i).part.toNat) i then 25
  else 0

def Rises (l : List Int) : Prop := ∀ k, k + 1 < l.length → nth l k < nth l (k + 1)
abbrev LinkOff (c : Cfg) (v : Link) : Prop := v.id < 1 ∨ v.id > 65535 ∨ ¬ IsHost c v.host ∨ v.bag < 0 ∨ v.bag > 7 ∨ v.smax < 64 ∨ v.smax > 1518 ∨ v.subs < 1 ∨ v.subs > 4 ∨ v.skew < 0 ∨ v.skew > 1073741824 ∨ v.to.l.length = 0

open Classical in
noncomputable def linkS (c : Cfg) (i : Nat) : Int :=
  if 256 ≤ i ∨ LinkOff c (nth c.vls.l i) then 1
  else if 0 < i ∧ (nth c.vls.l (i - 1)).id ≥ (nth c.vls.l i).id then 25
  else if ¬ Rises (nth c.vls.l i).to.l then 25
  else if ∃ k, k < (nth c.vls.l i).to.l.length ∧ (¬ IsHost c (nth (nth c.vls.l i).to.l k) ∨ nth (nth c.vls.l i).to.l k = (nth c.vls.l i).host) then 20
  else 0

def findL (l : List Link) (id : Int) : Option Link := l.find? fun v => v.id == id
def findP (l : List Port) (id : Int) : Option Port := l.find? fun v => v.id == id

def Port.place (p q : Port) : Prop := q.host = p.host ∧ q.out = p.out ∧ q.vl = p.vl ∧ q.udp = p.udp
abbrev PortOff (c : Cfg) (p : Port) : Prop := p.id < 1 ∨ (p.kind ≠ 1 ∧ p.kind ≠ 2) ∨ ¬ IsPart c p.part ∨ p.udp < 0 ∨ p.udp > 65535 ∨ p.size < 1 ∨ p.size > 8192

/-- What is wrong with a port and its link alone. -/
def portV (p : Port) (v : Link) : Int :=
  if (p.out = true ∧ v.host ≠ p.host) ∨ (p.out = false ∧ v.to.l.contains p.host = false) then 20
  else if p.sub < 0 ∨ (p.out = true ∧ p.sub ≥ v.subs) ∨ (p.out = false ∧ p.sub ≠ 0) then 1
  else if p.kind = 2 ∧ (p.depth < 1 ∨ p.depth > 64 ∨ p.fresh ≠ 0) then 1
  else if p.kind = 1 ∧ (p.depth ≠ 0 ∨ (p.out = true ∧ p.fresh ≠ 0) ∨ (p.out = false ∧ (p.fresh < 1 ∨ p.fresh > 1099511627776))) then 1
  else if p.kind = 1 ∧ p.size > v.smax - 47 then 11
  else 0

open Classical in
noncomputable def portS (c : Cfg) (i : Nat) : Int :=
  if 512 ≤ i ∨ PortOff c (nth c.ports.l i) then 1
  else if 0 < i ∧ (nth c.ports.l (i - 1)).id ≥ (nth c.ports.l i).id then 25
  else match findL c.vls.l (nth c.ports.l i).vl with
    | none => 20
    | some v => if (nth c.ports.l i).host ≠ nth c.parts.l (nth c.ports.l i).part.toNat then 20
      else if portV (nth c.ports.l i) v ≠ 0 then portV (nth c.ports.l i) v
      else if ∃ k, k < i ∧ (nth c.ports.l i).place (nth c.ports.l k) then 21
      else 0

/-- How late a link's frame may be at an end system. -/
def jitL (h : Int) : List Link → Int
  | [] => 0
  | v :: l => (if v.host = h then v.smax + 20 else 0) + jitL h l
def jitS (c : Cfg) (h : Int) : Int := 500 + jitL h c.vls.l

/-- The first one that is wrong of so many. -/
def firstFrom (e : Nat → Int) : Nat → Nat → Option (Nat × Int)
  | 0, _ => none
  | n + 1, i => if e i ≠ 0 then some (i, e i) else firstFrom e n (i + 1)
def firstBad (n : Nat) (e : Nat → Int) : Option (Nat × Int) := firstFrom e n 0

def partS (c : Cfg) (i : Nat) : Int := if 64 ≤ i ∨ ¬ IsHost c (nth c.parts.l i) then 1 else 0
def lateS (c : Cfg) (i : Nat) : Int := if jitS c i > 6250 then 26 else 0

noncomputable def checkS (c : Cfg) : Int × Int × Int :=
  if c.hosts < 1 ∨ c.hosts > 64 then (1, 0, 1) else
  match firstBad c.parts.l.length (partS c) with
  | some (i, e) => (2, i, e)
  | none => if c.major < 1 ∨ c.major > 1073741824 then (3, 0, 1) else
    match firstBad c.wins.l.length (winS c) with
    | some (i, e) => (4, i, e)
    | none => match firstBad c.vls.l.length (linkS c) with
      | some (i, e) => (5, i, e)
      | none => match firstBad c.ports.l.length (portS c) with
        | some (i, e) => (6, i, e)
        | none => match firstBad c.hosts.toNat (lateS c) with
          | some (i, e) => (7, i, e)
          | none => (0, 0, 0)

theorem winS_off {c : Cfg} {i : Nat} (h : 256 ≤ i ∨ ¬ IsPart c (nth c.wins.l i).part ∨ (nth c.wins.l i).begin_ < 0 ∨ (nth c.wins.l i).long < 1 ∨ (nth c.wins.l i).begin_ > c.major ∨ (nth c.wins.l i).long > c.major - (nth c.wins.l i).begin_) : winS c i = 1 := if_pos h
theorem winS_on {c : Cfg} {i : Nat} (h : ¬ (256 ≤ i ∨ ¬ IsPart c (nth c.wins.l i).part ∨ (nth c.wins.l i).begin_ < 0 ∨ (nth c.wins.l i).long < 1 ∨ (nth c.wins.l i).begin_ > c.major ∨ (nth c.wins.l i).long > c.major - (nth c.wins.l i).begin_)) :
    winS c i = if (nth c.wins.l i).begin_ < endOf c (nth c.parts.l (nth c.wins.l i).part.toNat) i then 25 else 0 := if_neg h
theorem winS_zero {c : Cfg} {i : Nat} (h : winS c i = 0) : i < 256 ∧ IsPart c (nth c.wins.l i).part ∧ 0 ≤ (nth c.wins.l i).begin_ ∧ 1 ≤ (nth c.wins.l i).long ∧ (nth c.wins.l i).begin_ ≤ c.major ∧ (nth c.wins.l i).long ≤ c.major - (nth c.wins.l i).begin_ ∧
    endOf c (nth c.parts.l (nth c.wins.l i).part.toNat) i ≤ (nth c.wins.l i).begin_ := by
  unfold winS at h
  split at h
  · cases h
  · split at h
    · cases h
    · omega
theorem linkS_off {c : Cfg} {i : Nat} (h : 256 ≤ i ∨ LinkOff c (nth c.vls.l i)) : linkS c i = 1 := if_pos h
theorem linkS_order {c : Cfg} {i : Nat} (h : ¬ (256 ≤ i ∨ LinkOff c (nth c.vls.l i))) (h1 : 0 < i ∧ (nth c.vls.l (i - 1)).id ≥ (nth c.vls.l i).id) : linkS c i = 25 := by
  unfold linkS; rw [if_neg h, if_pos h1]
theorem linkS_rise {c : Cfg} {i : Nat} (h : ¬ (256 ≤ i ∨ LinkOff c (nth c.vls.l i))) (h1 : ¬ (0 < i ∧ (nth c.vls.l (i - 1)).id ≥ (nth c.vls.l i).id)) {k : Nat} (h2 : k + 1 < (nth c.vls.l i).to.l.length) (h3 : nth (nth c.vls.l i).to.l (k + 1) ≤ nth (nth c.vls.l i).to.l k) : linkS c i = 25 := by
  unfold linkS
  rw [if_neg h, if_neg h1, if_pos]
  intro hr
  have := hr k h2
  omega
theorem linkS_to {c : Cfg} {i : Nat} (h : ¬ (256 ≤ i ∨ LinkOff c (nth c.vls.l i))) (h1 : ¬ (0 < i ∧ (nth c.vls.l (i - 1)).id ≥ (nth c.vls.l i).id)) (h2 : Rises (nth c.vls.l i).to.l) {k : Nat} (h3 : k < (nth c.vls.l i).to.l.length)
    (h4 : ¬ IsHost c (nth (nth c.vls.l i).to.l k) ∨ nth (nth c.vls.l i).to.l k = (nth c.vls.l i).host) : linkS c i = 20 := by
  unfold linkS
  rw [if_neg h, if_neg h1, if_neg (by simpa using h2), if_pos ⟨k, h3, h4⟩]
theorem linkS_ok {c : Cfg} {i : Nat} (h : ¬ (256 ≤ i ∨ LinkOff c (nth c.vls.l i))) (h1 : ¬ (0 < i ∧ (nth c.vls.l (i - 1)).id ≥ (nth c.vls.l i).id)) (h2 : Rises (nth c.vls.l i).to.l)
    (h4 : ∀ k, k < (nth c.vls.l i).to.l.length → ¬ (¬ IsHost c (nth (nth c.vls.l i).to.l k) ∨ nth (nth c.vls.l i).to.l k = (nth c.vls.l i).host)) : linkS c i = 0 := by
  unfold linkS
  rw [if_neg h, if_neg h1, if_neg (by simpa using h2), if_neg]
  rintro ⟨k, h5, h6⟩
  exact h4 k h5 h6
theorem linkS_zero {c : Cfg} {i : Nat} (h : linkS c i = 0) : i < 256 ∧ ¬ LinkOff c (nth c.vls.l i) ∧ ¬ (0 < i ∧ (nth c.vls.l (i - 1)).id ≥ (nth c.vls.l i).id) ∧ Rises (nth c.vls.l i).to.l ∧
    ∀ k, k < (nth c.vls.l i).to.l.length → IsHost c (nth (nth c.vls.l i).to.l k) ∧ nth (nth c.vls.l i).to.l k ≠ (nth c.vls.l i).host := by
  unfold linkS at h
  split at h
  · cases h
  · split at h
    · cases h
    · split at h
      · cases h
      · split at h
        · cases h
        · rename_i h1 h2 h3 h4
          refine ⟨by omega, fun h5 => h1 (.inr h5), h2, by simpa using h3, fun k hk => ?_⟩
          refine ⟨?_, fun h5 => h4 ⟨k, hk, .inr h5⟩⟩
          by_cases h5 : IsHost c (nth (nth c.vls.l i).to.l k)
          · exact h5
          · exact absurd ⟨k, hk, .inl h5⟩ h4

theorem portS_off {c : Cfg} {i : Nat} (h : 512 ≤ i ∨ PortOff c (nth c.ports.l i)) : portS c i = 1 := if_pos h
theorem portS_order {c : Cfg} {i : Nat} (h : ¬ (512 ≤ i ∨ PortOff c (nth c.ports.l i))) (h1 : 0 < i ∧ (nth c.ports.l (i - 1)).id ≥ (nth c.ports.l i).id) : portS c i = 25 := by
  unfold portS; rw [if_neg h, if_pos h1]
section
variable {c : Cfg} {i : Nat} (h : ¬ (512 ≤ i ∨ PortOff c (nth c.ports.l i))) (h1 : ¬ (0 < i ∧ (nth c.ports.l (i - 1)).id ≥ (nth c.ports.l i).id))
include h h1
theorem portS_nolink (h2 : findL c.vls.l (nth c.ports.l i).vl = none) : portS c i = 20 := by
  unfold portS; rw [if_neg h, if_neg h1, h2]
theorem portS_host (h3 : (nth c.ports.l i).host ≠ nth c.parts.l (nth c.ports.l i).part.toNat) : portS c i = 20 := by
  unfold portS; rw [if_neg h, if_neg h1]
  split
  · rfl
  · rw [if_pos h3]
variable {v : Link} (h2 : findL c.vls.l (nth c.ports.l i).vl = some v) (h3 : (nth c.ports.l i).host = nth c.parts.l (nth c.ports.l i).part.toNat)
include h2 h3
theorem portS_link (h4 : portV (nth c.ports.l i) v ≠ 0) : portS c i = portV (nth c.ports.l i) v := by
  unfold portS; rw [if_neg h, if_neg h1, h2]
  simp only
  rw [if_neg (by simpa using h3), if_pos h4]
theorem portS_twice (h4 : portV (nth c.ports.l i) v = 0) {k : Nat} (hk : k < i) (h5 : (nth c.ports.l i).place (nth c.ports.l k)) : portS c i = 21 := by
  unfold portS; rw [if_neg h, if_neg h1, h2]
  simp only
  rw [if_neg (by simpa using h3), if_neg (by simpa using h4), if_pos ⟨k, hk, h5⟩]
theorem portS_ok (h4 : portV (nth c.ports.l i) v = 0) (h5 : ∀ k, k < i → ¬ (nth c.ports.l i).place (nth c.ports.l k)) : portS c i = 0 := by
  unfold portS; rw [if_neg h, if_neg h1, h2]
  simp only
  rw [if_neg (by simpa using h3), if_neg (by simpa using h4), if_neg]
  rintro ⟨k, h6, h7⟩
  exact h5 k h6 h7
end

theorem portV_out {p : Port} {v : Link} (ho : p.out = true) : portV p v = if v.host ≠ p.host then 20 else if p.sub < 0 ∨ p.sub ≥ v.subs then 1 else if p.kind = 2 ∧ (p.depth < 1 ∨ p.depth > 64 ∨ p.fresh ≠ 0) then 1
    else if p.kind = 1 ∧ (p.depth ≠ 0 ∨ p.fresh ≠ 0) then 1 else if p.kind = 1 ∧ p.size > v.smax - 47 then 11 else 0 := by
  simp only [portV, ho, true_and, Bool.true_eq_false, false_and, or_false]
theorem portV_in {p : Port} {v : Link} (ho : p.out = false) : portV p v = if v.to.l.contains p.host = false then 20 else if p.sub < 0 ∨ p.sub ≠ 0 then 1 else if p.kind = 2 ∧ (p.depth < 1 ∨ p.depth > 64 ∨ p.fresh ≠ 0) then 1
    else if p.kind = 1 ∧ (p.depth ≠ 0 ∨ (p.fresh < 1 ∨ p.fresh > 1099511627776)) then 1 else if p.kind = 1 ∧ p.size > v.smax - 47 then 11 else 0 := by
  simp only [portV, ho, true_and, Bool.false_eq_true, false_and, false_or]
theorem portS_link' {c : Cfg} {i : Nat} {v : Link} {x : Int} (h : ¬ (512 ≤ i ∨ PortOff c (nth c.ports.l i))) (h1 : ¬ (0 < i ∧ (nth c.ports.l (i - 1)).id ≥ (nth c.ports.l i).id)) (h2 : findL c.vls.l (nth c.ports.l i).vl = some v)
    (h3 : (nth c.ports.l i).host = nth c.parts.l (nth c.ports.l i).part.toNat) (hx : portV (nth c.ports.l i) v = x) (h0 : x ≠ 0) : portS c i = x := by
  rw [portS_link h h1 h2 h3 (by rw [hx]; exact h0), hx]

theorem firstFrom_none {e : Nat → Int} : ∀ (n i : Nat), firstFrom e n i = none ↔ ∀ k, i ≤ k → k < i + n → e k = 0
  | 0, i => by simp [firstFrom]; omega
  | n + 1, i => by
    rw [firstFrom]
    by_cases h : e i = 0
    · rw [if_neg (by simpa using h), firstFrom_none n (i + 1)]
      constructor
      · intro hk k h1 h2
        rcases Nat.lt_or_ge i k with h3 | h3
        · exact hk k (by omega) (by omega)
        · obtain rfl : k = i := by omega
          exact h
      · intro hk k h1 h2
        exact hk k (by omega) (by omega)
    · rw [if_pos h]
      constructor
      · intro h1; cases h1
      · intro hk; exact absurd (hk i (by omega) (by omega)) h

theorem firstFrom_some {e : Nat → Int} {j : Nat} {x : Int} : ∀ (n i : Nat), firstFrom e n i = some (j, x) ↔ (i ≤ j ∧ j < i + n ∧ e j = x ∧ x ≠ 0 ∧ ∀ k, i ≤ k → k < j → e k = 0)
  | 0, i => by simp [firstFrom]; omega
  | n + 1, i => by
    rw [firstFrom]
    by_cases h : e i = 0
    · rw [if_neg (by simpa using h), firstFrom_some n (i + 1)]
      constructor
      · rintro ⟨h1, h2, h3, h4, h5⟩
        refine ⟨by omega, by omega, h3, h4, fun k hk hk2 => ?_⟩
        rcases Nat.lt_or_ge i k with h6 | h6
        · exact h5 k (by omega) hk2
        · obtain rfl : k = i := by omega
          exact h
      · rintro ⟨h1, h2, h3, h4, h5⟩
        refine ⟨?_, by omega, h3, h4, fun k hk hk2 => h5 k (by omega) hk2⟩
        rcases Nat.lt_or_ge i j with h6 | h6
        · omega
        · obtain rfl : i = j := by omega
          exact absurd (h3.symm.trans h) h4
    · rw [if_pos h]
      constructor
      · intro h1
        simp only [Option.some.injEq, Prod.mk.injEq] at h1
        obtain ⟨rfl, rfl⟩ := h1
        exact ⟨by omega, by omega, rfl, h, fun k hk hk2 => by omega⟩
      · rintro ⟨h1, h2, h3, h4, h5⟩
        rcases Nat.lt_or_ge i j with h6 | h6
        · exact absurd (h5 i (by omega) h6) h
        · obtain rfl : i = j := by omega
          rw [h3]

theorem firstBad_none {n : Nat} {e : Nat → Int} : firstBad n e = none ↔ ∀ k, k < n → e k = 0 := by
  unfold firstBad
  rw [firstFrom_none]
  simp
theorem firstBad_some {n j : Nat} {x : Int} {e : Nat → Int} : firstBad n e = some (j, x) ↔ (j < n ∧ e j = x ∧ x ≠ 0 ∧ ∀ k, k < j → e k = 0) := by
  unfold firstBad
  rw [firstFrom_some]
  simp

theorem find_first {α : Type} [Inhabited α] {p : α → Bool} {i : Nat} : ∀ {l : List α}, i < l.length → (∀ k, k < i → p (nth l k) = false) → p (nth l i) = true → l.find? p = some (nth l i)
  | [], h, _, _ => by simp at h
  | x :: l, h, h1, h2 => by
    cases i with
    | zero => simp only [nth, List.getD_cons_zero] at h2 ⊢; rw [List.find?_cons, h2]
    | succ i =>
      have h0 := h1 0 (by omega)
      simp only [nth, List.getD_cons_zero] at h0
      rw [List.find?_cons, h0]
      simp only [nth, List.getD_cons_succ] at h2 ⊢
      exact find_first (i := i) (by simpa using h) (fun k hk => by
        have := h1 (k + 1) (by omega)
        simpa only [nth, List.getD_cons_succ] using this) h2
theorem find_none {α : Type} [Inhabited α] {p : α → Bool} {l : List α} (h : ∀ k, k < l.length → p (nth l k) = false) : l.find? p = none := by
  rw [List.find?_eq_none]
  intro x hx
  obtain ⟨k, hk, rfl⟩ := List.getElem_of_mem hx
  have := h k hk
  rw [nth_eq hk] at this
  simp [this]

theorem bool_eq {b : Bool} {p : Prop} [Decidable p] (h : b = true ↔ p) : b = decide p := by
  rw [Bool.eq_iff_iff, decide_eq_true_eq]; exact h

theorem upto {p : Nat → Prop} {i : Nat} (h : ∀ k, k < i → p k) (hi : p i) : ∀ k, k < i + 1 → p k := fun k hk => by
  rcases Nat.lt_or_ge k i with h1 | h1
  · exact h k h1
  · obtain rfl : k = i := by omega
    exact hi

theorem contains_first {l : List Int} {x : Int} {i : Nat} (h : i < l.length) (e : nth l i = x) : l.contains x = true := by
  rw [List.contains_iff_mem, ← e]
  exact nth_mem h
theorem contains_none {l : List Int} {x : Int} (h : ∀ k, k < l.length → nth l k ≠ x) : l.contains x = false := by
  rw [Bool.eq_false_iff]
  intro hc
  rw [List.contains_iff_mem] at hc
  obtain ⟨k, hk, rfl⟩ := List.getElem_of_mem hc
  exact h k hk (nth_eq hk)

theorem findL_some {l : List Link} {id : Int} {i : Nat} (h : i < l.length) (hno : ∀ k, k < i → (nth l k).id ≠ id) (e : (nth l i).id = id) : findL l id = some (nth l i) :=
  find_first h (fun k hk => by simpa using hno k hk) (by simpa using e)
theorem findL_none {l : List Link} {id : Int} (hno : ∀ k, k < l.length → (nth l k).id ≠ id) : findL l id = none :=
  find_none fun k hk => by simpa using hno k hk
theorem findP_some {l : List Port} {id : Int} {i : Nat} (h : i < l.length) (hno : ∀ k, k < i → (nth l k).id ≠ id) (e : (nth l i).id = id) : findP l id = some (nth l i) :=
  find_first h (fun k hk => by simpa using hno k hk) (by simpa using e)
theorem findP_none {l : List Port} {id : Int} (hno : ∀ k, k < l.length → (nth l k).id ≠ id) : findP l id = none :=
  find_none fun k hk => by simpa using hno k hk

theorem jitL_append (h : Int) : ∀ (l m : List Link), jitL h (l ++ m) = jitL h l + jitL h m
  | [], m => by simp [jitL]
  | v :: l, m => by simp only [List.cons_append, jitL, jitL_append h l m]; omega

theorem jitL_take (h : Int) (l : List Link) {i : Nat} (hi : i < l.length) : jitL h (l.take (i + 1)) = jitL h (l.take i) + (if (nth l i).host = h then (nth l i).smax + 20 else 0) := by
  rw [List.take_succ_eq_append_getElem hi, jitL_append, nth_eq hi]
  simp [jitL]

theorem jitL_bound (h : Int) (m : Int) (hm : 0 ≤ m) : ∀ (l : List Link), (∀ v ∈ l, 0 ≤ v.smax ∧ v.smax ≤ m) → 0 ≤ jitL h l ∧ jitL h l ≤ l.length * (m + 20)
  | [], _ => by simp [jitL]
  | v :: l, hl => by
    obtain ⟨h1, h2⟩ := jitL_bound h m hm l fun v hv => hl v (List.mem_cons_of_mem _ hv)
    obtain ⟨h3, h4⟩ := hl v (List.mem_cons_self ..)
    have h5 : ((v :: l).length : Int) * (m + 20) = l.length * (m + 20) + (m + 20) := by
      rw [List.length_cons, Int.natCast_add, Int.add_mul, Int.natCast_one, Int.one_mul]
    rw [h5]
    simp only [jitL]
    split <;> omega

end Go.Proofs.YtkmcbaihemaoeaaGreat
