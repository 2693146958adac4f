/- Rows of numbers that rise: sorted and each once, or put in one by one, is the same. -/
import Derived.Lib.RowBridge
set_option linter.unusedVariables false
namespace Go.Proofs.YtbhhmnfjjnnkiaaGreat

theorem rise_unique : ∀ {a b : List Int}, a.Pairwise (· < ·) → b.Pairwise (· < ·) → (∀ x, x ∈ a ↔ x ∈ b) → a = b
  | [], b, _, _, h => by
    cases b with
    | nil => rfl
    | cons y b => exact absurd ((h y).2 (List.mem_cons_self ..)) (by simp)
  | x :: a, [], _, _, h => absurd ((h x).1 (List.mem_cons_self ..)) (by simp)
  | x :: a, y :: b, ha, hb, h => by
    rw [List.pairwise_cons] at ha hb
    have hxy : x = y := by
      have h1 := (h x).1 (List.mem_cons_self ..)
      have h2 := (h y).2 (List.mem_cons_self ..)
      rw [List.mem_cons] at h1 h2
      rcases h1 with h1 | h1
      · exact h1
      · rcases h2 with h2 | h2
        · exact h2.symm
        · have := hb.1 x h1; have := ha.1 y h2; omega
    subst hxy
    congr 1
    refine rise_unique ha.2 hb.2 fun z => ⟨fun hz => ?_, fun hz => ?_⟩
    · have h1 := (h z).1 (List.mem_cons_of_mem _ hz)
      rw [List.mem_cons] at h1
      rcases h1 with rfl | h1
      · have := ha.1 z hz; omega
      · exact h1
    · have h1 := (h z).2 (List.mem_cons_of_mem _ hz)
      rw [List.mem_cons] at h1
      rcases h1 with rfl | h1
      · have := hb.1 z hz; omega
      · exact h1

theorem upTo_rises (d : Array Int) (hs : ∀ i j, i ≤ j → j < d.size → d[i]! ≤ d[j]!) : ∀ m, m ≤ d.size → (Lib.compactUpTo d m).Pairwise (· < ·) ∧ ∀ x, x ∈ Lib.compactUpTo d m ↔ ∃ j, j < m ∧ d[j]! = x
  | 0, _ => ⟨by simp [Lib.compactUpTo], by simp [Lib.compactUpTo]⟩
  | m + 1, hm => by
    obtain ⟨h1, h2⟩ := upTo_rises d hs m (by omega)
    rw [Lib.compactUpTo_succ]
    by_cases hk : Lib.keeps d m = true
    · rw [if_pos hk]
      simp only [Lib.keeps, decide_eq_true_eq] at hk
      refine ⟨List.pairwise_append.2 ⟨h1, List.pairwise_singleton .., fun a ha b hb => ?_⟩, fun x => ?_⟩
      · rw [List.mem_singleton] at hb
        subst hb
        obtain ⟨j, hj, rfl⟩ := (h2 a).1 ha
        have k1 := hs j (m - 1) (by omega) (by omega)
        have k2 := hs (m - 1) m (by omega) (by omega)
        have : d[m]! ≠ d[m - 1]! := by rcases hk with hk | hk; · omega
                                       · exact hk
        omega
      · rw [List.mem_append, h2, List.mem_singleton]
        constructor
        · rintro (⟨j, hj, e⟩ | rfl)
          · exact ⟨j, by omega, e⟩
          · exact ⟨m, by omega, rfl⟩
        · rintro ⟨j, hj, e⟩
          by_cases hjm : j = m
          · subst hjm; exact .inr e.symm
          · exact .inl ⟨j, by omega, e⟩
    · rw [if_neg hk, List.append_nil]
      simp only [Lib.keeps, decide_eq_true_eq, not_or, ne_eq, Decidable.not_not] at hk
      refine ⟨h1, fun x => ?_⟩
      rw [h2]
      constructor
      · rintro ⟨j, hj, e⟩
        exact ⟨j, by omega, e⟩
      · rintro ⟨j, hj, e⟩
        by_cases hjm : j = m
        · subst hjm; exact ⟨j - 1, by omega, by rw [← hk.2]; exact e⟩
        · exact ⟨j, by omega, e⟩

theorem compact_rises {zs : List Int} (hs : zs.Pairwise (· ≤ ·)) : (Lib.compact zs).Pairwise (· < ·) ∧ ∀ x, x ∈ Lib.compact zs ↔ x ∈ zs := by
  obtain ⟨h1, h2⟩ := upTo_rises zs.toArray (fun i j hij hj => by
    have hj : j < zs.length := by simpa using hj
    have hi : i < zs.length := by omega
    simp only [List.getElem!_toArray, getElem!_pos zs i hi, getElem!_pos zs j hj]
    rcases Nat.lt_or_ge i j with h | h
    · exact List.pairwise_iff_getElem.1 hs i j hi hj h
    · obtain rfl : i = j := by omega
      exact Int.le_refl _) zs.length (by simp)
  refine ⟨h1, fun x => ?_⟩
  show x ∈ Lib.compactUpTo zs.toArray zs.length ↔ _
  rw [h2, List.mem_iff_getElem]
  constructor
  · rintro ⟨j, hj, e⟩
    exact ⟨j, hj, by simpa [hj] using e⟩
  · rintro ⟨j, hj, e⟩
    exact ⟨j, hj, by simpa [hj] using e⟩

/-- A number put into a row that rises, if it is not there. -/
def putS (l : List Int) (n : Int) : List Int := l.filter (fun x => decide (x < n)) ++ [n] ++ l.filter (fun x => decide (n < x))
theorem putS_rises {l : List Int} {n : Int} (h : l.Pairwise (· < ·)) : (putS l n).Pairwise (· < ·) ∧ ∀ x, x ∈ putS l n ↔ x = n ∨ x ∈ l := by
  constructor
  · unfold putS
    refine List.pairwise_append.2 ⟨List.pairwise_append.2 ⟨h.filter _, List.pairwise_singleton .., fun a ha b hb => ?_⟩, h.filter _, fun a ha b hb => ?_⟩
    · simp only [List.mem_filter, decide_eq_true_eq, List.mem_singleton] at ha hb
      omega
    · simp only [List.mem_append, List.mem_filter, decide_eq_true_eq, List.mem_singleton] at ha hb
      omega
  · intro x
    simp only [putS, List.mem_append, List.mem_filter, decide_eq_true_eq, List.mem_singleton]
    constructor
    · rintro ((⟨h1, _⟩ | h1) | ⟨h1, _⟩)
      · exact .inr h1
      · exact .inl h1
      · exact .inr h1
    · rintro (h1 | h1)
      · exact .inl (.inr h1)
      · by_cases hx : x < n
        · exact .inl (.inl ⟨h1, hx⟩)
        · by_cases he : x = n
          · exact .inl (.inr he)
          · exact .inr ⟨h1, by omega⟩

theorem foldl_putS : ∀ (ids : List Int) {l : List Int}, l.Pairwise (· < ·) → (ids.foldl putS l).Pairwise (· < ·) ∧ ∀ x, x ∈ ids.foldl putS l ↔ x ∈ ids ∨ x ∈ l
  | [], l, h => ⟨h, by simp⟩
  | n :: ids, l, h => by
    obtain ⟨h1, h2⟩ := putS_rises (n := n) h
    obtain ⟨h3, h4⟩ := foldl_putS ids h1
    refine ⟨h3, fun x => ?_⟩
    rw [List.foldl_cons, h4, h2, List.mem_cons]
    constructor
    · rintro (h | h | h)
      · exact .inl (.inr h)
      · exact .inl (.inl h)
      · exact .inr h
    · rintro ((h | h) | h)
      · exact .inr (.inl h)
      · exact .inl h
      · exact .inr (.inr h)

/-- Sorted, and each once. -/
def riseS (ids : List Int) : List Int := Lib.compact (ids.mergeSort fun x y => decide (x ≤ y))
theorem riseS_rises (ids : List Int) : (riseS ids).Pairwise (· < ·) ∧ ∀ x, x ∈ riseS ids ↔ x ∈ ids := by
  have hs : (ids.mergeSort fun x y => decide (x ≤ y)).Pairwise (· ≤ ·) := by
    have := List.pairwise_mergeSort (le := fun (x y : Int) => decide (x ≤ y)) (fun a b c h1 h2 => by simp only [decide_eq_true_eq] at *; omega) (fun a b => by simp only [Bool.or_eq_true, decide_eq_true_eq]; omega) ids
    exact this.imp fun h => by simpa using h
  obtain ⟨h1, h2⟩ := compact_rises hs
  refine ⟨h1, fun x => ?_⟩
  show x ∈ Lib.compact _ ↔ _
  rw [h2, List.mem_mergeSort]
theorem riseS_fold (ids : List Int) : riseS ids = ids.foldl putS [] := by
  obtain ⟨h1, h2⟩ := riseS_rises ids
  obtain ⟨h3, h4⟩ := foldl_putS ids (l := []) List.Pairwise.nil
  exact rise_unique h1 h3 fun x => by rw [h2, h4]; simp
end Go.Proofs.YtbhhmnfjjnnkiaaGreat
