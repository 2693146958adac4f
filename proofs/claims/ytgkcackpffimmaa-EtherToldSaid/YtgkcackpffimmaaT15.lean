/- The T-machine, part 15: what a law's arguments are, by their types. -/
import Derived.Test.YtgkcackpffimmaaT14
set_option linter.unusedVariables false
namespace Go.TM

theorem cells_one {a x : TV} (h : a.cells = [x]) (hn : a.isAggV = false) : a = x := by
  cases a <;> first | (simp only [TV.cells, List.cons.injEq, and_true] at h; exact h) | cases hn

section
variable {T : Tab} {d : Nat} {t : TypeId} {i : TI} {a : TV}

theorem TyV_str (e : T t = some i) (hk : i.k = .str) (h : TyV T (d + 1) t a) : ∃ s, a = .str s ∧ s.size ≤ 9223372036854775807 := by
  obtain ⟨h1, h2⟩ := h
  simp only [Ty, e, hk] at h1
  obtain ⟨s, hs, hz⟩ := h1
  exact ⟨s, cells_one hs (by rw [h2 i e, hk]; rfl), hz⟩

theorem TyV_int {k : IntKind} (e : T t = some i) (hk : i.k = .int k) (h : TyV T (d + 1) t a) : ∃ n, a = .int k n ∧ k.min ≤ n ∧ n ≤ k.max := by
  obtain ⟨h1, h2⟩ := h
  simp only [Ty, e, hk] at h1
  obtain ⟨s, hs, hz⟩ := h1
  exact ⟨s, cells_one hs (by rw [h2 i e, hk]; rfl), hz⟩

theorem TyV_bool (e : T t = some i) (hk : i.k = .bool) (h : TyV T (d + 1) t a) : ∃ b, a = .bool b := by
  obtain ⟨h1, h2⟩ := h
  simp only [Ty, e, hk] at h1
  obtain ⟨s, hs⟩ := h1
  exact ⟨s, cells_one hs (by rw [h2 i e, hk]; rfl)⟩

theorem TyV_slice {el : TypeId} {j : TI} (e : T t = some i) (hk : i.k = .slice el) (e2 : T el = some j) (h : TyV T (d + 1) t a) :
    a = .nils ∨ ∃ len xs, a = .sl none len xs ∧ len ≤ 9223372036854775807 ∧ xs.length = len * j.size ∧ xs.all TV.one = true ∧ ∀ i, i < len → Ty T d el ((xs.drop (i * j.size)).take j.size) := by
  obtain ⟨h1, h2⟩ := h
  have hn : a.isAggV = false := by rw [h2 i e, hk]; rfl
  simp only [Ty, e, hk, e2] at h1
  rcases h1 with h1 | ⟨len, xs, h1, h3, h4, h5, h6⟩
  · exact .inl (cells_one h1 hn)
  · exact .inr ⟨len, xs, cells_one h1 hn, h3, h4, h5, h6⟩

theorem row_of {α : Type} {f : α → TV} {p : α → Prop} : ∀ (n : Nat) (xs : List TV), xs.length = n → (∀ i, i < n → ∃ x, (xs.drop i).take 1 = [f x] ∧ p x) → ∃ ls : List α, ls.length = n ∧ xs = ls.map f ∧ ∀ x ∈ ls, p x
  | 0, xs, h, _ => ⟨[], rfl, by simpa using List.eq_nil_of_length_eq_zero h, by simp⟩
  | n + 1, [], h, _ => by simp at h
  | n + 1, x :: xs, h, k => by
    obtain ⟨y, hy, hp⟩ := k 0 (by omega)
    obtain ⟨ls, h1, h2, h3⟩ := row_of n xs (by simpa using h) fun i hi => by simpa using k (i + 1) (by omega)
    simp only [List.drop_zero, List.take_succ_cons, List.take_zero, List.cons.injEq, and_true] at hy
    refine ⟨y :: ls, by simp [h1], by rw [hy, h2]; rfl, ?_⟩
    intro z hz
    rcases List.mem_cons.1 hz with rfl | hz
    · exact hp
    · exact h3 z hz

theorem TyV_strs {el : TypeId} {j : TI} (e : T t = some i) (hk : i.k = .slice el) (e2 : T el = some j) (hj : j.k = .str) (hz : j.size = 1) (h : TyV T (d + 2) t a) :
    a = .nils ∨ ∃ ls : List ByteArray, a = .sl none ls.length (ls.map .str) ∧ ls.length ≤ 9223372036854775807 ∧ ∀ s ∈ ls, s.size ≤ 9223372036854775807 := by
  rcases TyV_slice e hk e2 h with h | ⟨len, xs, rfl, h1, h2, h3, h4⟩
  · exact .inl h
  · rw [hz, Nat.mul_one] at h2
    obtain ⟨ls, q1, q2, q3⟩ := row_of (f := TV.str) (p := fun s => s.size ≤ 9223372036854775807) len xs h2 fun i hi => by
      have := h4 i hi
      simp only [Ty, e2, hj, hz, Nat.mul_one] at this
      exact this
    exact .inr ⟨ls, by rw [q1, q2], by omega, q3⟩

theorem TyV_bytes {el : TypeId} {j : TI} (e : T t = some i) (hk : i.k = .slice el) (e2 : T el = some j) (hj : j.k = .int .u8) (hz : j.size = 1) (h : TyV T (d + 2) t a) :
    a = .nils ∨ ∃ ls : List UInt8, a = .sl none ls.length (ls.map fun b => .int .u8 b.toNat) ∧ ls.length ≤ 9223372036854775807 := by
  rcases TyV_slice e hk e2 h with h | ⟨len, xs, rfl, h1, h2, h3, h4⟩
  · exact .inl h
  · rw [hz, Nat.mul_one] at h2
    obtain ⟨ls, q1, q2, q3⟩ := row_of (f := fun b : UInt8 => TV.int .u8 b.toNat) (p := fun _ => True) len xs h2 fun i hi => by
      have := h4 i hi
      simp only [Ty, e2, hj, hz, Nat.mul_one] at this
      obtain ⟨n, q, q1, q2⟩ := this
      have q3 : (0 : Int) ≤ n := q1
      have q4 : n ≤ 255 := q2
      refine ⟨UInt8.ofNat n.toNat, ?_, trivial⟩
      rw [q]
      congr 2
      rw [UInt8.toNat_ofNat']
      omega
    exact .inr ⟨ls, by rw [q1, q2], by omega⟩
theorem TyAll_cons {ts : List TypeId} {tvs : List TV} (h : TyAll T d (t :: ts) tvs) : ∃ v vs, tvs = v :: vs ∧ TyV T d t v ∧ TyAll T d ts vs := by
  cases tvs with
  | nil => exact h.elim
  | cons v vs => exact ⟨v, vs, rfl, h.1, h.2⟩
theorem TyAll_nil {tvs : List TV} (h : TyAll T d [] tvs) : tvs = [] := by
  cases tvs with
  | nil => rfl
  | cons v vs => exact h.elim
end

end Go.TM
