/- The T-machine, part 21: slices that are read alone, as rows of data. -/
import Derived.Test.YtgkcackpffimmaaT20
set_option linter.unusedVariables false
set_option linter.unusedSimpArgs false
namespace Go.TM

/-- A slice's data: the nil one is empty. -/
structure Row (α : Type) where
  nil : Bool
  l : List α
  ok : nil = true → l = []

instance {α : Type} : Inhabited (Row α) := ⟨⟨true, [], fun _ => rfl⟩⟩

def Row.none {α : Type} : Row α := ⟨true, [], fun _ => rfl⟩
def Row.some {α : Type} (l : List α) : Row α := ⟨false, l, fun h => by cases h⟩
/-- A row's first ones, its later ones. -/
def Row.cut {α : Type} (r : Row α) (lo hi : Nat) : Row α := ⟨r.nil, (r.l.take hi).drop lo, fun h => by rw [r.ok h]; simp⟩

def rowTV {α : Type} (f : α → List TV) (r : Row α) : TV := if r.nil then .nils else .sl none r.l.length (r.l.flatMap f)

section
variable {α : Type} {f : α → List TV} {r : Row α} {T : Tab} {t e : TypeId} {i j : TI} {k : Nat}

theorem rowTV_nil (h : r.nil = true) : rowTV f r = .nils := by unfold rowTV; rw [if_pos h]
theorem rowTV_some (h : r.nil = false) : rowTV f r = .sl none r.l.length (r.l.flatMap f) := by unfold rowTV; rw [if_neg (by rw [h]; simp)]
theorem rowTV_mk (l : List α) : rowTV f (Row.some l) = .sl none l.length (l.flatMap f) := rfl
theorem rowTV_none : rowTV f Row.none = .nils := rfl

theorem rowTV_one : (rowTV f r).one = true := by unfold rowTV; split <;> rfl
theorem rowTV_cells : (rowTV f r).cells = [rowTV f r] := by unfold rowTV; split <;> rfl
theorem rowTV_fits {n : Nat} (hf : ∀ x, TV.fitsL n (f x) = true) : TV.fits n (rowTV f r) = true := by
  unfold rowTV
  split
  · rfl
  · simp only [TV.fits, Bool.true_and]
    induction r.l with
    | nil => rfl
    | cons x xs ih =>
      rw [List.flatMap_cons]
      have happ : ∀ (a b : List TV), TV.fitsL n a = true → TV.fitsL n b = true → TV.fitsL n (a ++ b) = true := by
        intro a b ha hb
        induction a with
        | nil => exact hb
        | cons y ys ih =>
          simp only [TV.fitsL, Bool.and_eq_true, List.cons_append] at ha ⊢
          exact ⟨ha.1, ih ha.2⟩
      exact happ _ _ (hf x) ih
theorem rowTV_bare : (rowTV f r).bare = rowTV f r := by unfold rowTV; split <;> rfl
theorem rowTV_bare1 : (rowTV f r).bare1 = rowTV f r := by unfold rowTV; split <;> rfl
theorem rowTV_free : (rowTV f r).free = rowTV f r := by unfold rowTV; split <;> rfl

theorem tlen_row (hT : T t = some i) (hk : i.k = .slice e) : tlenOp T t (rowTV f r) = some (.int .i64 r.l.length) := by
  cases hn : r.nil with
  | true =>
    rw [rowTV_nil hn, r.ok hn]
    unfold tlenOp
    simp only [hT, hk]
    rfl
  | false =>
    rw [rowTV_some hn]
    unfold tlenOp
    simp only [hT, hk]

theorem tix_row [Inhabited α] (hT : T t = some i) (hk : i.k = .slice e) (hE : T e = some j) (hf : ∀ x, (f x).length = j.size) (hj : 0 < j.size) {ik : IntKind} {n : Int} (h0 : 0 ≤ n) (h1 : n < r.l.length) :
    tindexAddr T t (rowTV f r) (.int ik n) = some (.cp (f (nth r.l n.toNat) ++ (r.l.drop (n.toNat + 1)).flatMap f)) := by
  have hn : r.nil = false := by
    cases hq : r.nil with
    | false => rfl
    | true => rw [r.ok hq] at h1; simp at h1; omega
  rw [rowTV_some hn]
  have hlt : n.toNat < r.l.length := by omega
  have hcl := flat_length hf r.l
  have hmul : n.toNat * j.size < (r.l.flatMap f).length := by
    rw [hcl]; exact Nat.mul_lt_mul_of_pos_right hlt hj
  unfold tindexAddr
  simp only [hT, hk, hE]
  rw [if_pos ⟨h0, h1, hmul⟩, flat_drop hf hlt]

theorem tslice_row (hT : T t = some i) (hk : i.k = .slice e) (hE : T e = some j) (hf : ∀ x, (f x).length = j.size) {lo hi : Nat} (h0 : lo ≤ hi) (h1 : hi ≤ r.l.length) :
    tslice T t (rowTV f r) (.some lo) (.some hi) .none = some (rowTV f (r.cut lo hi)) := by
  unfold tslice
  simp only [hT, hk]
  cases hn : r.nil with
  | true =>
    have hl := r.ok hn
    rw [hl] at h1
    simp at h1
    rw [rowTV_nil hn, rowTV_nil (r := r.cut lo hi) hn]
    have : lo = 0 := by omega
    subst this h1
    simp [hE]
  | false =>
    rw [rowTV_some hn, rowTV_some (r := r.cut lo hi) hn]
    have hcl := flat_length hf r.l
    have hle : hi * j.size ≤ r.l.length * j.size := Nat.mul_le_mul_right _ h1
    simp only [hE, Option.getD_some, Option.getD_none, Option.isSome_none, Bool.false_eq_true, false_implies, true_and]
    rw [if_pos ⟨h0, h1, Nat.le_refl _, by rw [hcl]; exact hle⟩]
    simp only [Row.cut]
    rw [flat_skip hf, flat_take hf, ite_self]
    congr 2
    · simp; omega
    · rw [List.drop_take]

theorem tslice_row_hi (hT : T t = some i) (hk : i.k = .slice e) (hE : T e = some j) (hf : ∀ x, (f x).length = j.size) {hi : Nat} (h1 : hi ≤ r.l.length) :
    tslice T t (rowTV f r) .none (.some hi) .none = some (rowTV f (r.cut 0 hi)) := by
  have := tslice_row (f := f) hT hk hE hf (Nat.zero_le hi) h1
  unfold tslice at this ⊢
  simpa only [Option.getD_some, Option.getD_none] using this

theorem tslice_row_lo (hT : T t = some i) (hk : i.k = .slice e) (hE : T e = some j) (hf : ∀ x, (f x).length = j.size) {lo : Nat} (h1 : lo ≤ r.l.length) :
    tslice T t (rowTV f r) (.some lo) .none .none = some (rowTV f (r.cut lo r.l.length)) := by
  rw [← tslice_row (f := f) hT hk hE hf h1 (Nat.le_refl _)]
  unfold tslice
  cases hn : r.nil with
  | true =>
    rw [rowTV_nil hn, r.ok hn]
    simp [hT, hk, hE]
  | false =>
    rw [rowTV_some hn]
    simp only [hT, hk, hE, Option.getD_some, Option.getD_none, Option.isSome_none, Bool.false_eq_true, false_implies]

theorem tslcells_row {σ : TS} : tslcells σ (rowTV f r) = some (r.l.flatMap f) := by
  unfold rowTV
  split
  · rename_i h
    rw [r.ok h]
    rfl
  · rfl
theorem tlenV_row : tlen (rowTV f r) = some r.l.length := by
  unfold rowTV
  split
  · rename_i h
    rw [r.ok h]
    rfl
  · rfl

theorem tlen_str (hT : T t = some i) (hk : i.k = .str) (s : ByteArray) : tlenOp T t (.str s) = some (.int .i64 s.size) := by
  unfold tlenOp
  simp only [hT, hk]
end

attribute [go_sem ↓] rowTV_one rowTV_cells tslcells_row tlenV_row rowTV_bare

/-- Numbers as cells. -/
abbrev intC (n : Int) : List TV := [.int .i64 n]

/-- What a row of a law's argument is. -/
theorem TyRow {T : Tab} {d : Nat} {t el : TypeId} {i j : TI} {a : TV} {α : Type} [Inhabited α] {f : α → List TV} {p : α → Prop} (e : T t = some i) (hk : i.k = .slice el) (e2 : T el = some j) (hf : ∀ x, (f x).length = j.size)
    (hel : ∀ cs, Ty T d el cs → cs.length = j.size → ∃ x, cs = f x ∧ p x) (h : TyV T (d + 1) t a) :
    ∃ r : Row α, a = rowTV f r ∧ r.l.length ≤ 9223372036854775807 ∧ ∀ x ∈ r.l, p x := by
  rcases TyV_slice e hk e2 h with rfl | ⟨len, xs, rfl, h1, h2, h3, h4⟩
  · exact ⟨Row.none, rfl, by simp [Row.none], by simp [Row.none]⟩
  · have key : ∀ (n : Nat) (xs : List TV), xs.length = n * j.size → (∀ i, i < n → Ty T d el ((xs.drop (i * j.size)).take j.size)) → ∃ l : List α, l.length = n ∧ xs = l.flatMap f ∧ ∀ x ∈ l, p x := by
      intro n
      induction n with
      | zero => intro xs hx _; exact ⟨[], rfl, by simpa using hx, by simp⟩
      | succ n ih =>
        intro xs hx hq
        have h0 := hq 0 (by omega)
        rw [Nat.zero_mul, List.drop_zero] at h0
        have hl : (xs.take j.size).length = j.size := by rw [List.length_take, hx, Nat.succ_mul]; omega
        obtain ⟨x, h5, h6⟩ := hel _ h0 hl
        obtain ⟨l, q1, q2, q3⟩ := ih (xs.drop j.size) (by rw [List.length_drop, hx, Nat.succ_mul]; omega) fun i hi => by
          have := hq (i + 1) (by omega)
          rw [List.drop_drop, Nat.add_comm, ← Nat.succ_mul]
          exact this
        refine ⟨x :: l, by simp [q1], ?_, ?_⟩
        · rw [List.flatMap_cons, ← q2, ← h5, List.take_append_drop]
        · intro y hy
          rcases List.mem_cons.1 hy with rfl | hy
          · exact h6
          · exact q3 y hy
    obtain ⟨l, q1, q2, q3⟩ := key len xs h2 h4
    exact ⟨Row.some l, by rw [rowTV_mk, q1, q2], by simpa [Row.some, q1] using h1, q3⟩

theorem ints_of {T : Tab} {d : Nat} {t : TypeId} {i : TI} {k : IntKind} (e : T t = some i) (hk : i.k = .int k) : ∀ cs, Ty T (d + 1) t cs → ∃ n, cs = [.int k n] ∧ k.min ≤ n ∧ n ≤ k.max := by
  intro cs h
  simp only [Ty, e, hk] at h
  exact h

end Go.TM
