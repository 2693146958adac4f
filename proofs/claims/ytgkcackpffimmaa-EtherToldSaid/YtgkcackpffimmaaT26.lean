/- The T-machine, part 26: what an append answers where there is a right to it, and on the nil slice. -/
import Derived.Test.YtgkcackpffimmaaT25
set_option linter.unusedVariables false
set_option linter.unusedSimpArgs false
namespace Go.TM

theorem lt_of_get {α : Type} {σ : List α} {l : Nat} {x : α} (h : σ[l]? = some x) : l < σ.length := (List.getElem?_eq_some_iff.1 h).1
theorem set_same {α : Type} {l : List α} {k : Nat} {x : α} (h : l[k]? = some x) : l.set k x = l := by
  apply List.ext_getElem?
  intro m
  rw [List.getElem?_set]
  split
  · rename_i e
    subst e
    rw [if_pos (lt_of_get h), h]
  · rfl

section
variable {T : Tab} {st xt e : TypeId} {i j : TI} {z x : TV} {w : Bool} {σ : TS} {tk n k : Nat} {cs new : List TV}

theorem app_own (hT : T st = some i) (hk : i.k = .slice e) (hE : T e = some j) (hz : j.zero = some z) (hzl : z.cells.length = j.size) (hsrc : tsrc T σ j.size xt x = some (k, new)) (hone : new.all TV.one = true) (hlen : new.length = k * j.size)
    (hr : σ[tk]? = some (.right n j.size)) (hc : cs.length = n * j.size) (hb : (n + k) * j.bytes ≤ 140737488355328) (hb2 : n + k ≤ 9223372036854775807) :
    tappend T w σ st xt (.sl (some (tk, n)) n cs) x = some (.sl (some (tk, n + k)) (n + k) (cs ++ new), σ.set tk (.right (n + k) j.size)) := by
  unfold tappend
  simp only [hT, hk, hE, hz, hsrc]
  rw [if_pos ⟨hzl, hone, hlen⟩, if_pos hc]
  by_cases h0 : k = 0
  · subst h0
    rw [Nat.zero_mul] at hlen
    obtain rfl := List.eq_nil_of_length_eq_zero hlen
    rw [if_pos rfl, Nat.add_zero, List.append_nil, set_same hr]
  · rw [if_neg h0, if_pos ⟨hb, hb2⟩]
    simp only [hr, and_self, if_true]

theorem app_nil0 (hT : T st = some i) (hk : i.k = .slice e) (hE : T e = some j) (hz : j.zero = some z) (hzl : z.cells.length = j.size) (hsrc : tsrc T σ j.size xt x = some (0, new)) (hone : new.all TV.one = true) (hlen : new.length = 0 * j.size) :
    tappend T w σ st xt .nils x = some (.nils, σ) := by
  unfold tappend
  simp only [hT, hk, hE, hz, hsrc]
  rw [if_pos ⟨hzl, hone, hlen⟩]
  simp
theorem app_nil (hT : T st = some i) (hk : i.k = .slice e) (hE : T e = some j) (hz : j.zero = some z) (hzl : z.cells.length = j.size) (hsrc : tsrc T σ j.size xt x = some (k, new)) (hone : new.all TV.one = true) (hlen : new.length = k * j.size)
    (h0 : k ≠ 0) (hb : k * j.bytes ≤ 140737488355328) (hb2 : k ≤ 9223372036854775807) :
    tappend T true σ st xt .nils x = some (.sl (some (σ.length, k)) k new, σ ++ [.right k j.size]) := by
  unfold tappend
  simp only [hT, hk, hE, hz, hsrc]
  rw [if_pos ⟨hzl, hone, hlen⟩, if_neg h0, if_pos ⟨hb, hb2⟩]
  rfl

theorem src_sl {own : Option (Nat × Nat)} (hX : T xt = some i) (hk : i.k = .slice e) {sz : Nat} (hc : cs.length = n * sz) : tsrc T σ sz xt (.sl own n cs) = some (n, cs) := by
  unfold tsrc
  simp only [hX, hk, tslcells, tlen]
  rw [if_pos (by omega), List.take_of_length_le (by omega)]
theorem src_nils (hX : T xt = some i) (hk : i.k = .slice e) {sz : Nat} : tsrc T σ sz xt .nils = some (0, []) := by
  unfold tsrc
  simp only [hX, hk, tslcells, tlen]
  rw [if_pos (by simp)]
  simp
theorem src_row {α : Type} {f : α → List TV} {r : Row α} (hX : T xt = some i) (hk : i.k = .slice e) {sz : Nat} (hf : ∀ x, (f x).length = sz) : tsrc T σ sz xt (rowTV f r) = some (r.l.length, r.l.flatMap f) := by
  cases hn : r.nil with
  | true => rw [rowTV_nil hn, src_nils hX hk, r.ok hn]; rfl
  | false => rw [rowTV_some hn, src_sl hX hk (flat_length hf _)]
theorem src_str (hX : T xt = some i) (hk : i.k = .str) (s : ByteArray) : tsrc T σ 1 xt (.str s) = some (s.size, byteTVs s) := by
  unfold tsrc
  simp only [hX, hk, if_true]
end
theorem O_arrp {P : Program} {wn : List Tmp} {m : TL} {dst : Option Tmp} {σ : TS} {K : Option TV → TS → Prop} {t : TypeId} {x : Operand} {a : TV} (hx : ev m x = some a) (h : Res (tarrp (mkTab P) t a) fun v => K (some v) σ) : WO P wn m dst (.sliceToArrayPointer t x) σ K := by
  refine ⟨?_⟩
  simp only [tO, tOper, tOp, hx]
  exact res_v h.go
attribute [go_sem] tarrp
end Go.TM
