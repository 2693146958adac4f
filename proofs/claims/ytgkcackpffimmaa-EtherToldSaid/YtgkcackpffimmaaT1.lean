/- The T-machine, part 1: trees of values (TV), the small heap (TS), and how they stand to a world of the model: the relation VR of values, WR of worlds, and that both stay when the ghost grows (Ext). It proves nothing of a Go program by itself. -/
import Derived.WalkKit
import Derived.Below
import Derived.Deep.AppendSrc
import Derived.Deep.MidRow
import Derived.KernelRfl
set_option linter.unusedVariables false
namespace Go.TM
open Go.RowKit (Below)

inductive TV where
  | int (k : IntKind) (n : Int)
  | bool (b : Bool)
  | str (s : ByteArray)
  | ptr (l off : Nat)
  | nilp
  | cp (cs : List TV)
  | sl (own : Option (Nat × Nat)) (len : Nat) (cs : List TV)
  | nils
  | msl (l off len : Nat)
  | map (l : Nat)
  | nilm
  | func (fn : Fn) (first captured : List TV)
  | nilf
  | iface (t : TypeId) (v : TV)
  | nili
  | agg (cs : List TV)
  | tup (vs : List TV)
deriving Inhabited

structure TEntry where
  key : TV
  val : TV
  born : Nat

inductive TObj where
  | cells (cs : List TV)
  | right (tip sz : Nat)
  | map (es : List TEntry) (clock : Nat)
  | iter (m : Option Nat) (since : Nat) (seen : Array Nat) (stepped : Nat)
  | dead

abbrev TS := List TObj

structure G where
  w0 : World
  ρ : Nat → Option Nat
  κ : Nat → Nat → Option Value
  ω : Nat → Option (Nat × Nat × Nat)

def Kept (g : G) (b o : Nat) (vs : List Value) : Prop := ∀ i v, vs[i]? = some v → g.κ b (o + i) = some v

/-- What a slice with a right to append is: token, its end; where the token says the tip is there, the spare cells are as the ghost tells. -/
def Own (g : G) (σ : TS) (own : Option (Nat × Nat)) (a : Addr) (cells spare : Nat) : Prop :=
  match own with
  | none => True
  | some (t, e) => ∃ k sz, σ[t]? = some (.right k sz) ∧ e ≤ k ∧ (e = k → ∃ b x, g.ω t = some (b, x, spare) ∧ (spare ≠ 0 → b = a.block ∧ x = a.off + cells ∧ a.spot = none))

mutual
def VR (g : G) (σ : TS) : TV → Value → Prop
  | .int k n, v => v = .int k n
  | .bool b, v => v = .bool b
  | .str s, v => v = .string s
  | .ptr l o, v => ∃ b, g.ρ l = some b ∧ v = .pointer (some ⟨b, o, none⟩)
  | .nilp, v => v = .pointer none
  | .cp cs, v => ∃ b o vs, v = .pointer (some ⟨b, o, none⟩) ∧ Kept g b o vs ∧ VRL g σ cs vs
  | .sl own len cs, v => ∃ a cap vs, v = .slice (some a) len cap ∧ len ≤ cap ∧ Kept g a.block a.off vs ∧ (a.spot = none ∨ vs = []) ∧ VRL g σ cs vs ∧ Own g σ own a vs.length (cap - len)
  | .nils, v => v = .slice none 0 0
  | .msl l o len, v => ∃ b cap, g.ρ l = some b ∧ v = .slice (some ⟨b, o, none⟩) len cap ∧ len ≤ cap
  | .map l, v => ∃ b, g.ρ l = some b ∧ v = .map (some b)
  | .nilm, v => v = .map none
  | .func f xs ys, v => ∃ us vs, v = .func f us vs ∧ VRL g σ xs us.toList ∧ VRL g σ ys vs.toList
  | .nilf, v => v = .nilFunc
  | .iface t x, v => ∃ u, v = .iface t u ∧ VR g σ x u
  | .nili, v => v = .nilIface
  | .agg cs, v => ∃ us, v = .agg us ∧ VRL g σ cs us.toList
  | .tup cs, v => ∃ us, v = .tuple us ∧ VRL g σ cs us.toList
def VRL (g : G) (σ : TS) : List TV → List Value → Prop
  | [], vs => vs = []
  | x :: xs, vs => ∃ v rest, vs = v :: rest ∧ VR g σ x v ∧ VRL g σ xs rest
end

/-- The ghost grows: what was told of places, of kept cells and of tips stays. -/
structure Ext (g : G) (σ : TS) (g' : G) (σ' : TS) : Prop where
  w0 : g'.w0 = g.w0
  ρ : ∀ l b, g.ρ l = some b → g'.ρ l = some b
  κ : ∀ b o v, g.κ b o = some v → g'.κ b o = some v
  tip : ∀ t k sz, σ[t]? = some (.right k sz) → ∃ k', σ'[t]? = some (.right k' sz) ∧ (k < k' ∨ (k' = k ∧ g'.ω t = g.ω t))
  len : σ.length ≤ σ'.length
  back : ∀ l, l < σ.length → g'.ρ l = g.ρ l

theorem Ext.refl (g : G) (σ : TS) : Ext g σ g σ := ⟨rfl, fun _ _ h => h, fun _ _ _ h => h, fun _ k _ h => ⟨k, h, .inr ⟨rfl, rfl⟩⟩, Nat.le_refl _, fun _ _ => rfl⟩

theorem Ext.trans {g1 g2 g3 : G} {s1 s2 s3 : TS} (h : Ext g1 s1 g2 s2) (k : Ext g2 s2 g3 s3) : Ext g1 s1 g3 s3 := by
  refine ⟨k.w0.trans h.w0, fun l b e => k.ρ l b (h.ρ l b e), fun b o v e => k.κ b o v (h.κ b o v e), fun t x sz e => ?_, Nat.le_trans h.len k.len, fun l hl => (k.back l (Nat.lt_of_lt_of_le hl h.len)).trans (h.back l hl)⟩
  obtain ⟨y, hy, hh⟩ := h.tip t x sz e
  obtain ⟨z, hz, hk⟩ := k.tip t y sz hy
  refine ⟨z, hz, ?_⟩
  rcases hh with hh | ⟨rfl, ho⟩
  · rcases hk with hk | ⟨rfl, _⟩
    · exact .inl (by omega)
    · exact .inl hh
  · rcases hk with hk | ⟨rfl, ho'⟩
    · exact .inl hk
    · exact .inr ⟨rfl, ho'.trans ho⟩

theorem Kept.mono {g g' : G} {σ σ' : TS} (h : Ext g σ g' σ') {b o : Nat} {vs : List Value} (hk : Kept g b o vs) : Kept g' b o vs :=
  fun i v e => h.κ _ _ _ (hk i v e)

theorem Own.mono {g g' : G} {σ σ' : TS} (h : Ext g σ g' σ') {own : Option (Nat × Nat)} {a : Addr} {c s : Nat} (ho : Own g σ own a c s) : Own g' σ' own a c s := by
  match own, ho with
  | none, _ => trivial
  | some (t, e), ⟨k, sz, hk, hle, ht⟩ =>
    obtain ⟨k', hk', hh⟩ := h.tip t k sz hk
    refine ⟨k', sz, hk', ?_, ?_⟩
    · rcases hh with hh | ⟨rfl, _⟩
      · omega
      · exact hle
    · intro he
      rcases hh with hh | ⟨rfl, ho'⟩
      · omega
      · rw [ho']; exact ht he

mutual
theorem VR.mono {g g' : G} {σ σ' : TS} (h : Ext g σ g' σ') : ∀ (tv : TV) (v : Value), VR g σ tv v → VR g' σ' tv v
  | .int .., _, e => by simpa only [VR] using e
  | .bool .., _, e => by simpa only [VR] using e
  | .str .., _, e => by simpa only [VR] using e
  | .ptr .., _, e => by
    simp only [VR] at e ⊢
    obtain ⟨b, hb, hv⟩ := e
    exact ⟨b, h.ρ _ _ hb, hv⟩
  | .nilp, _, e => by simpa only [VR] using e
  | .cp cs, _, e => by
    simp only [VR] at e ⊢
    obtain ⟨b, o, vs, hv, hk, hl⟩ := e
    exact ⟨b, o, vs, hv, hk.mono h, VRL.mono h cs vs hl⟩
  | .sl own len cs, _, e => by
    simp only [VR] at e ⊢
    obtain ⟨a, cap, vs, hv, hc, hk, hs, hl, ho⟩ := e
    exact ⟨a, cap, vs, hv, hc, hk.mono h, hs, VRL.mono h cs vs hl, ho.mono h⟩
  | .nils, _, e => by simpa only [VR] using e
  | .msl .., _, e => by
    simp only [VR] at e ⊢
    obtain ⟨b, cap, hb, hv⟩ := e
    exact ⟨b, cap, h.ρ _ _ hb, hv⟩
  | .map .., _, e => by
    simp only [VR] at e ⊢
    obtain ⟨b, hb, hv⟩ := e
    exact ⟨b, h.ρ _ _ hb, hv⟩
  | .nilm, _, e => by simpa only [VR] using e
  | .func f xs ys, _, e => by
    simp only [VR] at e ⊢
    obtain ⟨us, vs, hv, h1, h2⟩ := e
    exact ⟨us, vs, hv, VRL.mono h xs _ h1, VRL.mono h ys _ h2⟩
  | .nilf, _, e => by simpa only [VR] using e
  | .iface t x, _, e => by
    simp only [VR] at e ⊢
    obtain ⟨u, hv, hx⟩ := e
    exact ⟨u, hv, VR.mono h x u hx⟩
  | .nili, _, e => by simpa only [VR] using e
  | .agg cs, _, e => by
    simp only [VR] at e ⊢
    obtain ⟨us, hv, h1⟩ := e
    exact ⟨us, hv, VRL.mono h cs _ h1⟩
  | .tup cs, _, e => by
    simp only [VR] at e ⊢
    obtain ⟨us, hv, h1⟩ := e
    exact ⟨us, hv, VRL.mono h cs _ h1⟩
theorem VRL.mono {g g' : G} {σ σ' : TS} (h : Ext g σ g' σ') : ∀ (xs : List TV) (vs : List Value), VRL g σ xs vs → VRL g' σ' xs vs
  | [], _, e => by simpa only [VRL] using e
  | x :: xs, _, e => by
    simp only [VRL] at e ⊢
    obtain ⟨v, rest, hv, hx, hr⟩ := e
    exact ⟨v, rest, hv, VR.mono h x v hx, VRL.mono h xs rest hr⟩
end

def EntriesR (g : G) (σ : TS) : List TEntry → List MapEntry → Prop
  | [], es => es = []
  | x :: xs, es => ∃ e rest, es = e :: rest ∧ VR g σ x.key e.key ∧ e.born = x.born ∧ VR g σ x.val e.val ∧ EntriesR g σ xs rest

theorem EntriesR.mono {g g' : G} {σ σ' : TS} (h : Ext g σ g' σ') : ∀ (xs : List TEntry) (es : List MapEntry), EntriesR g σ xs es → EntriesR g' σ' xs es
  | [], _, e => e
  | x :: xs, _, e => by
    obtain ⟨v, rest, hv, h1, h2, hx, hr⟩ := e
    exact ⟨v, rest, hv, VR.mono h _ _ h1, h2, VR.mono h _ _ hx, EntriesR.mono h xs rest hr⟩

/-- A thing of the small heap and the block that it is. -/
def ObjOk (g : G) (σ : TS) (w : World) (b : Nat) : Option TObj → Prop
  | some (.cells cs) => ∃ c e fz vs rest, w.heap[b]? = some (.cells c e fz) ∧ c.toList = vs ++ rest ∧ (∀ o, o < vs.length → ¬ (fz.1 ≤ o ∧ o < fz.2)) ∧ (∀ v ∈ vs, v.oneCell' = true) ∧ VRL g σ cs vs
  | some (.map es clock) => ∃ entries, w.heap[b]? = some (.map entries clock) ∧ EntriesR g σ es entries.toList
  | some (.iter m since seen stepped) => ∃ m', w.heap[b]? = some (.mapIter m' since seen stepped) ∧ (match m with | none => m' = none | some l => ∃ mb, g.ρ l = some mb ∧ m' = some mb)
  | _ => True

theorem ObjOk.ghost {g g' : G} {σ σ' : TS} (h : Ext g σ g' σ') {w : World} {b : Nat} : ∀ {o : Option TObj}, ObjOk g σ w b o → ObjOk g' σ' w b o
  | some (.cells cs), ⟨c, e, fz, vs, rest, h1, h2, h3, h4, h5⟩ => ⟨c, e, fz, vs, rest, h1, h2, h3, h4, VRL.mono h _ _ h5⟩
  | some (.map es clock), ⟨entries, h1, h2⟩ => ⟨entries, h1, EntriesR.mono h _ _ h2⟩
  | some (.iter none _ _ _), ⟨m', h1, h2⟩ => ⟨m', h1, h2⟩
  | some (.iter (some l) _ _ _), ⟨m', h1, ⟨mb, h2, h3⟩⟩ => ⟨m', h1, ⟨mb, h.ρ _ _ h2, h3⟩⟩
  | some (.right _ _), _ => trivial
  | some .dead, _ => trivial
  | none, _ => trivial

theorem ObjOk.world {g : G} {σ : TS} {w w' : World} {b : Nat} (hb : w'.heap[b]? = w.heap[b]?) : ∀ {o : Option TObj}, ObjOk g σ w b o → ObjOk g σ w' b o
  | some (.cells cs), ⟨c, e, fz, vs, rest, h1, h2⟩ => ⟨c, e, fz, vs, rest, hb.trans h1, h2⟩
  | some (.map es clock), ⟨entries, h1, h2⟩ => ⟨entries, hb.trans h1, h2⟩
  | some (.iter _ _ _ _), ⟨m', h1, h2⟩ => ⟨m', hb.trans h1, h2⟩
  | some (.right _ _), _ => trivial
  | some .dead, _ => trivial
  | none, _ => trivial

/-- A world that stands to a small heap. -/
structure WR (g : G) (σ : TS) (w : World) : Prop where
  below : Below g.w0.heap.size g.w0 w
  keep : ∀ b o v, g.κ b o = some v → w.cell? ⟨b, o, none⟩ = some v ∧ v.oneCell' = true
  obj : ∀ l b, g.ρ l = some b → ObjOk g σ w b σ[l]?
  inj : ∀ l l' b, g.ρ l = some b → g.ρ l' = some b → l = l'
  new : ∀ l b, g.ρ l = some b → g.w0.heap.size ≤ b ∧ b < w.heap.size ∧ l < σ.length
  sep : ∀ l b, g.ρ l = some b → ∀ o, g.κ b o = none
  tok : ∀ t b e n, g.ω t = some (b, e, n) → g.w0.heap.size ≤ b ∧ b < w.heap.size ∧ ∃ k sz, σ[t]? = some (.right k sz) ∧
    ∀ j, j < n * sz → g.κ b (e + j) = none ∧ (w.cell? ⟨b, e + j, none⟩).isSome = true ∧ w.frozen? ⟨b, e + j, none⟩ = false
  tokinj : ∀ t t' b e n e' n', g.ω t = some (b, e, n) → g.ω t' = some (b, e', n') → t = t'
  toksep : ∀ t l b e n, g.ω t = some (b, e, n) → g.ρ l ≠ some b

theorem Below.drawn {B : Nat} {a w : World} (h : Below B a w) (n : Nat) : Below B a { w with drawn := n } := ⟨h.os, h.tape, h.output, h.size, h.block⟩

theorem WR.drawn {g : G} {σ : TS} {w : World} (h : WR g σ w) (n : Nat) : WR g σ { w with drawn := n } where
  below := Below.drawn h.below n
  keep := h.keep
  obj l b e := ObjOk.world (w := w) rfl (h.obj l b e)
  inj := h.inj
  new := h.new
  sep := h.sep
  tok := h.tok
  tokinj := h.tokinj
  toksep := h.toksep

theorem WR.drew {g : G} {σ : TS} {w : World} (h : WR g σ w) : WR g σ w.drew := h.drawn _

/-- New blocks alone, and what was there is as it was. -/
theorem WR.grow {g : G} {σ : TS} {w w' : World} (h : WR g σ w) (hb : Below w.heap.size w w') : WR g σ w' where
  below := by
    have h1 : g.w0.heap.size ≤ w.heap.size := h.below.size
    exact h.below.trans (hb.mono h1)
  keep b o v e := by
    obtain ⟨h1, h2⟩ := h.keep b o v e
    exact ⟨(hb.cell (p := ⟨b, o, none⟩) (World.block_lt_of_cell? w _ h1)).trans h1, h2⟩
  obj l b e := ObjOk.world (hb.block b (h.new l b e).2.1) (h.obj l b e)
  inj := h.inj
  new l b e := ⟨(h.new l b e).1, Nat.lt_of_lt_of_le (h.new l b e).2.1 hb.size, (h.new l b e).2.2⟩
  sep := h.sep
  tok t b e n ho := by
    obtain ⟨h1, h2, k, sz, h3, h4⟩ := h.tok t b e n ho
    refine ⟨h1, Nat.lt_of_lt_of_le h2 hb.size, k, sz, h3, fun j hj => ?_⟩
    obtain ⟨k1, k2, k3⟩ := h4 j hj
    exact ⟨k1, by rw [hb.cell (p := ⟨b, e + j, none⟩) h2]; exact k2, by rw [hb.frozen (p := ⟨b, e + j, none⟩) h2]; exact k3⟩
  tokinj := h.tokinj
  toksep := h.toksep

theorem WR.drew' {g : G} {σ : TS} {w : World} (h : WR g σ w) : WR g σ { w with drawn := w.drawn + 1 } := h.drawn _

end Go.TM
