/- The T-machine, part 1: trees of values (TV), the small heap (TS), and how they stand to a world of the model: the relation VR of values, WR of worlds, and that both stay when the ghost grows (Ext). It proves nothing of a Go program by itself. -/
import Derived.WalkKit
import Derived.Below
import Derived.Deep.AppendSrc
import Derived.Deep.MidRow
import Derived.KernelRfl
set_option linter.unusedSimpArgs false
set_option linter.unusedVariables false
namespace Go.TM
open Go.RowKit (Below)

inductive TV where
  | int (k : IntKind) (n : Int)
  | bool (b : Bool)
  | str (s : ByteArray)
  | ptr (l off : Nat)
  | nilp
  | cp (cs : List TV)
  | sl (own : Option (Nat × Nat)) (len : Nat) (cs : List TV)
  | nils
  | msl (l off len : Nat)
  | rp (l off : Nat)
  | rs (l off len sz : Nat)
  | map (l : Nat)
  | yl (l : Nat)
  | nilm
  | func (fn : Fn) (first captured : List TV)
  | nilf
  | iface (t : TypeId) (v : TV)
  | nili
  | agg (cs : List TV)
  | tup (vs : List TV)
deriving Inhabited

structure TEntry where
  key : TV
  val : TV
  born : Nat

inductive TObj where
  | cells (cs : List TV)
  | right (tip sz : Nat)
  | map (es : List TEntry) (clock : Nat)
  | iter (m : Option Nat) (since : Nat) (seen : Array Nat) (stepped : Nat)
  | row (cs : List TV)
  | dead
  | raw (o : Obj)
  | loop (m : List (Option TV)) (rec : Loop)

abbrev TS := List TObj

structure G where
  w0 : World
  ρ : Nat → Option Nat
  κ : Nat → Nat → Option Value
  ω : Nat → Option (Nat × Nat × Nat)
  ν : Nat → Option (Nat × Nat × Nat)

def Kept (g : G) (b o : Nat) (vs : List Value) : Prop := ∀ i v, vs[i]? = some v → g.κ b (o + i) = some v

/-- What a slice with a right to append is: token, its end; where the token says the tip is there, the spare cells are as the ghost tells. -/
def Own (g : G) (σ : TS) (own : Option (Nat × Nat)) (a : Addr) (cells spare : Nat) : Prop :=
  match own with
  | none => True
  | some (t, e) => ∃ k sz, σ[t]? = some (.right k sz) ∧ e ≤ k ∧ (e = k → ∃ b x, g.ω t = some (b, x, spare) ∧ (spare ≠ 0 → b = a.block ∧ x = a.off + cells ∧ a.spot = none))

mutual
def VR (g : G) (σ : TS) : TV → Value → Prop
  | .int k n, v => v = .int k n
  | .bool b, v => v = .bool b
  | .str s, v => v = .string s
  | .ptr l o, v => ∃ b, g.ρ l = some b ∧ v = .pointer (some ⟨b, o, none⟩)
  | .nilp, v => v = .pointer none
  | .cp cs, v => ∃ b o vs, v = .pointer (some ⟨b, o, none⟩) ∧ Kept g b o vs ∧ VRL g σ cs vs
  | .sl own len cs, v => ∃ a cap vs, v = .slice (some a) len cap ∧ len ≤ cap ∧ Kept g a.block a.off vs ∧ (a.spot = none ∨ vs = []) ∧ VRL g σ cs vs ∧ Own g σ own a vs.length (cap - len)
  | .nils, v => v = .slice none 0 0
  | .msl l o len, v => ∃ b cap, g.ρ l = some b ∧ v = .slice (some ⟨b, o, none⟩) len cap ∧ len ≤ cap
  | .rp l o, v => l < σ.length ∧ ∃ b o', v = .pointer (some ⟨b, o', none⟩) ∧ ∀ cs, σ[l]? = some (.row cs) → ∃ base n, g.ν l = some (b, base, n) ∧ o' = base + o
  | .rs l o len sz, v => l < σ.length ∧ ∃ b o' cap, v = .slice (some ⟨b, o', none⟩) len cap ∧ len ≤ cap ∧ ∀ cs, σ[l]? = some (.row cs) → ∃ base n, g.ν l = some (b, base, n) ∧ (cap ≠ 0 → o' = base + o) ∧ o + cap * sz ≤ n
  | .map l, v => ∃ b, g.ρ l = some b ∧ v = .map (some b)
  | .yl l, v => ∃ b, g.ρ l = some b ∧ v = .func (.yield b) #[] #[]
  | .nilm, v => v = .map none
  | .func f xs ys, v => ∃ us vs, v = .func f us vs ∧ VRL g σ xs us.toList ∧ VRL g σ ys vs.toList
  | .nilf, v => v = .nilFunc
  | .iface t x, v => ∃ u, v = .iface t u ∧ VR g σ x u
  | .nili, v => v = .nilIface
  | .agg cs, v => ∃ us, v = .agg us ∧ VRL g σ cs us.toList
  | .tup cs, v => ∃ us, v = .tuple us ∧ VRL g σ cs us.toList
def VRL (g : G) (σ : TS) : List TV → List Value → Prop
  | [], vs => vs = []
  | x :: xs, vs => ∃ v rest, vs = v :: rest ∧ VR g σ x v ∧ VRL g σ xs rest
end

/-- The ghost grows: what was told of places, of kept cells and of tips stays. -/
structure Ext (g : G) (σ : TS) (g' : G) (σ' : TS) : Prop where
  w0 : g'.w0 = g.w0
  ρ : ∀ l b, g.ρ l = some b → g'.ρ l = some b
  κ : ∀ b o v, g.κ b o = some v → g'.κ b o = some v
  tip : ∀ t k sz, σ[t]? = some (.right k sz) → ∃ k', σ'[t]? = some (.right k' sz) ∧ (k < k' ∨ (k' = k ∧ g'.ω t = g.ω t))
  len : σ.length ≤ σ'.length
  back : ∀ l, l < σ.length → g'.ρ l = g.ρ l
  row : ∀ l cs, l < σ.length → σ'[l]? = some (.row cs) → ∃ cs0, σ[l]? = some (.row cs0) ∧ g'.ν l = g.ν l

theorem Ext.refl (g : G) (σ : TS) : Ext g σ g σ := ⟨rfl, fun _ _ h => h, fun _ _ _ h => h, fun _ k _ h => ⟨k, h, .inr ⟨rfl, rfl⟩⟩, Nat.le_refl _, fun _ _ => rfl, fun l cs _ h => ⟨cs, h, rfl⟩⟩

theorem Ext.trans {g1 g2 g3 : G} {s1 s2 s3 : TS} (h : Ext g1 s1 g2 s2) (k : Ext g2 s2 g3 s3) : Ext g1 s1 g3 s3 := by
  refine ⟨k.w0.trans h.w0, fun l b e => k.ρ l b (h.ρ l b e), fun b o v e => k.κ b o v (h.κ b o v e), fun t x sz e => ?_, Nat.le_trans h.len k.len, fun l hl => (k.back l (Nat.lt_of_lt_of_le hl h.len)).trans (h.back l hl), fun l cs hl e => by
    obtain ⟨c1, e1, n1⟩ := k.row l cs (Nat.lt_of_lt_of_le hl h.len) e
    obtain ⟨c0, e0, n0⟩ := h.row l c1 hl e1
    exact ⟨c0, e0, n1.trans n0⟩⟩
  obtain ⟨y, hy, hh⟩ := h.tip t x sz e
  obtain ⟨z, hz, hk⟩ := k.tip t y sz hy
  refine ⟨z, hz, ?_⟩
  rcases hh with hh | ⟨rfl, ho⟩
  · rcases hk with hk | ⟨rfl, _⟩
    · exact .inl (by omega)
    · exact .inl hh
  · rcases hk with hk | ⟨rfl, ho'⟩
    · exact .inl hk
    · exact .inr ⟨rfl, ho'.trans ho⟩

theorem Kept.mono {g g' : G} {σ σ' : TS} (h : Ext g σ g' σ') {b o : Nat} {vs : List Value} (hk : Kept g b o vs) : Kept g' b o vs :=
  fun i v e => h.κ _ _ _ (hk i v e)

theorem Own.mono {g g' : G} {σ σ' : TS} (h : Ext g σ g' σ') {own : Option (Nat × Nat)} {a : Addr} {c s : Nat} (ho : Own g σ own a c s) : Own g' σ' own a c s := by
  match own, ho with
  | none, _ => trivial
  | some (t, e), ⟨k, sz, hk, hle, ht⟩ =>
    obtain ⟨k', hk', hh⟩ := h.tip t k sz hk
    refine ⟨k', sz, hk', ?_, ?_⟩
    · rcases hh with hh | ⟨rfl, _⟩
      · omega
      · exact hle
    · intro he
      rcases hh with hh | ⟨rfl, ho'⟩
      · omega
      · rw [ho']; exact ht he

mutual
theorem VR.mono {g g' : G} {σ σ' : TS} (h : Ext g σ g' σ') : ∀ (tv : TV) (v : Value), VR g σ tv v → VR g' σ' tv v
  | .int .., _, e => by simpa only [VR] using e
  | .bool .., _, e => by simpa only [VR] using e
  | .str .., _, e => by simpa only [VR] using e
  | .ptr .., _, e => by
    simp only [VR] at e ⊢
    obtain ⟨b, hb, hv⟩ := e
    exact ⟨b, h.ρ _ _ hb, hv⟩
  | .nilp, _, e => by simpa only [VR] using e
  | .cp cs, _, e => by
    simp only [VR] at e ⊢
    obtain ⟨b, o, vs, hv, hk, hl⟩ := e
    exact ⟨b, o, vs, hv, hk.mono h, VRL.mono h cs vs hl⟩
  | .sl own len cs, _, e => by
    simp only [VR] at e ⊢
    obtain ⟨a, cap, vs, hv, hc, hk, hs, hl, ho⟩ := e
    exact ⟨a, cap, vs, hv, hc, hk.mono h, hs, VRL.mono h cs vs hl, ho.mono h⟩
  | .nils, _, e => by simpa only [VR] using e
  | .msl .., _, e => by
    simp only [VR] at e ⊢
    obtain ⟨b, cap, hb, hv⟩ := e
    exact ⟨b, cap, h.ρ _ _ hb, hv⟩
  | .rp l o, _, e => by
    simp only [VR] at e ⊢
    obtain ⟨hl, b, o', hv, hr⟩ := e
    refine ⟨Nat.lt_of_lt_of_le hl h.len, b, o', hv, fun cs q => ?_⟩
    obtain ⟨c0, e0, n0⟩ := h.row l cs hl q
    rw [n0]; exact hr c0 e0
  | .rs l o len sz, _, e => by
    simp only [VR] at e ⊢
    obtain ⟨hl, b, o', cap, hv, hc, hr⟩ := e
    refine ⟨Nat.lt_of_lt_of_le hl h.len, b, o', cap, hv, hc, fun cs q => ?_⟩
    obtain ⟨c0, e0, n0⟩ := h.row l cs hl q
    rw [n0]; exact hr c0 e0
  | .map .., _, e => by
    simp only [VR] at e ⊢
    obtain ⟨b, hb, hv⟩ := e
    exact ⟨b, h.ρ _ _ hb, hv⟩
  | .yl .., _, e => by
    simp only [VR] at e ⊢
    obtain ⟨b, hb, hv⟩ := e
    exact ⟨b, h.ρ _ _ hb, hv⟩
  | .nilm, _, e => by simpa only [VR] using e
  | .func f xs ys, _, e => by
    simp only [VR] at e ⊢
    obtain ⟨us, vs, hv, h1, h2⟩ := e
    exact ⟨us, vs, hv, VRL.mono h xs _ h1, VRL.mono h ys _ h2⟩
  | .nilf, _, e => by simpa only [VR] using e
  | .iface t x, _, e => by
    simp only [VR] at e ⊢
    obtain ⟨u, hv, hx⟩ := e
    exact ⟨u, hv, VR.mono h x u hx⟩
  | .nili, _, e => by simpa only [VR] using e
  | .agg cs, _, e => by
    simp only [VR] at e ⊢
    obtain ⟨us, hv, h1⟩ := e
    exact ⟨us, hv, VRL.mono h cs _ h1⟩
  | .tup cs, _, e => by
    simp only [VR] at e ⊢
    obtain ⟨us, hv, h1⟩ := e
    exact ⟨us, hv, VRL.mono h cs _ h1⟩
theorem VRL.mono {g g' : G} {σ σ' : TS} (h : Ext g σ g' σ') : ∀ (xs : List TV) (vs : List Value), VRL g σ xs vs → VRL g' σ' xs vs
  | [], _, e => by simpa only [VRL] using e
  | x :: xs, _, e => by
    simp only [VRL] at e ⊢
    obtain ⟨v, rest, hv, hx, hr⟩ := e
    exact ⟨v, rest, hv, VR.mono h x v hx, VRL.mono h xs rest hr⟩
end

def EntriesR (g : G) (σ : TS) : List TEntry → List MapEntry → Prop
  | [], es => es = []
  | x :: xs, es => ∃ e rest, es = e :: rest ∧ VR g σ x.key e.key ∧ e.born = x.born ∧ VR g σ x.val e.val ∧ EntriesR g σ xs rest

theorem EntriesR.mono {g g' : G} {σ σ' : TS} (h : Ext g σ g' σ') : ∀ (xs : List TEntry) (es : List MapEntry), EntriesR g σ xs es → EntriesR g' σ' xs es
  | [], _, e => e
  | x :: xs, _, e => by
    obtain ⟨v, rest, hv, h1, h2, hx, hr⟩ := e
    exact ⟨v, rest, hv, VR.mono h _ _ h1, h2, VR.mono h _ _ hx, EntriesR.mono h xs rest hr⟩

/-- The temporaries that a loop's record bears, as trees. -/
def LoopOk (g : G) (σ : TS) (m : List (Option TV)) (tmps : Array Value) : Prop :=
  m.length = tmps.size ∧ ∀ (t : Nat) (tv : TV), m[t]? = some (some tv) → ∃ v, tmps[t]? = some v ∧ VR g σ tv v
theorem LoopOk.mono {g g' : G} {σ σ' : TS} (h : Ext g σ g' σ') {m : List (Option TV)} {tmps : Array Value} (hm : LoopOk g σ m tmps) : LoopOk g' σ' m tmps :=
  ⟨hm.1, fun t tv e => let ⟨v, h1, h2⟩ := hm.2 t tv e; ⟨v, h1, VR.mono h _ _ h2⟩⟩

/-- A thing of the small heap and the block that it is. -/
def ObjOk (g : G) (σ : TS) (w : World) (b : Nat) : Option TObj → Prop
  | some (.cells cs) => ∃ c e fz vs rest, w.heap[b]? = some (.cells c e fz) ∧ c.toList = vs ++ rest ∧ (∀ o, o < vs.length → ¬ (fz.1 ≤ o ∧ o < fz.2)) ∧ (∀ v ∈ vs, v.oneCell' = true) ∧ VRL g σ cs vs
  | some (.map es clock) => ∃ entries, w.heap[b]? = some (.map entries clock) ∧ EntriesR g σ es entries.toList
  | some (.iter m since seen stepped) => ∃ m', w.heap[b]? = some (.mapIter m' since seen stepped) ∧ (match m with | none => m' = none | some l => ∃ mb, g.ρ l = some mb ∧ m' = some mb)
  | some (.raw o) => w.heap[b]? = some o
  | some (.loop m rec) => ∃ tmps, w.heap[b]? = some (.loop { rec with tmps := tmps }) ∧ LoopOk g σ m tmps
  | _ => True

theorem ObjOk.ghost {g g' : G} {σ σ' : TS} (h : Ext g σ g' σ') {w : World} {b : Nat} : ∀ {o : Option TObj}, ObjOk g σ w b o → ObjOk g' σ' w b o
  | some (.cells cs), ⟨c, e, fz, vs, rest, h1, h2, h3, h4, h5⟩ => ⟨c, e, fz, vs, rest, h1, h2, h3, h4, VRL.mono h _ _ h5⟩
  | some (.map es clock), ⟨entries, h1, h2⟩ => ⟨entries, h1, EntriesR.mono h _ _ h2⟩
  | some (.iter none _ _ _), ⟨m', h1, h2⟩ => ⟨m', h1, h2⟩
  | some (.iter (some l) _ _ _), ⟨m', h1, ⟨mb, h2, h3⟩⟩ => ⟨m', h1, ⟨mb, h.ρ _ _ h2, h3⟩⟩
  | some (.right _ _), _ => trivial
  | some (.row _), _ => trivial
  | some .dead, _ => trivial
  | some (.raw _), h1 => h1
  | some (.loop _ _), ⟨tmps, h1, h2⟩ => ⟨tmps, h1, LoopOk.mono h h2⟩
  | none, _ => trivial

theorem ObjOk.world {g : G} {σ : TS} {w w' : World} {b : Nat} (hb : w'.heap[b]? = w.heap[b]?) : ∀ {o : Option TObj}, ObjOk g σ w b o → ObjOk g σ w' b o
  | some (.cells cs), ⟨c, e, fz, vs, rest, h1, h2⟩ => ⟨c, e, fz, vs, rest, hb.trans h1, h2⟩
  | some (.map es clock), ⟨entries, h1, h2⟩ => ⟨entries, hb.trans h1, h2⟩
  | some (.iter _ _ _ _), ⟨m', h1, h2⟩ => ⟨m', hb.trans h1, h2⟩
  | some (.right _ _), _ => trivial
  | some (.row _), _ => trivial
  | some .dead, _ => trivial
  | some (.raw _), h => hb.trans h
  | some (.loop _ _), ⟨tmps, h1, h2⟩ => ⟨tmps, hb.trans h1, h2⟩
  | none, _ => trivial

/-- A row of its own and the cells that it has: nobody else knows the block. -/
structure RowOk (g : G) (σ : TS) (w : World) (b base n : Nat) (cs : List TV) : Prop where
  new : g.w0.heap.size ≤ b ∧ b < w.heap.size
  κ : ∀ o, g.κ b o = none
  ρ : ∀ l, g.ρ l ≠ some b
  ω : ∀ t e n, g.ω t ≠ some (b, e, n)
  cells : ∃ c e fz vs, w.heap[b]? = some (.cells c e fz) ∧ base + n ≤ c.size ∧ cs.length ≤ n ∧ (∀ j, j < n → ¬ (fz.1 ≤ base + j ∧ base + j < fz.2)) ∧ VRL g σ cs vs ∧ (∀ v ∈ vs, v.oneCell' = true) ∧ ∀ i v, vs[i]? = some v → c[base + i]? = some v

/-- A world that stands to a small heap. -/
structure WR (g : G) (σ : TS) (w : World) : Prop where
  below : Below g.w0.heap.size g.w0 w
  keep : ∀ b o v, g.κ b o = some v → w.cell? ⟨b, o, none⟩ = some v ∧ v.oneCell' = true
  obj : ∀ l b, g.ρ l = some b → ObjOk g σ w b σ[l]?
  inj : ∀ l l' b, g.ρ l = some b → g.ρ l' = some b → l = l'
  new : ∀ l b, g.ρ l = some b → g.w0.heap.size ≤ b ∧ b < w.heap.size ∧ l < σ.length
  sep : ∀ l b, g.ρ l = some b → ∀ o, g.κ b o = none
  tok : ∀ t b e n, g.ω t = some (b, e, n) → g.w0.heap.size ≤ b ∧ b < w.heap.size ∧ ∃ k sz, σ[t]? = some (.right k sz) ∧
    ∀ j, j < n * sz → g.κ b (e + j) = none ∧ (w.cell? ⟨b, e + j, none⟩).isSome = true ∧ w.frozen? ⟨b, e + j, none⟩ = false
  tokinj : ∀ t t' b e n e' n', g.ω t = some (b, e, n) → g.ω t' = some (b, e', n') → t = t'
  toksep : ∀ t l b e n, g.ω t = some (b, e, n) → g.ρ l ≠ some b
  row : ∀ l cs, σ[l]? = some (.row cs) → ∃ b base n, g.ν l = some (b, base, n) ∧ RowOk g σ w b base n cs
  rowinj : ∀ l l' cs cs' b x y x' y', σ[l]? = some (.row cs) → σ[l']? = some (.row cs') → g.ν l = some (b, x, y) → g.ν l' = some (b, x', y') → l = l'

theorem RowOk.world {g : G} {σ : TS} {w w' : World} {b base n : Nat} {cs : List TV} (h : RowOk g σ w b base n cs) (hb : w'.heap[b]? = w.heap[b]?) (hs : w.heap.size ≤ w'.heap.size) : RowOk g σ w' b base n cs where
  new := ⟨h.new.1, Nat.lt_of_lt_of_le h.new.2 hs⟩
  κ := h.κ
  ρ := h.ρ
  ω := h.ω
  cells := by obtain ⟨c, e, fz, vs, h1, h2⟩ := h.cells; exact ⟨c, e, fz, vs, hb.trans h1, h2⟩
theorem RowOk.ghost {g g' : G} {σ σ' : TS} {w : World} {b base n : Nat} {cs : List TV} (h : RowOk g σ w b base n cs) (hx : Ext g σ g' σ') (hκ : ∀ o, g'.κ b o = none) (hρ : ∀ l, g'.ρ l ≠ some b) (hω : ∀ t e n, g'.ω t ≠ some (b, e, n)) : RowOk g' σ' w b base n cs where
  new := by rw [hx.w0]; exact h.new
  κ := hκ
  ρ := hρ
  ω := hω
  cells := by obtain ⟨c, e, fz, vs, h1, h2, h3, h4, h5, h6⟩ := h.cells; exact ⟨c, e, fz, vs, h1, h2, h3, h4, VRL.mono hx _ _ h5, h6⟩

theorem Below.drawn {B : Nat} {a w : World} (h : Below B a w) (n : Nat) : Below B a { w with drawn := n } := ⟨h.os, h.tape, h.output, h.size, h.block⟩

theorem WR.drawn {g : G} {σ : TS} {w : World} (h : WR g σ w) (n : Nat) : WR g σ { w with drawn := n } where
  below := Below.drawn h.below n
  keep := h.keep
  obj l b e := ObjOk.world (w := w) rfl (h.obj l b e)
  inj := h.inj
  new := h.new
  sep := h.sep
  tok := h.tok
  tokinj := h.tokinj
  toksep := h.toksep
  row l cs e := by obtain ⟨b, base, n, h1, h2⟩ := h.row l cs e; exact ⟨b, base, n, h1, h2.world rfl (Nat.le_refl _)⟩
  rowinj := h.rowinj

theorem WR.drew {g : G} {σ : TS} {w : World} (h : WR g σ w) : WR g σ w.drew := h.drawn _

/-- New blocks alone, and what was there is as it was. -/
theorem WR.grow {g : G} {σ : TS} {w w' : World} (h : WR g σ w) (hb : Below w.heap.size w w') : WR g σ w' where
  below := by
    have h1 : g.w0.heap.size ≤ w.heap.size := h.below.size
    exact h.below.trans (hb.mono h1)
  keep b o v e := by
    obtain ⟨h1, h2⟩ := h.keep b o v e
    exact ⟨(hb.cell (p := ⟨b, o, none⟩) (World.block_lt_of_cell? w _ h1)).trans h1, h2⟩
  obj l b e := ObjOk.world (hb.block b (h.new l b e).2.1) (h.obj l b e)
  inj := h.inj
  new l b e := ⟨(h.new l b e).1, Nat.lt_of_lt_of_le (h.new l b e).2.1 hb.size, (h.new l b e).2.2⟩
  sep := h.sep
  tok t b e n ho := by
    obtain ⟨h1, h2, k, sz, h3, h4⟩ := h.tok t b e n ho
    refine ⟨h1, Nat.lt_of_lt_of_le h2 hb.size, k, sz, h3, fun j hj => ?_⟩
    obtain ⟨k1, k2, k3⟩ := h4 j hj
    exact ⟨k1, by rw [hb.cell (p := ⟨b, e + j, none⟩) h2]; exact k2, by rw [hb.frozen (p := ⟨b, e + j, none⟩) h2]; exact k3⟩
  tokinj := h.tokinj
  toksep := h.toksep
  row l cs e := by obtain ⟨b, base, n, h1, h2⟩ := h.row l cs e; exact ⟨b, base, n, h1, h2.world (hb.block b h2.new.2) hb.size⟩
  rowinj := h.rowinj

theorem WR.drew' {g : G} {σ : TS} {w : World} (h : WR g σ w) : WR g σ { w with drawn := w.drawn + 1 } := h.drawn _

end Go.TM

/- The T-machine, part 2: the table of types, reading and writing of cells, and that they stand to the model's own loads, stores and parts. -/
set_option linter.unusedVariables false
namespace Go.TM
open Go.RowKit (Below)

inductive TK where
  | int (k : IntKind) | bool | str
  | ptr (e : TypeId) | slice (e : TypeId) | arr (n : Nat) (e : TypeId) | map (k e : TypeId)
  | struct (fs : List (TypeId × Nat)) (named : Bool)
  | func | iface (none : Bool)
  | other

structure TI where
  k : TK
  size : Nat
  bytes : Nat
  zero : Option TV
  eqok : Bool

abbrev Tab := TypeId → Option TI

def TK.isAgg : TK → Bool
  | .arr .. | .struct .. => true
  | _ => false

def const1 : Value → Option TV
  | .bool b => some (.bool b)
  | .int k n => some (.int k n)
  | .string s => some (.str s)
  | .pointer none => some .nilp
  | .slice none 0 0 => some .nils
  | .map none => some .nilm
  | .nilFunc => some .nilf
  | .nilIface => some .nili
  | .func fn first captured => if first.size = 0 && captured.size = 0 then some (.func fn [] []) else none
  | _ => none

def const1L : List Value → Option (List TV)
  | [] => some []
  | v :: vs => match const1 v, const1L vs with
    | some x, some xs => some (x :: xs)
    | _, _ => none

def constV : Value → Option TV
  | .agg cs => (const1L cs.toList).map .agg
  | v => const1 v

theorem const1_sound {g : G} {σ : TS} {v : Value} {tv : TV} (h : const1 v = some tv) : VR g σ tv v := by
  unfold const1 at h
  split at h <;> first
    | (cases h; simp [VR]; done)
    | (split at h
       · cases h
         rename_i h'
         simp only [Bool.and_eq_true, decide_eq_true_eq] at h'
         simp only [VR]
         exact ⟨_, _, rfl, by simp [VRL, Array.eq_empty_of_size_eq_zero h'.1], by simp [VRL, Array.eq_empty_of_size_eq_zero h'.2]⟩
       · cases h)
    | cases h

theorem const1L_sound {g : G} {σ : TS} : ∀ {vs : List Value} {xs : List TV}, const1L vs = some xs → VRL g σ xs vs
  | [], _, h => by cases h; simp [VRL]
  | v :: vs, _, h => by
    simp only [const1L] at h
    split at h
    · rename_i x xs h1 h2
      cases h
      simp only [VRL]
      exact ⟨v, vs, rfl, const1_sound h1, const1L_sound h2⟩
    · cases h

theorem constV_sound {g : G} {σ : TS} {v : Value} {tv : TV} (h : constV v = some tv) : VR g σ tv v := by
  unfold constV at h
  split at h
  · rename_i cs
    cases hc : const1L cs.toList with
    | none => simp [hc] at h
    | some xs =>
      simp [hc] at h
      subst h
      simp only [VR]
      exact ⟨cs, rfl, const1L_sound hc⟩
  · exact const1_sound h

def TK.of : TypeDesc → TK
  | .int k => .int k
  | .bool => .bool
  | .string => .str
  | .pointer e => .ptr e
  | .slice e => .slice e
  | .array n e => .arr n e
  | .map k e => .map k e
  | .struct fs => .struct (fs.toList.map fun f => (f.type, f.offset)) (fs.toList.all fun f => f.name != "_")
  | .func .. => .func
  | .interface ms => .iface ms.isEmpty
  | _ => .other

def eqOk (P : Program) (t : TypeId) : TypeDesc → Bool
  | .struct _ => !P.stoodInHeld t && !P.eqGuardType P.depth t
  | .array .. => !P.eqGuardType P.depth t
  | _ => true

def mkTab (P : Program) : Tab := fun t => match P.info? t, P.underlying t with
  | some i, some d => some { k := TK.of d, size := i.size, bytes := i.bytes, zero := i.zero.bind constV, eqok := eqOk P t d }
  | _, _ => none

theorem mkTab_sound {P : Program} {t : TypeId} {i : TI} (h : mkTab P t = some i) :
    ∃ info d, P.info? t = some info ∧ P.underlying t = some d ∧ i.k = TK.of d ∧ info.size = i.size ∧ info.bytes = i.bytes ∧ i.zero = info.zero.bind constV ∧ i.eqok = eqOk P t d := by
  unfold mkTab at h
  split at h
  · rename_i info d h1 h2
    cases h
    exact ⟨info, d, h1, h2, rfl, rfl, rfl, rfl, rfl⟩
  · cases h

def TV.one : TV → Bool
  | .agg _ | .tup _ => false
  | _ => true

def TV.cells : TV → List TV
  | .agg cs => cs
  | v => [v]

theorem VR.one {g : G} {σ : TS} {tv : TV} {v : Value} (h : VR g σ tv v) (h1 : tv.one = true) : v.oneCell' = true := by
  cases tv <;> simp only [VR] at h <;> simp only [TV.one] at h1 <;> first
    | (cases h1; done)
    | (subst h; rfl)
    | (obtain ⟨_, _, rfl⟩ := h; rfl)
    | (obtain ⟨_, rfl, _⟩ := h; rfl)
    | (obtain ⟨_, _, _, rfl, _⟩ := h; rfl)
    | (obtain ⟨_, _, rfl, _⟩ := h; rfl)
    | (obtain ⟨_, _, _, rfl, _⟩ := h; rfl)
    | (obtain ⟨_, _, _, _, rfl, _⟩ := h; rfl)

theorem VRL.length {g : G} {σ : TS} : ∀ {xs : List TV} {vs : List Value}, VRL g σ xs vs → vs.length = xs.length
  | [], _, h => by simp only [VRL] at h; subst h; rfl
  | x :: xs, _, h => by
    simp only [VRL] at h
    obtain ⟨v, rest, rfl, _, h2⟩ := h
    simp [VRL.length h2]

theorem VRL.get {g : G} {σ : TS} : ∀ {xs : List TV} {vs : List Value}, VRL g σ xs vs → ∀ {i : Nat} {x : TV}, xs[i]? = some x → ∃ v, vs[i]? = some v ∧ VR g σ x v
  | [], _, _, _, _, e => by simp at e
  | x :: xs, _, h, 0, y, e => by
    simp only [VRL] at h
    obtain ⟨v, rest, rfl, h1, _⟩ := h
    simp at e; subst e
    exact ⟨v, by simp, h1⟩
  | x :: xs, _, h, i + 1, y, e => by
    simp only [VRL] at h
    obtain ⟨v, rest, rfl, _, h2⟩ := h
    simp at e
    obtain ⟨u, hu, hr⟩ := VRL.get h2 e
    exact ⟨u, by simpa using hu, hr⟩

theorem VRL.append {g : G} {σ : TS} : ∀ {xs ys : List TV} {vs us : List Value}, VRL g σ xs vs → VRL g σ ys us → VRL g σ (xs ++ ys) (vs ++ us)
  | [], _, _, _, h, k => by simp only [VRL] at h; subst h; simpa using k
  | x :: xs, ys, _, us, h, k => by
    simp only [VRL] at h
    obtain ⟨v, rest, rfl, h1, h2⟩ := h
    simp only [List.cons_append, VRL]
    exact ⟨v, rest ++ us, rfl, h1, VRL.append h2 k⟩

theorem VRL.drop {g : G} {σ : TS} : ∀ {xs : List TV} {vs : List Value} (n : Nat), VRL g σ xs vs → VRL g σ (xs.drop n) (vs.drop n)
  | _, _, 0, h => by simpa using h
  | [], _, n + 1, h => by simp only [VRL] at h; subst h; simp [VRL]
  | x :: xs, _, n + 1, h => by
    simp only [VRL] at h
    obtain ⟨v, rest, rfl, _, h2⟩ := h
    simpa using VRL.drop n h2

theorem VRL.take {g : G} {σ : TS} : ∀ {xs : List TV} {vs : List Value} (n : Nat), VRL g σ xs vs → VRL g σ (xs.take n) (vs.take n)
  | _, _, 0, h => by simp [VRL]
  | [], _, n + 1, h => by simp only [VRL] at h; subst h; simp [VRL]
  | x :: xs, _, n + 1, h => by
    simp only [VRL] at h
    obtain ⟨v, rest, rfl, h1, h2⟩ := h
    simp only [List.take_succ_cons, VRL]
    exact ⟨v, rest.take n, rfl, h1, VRL.take n h2⟩

theorem VRL.one {g : G} {σ : TS} : ∀ {xs : List TV} {vs : List Value}, VRL g σ xs vs → xs.all TV.one = true → ∀ v ∈ vs, v.oneCell' = true
  | [], _, h, _, v, hv => by simp only [VRL] at h; subst h; cases hv
  | x :: xs, _, h, h1, v, hv => by
    simp only [VRL] at h
    obtain ⟨u, rest, rfl, hu, h2⟩ := h
    simp only [List.all_cons, Bool.and_eq_true] at h1
    rcases List.mem_cons.1 hv with rfl | hv
    · exact hu.one h1.1
    · exact VRL.one h2 h1.2 v hv

theorem VR.cells {g : G} {σ : TS} {tv : TV} {v : Value} (h : VR g σ tv v) : VRL g σ tv.cells v.cells.toList := by
  cases tv <;> simp only [VR] at h <;> simp only [TV.cells] <;> first
    | (subst h; exact ⟨_, [], rfl, by simp [VR], by simp [VRL]⟩)
    | (obtain ⟨us, rfl, h2⟩ := h; simpa [Value.cells] using h2)
    | skip
  all_goals
    refine ⟨v, [], ?_, by simpa only [VR] using h, by simp [VRL]⟩
    first
      | (obtain ⟨_, _, rfl⟩ := h; rfl)
      | (obtain ⟨_, rfl, _⟩ := h; rfl)
      | (obtain ⟨_, _, _, rfl, _⟩ := h; rfl)
      | (obtain ⟨_, _, rfl, _⟩ := h; rfl)
      | (obtain ⟨_, _, _, _, rfl, _⟩ := h; rfl)

/-- Cells put in place of others. -/
def splice (cs : List TV) (off : Nat) (xs : List TV) : List TV := cs.take off ++ xs ++ cs.drop (off + xs.length)

/-- A part of a value's cells as a value of a type. -/
def tpart (T : Tab) (t : TypeId) (cs : List TV) (off : Nat) : Option TV :=
  match T t with
  | some i => if i.k.isAgg then (if off + i.size ≤ cs.length then some (.agg ((cs.drop off).take i.size)) else none) else cs[off]?
  | none => none

theorem isAgg_run {P : Program} {t : TypeId} {i : TI} (h : mkTab P t = some i) (w : World) : (isAgg t).run P w = .ok i.k.isAgg w := by
  obtain ⟨info, d, h1, h2, h3, _⟩ := mkTab_sound h
  unfold isAgg
  rw [Sem.run_bind, run_underlying h2 w, h3]
  cases d <;> rfl

theorem sizeOf_run {P : Program} {t : TypeId} {i : TI} (h : mkTab P t = some i) (w : World) : (sizeOf t).run P w = .ok i.size w := by
  obtain ⟨info, d, h1, h2, h3, h4, _⟩ := mkTab_sound h
  simp [sizeOf, typeInfo, h1, h4]

theorem zero_run {P : Program} {t : TypeId} {i : TI} {z : TV} (h : mkTab P t = some i) (hz : i.zero = some z) (w : World) : ∃ zv, (zeroValue t).run P w = .ok zv w ∧ constV zv = some z ∧ (∃ info, P.info? t = some info ∧ info.zero = some zv) := by
  obtain ⟨info, d, h1, h2, h3, h4, h5, h6, _⟩ := mkTab_sound h
  rw [hz] at h6
  cases hq : info.zero with
  | none => simp [hq] at h6
  | some zv =>
    refine ⟨zv, ?_, by simpa [hq] using h6.symm, info, h1, hq⟩
    simp [zeroValue, typeInfo, h1, hq]

theorem part_run {P : Program} {g : G} {σ : TS} {t : TypeId} {cs : List TV} {us : Array Value} {off : Nat} {tv : TV} (hc : VRL g σ cs us.toList)
    (h : tpart (mkTab P) t cs off = some tv) (w : World) : ∃ v, (part t us off).run P w = .ok v w ∧ VR g σ tv v := by
  unfold tpart at h
  split at h
  · rename_i i hi
    unfold part
    rw [Sem.run_bind, isAgg_run hi, Result.andThen_ok]
    split at h
    · rename_i ha
      split at h
      · cases h
        rw [if_pos ha]
        simp only [Sem.run_bind, sizeOf_run hi, Result.andThen_ok, Sem.run_pure]
        refine ⟨_, rfl, ?_⟩
        simp only [VR]
        refine ⟨_, rfl, ?_⟩
        have := (hc.drop off).take i.size
        simpa [Array.toList_extract, List.extract_eq_take_drop] using this
      · cases h
    · rename_i ha
      rw [if_neg ha]
      obtain ⟨v, hv, hr⟩ := hc.get h
      refine ⟨v, ?_, hr⟩
      have : us[off]? = some v := by rw [← Array.getElem?_toList]; exact hv
      simp [this]
  · cases h

/-- The cells behind a pointer, from its place on. -/
def tcells (σ : TS) : TV → Option (List TV)
  | .cp cs => some cs
  | .ptr l off => match σ[l]? with
    | some (.cells cs) => some (cs.drop off)
    | _ => none
  | .rp l off => match σ[l]? with
    | some (.row cs) => some (cs.drop off)
    | _ => none
  | _ => none

def tload (T : Tab) (σ : TS) (t : TypeId) (p : TV) : Option TV := (tcells σ p).bind fun cs => tpart T t cs 0

theorem cell_of_heap {w : World} {b : Nat} {c : Array Value} {e : TypeId} {fz : Nat × Nat} (h : w.heap[b]? = some (.cells c e fz)) (o : Nat) : w.cell? ⟨b, o, none⟩ = c[o]? := by
  simp [World.cell?, h]

theorem tcells_sound {g : G} {σ : TS} {w : World} (hw : WR g σ w) {p : TV} {pv : Value} (hp : VR g σ p pv) {cs : List TV} (h : tcells σ p = some cs) :
    ∃ b o vs, pv = .pointer (some ⟨b, o, none⟩) ∧ w.rangeAt b o vs ∧ VRL g σ cs vs := by
  unfold tcells at h
  split at h
  · rename_i cs'
    cases h
    simp only [VR] at hp
    obtain ⟨b, o, vs, hv, hk, hl⟩ := hp
    exact ⟨b, o, vs, hv, fun j v e => (hw.keep _ _ _ (hk j v e)).1, hl⟩
  · rename_i l off
    split at h
    · rename_i cs' hl
      cases h
      simp only [VR] at hp
      obtain ⟨b, hb, hv⟩ := hp
      have ho := hw.obj l b hb
      rw [hl] at ho
      obtain ⟨c, e, fz, vs, rest, h1, h2, h3, h4, h5⟩ := ho
      refine ⟨b, off, vs.drop off, hv, ?_, h5.drop off⟩
      intro j v ej
      rw [cell_of_heap h1, ← Array.getElem?_toList, h2]
      rw [List.getElem?_drop] at ej
      rw [List.getElem?_append_left (List.getElem?_eq_some_iff.1 ej).1]
      exact ej
    · cases h
  · rename_i l off
    split at h
    · rename_i cs' hl
      cases h
      simp only [VR] at hp
      obtain ⟨_, b, o', hv, hr⟩ := hp
      obtain ⟨base, n, hn, rfl⟩ := hr _ hl
      obtain ⟨b', base', n', hn', hok⟩ := hw.row l _ hl
      rw [hn] at hn'
      simp only [Option.some.injEq, Prod.mk.injEq] at hn'
      obtain ⟨rfl, rfl, rfl⟩ := hn'
      obtain ⟨c, e, fz, vs, h1, h2, h3, h4, h5, h6, h7⟩ := hok.cells
      refine ⟨b, base + off, vs.drop off, hv, ?_, h5.drop off⟩
      intro j v ej
      rw [cell_of_heap h1, Nat.add_assoc]
      rw [List.getElem?_drop] at ej
      exact h7 _ _ ej
    · cases h
  · cases h

theorem World.rangeAt_take {w : World} {b o n : Nat} {vs : List Value} (h : w.rangeAt b o vs) : w.rangeAt b o (vs.take n) := fun j v e => by
  rw [List.getElem?_take] at e
  split at e
  · exact h j v e
  · cases e

theorem tload_run {P : Program} {g : G} {σ : TS} {w : World} (hw : WR g σ w) {t : TypeId} {p : TV} {pv : Value} (hp : VR g σ p pv) {tv : TV}
    (h : tload (mkTab P) σ t p = some tv) : ∃ v, (Instr.loadAt t pv).run P w = .ok v w ∧ VR g σ tv v := by
  unfold tload at h
  cases hc : tcells σ p with
  | none => simp [hc] at h
  | some cs =>
    simp only [hc, Option.bind_some] at h
    obtain ⟨b, o, vs, rfl, hr, hl⟩ := tcells_sound hw hp hc
    unfold tpart at h
    split at h
    · rename_i i hi
      obtain ⟨info, d, k1, k2, k3, k4, _⟩ := mkTab_sound hi
      split at h
      · rename_i ha
        split at h
        · rename_i hle
          cases h
          have hlen := hl.length
          have hd : d.isRow = true := by rw [k3] at ha; cases d <;> simp_all [TK.of, TK.isAgg]
          have := run_loadAt_mid (P := P) w b o t (vs.take i.size) d (World.rangeAt_take hr) k2 hd (by simp [k1, k4]; omega)
          refine ⟨_, this, ?_⟩
          simp only [VR]
          exact ⟨_, rfl, by simpa using hl.take i.size⟩
        · cases h
      · rename_i ha
        obtain ⟨v, hv, hx⟩ := hl.get h
        refine ⟨v, ?_, hx⟩
        have hcell := hr 0 v hv
        simp only [Instr.loadAt, Instr.sureAddr, Sem.run_bind, Sem.run_pure, Result.andThen_ok, loadVar, isAgg_run hi]
        rw [if_neg ha]
        simp only [Nat.add_zero] at hcell
        simp [hcell]
    · cases h

end Go.TM

/- The T-machine, part 3: what becomes of the relation of worlds where memory is made or written. -/
set_option linter.unusedVariables false
namespace Go.TM
open Go.RowKit (Below)

def TObj.isRight : TObj → Bool
  | .right _ _ => true
  | _ => false

theorem set_row {σ : TS} {l l' : Nat} {o : TObj} {cs : List TV} (hnr : ∀ cs, o ≠ .row cs) (h : (σ.set l o)[l']? = some (.row cs)) : l ≠ l' ∧ σ[l']? = some (.row cs) := by
  rw [List.getElem?_set] at h
  split at h
  · split at h
    · exact absurd (Option.some.inj h) (hnr _)
    · cases h
  · rename_i hne; exact ⟨hne, h⟩
theorem push_row {σ : TS} {l' : Nat} {o : TObj} {cs : List TV} (hnr : ∀ cs, o ≠ .row cs) (h : (σ ++ [o])[l']? = some (.row cs)) : l' < σ.length ∧ σ[l']? = some (.row cs) := by
  rcases Nat.lt_or_ge l' σ.length with hl | hl
  · rw [List.getElem?_append_left hl] at h; exact ⟨hl, h⟩
  · rw [List.getElem?_append_right hl] at h
    cases hq : l' - σ.length with
    | zero => rw [hq] at h; exact absurd (Option.some.inj h) (hnr _)
    | succ n => rw [hq] at h; cases h
theorem Ext.set {g : G} {σ : TS} {l : Nat} {o : TObj} (h : ∀ k sz, σ[l]? ≠ some (.right k sz)) (hnr : ∀ cs, o ≠ .row cs := by intro _ h; cases h) : Ext g σ g (σ.set l o) := by
  refine ⟨rfl, fun _ _ h => h, fun _ _ _ h => h, fun t k sz e => ⟨k, ?_, .inr ⟨rfl, rfl⟩⟩, by simp, fun _ _ => rfl, fun l' cs _ e => ⟨cs, (set_row hnr e).2, rfl⟩⟩
  by_cases he : l = t
  · subst he; exact absurd e (h k sz)
  · rw [List.getElem?_set_ne he]; exact e

theorem Ext.push {g g' : G} {σ : TS} {o : TObj} (h0 : g'.w0 = g.w0) (h1 : ∀ l b, g.ρ l = some b → g'.ρ l = some b) (h2 : ∀ b o v, g.κ b o = some v → g'.κ b o = some v)
    (h3 : ∀ t, t < σ.length → g'.ω t = g.ω t) (h4 : ∀ l, l < σ.length → g'.ρ l = g.ρ l) (h5 : ∀ l, l < σ.length → g'.ν l = g.ν l := by intro _ _; rfl) : Ext g σ g' (σ ++ [o]) := by
  refine ⟨h0, h1, h2, fun t k sz e => ⟨k, ?_, .inr ⟨rfl, ?_⟩⟩, by simp, h4, fun l cs hl e => ⟨cs, by rw [List.getElem?_append_left hl] at e; exact e, h5 l hl⟩⟩
  · rw [List.getElem?_append_left (List.getElem?_eq_some_iff.1 e).1]; exact e
  · exact h3 t (List.getElem?_eq_some_iff.1 e).1

/-- A thing of the small heap is written. -/
theorem WR.setObj {g : G} {σ : TS} {w w' : World} {l b : Nat} {o : TObj} (hw : WR g σ w) (hl : g.ρ l = some b) (hold : ∀ k sz, σ[l]? ≠ some (.right k sz))
    (hs : w'.heap.size = w.heap.size) (hos : w'.os = w.os) (ht : w'.tape = w.tape) (hou : w'.output = w.output) (hb : ∀ k, k ≠ b → w'.heap[k]? = w.heap[k]?)
    (ho : ObjOk g σ w' b (some o)) (hnr : ∀ cs, o ≠ .row cs := by intro _ h; cases h) : WR g (σ.set l o) w' := by
  have hx : Ext g σ g (σ.set l o) := Ext.set hold hnr
  obtain ⟨n1, n2, n3⟩ := hw.new l b hl
  refine ⟨?_, ?_, ?_, hw.inj, ?_, hw.sep, ?_, hw.tokinj, hw.toksep, fun l' cs e => ?_, fun l1 l2 c1 c2 b' x y x' y' e1 e2 => hw.rowinj l1 l2 c1 c2 b' x y x' y' (set_row hnr e1).2 (set_row hnr e2).2⟩
  rotate_left 5
  · obtain ⟨b', base, n, m1, m2⟩ := hw.row l' cs (set_row hnr e).2
    exact ⟨b', base, n, m1, (m2.world (hb b' (fun q => m2.ρ l (by rw [q]; exact hl))) (by omega)).ghost hx m2.κ m2.ρ m2.ω⟩
  · refine hw.below.trans ⟨hos, ht, hou, by omega, fun k hk => hb k (by omega)⟩
  · intro b' o' v e
    obtain ⟨h1, h2⟩ := hw.keep b' o' v e
    refine ⟨(World.cell?_of_block (w := w) (hb b' ?_)).trans h1, h2⟩
    rintro rfl
    rw [hw.sep l _ hl] at e
    cases e
  · intro l' b' e
    by_cases he : l = l'
    · subst he
      rw [hl] at e; cases e
      rw [List.getElem?_set_self n3]
      exact ho.ghost hx
    · rw [List.getElem?_set_ne he]
      refine (ObjOk.world (hb b' ?_) (hw.obj l' b' e)).ghost hx
      rintro rfl
      exact he (hw.inj _ _ _ hl e)
  · intro l' b' e
    obtain ⟨h1, h2, h3⟩ := hw.new l' b' e
    exact ⟨h1, by omega, by simpa using h3⟩
  · intro t b' e n e'
    obtain ⟨h1, h2, k, sz, h3, h4⟩ := hw.tok t b' e n e'
    have hne : b' ≠ b := by rintro rfl; exact hw.toksep _ _ _ _ _ e' hl
    refine ⟨h1, by omega, k, sz, by rw [List.getElem?_set_ne (by rintro rfl; exact hold _ _ h3)]; exact h3, fun j hj => ?_⟩
    obtain ⟨k1, k2, k3⟩ := h4 j hj
    exact ⟨k1, by rw [World.cell?_of_block (w := w) (a := ⟨b', e + j, none⟩) (hb b' hne)]; exact k2, by rw [World.frozen?_of_block (w := w) (a := ⟨b', e + j, none⟩) (hb b' hne)]; exact k3⟩

def upd {α : Type} (f : Nat → Option α) (k : Nat) (v : α) : Nat → Option α := fun n => if n = k then some v else f n
theorem upd_same {α : Type} (f : Nat → Option α) (k : Nat) (v : α) : upd f k v k = some v := by simp [upd]
theorem upd_ne {α : Type} (f : Nat → Option α) {k n : Nat} (v : α) (h : n ≠ k) : upd f k v n = f n := by simp [upd, h]

/-- A new place of the small heap: a block that is new. -/
theorem WR.newLoc {g : G} {σ : TS} {w w' : World} {b : Nat} {o : TObj} (hw : WR g σ w) (hb : Below w.heap.size w w') (h1 : w.heap.size ≤ b) (h2 : b < w'.heap.size)
    (ho : ObjOk { g with ρ := upd g.ρ σ.length b } (σ ++ [o]) w' b (some o)) (hnr : ∀ cs, o ≠ .row cs := by intro _ h; cases h) :
    WR { g with ρ := upd g.ρ σ.length b } (σ ++ [o]) w' ∧ Ext g σ { g with ρ := upd g.ρ σ.length b } (σ ++ [o]) := by
  have hg := hw.grow hb
  have hnone : ∀ l x, g.ρ l = some x → l ≠ σ.length := fun l x e h => by have := (hw.new l x e).2.2; omega
  have hfresh : ∀ l x, g.ρ l = some x → x ≠ b := fun l x e h => by have := (hw.new l x e).2.1; omega
  have hx : Ext g σ { g with ρ := upd g.ρ σ.length b } (σ ++ [o]) :=
    Ext.push rfl (fun l x e => by show upd _ _ _ _ = _; rw [upd_ne _ _ (hnone l x e)]; exact e) (fun _ _ _ h => h) (fun _ _ => rfl) (fun l hl => upd_ne _ _ (by omega))
  refine ⟨⟨hg.below, hg.keep, ?_, ?_, ?_, ?_, ?_, hw.tokinj, ?_, fun l' cs e => ?_, fun l1 l2 c1 c2 b' x y x' y' e1 e2 => hw.rowinj l1 l2 c1 c2 b' x y x' y' (push_row hnr e1).2 (push_row hnr e2).2⟩, hx⟩
  rotate_left 6
  · obtain ⟨b', base, n, m1, m2⟩ := hg.row l' cs (push_row hnr e).2
    obtain ⟨b0, base0, n0, m3, m4⟩ := hw.row l' cs (push_row hnr e).2
    rw [m1] at m3
    simp only [Option.some.injEq, Prod.mk.injEq] at m3
    obtain ⟨rfl, rfl, rfl⟩ := m3
    refine ⟨b', base, n, m1, m2.ghost hx m2.κ (fun l q => ?_) m2.ω⟩
    by_cases he : l = σ.length
    · subst he
      simp only [upd_same, Option.some.injEq] at q
      have := m4.new.2
      omega
    · simp only [upd_ne _ _ he] at q
      exact m2.ρ l q
  · intro l x e
    by_cases he : l = σ.length
    · subst he
      simp only [upd_same, Option.some.injEq] at e
      subst e
      simpa using ho
    · simp only [upd_ne _ _ he] at e
      rw [List.getElem?_append_left (hw.new l x e).2.2]
      exact (hg.obj l x e).ghost hx
  · intro l l' x e e'
    by_cases he : l = σ.length <;> by_cases he' : l' = σ.length
    · omega
    · subst he
      simp only [upd_same, Option.some.injEq] at e
      simp only [upd_ne _ _ he'] at e'
      exact absurd e.symm (hfresh _ _ e')
    · subst he'
      simp only [upd_same, Option.some.injEq] at e'
      simp only [upd_ne _ _ he] at e
      exact absurd e'.symm (hfresh _ _ e)
    · simp only [upd_ne _ _ he] at e
      simp only [upd_ne _ _ he'] at e'
      exact hw.inj _ _ _ e e'
  · intro l x e
    by_cases he : l = σ.length
    · subst he
      simp only [upd_same, Option.some.injEq] at e
      subst e
      have := hw.below.size
      exact ⟨Nat.le_trans this h1, h2, by simp⟩
    · simp only [upd_ne _ _ he] at e
      have := hg.new l x e
      exact ⟨this.1, this.2.1, by have := this.2.2; simp; omega⟩
  · intro l x e o'
    by_cases he : l = σ.length
    · subst he
      simp only [upd_same, Option.some.injEq] at e
      subst e
      cases hq : g.κ b o' with
      | none => rfl
      | some v =>
        have := World.block_lt_of_cell? w _ (hw.keep b o' v hq).1
        simp at this; omega
    · simp only [upd_ne _ _ he] at e
      exact hw.sep l x e o'
  · intro t x e n e'
    obtain ⟨p1, p2, k, sz, p3, p4⟩ := hg.tok t x e n e'
    exact ⟨p1, p2, k, sz, by rw [List.getElem?_append_left (List.getElem?_eq_some_iff.1 p3).1]; exact p3, p4⟩
  · intro t l x e n e' e2
    by_cases he : l = σ.length
    · subst he
      simp only [upd_same, Option.some.injEq] at e2
      subst e2
      have := (hw.tok t _ e n e').2.1
      omega
    · simp only [upd_ne _ _ he] at e2
      exact hw.toksep _ _ _ _ _ e' e2

/-- New cells that stay: the first ones of a new block. -/
def keepRow (κ : Nat → Nat → Option Value) (b : Nat) (vs : List Value) : Nat → Nat → Option Value := fun b' o => if b' = b then vs[o]? else κ b' o

theorem WR.newKept {g : G} {σ : TS} {w w' : World} {b : Nat} {vs : List Value} (hw : WR g σ w) (hb : Below w.heap.size w w') (h1 : w.heap.size ≤ b)
    (hc : w'.rangeAt b 0 vs) (hone : ∀ v ∈ vs, v.oneCell' = true) :
    WR { g with κ := keepRow g.κ b vs } σ w' ∧ Ext g σ { g with κ := keepRow g.κ b vs } σ ∧ Kept { g with κ := keepRow g.κ b vs } b 0 vs := by
  have hg := hw.grow hb
  have hold : ∀ o v, g.κ b o = some v → False := fun o v e => by have := World.block_lt_of_cell? w _ (hw.keep b o v e).1; simp at this; omega
  have hx : Ext g σ { g with κ := keepRow g.κ b vs } σ := by
    refine ⟨rfl, fun _ _ h => h, fun b' o v e => ?_, fun t k sz e => ⟨k, e, .inr ⟨rfl, rfl⟩⟩, Nat.le_refl _, fun _ _ => rfl, fun l cs _ h => ⟨cs, h, rfl⟩⟩
    show keepRow _ _ _ _ _ = _
    unfold keepRow
    split
    · subst_vars; exact (hold _ _ e).elim
    · exact e
  refine ⟨⟨hg.below, ?_, fun l x e => (hg.obj l x e).ghost hx, hw.inj, hg.new, ?_, ?_, hw.tokinj, hw.toksep, fun l' cs e => ?_, hw.rowinj⟩, hx, ?_⟩
  rotate_left 3
  · obtain ⟨b', base, n, m1, m2⟩ := hg.row l' cs e
    obtain ⟨b0, base0, n0, m3, m4⟩ := hw.row l' cs e
    rw [m1] at m3
    simp only [Option.some.injEq, Prod.mk.injEq] at m3
    obtain ⟨rfl, rfl, rfl⟩ := m3
    refine ⟨b', base, n, m1, m2.ghost hx (fun o => ?_) m2.ρ m2.ω⟩
    show keepRow _ _ _ _ _ = _
    unfold keepRow
    rw [if_neg (by rintro rfl; have := m4.new.2; omega)]
    exact m2.κ o
  rotate_right 3
  · intro b' o v e
    simp only [keepRow] at e
    split at e
    · subst_vars
      have := hc o v e
      exact ⟨by simpa using this, hone v (List.mem_of_getElem? e)⟩
    · exact hg.keep b' o v e
  · intro l x e o
    show keepRow _ _ _ _ _ = _
    unfold keepRow
    split
    · subst_vars
      have := (hw.new l _ e).2.1
      omega
    · exact hw.sep l x e o
  · intro t x e n e'
    obtain ⟨k1, k2, k, sz, k3, k4⟩ := hg.tok t x e n e'
    refine ⟨k1, k2, k, sz, k3, fun j hj => ?_⟩
    obtain ⟨m1, m2, m3⟩ := k4 j hj
    refine ⟨?_, m2, m3⟩
    show keepRow _ _ _ _ _ = _
    unfold keepRow
    split
    · subst_vars
      have := (hw.tok t _ e n e').2.1
      omega
    · exact m1
  · intro i v e
    show keepRow _ _ _ _ _ = _
    unfold keepRow
    simpa using e

/-- A new right to append, in a block that is new to the ghost's places and rights. -/
theorem WR.newRight {g : G} {σ : TS} {w : World} {b e n sz k : Nat} (hw : WR g σ w) (h0 : g.w0.heap.size ≤ b) (h1 : b < w.heap.size) (hρ : ∀ l, g.ρ l ≠ some b) (hω : ∀ t e n, g.ω t ≠ some (b, e, n)) (hν : ∀ l cs, σ[l]? = some (.row cs) → ∀ x y, g.ν l ≠ some (b, x, y))
    (hc : ∀ j, j < n * sz → g.κ b (e + j) = none ∧ (w.cell? ⟨b, e + j, none⟩).isSome = true ∧ w.frozen? ⟨b, e + j, none⟩ = false) :
    WR { g with ω := upd g.ω σ.length (b, e, n) } (σ ++ [.right k sz]) w ∧ Ext g σ { g with ω := upd g.ω σ.length (b, e, n) } (σ ++ [.right k sz]) := by
  have hx : Ext g σ { g with ω := upd g.ω σ.length (b, e, n) } (σ ++ [.right k sz]) :=
    Ext.push rfl (fun _ _ h => h) (fun _ _ _ h => h) (fun t ht => upd_ne _ _ (by omega)) (fun _ _ => rfl)
  have hnr : ∀ cs, TObj.right k sz ≠ .row cs := by intro _ h; cases h
  refine ⟨⟨hw.below, hw.keep, ?_, hw.inj, ?_, hw.sep, ?_, ?_, ?_, fun l' cs q => ?_, fun l1 l2 c1 c2 b' x y x' y' e1 e2 => hw.rowinj l1 l2 c1 c2 b' x y x' y' (push_row hnr e1).2 (push_row hnr e2).2⟩, hx⟩
  rotate_left 5
  · obtain ⟨b', base, n', m1, m2⟩ := hw.row l' cs (push_row hnr q).2
    refine ⟨b', base, n', m1, m2.ghost hx m2.κ m2.ρ (fun t a1 a2 h => ?_)⟩
    by_cases he : t = σ.length
    · subst he
      simp only [upd_same, Option.some.injEq, Prod.mk.injEq] at h
      obtain ⟨rfl, _⟩ := h
      exact hν l' cs (push_row hnr q).2 _ _ m1
    · simp only [upd_ne _ _ he] at h
      exact m2.ω _ _ _ h
  · intro l x e'
    have hlt := (hw.new l x e').2.2
    rw [List.getElem?_append_left hlt]
    exact (hw.obj l x e').ghost hx
  · intro l x e'
    have := hw.new l x e'
    exact ⟨this.1, this.2.1, by have := this.2.2; simp; omega⟩
  · intro t x e' n' h
    by_cases he : t = σ.length
    · subst he
      simp only [upd_same, Option.some.injEq, Prod.mk.injEq] at h
      obtain ⟨rfl, rfl, rfl⟩ := h
      exact ⟨h0, h1, k, sz, by simp, hc⟩
    · simp only [upd_ne _ _ he] at h
      obtain ⟨p1, p2, k', sz', p3, p4⟩ := hw.tok t x e' n' h
      exact ⟨p1, p2, k', sz', by rw [List.getElem?_append_left (List.getElem?_eq_some_iff.1 p3).1]; exact p3, p4⟩
  · intro t t' x a1 a2 c1 c2 h h'
    by_cases he : t = σ.length <;> by_cases he' : t' = σ.length
    · omega
    · subst he
      simp only [upd_same, Option.some.injEq, Prod.mk.injEq] at h
      simp only [upd_ne _ _ he'] at h'
      obtain ⟨rfl, _⟩ := h
      exact absurd h' (hω _ _ _)
    · subst he'
      simp only [upd_same, Option.some.injEq, Prod.mk.injEq] at h'
      simp only [upd_ne _ _ he] at h
      obtain ⟨rfl, _⟩ := h'
      exact absurd h (hω _ _ _)
    · simp only [upd_ne _ _ he] at h
      simp only [upd_ne _ _ he'] at h'
      exact hw.tokinj _ _ _ _ _ _ _ h h'
  · intro t l x a1 a2 h
    by_cases he : t = σ.length
    · subst he
      simp only [upd_same, Option.some.injEq, Prod.mk.injEq] at h
      obtain ⟨rfl, _⟩ := h
      exact hρ l
    · simp only [upd_ne _ _ he] at h
      exact hw.toksep _ _ _ _ _ h

/-- A right moves to a new block, and its tip rises. -/
theorem WR.moveRight {g : G} {σ : TS} {w : World} {t k k' b e n sz : Nat} (hw : WR g σ w) (hk : σ[t]? = some (.right k sz)) (hlt : k < k')
    (h0 : g.w0.heap.size ≤ b) (h1 : b < w.heap.size) (hρ : ∀ l, g.ρ l ≠ some b) (hω : ∀ t' e n, g.ω t' = some (b, e, n) → t' = t) (hν : ∀ l cs, σ[l]? = some (.row cs) → ∀ x y, g.ν l ≠ some (b, x, y))
    (hc : ∀ j, j < n * sz → g.κ b (e + j) = none ∧ (w.cell? ⟨b, e + j, none⟩).isSome = true ∧ w.frozen? ⟨b, e + j, none⟩ = false) :
    WR { g with ω := upd g.ω t (b, e, n) } (σ.set t (.right k' sz)) w ∧ Ext g σ { g with ω := upd g.ω t (b, e, n) } (σ.set t (.right k' sz)) := by
  have htl := (List.getElem?_eq_some_iff.1 hk).1
  have hx : Ext g σ { g with ω := upd g.ω t (b, e, n) } (σ.set t (.right k' sz)) := by
    refine ⟨rfl, fun _ _ h => h, fun _ _ _ h => h, fun t' x sz' e' => ?_, by simp, fun _ _ => rfl, fun l cs _ q => ⟨cs, (set_row (by intro _ h; cases h) q).2, rfl⟩⟩
    by_cases he : t = t'
    · subst he
      rw [hk] at e'; cases e'
      exact ⟨k', by rw [List.getElem?_set_self htl], .inl hlt⟩
    · exact ⟨x, by rw [List.getElem?_set_ne he]; exact e', .inr ⟨rfl, upd_ne _ _ (by omega)⟩⟩
  have hnr : ∀ cs, TObj.right k' sz ≠ .row cs := by intro _ h; cases h
  refine ⟨⟨hw.below, hw.keep, ?_, hw.inj, ?_, hw.sep, ?_, ?_, ?_, fun l' cs q => ?_, fun l1 l2 c1 c2 b' x y x' y' e1 e2 => hw.rowinj l1 l2 c1 c2 b' x y x' y' (set_row hnr e1).2 (set_row hnr e2).2⟩, hx⟩
  rotate_left 5
  · obtain ⟨b', base, n', m1, m2⟩ := hw.row l' cs (set_row hnr q).2
    refine ⟨b', base, n', m1, m2.ghost hx m2.κ m2.ρ (fun t' a1 a2 h => ?_)⟩
    by_cases he : t' = t
    · subst he
      simp only [upd_same, Option.some.injEq, Prod.mk.injEq] at h
      obtain ⟨rfl, _⟩ := h
      exact hν l' cs (set_row hnr q).2 _ _ m1
    · simp only [upd_ne _ _ he] at h
      exact m2.ω _ _ _ h
  · intro l x e'
    by_cases he : t = l
    · subst he
      rw [List.getElem?_set_self htl]; trivial
    · rw [List.getElem?_set_ne he]
      exact (hw.obj l x e').ghost hx
  · intro l x e'
    have := hw.new l x e'
    exact ⟨this.1, this.2.1, by simpa using this.2.2⟩
  · intro t' x e' n' h
    by_cases he : t' = t
    · subst he
      simp only [upd_same, Option.some.injEq, Prod.mk.injEq] at h
      obtain ⟨rfl, rfl, rfl⟩ := h
      exact ⟨h0, h1, k', sz, by rw [List.getElem?_set_self htl], hc⟩
    · simp only [upd_ne _ _ he] at h
      obtain ⟨p1, p2, q, sz', p3, p4⟩ := hw.tok t' x e' n' h
      exact ⟨p1, p2, q, sz', by rw [List.getElem?_set_ne (by omega)]; exact p3, p4⟩
  · intro t1 t2 x a1 a2 c1 c2 h h'
    by_cases he : t1 = t <;> by_cases he' : t2 = t
    · omega
    · subst he
      simp only [upd_same, Option.some.injEq, Prod.mk.injEq] at h
      simp only [upd_ne _ _ he'] at h'
      obtain ⟨rfl, _⟩ := h
      exact (hω _ _ _ h').symm
    · subst he'
      simp only [upd_same, Option.some.injEq, Prod.mk.injEq] at h'
      simp only [upd_ne _ _ he] at h
      obtain ⟨rfl, _⟩ := h'
      exact hω _ _ _ h
    · simp only [upd_ne _ _ he] at h
      simp only [upd_ne _ _ he'] at h'
      exact hw.tokinj _ _ _ _ _ _ _ h h'
  · intro t' l x a1 a2 h
    by_cases he : t' = t
    · subst he
      simp only [upd_same, Option.some.injEq, Prod.mk.injEq] at h
      obtain ⟨rfl, _⟩ := h
      exact hρ l
    · simp only [upd_ne _ _ he] at h
      exact hw.toksep _ _ _ _ _ h

/-- Spare cells behind a right's tip are written, and stay from now on. -/
def keepMore (κ : Nat → Nat → Option Value) (b e : Nat) (vs : List Value) : Nat → Nat → Option Value := fun b' o => if b' = b ∧ e ≤ o ∧ o < e + vs.length then vs[o - e]? else κ b' o

theorem setCells_block (b : Nat) : ∀ (vs : List Value) (o : Nat) (w : World) (k : Nat), k ≠ b → (w.setCells b o vs).heap[k]? = w.heap[k]?
  | [], _, _, _, _ => rfl
  | v :: r, o, w, k, h => by
    rw [World.setCells, setCells_block b r (o + 1) _ k h]
    exact Below.heap_setCell _ _ _ _ h
theorem setCells_size (b : Nat) : ∀ (vs : List Value) (o : Nat) (w : World), (w.setCells b o vs).heap.size = w.heap.size
  | [], _, _ => rfl
  | v :: r, o, w => by rw [World.setCells, setCells_size b r]; simp
theorem setCells_rest (b : Nat) : ∀ (vs : List Value) (o : Nat) (w : World), (w.setCells b o vs).os = w.os ∧ (w.setCells b o vs).tape = w.tape ∧ (w.setCells b o vs).output = w.output
  | [], _, _ => ⟨rfl, rfl, rfl⟩
  | v :: r, o, w => by rw [World.setCells]; exact setCells_rest b r (o + 1) _

theorem WR.fillSpare {g : G} {σ : TS} {w : World} {t b e n m sz k : Nat} {vs : List Value} (hw : WR g σ w) (hk : σ[t]? = some (.right k sz)) (ht : g.ω t = some (b, e, n)) (hm : m ≤ n) (hl : vs.length = m * sz) (hpos : 0 < m)
    (hone : ∀ v ∈ vs, v.oneCell' = true) :
    ∃ g', WR g' (σ.set t (.right (k + m) sz)) (w.setCells b e vs) ∧ Ext g σ g' (σ.set t (.right (k + m) sz)) ∧ Kept g' b e vs ∧ g'.ω t = some (b, e + vs.length, n - m) := by
  obtain ⟨q1, q2, k0, sz0, q3, q4⟩ := hw.tok t b e n ht
  rw [hk] at q3
  simp only [Option.some.injEq, TObj.right.injEq] at q3
  obtain ⟨rfl, rfl⟩ := q3
  have hmn : m * sz ≤ n * sz := Nat.mul_le_mul_right _ hm
  have hnk : ∀ j, j < vs.length → g.κ b (e + j) = none := fun j hj => (q4 j (by omega)).1
  have hsp : ∀ j, j < vs.length → (w.cell? ⟨b, e + j, none⟩).isSome = true := fun j hj => (q4 j (by omega)).2.1
  have hne : ∀ o v, g.κ b o = some v → o < e ∨ e + vs.length ≤ o := by
    intro o v ho
    rcases Nat.lt_or_ge o e with h | h
    · exact .inl h
    · rcases Nat.lt_or_ge o (e + vs.length) with h' | h'
      · have := hnk (o - e) (by omega)
        rw [show e + (o - e) = o by omega, ho] at this
        cases this
      · exact .inr h'
  have hin := World.cell?_setCells_in b vs e w hsp
  obtain ⟨r1, r2, r3⟩ := setCells_rest b vs e w
  -- the world with the spare cells written, the ghost with the cells kept
  have hmid : WR { g with κ := keepMore g.κ b e vs, ω := upd g.ω t (b, e + vs.length, n - m) } (σ.set t (.right (k + m) sz)) (w.setCells b e vs) ∧
      Ext g σ { g with κ := keepMore g.κ b e vs, ω := upd g.ω t (b, e + vs.length, n - m) } (σ.set t (.right (k + m) sz)) := by
    have htl := (List.getElem?_eq_some_iff.1 hk).1
    have hx : Ext g σ { g with κ := keepMore g.κ b e vs, ω := upd g.ω t (b, e + vs.length, n - m) } (σ.set t (.right (k + m) sz)) := by
      refine ⟨rfl, fun _ _ h => h, fun b' o v e' => ?_, fun t' x sz' e' => ?_, by simp, fun _ _ => rfl, fun l cs _ q => ⟨cs, (set_row (by intro _ h; cases h) q).2, rfl⟩⟩
      · show keepMore _ _ _ _ _ _ = _
        unfold keepMore
        split
        · rename_i hcond
          obtain ⟨rfl, h1, h2⟩ := hcond
          rcases hne o v e' with h | h <;> omega
        · exact e'
      · by_cases he : t = t'
        · subst he
          rw [hk] at e'; cases e'
          exact ⟨k + m, by rw [List.getElem?_set_self htl], .inl (by omega)⟩
        · exact ⟨x, by rw [List.getElem?_set_ne he]; exact e', .inr ⟨rfl, upd_ne _ _ (by omega)⟩⟩
    have hnr : ∀ cs, TObj.right (k + m) sz ≠ .row cs := by intro _ h; cases h
    refine ⟨⟨?_, ?_, ?_, hw.inj, ?_, ?_, ?_, ?_, ?_, fun l' cs q => ?_, fun l1 l2 c1 c2 b' x y x' y' e1 e2 => hw.rowinj l1 l2 c1 c2 b' x y x' y' (set_row hnr e1).2 (set_row hnr e2).2⟩, hx⟩
    rotate_left 8
    · obtain ⟨b', base, n', m1, m2⟩ := hw.row l' cs (set_row hnr q).2
      have hne' : b' ≠ b := by rintro rfl; exact m2.ω _ _ _ ht
      refine ⟨b', base, n', m1, (m2.world (setCells_block b vs e w b' hne') (by rw [setCells_size]; exact Nat.le_refl _)).ghost hx (fun o => ?_) m2.ρ (fun t' a1 a2 h => ?_)⟩
      · show keepMore _ _ _ _ _ _ = _
        unfold keepMore
        rw [if_neg (by rintro ⟨rfl, _⟩; exact hne' rfl)]
        exact m2.κ o
      · by_cases he : t' = t
        · subst he
          simp only [upd_same, Option.some.injEq, Prod.mk.injEq] at h
          obtain ⟨rfl, _⟩ := h
          exact hne' rfl
        · simp only [upd_ne _ _ he] at h
          exact m2.ω _ _ _ h
    · exact hw.below.trans ⟨r1, r2, r3, by rw [setCells_size]; exact Nat.le_refl _, fun i hi => setCells_block b vs e w i (by have : i < g.w0.heap.size := hi; omega)⟩
    · intro b' o v e'
      simp only [keepMore] at e'
      split at e'
      · rename_i hcond
        obtain ⟨rfl, h1, h2⟩ := hcond
        have := hin (o - e) (by omega)
        rw [show e + (o - e) = o by omega] at this
        rw [this]
        rw [List.getElem?_eq_getElem (by omega)] at e'
        exact ⟨e', by cases e'; exact hone _ (List.getElem_mem _)⟩
      · rename_i hcond
        obtain ⟨h1, h2⟩ := hw.keep b' o v e'
        refine ⟨(World.cell?_setCells_out b vs e w _ (fun hb _ => ?_)).trans h1, h2⟩
        simp only at hb ⊢
        subst hb
        exact hne o v e'
    · intro l x e'
      have hxb : x ≠ b := by rintro rfl; exact hw.toksep _ _ _ _ _ ht e'
      by_cases he : t = l
      · subst he
        rw [List.getElem?_set_self htl]; trivial
      · rw [List.getElem?_set_ne he]
        exact (ObjOk.world (setCells_block b vs e w x hxb) (hw.obj l x e')).ghost hx
    · intro l x e'
      have := hw.new l x e'
      exact ⟨this.1, by rw [setCells_size]; exact this.2.1, by simpa using this.2.2⟩
    · intro l x e' o
      show keepMore _ _ _ _ _ _ = _
      have hxb : x ≠ b := by rintro rfl; exact hw.toksep _ _ _ _ _ ht e'
      unfold keepMore
      rw [if_neg (by rintro ⟨rfl, _⟩; exact hxb rfl)]
      exact hw.sep l x e' o
    · intro t' x e' n' h
      by_cases he : t' = t
      · subst he
        simp only [upd_same, Option.some.injEq, Prod.mk.injEq] at h
        obtain ⟨rfl, rfl, rfl⟩ := h
        refine ⟨q1, by rw [setCells_size]; exact q2, k + m, sz, by rw [List.getElem?_set_self htl], fun j hj => ?_⟩
        have hj' : vs.length + j < n * sz := by
          have : (n - m) * sz + m * sz = n * sz := by rw [← Nat.add_mul]; congr 1; omega
          omega
        obtain ⟨k1, k2, k3⟩ := q4 (vs.length + j) hj'
        rw [show e + (vs.length + j) = e + vs.length + j by omega] at k1 k2 k3
        refine ⟨?_, ?_, ?_⟩
        · show keepMore _ _ _ _ _ _ = _
          unfold keepMore
          rw [if_neg (by omega)]
          exact k1
        · rw [World.cell?_setCells_out b vs e w _ (fun _ _ => .inr (by simp only; omega))]; exact k2
        · rw [World.frozen?_setCells]; exact k3
      · simp only [upd_ne _ _ he] at h
        obtain ⟨p1, p2, q, sz', p3, p4⟩ := hw.tok t' x e' n' h
        have hxb : x ≠ b := by rintro rfl; exact he (hw.tokinj _ _ _ _ _ _ _ h ht)
        refine ⟨p1, by rw [setCells_size]; exact p2, q, sz', by rw [List.getElem?_set_ne (by omega)]; exact p3, fun j hj => ?_⟩
        obtain ⟨k1, k2, k3⟩ := p4 j hj
        refine ⟨?_, ?_, ?_⟩
        · show keepMore _ _ _ _ _ _ = _
          unfold keepMore
          rw [if_neg (by rintro ⟨rfl, _⟩; exact hxb rfl)]
          exact k1
        · rw [World.cell?_setCells_out b vs e w _ (fun hb _ => absurd hb hxb)]; exact k2
        · rw [World.frozen?_setCells]; exact k3
    · intro t1 t2 x a1 a2 c1 c2 h h'
      by_cases he : t1 = t <;> by_cases he' : t2 = t
      · omega
      · subst he
        simp only [upd_same, Option.some.injEq, Prod.mk.injEq] at h
        simp only [upd_ne _ _ he'] at h'
        obtain ⟨rfl, _⟩ := h
        exact hw.tokinj _ _ _ _ _ _ _ ht h'
      · subst he'
        simp only [upd_same, Option.some.injEq, Prod.mk.injEq] at h'
        simp only [upd_ne _ _ he] at h
        obtain ⟨rfl, _⟩ := h'
        exact hw.tokinj _ _ _ _ _ _ _ h ht
      · simp only [upd_ne _ _ he] at h
        simp only [upd_ne _ _ he'] at h'
        exact hw.tokinj _ _ _ _ _ _ _ h h'
    · intro t' l x a1 a2 h
      by_cases he : t' = t
      · subst he
        simp only [upd_same, Option.some.injEq, Prod.mk.injEq] at h
        obtain ⟨rfl, _⟩ := h
        exact hw.toksep _ _ _ _ _ ht
      · simp only [upd_ne _ _ he] at h
        exact hw.toksep _ _ _ _ _ h
  refine ⟨_, hmid.1, hmid.2, ?_, upd_same _ _ _⟩
  intro i v e'
  show keepMore _ _ _ _ _ _ = _
  have hi := (List.getElem?_eq_some_iff.1 e').1
  unfold keepMore
  rw [if_pos ⟨rfl, by omega, by omega⟩, show e + i - e = i by omega]
  exact e'

/- rows of one's own -/
/-- Nobody knows the block. -/
structure Unknown (g : G) (σ : TS) (b : Nat) : Prop where
  new : g.w0.heap.size ≤ b
  κ : ∀ o, g.κ b o = none
  ρ : ∀ l, g.ρ l ≠ some b
  ω : ∀ t e n, g.ω t ≠ some (b, e, n)
  ν : ∀ l cs, σ[l]? = some (.row cs) → ∀ x y, g.ν l ≠ some (b, x, y)

theorem WR.scratch {g : G} {σ : TS} {w w' : World} {b : Nat} (hw : WR g σ w) (hu : Unknown g σ b) (hs : w'.heap.size = w.heap.size) (hos : w'.os = w.os) (ht : w'.tape = w.tape) (hou : w'.output = w.output)
    (hb : ∀ k, k ≠ b → w'.heap[k]? = w.heap[k]?) : WR g σ w' where
  below := hw.below.trans ⟨hos, ht, hou, by omega, fun k hk => hb k (by have := hu.new; omega)⟩
  keep b' o v e := by
    obtain ⟨h1, h2⟩ := hw.keep b' o v e
    refine ⟨(World.cell?_of_block (w := w) (hb b' ?_)).trans h1, h2⟩
    rintro rfl
    rw [hu.κ o] at e; cases e
  obj l b' e := ObjOk.world (hb b' (by rintro rfl; exact hu.ρ _ e)) (hw.obj l b' e)
  inj := hw.inj
  new l b' e := by have := hw.new l b' e; exact ⟨this.1, by omega, this.2.2⟩
  sep := hw.sep
  tok t b' e n e' := by
    obtain ⟨h1, h2, k, sz, h3, h4⟩ := hw.tok t b' e n e'
    have hne : b' ≠ b := by rintro rfl; exact hu.ω _ _ _ e'
    refine ⟨h1, by omega, k, sz, h3, fun j hj => ?_⟩
    obtain ⟨k1, k2, k3⟩ := h4 j hj
    exact ⟨k1, by rw [World.cell?_of_block (w := w) (a := ⟨b', e + j, none⟩) (hb b' hne)]; exact k2, by rw [World.frozen?_of_block (w := w) (a := ⟨b', e + j, none⟩) (hb b' hne)]; exact k3⟩
  tokinj := hw.tokinj
  toksep := hw.toksep
  row l cs e := by
    obtain ⟨b', base, n, m1, m2⟩ := hw.row l cs e
    exact ⟨b', base, n, m1, m2.world (hb b' (by rintro rfl; exact hu.ν l cs e _ _ m1)) (by omega)⟩
  rowinj := hw.rowinj

/-- A row is given up. -/
theorem WR.kill {g : G} {σ : TS} {w : World} {l : Nat} {cs : List TV} (hw : WR g σ w) (hl : σ[l]? = some (.row cs)) : WR g (σ.set l .dead) w ∧ Ext g σ g (σ.set l .dead) := by
  have hlt := (List.getElem?_eq_some_iff.1 hl).1
  have hx : Ext g σ g (σ.set l .dead) := Ext.set (fun k sz e => by rw [hl] at e; cases e)
  have hnr : ∀ cs, TObj.dead ≠ .row cs := by intro _ h; cases h
  refine ⟨⟨hw.below, hw.keep, ?_, hw.inj, ?_, hw.sep, ?_, hw.tokinj, hw.toksep, fun l' cs' e => ?_, fun l1 l2 c1 c2 b' x y x' y' e1 e2 => hw.rowinj l1 l2 c1 c2 b' x y x' y' (set_row hnr e1).2 (set_row hnr e2).2⟩, hx⟩
  · intro l' b' e
    by_cases he : l = l'
    · subst he
      rw [List.getElem?_set_self hlt]; trivial
    · rw [List.getElem?_set_ne he]
      exact (hw.obj l' b' e).ghost hx
  · intro l' b' e
    have := hw.new l' b' e
    exact ⟨this.1, this.2.1, by simpa using this.2.2⟩
  · intro t b' e n e'
    obtain ⟨h1, h2, k, sz, h3, h4⟩ := hw.tok t b' e n e'
    exact ⟨h1, h2, k, sz, by rw [List.getElem?_set_ne (by rintro rfl; rw [hl] at h3; cases h3)]; exact h3, h4⟩
  · obtain ⟨b', base, n, m1, m2⟩ := hw.row l' cs' (set_row hnr e).2
    exact ⟨b', base, n, m1, m2.ghost hx m2.κ m2.ρ m2.ω⟩

/-- What was a row's block is nobody's. -/
theorem WR.killed {g : G} {σ : TS} {w : World} {l b x y : Nat} {cs : List TV} (hw : WR g σ w) (hl : σ[l]? = some (.row cs)) (hn : g.ν l = some (b, x, y)) : Unknown g (σ.set l .dead) b := by
  obtain ⟨b', base, n, m1, m2⟩ := hw.row l cs hl
  rw [hn] at m1
  simp only [Option.some.injEq, Prod.mk.injEq] at m1
  obtain ⟨rfl, rfl, rfl⟩ := m1
  refine ⟨m2.new.1, m2.κ, m2.ρ, m2.ω, fun l' cs' e x' y' e' => ?_⟩
  obtain ⟨hne, e2⟩ := set_row (by intro _ h; cases h) e
  exact hne (hw.rowinj _ _ _ _ _ _ _ _ _ hl e2 hn e')

theorem WR.fresh {g : G} {σ : TS} {w : World} {b : Nat} (hw : WR g σ w) (hb : w.heap.size ≤ b) : Unknown g σ b where
  new := Nat.le_trans hw.below.size hb
  κ o := by
    cases hq : g.κ b o with
    | none => rfl
    | some v =>
      have := World.block_lt_of_cell? w _ (hw.keep b o v hq).1
      simp at this; omega
  ρ l e := by have := (hw.new l b e).2.1; omega
  ω t e n e' := by have := (hw.tok t b e n e').2.1; omega
  ν l cs e x y e' := by
    obtain ⟨b', base, n, m1, m2⟩ := hw.row l cs e
    rw [e'] at m1
    simp only [Option.some.injEq, Prod.mk.injEq] at m1
    obtain ⟨rfl, _⟩ := m1
    have := m2.new.2
    omega

/-- A new row in a block that nobody knows. -/
theorem WR.newRowObj {g : G} {σ : TS} {w : World} {b base n : Nat} {cs : List TV} (hw : WR g σ w) (hu : Unknown g σ b) (hlt : b < w.heap.size)
    (hc : ∃ c e fz vs, w.heap[b]? = some (.cells c e fz) ∧ base + n ≤ c.size ∧ cs.length ≤ n ∧ (∀ j, j < n → ¬ (fz.1 ≤ base + j ∧ base + j < fz.2)) ∧ VRL g σ cs vs ∧ (∀ v ∈ vs, v.oneCell' = true) ∧ ∀ i v, vs[i]? = some v → c[base + i]? = some v) :
    WR { g with ν := upd g.ν σ.length (b, base, n) } (σ ++ [.row cs]) w ∧ Ext g σ { g with ν := upd g.ν σ.length (b, base, n) } (σ ++ [.row cs]) := by
  have hx : Ext g σ { g with ν := upd g.ν σ.length (b, base, n) } (σ ++ [.row cs]) :=
    Ext.push rfl (fun _ _ h => h) (fun _ _ _ h => h) (fun _ _ => rfl) (fun _ _ => rfl) (fun l hl => upd_ne _ _ (by omega))
  have hcase : ∀ l cs', (σ ++ [.row cs])[l]? = some (.row cs') → (l = σ.length ∧ cs' = cs) ∨ (l < σ.length ∧ σ[l]? = some (.row cs')) := fun l cs' e => by
    rcases Nat.lt_or_ge l σ.length with hl | hl
    · rw [List.getElem?_append_left hl] at e; exact .inr ⟨hl, e⟩
    · rw [List.getElem?_append_right hl] at e
      cases hq : l - σ.length with
      | zero =>
        rw [hq] at e
        simp only [List.getElem?_cons_zero, Option.some.injEq, TObj.row.injEq] at e
        exact .inl ⟨by omega, e.symm⟩
      | succ m => rw [hq] at e; cases e
  refine ⟨⟨hw.below, hw.keep, ?_, hw.inj, ?_, hw.sep, ?_, hw.tokinj, hw.toksep, ?_, ?_⟩, hx⟩
  · intro l x e
    rw [List.getElem?_append_left (hw.new l x e).2.2]
    exact (hw.obj l x e).ghost hx
  · intro l x e
    have := hw.new l x e
    exact ⟨this.1, this.2.1, by have := this.2.2; simp; omega⟩
  · intro t x e m e'
    obtain ⟨p1, p2, k, sz, p3, p4⟩ := hw.tok t x e m e'
    exact ⟨p1, p2, k, sz, by rw [List.getElem?_append_left (List.getElem?_eq_some_iff.1 p3).1]; exact p3, p4⟩
  · intro l cs' e
    rcases hcase l cs' e with ⟨rfl, rfl⟩ | ⟨hl, e⟩
    · obtain ⟨c, e', fz, vs, q1, q2, q3, q4, q5, q6⟩ := hc
      exact ⟨b, base, n, upd_same _ _ _, ⟨⟨hu.new, hlt⟩, hu.κ, hu.ρ, hu.ω, c, e', fz, vs, q1, q2, q3, q4, VRL.mono hx _ _ q5, q6⟩⟩
    · obtain ⟨b', base', n', m1, m2⟩ := hw.row l cs' e
      exact ⟨b', base', n', by show upd _ _ _ _ = _; rw [upd_ne _ _ (by omega)]; exact m1, m2.ghost hx m2.κ m2.ρ m2.ω⟩
  · intro l l' c1 c2 b' x y x' y' e1 e2 n1 n2
    rcases hcase l c1 e1 with ⟨rfl, rfl⟩ | ⟨hl, f1⟩ <;> rcases hcase l' c2 e2 with ⟨rfl, rfl⟩ | ⟨hl', f2⟩
    · rfl
    · simp only [upd_same, Option.some.injEq, Prod.mk.injEq] at n1
      obtain ⟨rfl, _⟩ := n1
      simp only [upd_ne _ _ (show l' ≠ σ.length by omega)] at n2
      exact absurd n2 (hu.ν _ _ f2 _ _)
    · simp only [upd_same, Option.some.injEq, Prod.mk.injEq] at n2
      obtain ⟨rfl, _⟩ := n2
      simp only [upd_ne _ _ (show l ≠ σ.length by omega)] at n1
      exact absurd n1 (hu.ν _ _ f1 _ _)
    · simp only [upd_ne _ _ (show l ≠ σ.length by omega)] at n1
      simp only [upd_ne _ _ (show l' ≠ σ.length by omega)] at n2
      exact hw.rowinj _ _ _ _ _ _ _ _ _ f1 f2 n1 n2

/-- A row is written in place. -/
theorem WR.setRow {g : G} {σ : TS} {w w' : World} {l b base n : Nat} {cs cs' : List TV} (hw : WR g σ w) (hl : σ[l]? = some (.row cs)) (hn : g.ν l = some (b, base, n))
    (hs : w'.heap.size = w.heap.size) (hos : w'.os = w.os) (ht : w'.tape = w.tape) (hou : w'.output = w.output) (hb : ∀ k, k ≠ b → w'.heap[k]? = w.heap[k]?)
    (hc : ∃ c e fz vs, w'.heap[b]? = some (.cells c e fz) ∧ base + n ≤ c.size ∧ cs'.length ≤ n ∧ (∀ j, j < n → ¬ (fz.1 ≤ base + j ∧ base + j < fz.2)) ∧ VRL g σ cs' vs ∧ (∀ v ∈ vs, v.oneCell' = true) ∧ ∀ i v, vs[i]? = some v → c[base + i]? = some v) :
    WR g (σ.set l (.row cs')) w' ∧ Ext g σ g (σ.set l (.row cs')) := by
  have hlt := (List.getElem?_eq_some_iff.1 hl).1
  obtain ⟨b0, base0, n0, m1, m2⟩ := hw.row l cs hl
  rw [hn] at m1
  simp only [Option.some.injEq, Prod.mk.injEq] at m1
  obtain ⟨rfl, rfl, rfl⟩ := m1
  have hcase : ∀ l' c, (σ.set l (.row cs'))[l']? = some (.row c) → (l' = l ∧ c = cs') ∨ (l ≠ l' ∧ σ[l']? = some (.row c)) := fun l' c e => by
    by_cases he : l = l'
    · subst he
      rw [List.getElem?_set_self hlt] at e
      simp only [Option.some.injEq, TObj.row.injEq] at e
      exact .inl ⟨rfl, e.symm⟩
    · rw [List.getElem?_set_ne he] at e; exact .inr ⟨he, e⟩
  have hx : Ext g σ g (σ.set l (.row cs')) := by
    refine ⟨rfl, fun _ _ h => h, fun _ _ _ h => h, fun t k sz e => ⟨k, ?_, .inr ⟨rfl, rfl⟩⟩, by simp, fun _ _ => rfl, fun l' c _ e => ?_⟩
    · rw [List.getElem?_set_ne (by rintro rfl; rw [hl] at e; cases e)]; exact e
    · rcases hcase l' c e with ⟨rfl, rfl⟩ | ⟨_, e⟩
      · exact ⟨cs, hl, rfl⟩
      · exact ⟨c, e, rfl⟩
  refine ⟨⟨?_, ?_, ?_, hw.inj, ?_, hw.sep, ?_, hw.tokinj, hw.toksep, ?_, ?_⟩, hx⟩
  · exact hw.below.trans ⟨hos, ht, hou, by omega, fun k hk => hb k (by have := m2.new.1; omega)⟩
  · intro b' o v e
    obtain ⟨h1, h2⟩ := hw.keep b' o v e
    refine ⟨(World.cell?_of_block (w := w) (hb b' ?_)).trans h1, h2⟩
    rintro rfl
    rw [m2.κ o] at e; cases e
  · intro l' b' e
    have hbb : b' ≠ b := by rintro rfl; exact m2.ρ _ e
    by_cases he : l = l'
    · subst he
      rw [List.getElem?_set_self hlt]; trivial
    · rw [List.getElem?_set_ne he]
      exact (ObjOk.world (hb b' hbb) (hw.obj l' b' e)).ghost hx
  · intro l' b' e
    have := hw.new l' b' e
    exact ⟨this.1, by omega, by simpa using this.2.2⟩
  · intro t b' e m e'
    obtain ⟨h1, h2, k, sz, h3, h4⟩ := hw.tok t b' e m e'
    have hne : b' ≠ b := by rintro rfl; exact m2.ω _ _ _ e'
    refine ⟨h1, by omega, k, sz, by rw [List.getElem?_set_ne (by rintro rfl; rw [hl] at h3; cases h3)]; exact h3, fun j hj => ?_⟩
    obtain ⟨k1, k2, k3⟩ := h4 j hj
    exact ⟨k1, by rw [World.cell?_of_block (w := w) (a := ⟨b', e + j, none⟩) (hb b' hne)]; exact k2, by rw [World.frozen?_of_block (w := w) (a := ⟨b', e + j, none⟩) (hb b' hne)]; exact k3⟩
  · intro l' c e
    rcases hcase l' c e with ⟨rfl, rfl⟩ | ⟨hne, e⟩
    · obtain ⟨c', e', fz, vs, q1, q2, q3, q4, q5, q6⟩ := hc
      exact ⟨b, base, n, hn, ⟨m2.new.1, by rw [hs]; exact m2.new.2⟩, m2.κ, m2.ρ, m2.ω, c', e', fz, vs, q1, q2, q3, q4, VRL.mono hx _ _ q5, q6⟩
    · obtain ⟨b', base', n', k1, k2⟩ := hw.row l' c e
      have hbb : b' ≠ b := by rintro rfl; exact hne (hw.rowinj _ _ _ _ _ _ _ _ _ hl e hn k1)
      exact ⟨b', base', n', k1, (k2.world (hb b' hbb) (by omega)).ghost hx k2.κ k2.ρ k2.ω⟩
  · intro l1 l2 c1 c2 b' x y x' y' e1 e2 n1 n2
    rcases hcase l1 c1 e1 with ⟨rfl, rfl⟩ | ⟨_, f1⟩ <;> rcases hcase l2 c2 e2 with ⟨rfl, rfl⟩ | ⟨_, f2⟩
    · rfl
    · exact hw.rowinj _ _ _ _ _ _ _ _ _ hl f2 n1 n2
    · exact hw.rowinj _ _ _ _ _ _ _ _ _ f1 hl n1 n2
    · exact hw.rowinj _ _ _ _ _ _ _ _ _ f1 f2 n1 n2

end Go.TM

/- The T-machine, part 4: the operations on trees, and that each does what the model's operation does. -/
set_option linter.unusedVariables false
set_option linter.unusedSimpArgs false
namespace Go.TM
open Go.RowKit (Below)

/-- A value is made, and the world goes on. -/
def ValOk (P : Program) (g : G) (σ : TS) (w : World) (s : Sem Value) (tv : TV) (σ' : TS) : Prop :=
  ∃ g' w' v, s.run P w = .ok v w' ∧ Ext g σ g' σ' ∧ WR g' σ' w' ∧ VR g' σ' tv v

theorem ValOk.same {P : Program} {g : G} {σ : TS} {w : World} {s : Sem Value} {tv : TV} (hw : WR g σ w) {v : Value} (hr : s.run P w = .ok v w) (hv : VR g σ tv v) : ValOk P g σ w s tv σ :=
  ⟨g, w, v, hr, Ext.refl _ _, hw, hv⟩

/- new cells of the small heap -/
theorem newCells_ok {P : Program} {g : G} {σ : TS} {w : World} (hw : WR g σ w) (t : TypeId) (c : Array Value) (cs : List TV) (hc : VRL g σ cs c.toList) (h1 : cs.all TV.one = true) :
    ValOk P g σ w (do pure (.pointer (some (← newRow t c)))) (.ptr σ.length 0) (σ ++ [.cells cs]) := by
  have hb : Below w.heap.size w (w.alloc (.cells c t)) := (Below.refl _ _).alloc (Nat.le_refl _) _
  have ho := hw.newLoc (b := w.heap.size) (o := .cells cs) hb (Nat.le_refl _) (by simp)
    ⟨c, t, (0, 0), c.toList, [], heap_alloc_new w _, by simp, by intro o _; simp, hc.one h1, ?_⟩
  · exact ⟨_, _, .pointer (some ⟨w.heap.size, 0, none⟩), by simp [newRow], ho.2, ho.1, by simp only [VR]; exact ⟨_, upd_same _ _ _, rfl⟩⟩
  · refine VRL.mono ?_ _ _ hc
    exact Ext.push rfl (fun l x e => by show upd _ _ _ _ = _; rw [upd_ne _ _ (by have := (hw.new l x e).2.2; omega)]; exact e) (fun _ _ _ h => h) (fun _ _ => rfl) (fun l hl => upd_ne _ _ (by omega))

def tbox (σ : TS) (v : TV) : Option (TV × TS) := if v.cells.all TV.one then some (.ptr σ.length 0, σ ++ [.cells v.cells]) else none

theorem tbox_ok {P : Program} {g : G} {σ σ' : TS} {w : World} (hw : WR g σ w) {t : TypeId} {tv r : TV} {v : Value} (hv : VR g σ tv v) (h : tbox σ tv = some (r, σ')) :
    ValOk P g σ w (Instr.box t v) r σ' := by
  unfold tbox at h
  split at h
  · rename_i h1
    cases h
    exact newCells_ok hw t v.cells tv.cells hv.cells h1
  · cases h

def talloc (T : Tab) (σ : TS) (t : TypeId) : Option (TV × TS) := ((T t).bind (·.zero)).bind (tbox σ)

theorem talloc_ok {P : Program} {g : G} {σ σ' : TS} {w : World} (hw : WR g σ w) {t : TypeId} {r : TV} (h : talloc (mkTab P) σ t = some (r, σ')) :
    ValOk P g σ w (Instr.alloc t true (.tuple #[])) r σ' := by
  unfold talloc at h
  cases hi : mkTab P t with
  | none => simp [hi] at h
  | some i =>
    cases hz : i.zero with
    | none => simp [hi, hz] at h
    | some z =>
      simp only [hi, hz, Option.bind_some] at h
      obtain ⟨zv, hr, hc, _⟩ := zero_run hi hz w
      obtain ⟨g', w', v, h1, h2⟩ := tbox_ok (P := P) hw (t := t) (constV_sound (g := g) (σ := σ) hc) h
      refine ⟨g', w', v, ?_, h2⟩
      simp only [Instr.alloc, Sem.run_bind, hr, Result.andThen_ok]
      simpa [Instr.box, newVar] using h1

/- building of structs and arrays -/
theorem VRL.splice {g : G} {σ : TS} {cs xs : List TV} {us vs : List Value} {off : Nat} (h : VRL g σ cs us) (k : VRL g σ xs vs) :
    VRL g σ (splice cs off xs) (us.take off ++ vs ++ us.drop (off + vs.length)) := by
  unfold TM.splice
  rw [k.length]
  exact ((h.take off).append k).append (h.drop _)

theorem foldl_set (off : Nat) : ∀ (vs : List Value) (k : Nat) (cs : Array Value), off + k + vs.length ≤ cs.size →
    ((vs.zipIdx k).foldl (fun (cs : Array Value) (x : Value × Nat) => cs.setIfInBounds (off + x.2) x.1) cs).toList = cs.toList.take (off + k) ++ vs ++ cs.toList.drop (off + k + vs.length)
  | [], k, cs, _ => by simp
  | v :: vs, k, cs, h => by
    simp only [List.zipIdx_cons, List.foldl_cons, List.length_cons] at h ⊢
    rw [foldl_set off vs (k + 1) _ (by simp; omega)]
    have h1 : (cs.setIfInBounds (off + k) v).toList = cs.toList.set (off + k) v := by simp
    rw [h1]
    have e1 : List.take (off + (k + 1)) (cs.toList.set (off + k) v) = cs.toList.take (off + k) ++ [v] := by
      rw [show off + (k + 1) = (off + k) + 1 by omega, List.take_succ_eq_append_getElem (by simp; omega)]
      simp [List.take_set_of_le]
    have e2 : List.drop (off + (k + 1) + vs.length) (cs.toList.set (off + k) v) = cs.toList.drop (off + k + (vs.length + 1)) := by
      rw [List.drop_set_of_lt (by omega)]
      congr 1
      omega
    rw [e1, e2]
    simp

def tfill (place : Nat → Option (Nat × Nat)) (cells : List TV) : List (Nat × TV) → Option (List TV)
  | [] => some cells
  | (i, v) :: rest =>
    match place i with
    | none => none
    | some (off, size) => if v.cells.length = size ∧ off + size ≤ cells.length then tfill place (splice cells off v.cells) rest else none

def PartsR (g : G) (σ : TS) : List (Nat × TV) → List (Nat × Value) → Prop
  | [], vs => vs = []
  | x :: xs, vs => ∃ v rest, vs = v :: rest ∧ v.1 = x.1 ∧ VR g σ x.2 v.2 ∧ PartsR g σ xs rest

theorem splice_length {cs xs : List TV} {off : Nat} (h : off + xs.length ≤ cs.length) : (splice cs off xs).length = cs.length := by
  unfold splice; simp; omega

theorem fill_ok {g : G} {σ : TS} (place : Nat → Option (Nat × Nat)) : ∀ (ps : List (Nat × TV)) (vs : List (Nat × Value)) (cs : List TV) (us : Array Value) (r : List TV), PartsR g σ ps vs → VRL g σ cs us.toList →
    tfill place cs ps = some r → ∃ ur, Instr.fill place us vs = some ur ∧ VRL g σ r ur.toList
  | [], _, cs, us, r, hp, hc, h => by
    simp only [PartsR] at hp; subst hp
    cases h
    exact ⟨us, rfl, hc⟩
  | (i, tv) :: ps, _, cs, us, r, hp, hc, h => by
    simp only [PartsR] at hp
    obtain ⟨⟨j, v⟩, rest, rfl, rfl, hv, hr⟩ := hp
    simp only [tfill] at h
    simp only [Instr.fill]
    split at h
    · cases h
    · rename_i off size hpl
      simp only [hpl]
      split at h
      · rename_i hcond
        have hl := hv.cells.length
        have hcl := hc.length
        simp only [Array.length_toList] at hl hcl
        have h1 : (decide (v.cells.size ≠ size) || decide (off + v.cells.size > us.size)) = false := by
          simp; omega
        rw [if_neg (by rw [h1]; simp)]
        refine fill_ok place ps rest _ _ r hr ?_ h
        have := foldl_set off v.cells.toList 0 us (by simp; omega)
        simp only [Nat.add_zero] at this
        rw [← Array.foldl_toList, Array.toList_zipIdx, this]
        exact hc.splice hv.cells
      · cases h

def tplaces (T : Tab) : List (TypeId × Nat) → Option (List (Nat × Nat))
  | [] => some []
  | (t, off) :: r => match T t, tplaces T r with
    | some i, some ps => some ((off, i.size) :: ps)
    | _, _ => none

theorem tplaces_run {P : Program} : ∀ (fs : List Field) (ps : List (Nat × Nat)), tplaces (mkTab P) (fs.map fun f => (f.type, f.offset)) = some ps → ∀ w,
    (fs.mapM fun f => Prod.mk f.offset <$> sizeOf f.type).run P w = .ok ps w
  | [], ps, h, w => by simp only [List.map_nil, tplaces] at h; cases h; simp
  | f :: fs, ps, h, w => by
    simp only [List.map_cons, tplaces] at h
    split at h
    · rename_i i qs h1 h2
      cases h
      simp only [List.mapM_cons, Sem.run_bind, Sem.run_map, sizeOf_run h1, Result.andThen_ok, tplaces_run fs qs h2, Sem.run_pure]
    · cases h

def tbuild (T : Tab) (t : TypeId) (ps : List (Nat × TV)) : Option TV :=
  match T t with
  | none => none
  | some i =>
    match i.zero, i.k with
    | some (.agg zs), .struct fs _ => match tplaces T fs with
      | some pl => (tfill (pl[·]?) zs ps).map .agg
      | none => none
    | some (.agg zs), .arr _ e => match T e with
      | some j => (tfill (fun i => some (i * j.size, j.size)) zs ps).map .agg
      | none => none
    | _, _ => none

theorem constV_agg {v : Value} {zs : List TV} (h : constV v = some (.agg zs)) : ∃ us, v = .agg us ∧ const1L us.toList = some zs := by
  unfold constV at h
  split at h
  · rename_i cs
    cases hc : const1L cs.toList with
    | none => simp [hc] at h
    | some xs =>
      simp [hc] at h
      subst h
      exact ⟨cs, rfl, hc⟩
  · unfold const1 at h
    split at h <;> first | (cases h; done) | (split at h <;> cases h)

theorem tbuild_run {P : Program} {g : G} {σ : TS} {t : TypeId} {ps : List (Nat × TV)} {vs : Array (Nat × Value)} {tv : TV} (hp : PartsR g σ ps vs.toList)
    (h : tbuild (mkTab P) t ps = some tv) (w : World) : ∃ v, (Instr.build t vs).run P w = .ok v w ∧ VR g σ tv v := by
  unfold tbuild at h
  split at h
  · cases h
  · rename_i i hi
    obtain ⟨info, d, k1, k2, k3, k4, k5, k6, k7⟩ := mkTab_sound hi
    split at h
    · rename_i zs fs _ hz hk
      split at h
      · rename_i pl hpl
        cases hf : tfill (pl[·]?) zs ps with
        | none => simp [hf] at h
        | some r =>
          simp [hf] at h; subst h
          obtain ⟨zv, hzr, hzc, _⟩ := zero_run hi hz w
          obtain ⟨us, rfl, hus⟩ := constV_agg hzc
          obtain ⟨ur, hfill, hur⟩ := fill_ok (g := g) (σ := σ) _ ps vs.toList zs us r hp (const1L_sound hus) hf
          rw [k3] at hk
          cases d <;> simp only [TK.of] at hk <;> first | (cases hk; done) | skip
          rename_i fields
          cases hk
          have hrun := tplaces_run fields.toList pl hpl w
          refine ⟨.agg ur, ?_, by simp only [VR]; exact ⟨ur, rfl, hur⟩⟩
          have hfun : (fun x : Nat => (pl.toArray)[x]?) = fun x => pl[x]? := by funext x; simp
          simp [Instr.build, hzr, run_underlying k2, Array.mapM_eq_mapM_toList, hrun, Value.cells, hfill]
      · cases h
    · rename_i zs n e hz hk
      split at h
      · rename_i j hj
        cases hf : tfill (fun i => some (i * j.size, j.size)) zs ps with
        | none => simp [hf] at h
        | some r =>
          simp [hf] at h; subst h
          obtain ⟨zv, hzr, hzc, _⟩ := zero_run hi hz w
          obtain ⟨us, rfl, hus⟩ := constV_agg hzc
          obtain ⟨ur, hfill, hur⟩ := fill_ok (g := g) (σ := σ) _ ps vs.toList zs us r hp (const1L_sound hus) hf
          rw [k3] at hk
          cases d <;> simp only [TK.of] at hk <;> first | (cases hk; done) | skip
          rename_i n' e'
          cases hk
          refine ⟨.agg ur, ?_, by simp only [VR]; exact ⟨ur, rfl, hur⟩⟩
          simp [Instr.build, hzr, run_underlying k2, sizeOf_run hj, Value.cells, hfill]
      · cases h
    · cases h

/- slices written out: trees from the first, and, where it is wanted, a right to append -/
def rowZero (z : List TV) (n : Nat) : List TV := (List.range n).map fun i => z.getD (i % z.length) .nilp

def tright (want : Bool) (σ : TS) (len sz : Nat) (cs : List TV) : TV × TS := if want then (.sl (some (σ.length, len)) len cs, σ ++ [.right len sz]) else (.sl none len cs, σ)

theorem VRL.ofGet {g : G} {σ : TS} : ∀ {xs : List TV} {vs : List Value}, vs.length = xs.length → (∀ (i : Nat) (x : TV) (v : Value), xs[i]? = some x → vs[i]? = some v → VR g σ x v) → VRL g σ xs vs
  | [], vs, h, _ => by simp only [VRL]; exact List.eq_nil_of_length_eq_zero (by simpa using h)
  | x :: xs, [], h, _ => by simp at h
  | x :: xs, v :: vs, h, k => by
    simp only [VRL]
    exact ⟨v, vs, rfl, k 0 x v (by simp) (by simp), VRL.ofGet (by simpa using h) fun i y u hy hu => k (i + 1) y u (by simpa using hy) (by simpa using hu)⟩

theorem VR_default {g : G} {σ : TS} {z : List TV} {us : List Value} (h : VRL g σ z us) (hz : z ≠ []) (i : Nat) : ∃ v, us[i % us.length]? = some v ∧ VR g σ (z.getD (i % z.length) .nilp) v := by
  have hl := h.length
  have hp : 0 < z.length := List.length_pos_iff.2 hz
  have hlt : i % z.length < z.length := Nat.mod_lt _ hp
  obtain ⟨v, hv, hr⟩ := h.get (i := i % z.length) (x := z[i % z.length]) (List.getElem?_eq_getElem hlt)
  refine ⟨v, by rw [hl]; exact hv, ?_⟩
  rw [List.getD_eq_getElem?_getD, List.getElem?_eq_getElem hlt]
  exact hr

/-- A new row whose first cells stay, with what lies behind them spare. -/
theorem newRow_ok {P : Program} {g : G} {σ : TS} {w w' : World} {b : Nat} (hw : WR g σ w) (want : Bool) (hb : Below w.heap.size w w') (h1 : w.heap.size ≤ b) (h2 : b < w'.heap.size)
    (cs : List TV) (vs : List Value) (hc : VRL g σ cs vs) (hone : cs.all TV.one = true) (hr : w'.rangeAt b 0 vs) (len cap sz : Nat) (hle : len ≤ cap)
    (hsp : ∀ j, j < (cap - len) * sz → (w'.cell? ⟨b, vs.length + j, none⟩).isSome = true ∧ w'.frozen? ⟨b, vs.length + j, none⟩ = false) :
    ∃ g', WR g' (tright want σ len sz cs).2 w' ∧ Ext g σ g' (tright want σ len sz cs).2 ∧ VR g' (tright want σ len sz cs).2 (tright want σ len sz cs).1 (.slice (some ⟨b, 0, none⟩) len cap) := by
  obtain ⟨k1, k2, k3⟩ := hw.newKept hb h1 hr (hc.one hone)
  cases want with
  | false =>
    refine ⟨_, k1, k2, ?_⟩
    simp only [tright, VR, Bool.false_eq_true, if_false]
    exact ⟨_, cap, vs, rfl, hle, k3, .inl rfl, VRL.mono k2 _ _ hc, trivial⟩
  | true =>
    have h0 := hw.below.size
    have hfr : ∀ l, g.ρ l ≠ some b := fun l e => by have := (hw.new l b e).2.1; omega
    have hom : ∀ t e n, g.ω t ≠ some (b, e, n) := fun t e n e' => by have := (hw.tok t b e n e').2.1; omega
    have hrw : ∀ l cs, σ[l]? = some (.row cs) → ∀ x y, g.ν l ≠ some (b, x, y) := fun l cs q x y q' => by
      obtain ⟨b', base, n, e1, e2⟩ := hw.row l cs q
      rw [q'] at e1
      simp only [Option.some.injEq, Prod.mk.injEq] at e1
      obtain ⟨rfl, _⟩ := e1
      have := e2.new.2
      omega
    obtain ⟨m1, m2⟩ := k1.newRight (b := b) (e := vs.length) (n := cap - len) (sz := sz) (k := len) (Nat.le_trans h0 h1) h2 hfr hom hrw (fun j hj => by
      refine ⟨?_, hsp j hj⟩
      show keepRow _ _ _ _ _ = _
      unfold keepRow
      simp)
    refine ⟨_, m1, k2.trans m2, ?_⟩
    simp only [tright, VR, if_true]
    refine ⟨_, cap, vs, rfl, hle, k3.mono m2, .inl rfl, VRL.mono (k2.trans m2) _ _ hc, ?_⟩
    refine ⟨len, sz, by simp, Nat.le_refl _, fun _ => ⟨b, vs.length, upd_same _ _ _, fun _ => ⟨rfl, by simp, rfl⟩⟩⟩

def tbuildSlice (T : Tab) (want : Bool) (σ : TS) (t : TypeId) (len : Nat) (ps : List (Nat × TV)) : Option (TV × TS) :=
  match T t with
  | none => none
  | some i => match i.k with
    | .slice e => match T e with
      | some j => match j.zero with
        | some z => if len * j.size ≤ 2 ^ 24 ∧ z.cells ≠ [] then match tfill (fun i => some (i * j.size, j.size)) (rowZero z.cells (len * j.size)) ps with
            | some cs => if cs.all TV.one then some (tright want σ len j.size cs) else none
            | none => none
          else none
        | none => none
      | none => none
    | _ => none

theorem rangeAt_alloc (w : World) (c : Array Value) (t : TypeId) (fz : Nat × Nat) (vs : List Value) (h : ∀ (i : Nat) (v : Value), vs[i]? = some v → c[i]? = some v) : (w.alloc (.cells c t fz)).rangeAt w.heap.size 0 vs := by
  intro j v e
  rw [cell_of_heap (heap_alloc_new w (.cells c t fz)), Nat.zero_add]
  exact h j v e

theorem tbuildSlice_ok {P : Program} {g : G} {σ σ' : TS} {w : World} (hw : WR g σ w) {want : Bool} {t : TypeId} {len : Nat} {ps : List (Nat × TV)} {vs : Array (Nat × Value)} {tv : TV} (hp : PartsR g σ ps vs.toList)
    (h : tbuildSlice (mkTab P) want σ t len ps = some (tv, σ')) : ValOk P g σ w (Instr.buildSlice t len vs) tv σ' := by
  unfold tbuildSlice at h
  split at h
  · cases h
  · rename_i i hi
    obtain ⟨info, d, k1, k2, k3, k4, k5, k6, k7⟩ := mkTab_sound hi
    split at h
    · rename_i e hk
      split at h
      · rename_i j hj
        split at h
        · rename_i z hz
          split at h
          · rename_i hcond
            split at h
            · rename_i cs hf
              split at h
              · rename_i hone
                have h' := Option.some.inj h
                obtain rfl : tv = (tright want σ len j.size cs).1 := by rw [h']
                obtain rfl : σ' = (tright want σ len j.size cs).2 := by rw [h']
                obtain ⟨zv, hzr, hzc, _⟩ := zero_run hj hz w
                have hzv := (constV_sound (g := g) (σ := σ) hzc).cells
                rw [k3] at hk
                cases d <;> simp only [TK.of] at hk <;> first | (cases hk; done) | skip
                cases hk
                have hbase : VRL g σ (rowZero z.cells (len * j.size)) ((Array.range (len * j.size)).map fun x => zv.cells[x % zv.cells.size]!).toList := by
                  refine VRL.ofGet (by simp [rowZero]) fun i x v hx hv => ?_
                  simp only [rowZero, List.getElem?_map] at hx
                  simp only [Array.toList_map, List.getElem?_map, Array.toList_range] at hv
                  cases hq : (List.range (len * j.size))[i]? with
                  | none => simp [hq] at hx
                  | some y =>
                    simp only [hq, Option.map_some, Option.some.injEq] at hx hv
                    subst hx
                    obtain ⟨u, hu, hr⟩ := VR_default hzv hcond.2 y
                    simp only [Array.length_toList] at hu
                    rw [getElem!_def, ← Array.getElem?_toList, hu] at hv
                    subst hv
                    exact hr
                obtain ⟨ur, hfill, hur⟩ := fill_ok (g := g) (σ := σ) _ ps vs.toList _ _ cs hp hbase hf
                have hlen : cs.length = ur.size := by have := hur.length; simpa using this.symm
                obtain ⟨g', q1, q2, q3⟩ := newRow_ok (P := P) (b := w.heap.size) hw want ((Below.refl _ _).alloc (Nat.le_refl _) (.cells ur e)) (Nat.le_refl _) (by simp) cs ur.toList hur hone
                  (rangeAt_alloc w ur e (0, 0) ur.toList (fun i v h => by simpa using h)) len len j.size (Nat.le_refl _) (fun x hx => by simp at hx)
                refine ⟨g', _, _, ?_, q2, q1, q3⟩
                have hn : ¬ (len * j.size > 2 ^ 24) := by omega
                by_cases h0 : len * j.size = 0
                · rw [h0] at hfill
                  have e0 : ∀ f : Nat → Value, (Array.range 0).map f = #[] := fun f => by simp
                  rw [e0] at hfill
                  simp only [Instr.buildSlice, Sem.run_bind, run_underlying k2, sizeOf_run hj, Result.andThen_ok, hn, if_false, h0, if_true, Sem.run_pure, e0, hfill, newRow, run_newObj, World.alloc_eq]
                  simp
                · simp only [Instr.buildSlice, Sem.run_bind, run_underlying k2, sizeOf_run hj, Result.andThen_ok, hn, if_false, h0, Sem.run_pure, hzr, hfill, newRow, run_newObj, World.alloc_eq]
              · cases h
            · cases h
          · cases h
        · cases h
      · cases h
    · cases h

end Go.TM
