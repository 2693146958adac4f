/- The T-machine, part 3: what becomes of the relation of worlds where memory is made or written. -/
import Derived.Test.YtgkcackpffimmaaT2
set_option linter.unusedVariables false
namespace Go.TM
open Go.RowKit (Below)

def TObj.isRight : TObj → Bool
  | .right _ _ => true
  | _ => false

theorem Ext.set {g : G} {σ : TS} {l : Nat} {o : TObj} (h : ∀ k sz, σ[l]? ≠ some (.right k sz)) : Ext g σ g (σ.set l o) := by
  refine ⟨rfl, fun _ _ h => h, fun _ _ _ h => h, fun t k sz e => ⟨k, ?_, .inr ⟨rfl, rfl⟩⟩, by simp, fun _ _ => rfl⟩
  by_cases he : l = t
  · subst he; exact absurd e (h k sz)
  · rw [List.getElem?_set_ne he]; exact e

theorem Ext.push {g g' : G} {σ : TS} {o : TObj} (h0 : g'.w0 = g.w0) (h1 : ∀ l b, g.ρ l = some b → g'.ρ l = some b) (h2 : ∀ b o v, g.κ b o = some v → g'.κ b o = some v)
    (h3 : ∀ t, t < σ.length → g'.ω t = g.ω t) (h4 : ∀ l, l < σ.length → g'.ρ l = g.ρ l) : Ext g σ g' (σ ++ [o]) := by
  refine ⟨h0, h1, h2, fun t k sz e => ⟨k, ?_, .inr ⟨rfl, ?_⟩⟩, by simp, h4⟩
  · rw [List.getElem?_append_left (List.getElem?_eq_some_iff.1 e).1]; exact e
  · exact h3 t (List.getElem?_eq_some_iff.1 e).1

/-- A thing of the small heap is written. -/
theorem WR.setObj {g : G} {σ : TS} {w w' : World} {l b : Nat} {o : TObj} (hw : WR g σ w) (hl : g.ρ l = some b) (hold : ∀ k sz, σ[l]? ≠ some (.right k sz))
    (hs : w'.heap.size = w.heap.size) (hos : w'.os = w.os) (ht : w'.tape = w.tape) (hou : w'.output = w.output) (hb : ∀ k, k ≠ b → w'.heap[k]? = w.heap[k]?)
    (ho : ObjOk g σ w' b (some o)) : WR g (σ.set l o) w' := by
  have hx : Ext g σ g (σ.set l o) := Ext.set hold
  obtain ⟨n1, n2, n3⟩ := hw.new l b hl
  refine ⟨?_, ?_, ?_, hw.inj, ?_, hw.sep, ?_, hw.tokinj, hw.toksep⟩
  · refine hw.below.trans ⟨hos, ht, hou, by omega, fun k hk => hb k (by omega)⟩
  · intro b' o' v e
    obtain ⟨h1, h2⟩ := hw.keep b' o' v e
    refine ⟨(World.cell?_of_block (w := w) (hb b' ?_)).trans h1, h2⟩
    rintro rfl
    rw [hw.sep l _ hl] at e
    cases e
  · intro l' b' e
    by_cases he : l = l'
    · subst he
      rw [hl] at e; cases e
      rw [List.getElem?_set_self n3]
      exact ho.ghost hx
    · rw [List.getElem?_set_ne he]
      refine (ObjOk.world (hb b' ?_) (hw.obj l' b' e)).ghost hx
      rintro rfl
      exact he (hw.inj _ _ _ hl e)
  · intro l' b' e
    obtain ⟨h1, h2, h3⟩ := hw.new l' b' e
    exact ⟨h1, by omega, by simpa using h3⟩
  · intro t b' e n e'
    obtain ⟨h1, h2, k, sz, h3, h4⟩ := hw.tok t b' e n e'
    have hne : b' ≠ b := by rintro rfl; exact hw.toksep _ _ _ _ _ e' hl
    refine ⟨h1, by omega, k, sz, by rw [List.getElem?_set_ne (by rintro rfl; exact hold _ _ h3)]; exact h3, fun j hj => ?_⟩
    obtain ⟨k1, k2, k3⟩ := h4 j hj
    exact ⟨k1, by rw [World.cell?_of_block (w := w) (a := ⟨b', e + j, none⟩) (hb b' hne)]; exact k2, by rw [World.frozen?_of_block (w := w) (a := ⟨b', e + j, none⟩) (hb b' hne)]; exact k3⟩

def upd {α : Type} (f : Nat → Option α) (k : Nat) (v : α) : Nat → Option α := fun n => if n = k then some v else f n
theorem upd_same {α : Type} (f : Nat → Option α) (k : Nat) (v : α) : upd f k v k = some v := by simp [upd]
theorem upd_ne {α : Type} (f : Nat → Option α) {k n : Nat} (v : α) (h : n ≠ k) : upd f k v n = f n := by simp [upd, h]

/-- A new place of the small heap: a block that is new. -/
theorem WR.newLoc {g : G} {σ : TS} {w w' : World} {b : Nat} {o : TObj} (hw : WR g σ w) (hb : Below w.heap.size w w') (h1 : w.heap.size ≤ b) (h2 : b < w'.heap.size)
    (ho : ObjOk { g with ρ := upd g.ρ σ.length b } (σ ++ [o]) w' b (some o)) :
    WR { g with ρ := upd g.ρ σ.length b } (σ ++ [o]) w' ∧ Ext g σ { g with ρ := upd g.ρ σ.length b } (σ ++ [o]) := by
  have hg := hw.grow hb
  have hnone : ∀ l x, g.ρ l = some x → l ≠ σ.length := fun l x e h => by have := (hw.new l x e).2.2; omega
  have hfresh : ∀ l x, g.ρ l = some x → x ≠ b := fun l x e h => by have := (hw.new l x e).2.1; omega
  have hx : Ext g σ { g with ρ := upd g.ρ σ.length b } (σ ++ [o]) :=
    Ext.push rfl (fun l x e => by show upd _ _ _ _ = _; rw [upd_ne _ _ (hnone l x e)]; exact e) (fun _ _ _ h => h) (fun _ _ => rfl) (fun l hl => upd_ne _ _ (by omega))
  refine ⟨⟨hg.below, hg.keep, ?_, ?_, ?_, ?_, ?_, hw.tokinj, ?_⟩, hx⟩
  · intro l x e
    by_cases he : l = σ.length
    · subst he
      simp only [upd_same, Option.some.injEq] at e
      subst e
      simpa using ho
    · simp only [upd_ne _ _ he] at e
      rw [List.getElem?_append_left (hw.new l x e).2.2]
      exact (hg.obj l x e).ghost hx
  · intro l l' x e e'
    by_cases he : l = σ.length <;> by_cases he' : l' = σ.length
    · omega
    · subst he
      simp only [upd_same, Option.some.injEq] at e
      simp only [upd_ne _ _ he'] at e'
      exact absurd e.symm (hfresh _ _ e')
    · subst he'
      simp only [upd_same, Option.some.injEq] at e'
      simp only [upd_ne _ _ he] at e
      exact absurd e'.symm (hfresh _ _ e)
    · simp only [upd_ne _ _ he] at e
      simp only [upd_ne _ _ he'] at e'
      exact hw.inj _ _ _ e e'
  · intro l x e
    by_cases he : l = σ.length
    · subst he
      simp only [upd_same, Option.some.injEq] at e
      subst e
      have := hw.below.size
      exact ⟨Nat.le_trans this h1, h2, by simp⟩
    · simp only [upd_ne _ _ he] at e
      have := hg.new l x e
      exact ⟨this.1, this.2.1, by have := this.2.2; simp; omega⟩
  · intro l x e o'
    by_cases he : l = σ.length
    · subst he
      simp only [upd_same, Option.some.injEq] at e
      subst e
      cases hq : g.κ b o' with
      | none => rfl
      | some v =>
        have := World.block_lt_of_cell? w _ (hw.keep b o' v hq).1
        simp at this; omega
    · simp only [upd_ne _ _ he] at e
      exact hw.sep l x e o'
  · intro t x e n e'
    obtain ⟨p1, p2, k, sz, p3, p4⟩ := hg.tok t x e n e'
    exact ⟨p1, p2, k, sz, by rw [List.getElem?_append_left (List.getElem?_eq_some_iff.1 p3).1]; exact p3, p4⟩
  · intro t l x e n e' e2
    by_cases he : l = σ.length
    · subst he
      simp only [upd_same, Option.some.injEq] at e2
      subst e2
      have := (hw.tok t _ e n e').2.1
      omega
    · simp only [upd_ne _ _ he] at e2
      exact hw.toksep _ _ _ _ _ e' e2

/-- New cells that stay: the first ones of a new block. -/
def keepRow (κ : Nat → Nat → Option Value) (b : Nat) (vs : List Value) : Nat → Nat → Option Value := fun b' o => if b' = b then vs[o]? else κ b' o

theorem WR.newKept {g : G} {σ : TS} {w w' : World} {b : Nat} {vs : List Value} (hw : WR g σ w) (hb : Below w.heap.size w w') (h1 : w.heap.size ≤ b)
    (hc : w'.rangeAt b 0 vs) (hone : ∀ v ∈ vs, v.oneCell' = true) :
    WR { g with κ := keepRow g.κ b vs } σ w' ∧ Ext g σ { g with κ := keepRow g.κ b vs } σ ∧ Kept { g with κ := keepRow g.κ b vs } b 0 vs := by
  have hg := hw.grow hb
  have hold : ∀ o v, g.κ b o = some v → False := fun o v e => by have := World.block_lt_of_cell? w _ (hw.keep b o v e).1; simp at this; omega
  have hx : Ext g σ { g with κ := keepRow g.κ b vs } σ := by
    refine ⟨rfl, fun _ _ h => h, fun b' o v e => ?_, fun t k sz e => ⟨k, e, .inr ⟨rfl, rfl⟩⟩, Nat.le_refl _, fun _ _ => rfl⟩
    show keepRow _ _ _ _ _ = _
    unfold keepRow
    split
    · subst_vars; exact (hold _ _ e).elim
    · exact e
  refine ⟨⟨hg.below, ?_, fun l x e => (hg.obj l x e).ghost hx, hw.inj, hg.new, ?_, ?_, hw.tokinj, hw.toksep⟩, hx, ?_⟩
  · intro b' o v e
    simp only [keepRow] at e
    split at e
    · subst_vars
      have := hc o v e
      exact ⟨by simpa using this, hone v (List.mem_of_getElem? e)⟩
    · exact hg.keep b' o v e
  · intro l x e o
    show keepRow _ _ _ _ _ = _
    unfold keepRow
    split
    · subst_vars
      have := (hw.new l _ e).2.1
      omega
    · exact hw.sep l x e o
  · intro t x e n e'
    obtain ⟨k1, k2, k, sz, k3, k4⟩ := hg.tok t x e n e'
    refine ⟨k1, k2, k, sz, k3, fun j hj => ?_⟩
    obtain ⟨m1, m2, m3⟩ := k4 j hj
    refine ⟨?_, m2, m3⟩
    show keepRow _ _ _ _ _ = _
    unfold keepRow
    split
    · subst_vars
      have := (hw.tok t _ e n e').2.1
      omega
    · exact m1
  · intro i v e
    show keepRow _ _ _ _ _ = _
    unfold keepRow
    simpa using e

/-- A new right to append, in a block that is new to the ghost's places and rights. -/
theorem WR.newRight {g : G} {σ : TS} {w : World} {b e n sz k : Nat} (hw : WR g σ w) (h0 : g.w0.heap.size ≤ b) (h1 : b < w.heap.size) (hρ : ∀ l, g.ρ l ≠ some b) (hω : ∀ t e n, g.ω t ≠ some (b, e, n))
    (hc : ∀ j, j < n * sz → g.κ b (e + j) = none ∧ (w.cell? ⟨b, e + j, none⟩).isSome = true ∧ w.frozen? ⟨b, e + j, none⟩ = false) :
    WR { g with ω := upd g.ω σ.length (b, e, n) } (σ ++ [.right k sz]) w ∧ Ext g σ { g with ω := upd g.ω σ.length (b, e, n) } (σ ++ [.right k sz]) := by
  have hx : Ext g σ { g with ω := upd g.ω σ.length (b, e, n) } (σ ++ [.right k sz]) :=
    Ext.push rfl (fun _ _ h => h) (fun _ _ _ h => h) (fun t ht => upd_ne _ _ (by omega)) (fun _ _ => rfl)
  refine ⟨⟨hw.below, hw.keep, ?_, hw.inj, ?_, hw.sep, ?_, ?_, ?_⟩, hx⟩
  · intro l x e'
    have hlt := (hw.new l x e').2.2
    rw [List.getElem?_append_left hlt]
    exact (hw.obj l x e').ghost hx
  · intro l x e'
    have := hw.new l x e'
    exact ⟨this.1, this.2.1, by have := this.2.2; simp; omega⟩
  · intro t x e' n' h
    by_cases he : t = σ.length
    · subst he
      simp only [upd_same, Option.some.injEq, Prod.mk.injEq] at h
      obtain ⟨rfl, rfl, rfl⟩ := h
      exact ⟨h0, h1, k, sz, by simp, hc⟩
    · simp only [upd_ne _ _ he] at h
      obtain ⟨p1, p2, k', sz', p3, p4⟩ := hw.tok t x e' n' h
      exact ⟨p1, p2, k', sz', by rw [List.getElem?_append_left (List.getElem?_eq_some_iff.1 p3).1]; exact p3, p4⟩
  · intro t t' x a1 a2 c1 c2 h h'
    by_cases he : t = σ.length <;> by_cases he' : t' = σ.length
    · omega
    · subst he
      simp only [upd_same, Option.some.injEq, Prod.mk.injEq] at h
      simp only [upd_ne _ _ he'] at h'
      obtain ⟨rfl, _⟩ := h
      exact absurd h' (hω _ _ _)
    · subst he'
      simp only [upd_same, Option.some.injEq, Prod.mk.injEq] at h'
      simp only [upd_ne _ _ he] at h
      obtain ⟨rfl, _⟩ := h'
      exact absurd h (hω _ _ _)
    · simp only [upd_ne _ _ he] at h
      simp only [upd_ne _ _ he'] at h'
      exact hw.tokinj _ _ _ _ _ _ _ h h'
  · intro t l x a1 a2 h
    by_cases he : t = σ.length
    · subst he
      simp only [upd_same, Option.some.injEq, Prod.mk.injEq] at h
      obtain ⟨rfl, _⟩ := h
      exact hρ l
    · simp only [upd_ne _ _ he] at h
      exact hw.toksep _ _ _ _ _ h

/-- A right moves to a new block, and its tip rises. -/
theorem WR.moveRight {g : G} {σ : TS} {w : World} {t k k' b e n sz : Nat} (hw : WR g σ w) (hk : σ[t]? = some (.right k sz)) (hlt : k < k')
    (h0 : g.w0.heap.size ≤ b) (h1 : b < w.heap.size) (hρ : ∀ l, g.ρ l ≠ some b) (hω : ∀ t' e n, g.ω t' = some (b, e, n) → t' = t)
    (hc : ∀ j, j < n * sz → g.κ b (e + j) = none ∧ (w.cell? ⟨b, e + j, none⟩).isSome = true ∧ w.frozen? ⟨b, e + j, none⟩ = false) :
    WR { g with ω := upd g.ω t (b, e, n) } (σ.set t (.right k' sz)) w ∧ Ext g σ { g with ω := upd g.ω t (b, e, n) } (σ.set t (.right k' sz)) := by
  have htl := (List.getElem?_eq_some_iff.1 hk).1
  have hx : Ext g σ { g with ω := upd g.ω t (b, e, n) } (σ.set t (.right k' sz)) := by
    refine ⟨rfl, fun _ _ h => h, fun _ _ _ h => h, fun t' x sz' e' => ?_, by simp, fun _ _ => rfl⟩
    by_cases he : t = t'
    · subst he
      rw [hk] at e'; cases e'
      exact ⟨k', by rw [List.getElem?_set_self htl], .inl hlt⟩
    · exact ⟨x, by rw [List.getElem?_set_ne he]; exact e', .inr ⟨rfl, upd_ne _ _ (by omega)⟩⟩
  refine ⟨⟨hw.below, hw.keep, ?_, hw.inj, ?_, hw.sep, ?_, ?_, ?_⟩, hx⟩
  · intro l x e'
    by_cases he : t = l
    · subst he
      rw [List.getElem?_set_self htl]; trivial
    · rw [List.getElem?_set_ne he]
      exact (hw.obj l x e').ghost hx
  · intro l x e'
    have := hw.new l x e'
    exact ⟨this.1, this.2.1, by simpa using this.2.2⟩
  · intro t' x e' n' h
    by_cases he : t' = t
    · subst he
      simp only [upd_same, Option.some.injEq, Prod.mk.injEq] at h
      obtain ⟨rfl, rfl, rfl⟩ := h
      exact ⟨h0, h1, k', sz, by rw [List.getElem?_set_self htl], hc⟩
    · simp only [upd_ne _ _ he] at h
      obtain ⟨p1, p2, q, sz', p3, p4⟩ := hw.tok t' x e' n' h
      exact ⟨p1, p2, q, sz', by rw [List.getElem?_set_ne (by omega)]; exact p3, p4⟩
  · intro t1 t2 x a1 a2 c1 c2 h h'
    by_cases he : t1 = t <;> by_cases he' : t2 = t
    · omega
    · subst he
      simp only [upd_same, Option.some.injEq, Prod.mk.injEq] at h
      simp only [upd_ne _ _ he'] at h'
      obtain ⟨rfl, _⟩ := h
      exact (hω _ _ _ h').symm
    · subst he'
      simp only [upd_same, Option.some.injEq, Prod.mk.injEq] at h'
      simp only [upd_ne _ _ he] at h
      obtain ⟨rfl, _⟩ := h'
      exact hω _ _ _ h
    · simp only [upd_ne _ _ he] at h
      simp only [upd_ne _ _ he'] at h'
      exact hw.tokinj _ _ _ _ _ _ _ h h'
  · intro t' l x a1 a2 h
    by_cases he : t' = t
    · subst he
      simp only [upd_same, Option.some.injEq, Prod.mk.injEq] at h
      obtain ⟨rfl, _⟩ := h
      exact hρ l
    · simp only [upd_ne _ _ he] at h
      exact hw.toksep _ _ _ _ _ h

/-- Spare cells behind a right's tip are written, and stay from now on. -/
def keepMore (κ : Nat → Nat → Option Value) (b e : Nat) (vs : List Value) : Nat → Nat → Option Value := fun b' o => if b' = b ∧ e ≤ o ∧ o < e + vs.length then vs[o - e]? else κ b' o

theorem setCells_block (b : Nat) : ∀ (vs : List Value) (o : Nat) (w : World) (k : Nat), k ≠ b → (w.setCells b o vs).heap[k]? = w.heap[k]?
  | [], _, _, _, _ => rfl
  | v :: r, o, w, k, h => by
    rw [World.setCells, setCells_block b r (o + 1) _ k h]
    exact Below.heap_setCell _ _ _ _ h
theorem setCells_size (b : Nat) : ∀ (vs : List Value) (o : Nat) (w : World), (w.setCells b o vs).heap.size = w.heap.size
  | [], _, _ => rfl
  | v :: r, o, w => by rw [World.setCells, setCells_size b r]; simp
theorem setCells_rest (b : Nat) : ∀ (vs : List Value) (o : Nat) (w : World), (w.setCells b o vs).os = w.os ∧ (w.setCells b o vs).tape = w.tape ∧ (w.setCells b o vs).output = w.output
  | [], _, _ => ⟨rfl, rfl, rfl⟩
  | v :: r, o, w => by rw [World.setCells]; exact setCells_rest b r (o + 1) _

theorem WR.fillSpare {g : G} {σ : TS} {w : World} {t b e n m sz k : Nat} {vs : List Value} (hw : WR g σ w) (hk : σ[t]? = some (.right k sz)) (ht : g.ω t = some (b, e, n)) (hm : m ≤ n) (hl : vs.length = m * sz) (hpos : 0 < m)
    (hone : ∀ v ∈ vs, v.oneCell' = true) :
    ∃ g', WR g' (σ.set t (.right (k + m) sz)) (w.setCells b e vs) ∧ Ext g σ g' (σ.set t (.right (k + m) sz)) ∧ Kept g' b e vs ∧ g'.ω t = some (b, e + vs.length, n - m) := by
  obtain ⟨q1, q2, k0, sz0, q3, q4⟩ := hw.tok t b e n ht
  rw [hk] at q3
  simp only [Option.some.injEq, TObj.right.injEq] at q3
  obtain ⟨rfl, rfl⟩ := q3
  have hmn : m * sz ≤ n * sz := Nat.mul_le_mul_right _ hm
  have hnk : ∀ j, j < vs.length → g.κ b (e + j) = none := fun j hj => (q4 j (by omega)).1
  have hsp : ∀ j, j < vs.length → (w.cell? ⟨b, e + j, none⟩).isSome = true := fun j hj => (q4 j (by omega)).2.1
  have hne : ∀ o v, g.κ b o = some v → o < e ∨ e + vs.length ≤ o := by
    intro o v ho
    rcases Nat.lt_or_ge o e with h | h
    · exact .inl h
    · rcases Nat.lt_or_ge o (e + vs.length) with h' | h'
      · have := hnk (o - e) (by omega)
        rw [show e + (o - e) = o by omega, ho] at this
        cases this
      · exact .inr h'
  have hin := World.cell?_setCells_in b vs e w hsp
  obtain ⟨r1, r2, r3⟩ := setCells_rest b vs e w
  -- the world with the spare cells written, the ghost with the cells kept
  have hmid : WR { g with κ := keepMore g.κ b e vs, ω := upd g.ω t (b, e + vs.length, n - m) } (σ.set t (.right (k + m) sz)) (w.setCells b e vs) ∧
      Ext g σ { g with κ := keepMore g.κ b e vs, ω := upd g.ω t (b, e + vs.length, n - m) } (σ.set t (.right (k + m) sz)) := by
    have htl := (List.getElem?_eq_some_iff.1 hk).1
    have hx : Ext g σ { g with κ := keepMore g.κ b e vs, ω := upd g.ω t (b, e + vs.length, n - m) } (σ.set t (.right (k + m) sz)) := by
      refine ⟨rfl, fun _ _ h => h, fun b' o v e' => ?_, fun t' x sz' e' => ?_, by simp, fun _ _ => rfl⟩
      · show keepMore _ _ _ _ _ _ = _
        unfold keepMore
        split
        · rename_i hcond
          obtain ⟨rfl, h1, h2⟩ := hcond
          rcases hne o v e' with h | h <;> omega
        · exact e'
      · by_cases he : t = t'
        · subst he
          rw [hk] at e'; cases e'
          exact ⟨k + m, by rw [List.getElem?_set_self htl], .inl (by omega)⟩
        · exact ⟨x, by rw [List.getElem?_set_ne he]; exact e', .inr ⟨rfl, upd_ne _ _ (by omega)⟩⟩
    refine ⟨⟨?_, ?_, ?_, hw.inj, ?_, ?_, ?_, ?_, ?_⟩, hx⟩
    · exact hw.below.trans ⟨r1, r2, r3, by rw [setCells_size]; exact Nat.le_refl _, fun i hi => setCells_block b vs e w i (by have : i < g.w0.heap.size := hi; omega)⟩
    · intro b' o v e'
      simp only [keepMore] at e'
      split at e'
      · rename_i hcond
        obtain ⟨rfl, h1, h2⟩ := hcond
        have := hin (o - e) (by omega)
        rw [show e + (o - e) = o by omega] at this
        rw [this]
        rw [List.getElem?_eq_getElem (by omega)] at e'
        exact ⟨e', by cases e'; exact hone _ (List.getElem_mem _)⟩
      · rename_i hcond
        obtain ⟨h1, h2⟩ := hw.keep b' o v e'
        refine ⟨(World.cell?_setCells_out b vs e w _ (fun hb _ => ?_)).trans h1, h2⟩
        simp only at hb ⊢
        subst hb
        exact hne o v e'
    · intro l x e'
      have hxb : x ≠ b := by rintro rfl; exact hw.toksep _ _ _ _ _ ht e'
      by_cases he : t = l
      · subst he
        rw [List.getElem?_set_self htl]; trivial
      · rw [List.getElem?_set_ne he]
        exact (ObjOk.world (setCells_block b vs e w x hxb) (hw.obj l x e')).ghost hx
    · intro l x e'
      have := hw.new l x e'
      exact ⟨this.1, by rw [setCells_size]; exact this.2.1, by simpa using this.2.2⟩
    · intro l x e' o
      show keepMore _ _ _ _ _ _ = _
      have hxb : x ≠ b := by rintro rfl; exact hw.toksep _ _ _ _ _ ht e'
      unfold keepMore
      rw [if_neg (by rintro ⟨rfl, _⟩; exact hxb rfl)]
      exact hw.sep l x e' o
    · intro t' x e' n' h
      by_cases he : t' = t
      · subst he
        simp only [upd_same, Option.some.injEq, Prod.mk.injEq] at h
        obtain ⟨rfl, rfl, rfl⟩ := h
        refine ⟨q1, by rw [setCells_size]; exact q2, k + m, sz, by rw [List.getElem?_set_self htl], fun j hj => ?_⟩
        have hj' : vs.length + j < n * sz := by
          have : (n - m) * sz + m * sz = n * sz := by rw [← Nat.add_mul]; congr 1; omega
          omega
        obtain ⟨k1, k2, k3⟩ := q4 (vs.length + j) hj'
        rw [show e + (vs.length + j) = e + vs.length + j by omega] at k1 k2 k3
        refine ⟨?_, ?_, ?_⟩
        · show keepMore _ _ _ _ _ _ = _
          unfold keepMore
          rw [if_neg (by omega)]
          exact k1
        · rw [World.cell?_setCells_out b vs e w _ (fun _ _ => .inr (by simp only; omega))]; exact k2
        · rw [World.frozen?_setCells]; exact k3
      · simp only [upd_ne _ _ he] at h
        obtain ⟨p1, p2, q, sz', p3, p4⟩ := hw.tok t' x e' n' h
        have hxb : x ≠ b := by rintro rfl; exact he (hw.tokinj _ _ _ _ _ _ _ h ht)
        refine ⟨p1, by rw [setCells_size]; exact p2, q, sz', by rw [List.getElem?_set_ne (by omega)]; exact p3, fun j hj => ?_⟩
        obtain ⟨k1, k2, k3⟩ := p4 j hj
        refine ⟨?_, ?_, ?_⟩
        · show keepMore _ _ _ _ _ _ = _
          unfold keepMore
          rw [if_neg (by rintro ⟨rfl, _⟩; exact hxb rfl)]
          exact k1
        · rw [World.cell?_setCells_out b vs e w _ (fun hb _ => absurd hb hxb)]; exact k2
        · rw [World.frozen?_setCells]; exact k3
    · intro t1 t2 x a1 a2 c1 c2 h h'
      by_cases he : t1 = t <;> by_cases he' : t2 = t
      · omega
      · subst he
        simp only [upd_same, Option.some.injEq, Prod.mk.injEq] at h
        simp only [upd_ne _ _ he'] at h'
        obtain ⟨rfl, _⟩ := h
        exact hw.tokinj _ _ _ _ _ _ _ ht h'
      · subst he'
        simp only [upd_same, Option.some.injEq, Prod.mk.injEq] at h'
        simp only [upd_ne _ _ he] at h
        obtain ⟨rfl, _⟩ := h'
        exact hw.tokinj _ _ _ _ _ _ _ h ht
      · simp only [upd_ne _ _ he] at h
        simp only [upd_ne _ _ he'] at h'
        exact hw.tokinj _ _ _ _ _ _ _ h h'
    · intro t' l x a1 a2 h
      by_cases he : t' = t
      · subst he
        simp only [upd_same, Option.some.injEq, Prod.mk.injEq] at h
        obtain ⟨rfl, _⟩ := h
        exact hw.toksep _ _ _ _ _ ht
      · simp only [upd_ne _ _ he] at h
        exact hw.toksep _ _ _ _ _ h
  refine ⟨_, hmid.1, hmid.2, ?_, upd_same _ _ _⟩
  intro i v e'
  show keepMore _ _ _ _ _ _ = _
  have hi := (List.getElem?_eq_some_iff.1 e').1
  unfold keepMore
  rw [if_pos ⟨rfl, by omega, by omega⟩, show e + i - e = i by omega]
  exact e'

end Go.TM
