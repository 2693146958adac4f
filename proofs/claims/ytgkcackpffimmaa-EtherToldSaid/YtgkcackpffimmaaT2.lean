/- The T-machine, part 2: the table of types, reading and writing of cells, and that they stand to the model's own loads, stores and parts. -/
import Derived.Test.YtgkcackpffimmaaT1
set_option linter.unusedVariables false
namespace Go.TM
open Go.RowKit (Below)

inductive TK where
  | int (k : IntKind) | bool | str
  | ptr (e : TypeId) | slice (e : TypeId) | arr (n : Nat) (e : TypeId) | map (k e : TypeId)
  | struct (fs : List (TypeId × Nat)) (named : Bool)
  | func | iface (none : Bool)
  | other

structure TI where
  k : TK
  size : Nat
  bytes : Nat
  zero : Option TV
  eqok : Bool

abbrev Tab := TypeId → Option TI

def TK.isAgg : TK → Bool
  | .arr .. | .struct .. => true
  | _ => false

def const1 : Value → Option TV
  | .bool b => some (.bool b)
  | .int k n => some (.int k n)
  | .string s => some (.str s)
  | .pointer none => some .nilp
  | .slice none 0 0 => some .nils
  | .map none => some .nilm
  | .nilFunc => some .nilf
  | .nilIface => some .nili
  | .func fn first captured => if first.size = 0 && captured.size = 0 then some (.func fn [] []) else none
  | _ => none

def const1L : List Value → Option (List TV)
  | [] => some []
  | v :: vs => match const1 v, const1L vs with
    | some x, some xs => some (x :: xs)
    | _, _ => none

def constV : Value → Option TV
  | .agg cs => (const1L cs.toList).map .agg
  | v => const1 v

theorem const1_sound {g : G} {σ : TS} {v : Value} {tv : TV} (h : const1 v = some tv) : VR g σ tv v := by
  unfold const1 at h
  split at h <;> first
    | (cases h; simp [VR]; done)
    | (split at h
       · cases h
         rename_i h'
         simp only [Bool.and_eq_true, decide_eq_true_eq] at h'
         simp only [VR]
         exact ⟨_, _, rfl, by simp [VRL, Array.eq_empty_of_size_eq_zero h'.1], by simp [VRL, Array.eq_empty_of_size_eq_zero h'.2]⟩
       · cases h)
    | cases h

theorem const1L_sound {g : G} {σ : TS} : ∀ {vs : List Value} {xs : List TV}, const1L vs = some xs → VRL g σ xs vs
  | [], _, h => by cases h; simp [VRL]
  | v :: vs, _, h => by
    simp only [const1L] at h
    split at h
    · rename_i x xs h1 h2
      cases h
      simp only [VRL]
      exact ⟨v, vs, rfl, const1_sound h1, const1L_sound h2⟩
    · cases h

theorem constV_sound {g : G} {σ : TS} {v : Value} {tv : TV} (h : constV v = some tv) : VR g σ tv v := by
  unfold constV at h
  split at h
  · rename_i cs
    cases hc : const1L cs.toList with
    | none => simp [hc] at h
    | some xs =>
      simp [hc] at h
      subst h
      simp only [VR]
      exact ⟨cs, rfl, const1L_sound hc⟩
  · exact const1_sound h

def TK.of : TypeDesc → TK
  | .int k => .int k
  | .bool => .bool
  | .string => .str
  | .pointer e => .ptr e
  | .slice e => .slice e
  | .array n e => .arr n e
  | .map k e => .map k e
  | .struct fs => .struct (fs.toList.map fun f => (f.type, f.offset)) (fs.toList.all fun f => f.name != "_")
  | .func .. => .func
  | .interface ms => .iface ms.isEmpty
  | _ => .other

def eqOk (P : Program) (t : TypeId) : TypeDesc → Bool
  | .struct _ => !P.stoodInHeld t && !P.eqGuardType P.depth t
  | .array .. => !P.eqGuardType P.depth t
  | _ => true

def mkTab (P : Program) : Tab := fun t => match P.info? t, P.underlying t with
  | some i, some d => some { k := TK.of d, size := i.size, bytes := i.bytes, zero := i.zero.bind constV, eqok := eqOk P t d }
  | _, _ => none

theorem mkTab_sound {P : Program} {t : TypeId} {i : TI} (h : mkTab P t = some i) :
    ∃ info d, P.info? t = some info ∧ P.underlying t = some d ∧ i.k = TK.of d ∧ info.size = i.size ∧ info.bytes = i.bytes ∧ i.zero = info.zero.bind constV ∧ i.eqok = eqOk P t d := by
  unfold mkTab at h
  split at h
  · rename_i info d h1 h2
    cases h
    exact ⟨info, d, h1, h2, rfl, rfl, rfl, rfl, rfl⟩
  · cases h

def TV.one : TV → Bool
  | .agg _ | .tup _ => false
  | _ => true

def TV.cells : TV → List TV
  | .agg cs => cs
  | v => [v]

theorem VR.one {g : G} {σ : TS} {tv : TV} {v : Value} (h : VR g σ tv v) (h1 : tv.one = true) : v.oneCell' = true := by
  cases tv <;> simp only [VR] at h <;> simp only [TV.one] at h1 <;> first
    | (cases h1; done)
    | (subst h; rfl)
    | (obtain ⟨_, _, rfl⟩ := h; rfl)
    | (obtain ⟨_, rfl, _⟩ := h; rfl)
    | (obtain ⟨_, _, _, rfl, _⟩ := h; rfl)
    | (obtain ⟨_, _, rfl, _⟩ := h; rfl)
    | (obtain ⟨_, _, _, rfl, _⟩ := h; rfl)

theorem VRL.length {g : G} {σ : TS} : ∀ {xs : List TV} {vs : List Value}, VRL g σ xs vs → vs.length = xs.length
  | [], _, h => by simp only [VRL] at h; subst h; rfl
  | x :: xs, _, h => by
    simp only [VRL] at h
    obtain ⟨v, rest, rfl, _, h2⟩ := h
    simp [VRL.length h2]

theorem VRL.get {g : G} {σ : TS} : ∀ {xs : List TV} {vs : List Value}, VRL g σ xs vs → ∀ {i : Nat} {x : TV}, xs[i]? = some x → ∃ v, vs[i]? = some v ∧ VR g σ x v
  | [], _, _, _, _, e => by simp at e
  | x :: xs, _, h, 0, y, e => by
    simp only [VRL] at h
    obtain ⟨v, rest, rfl, h1, _⟩ := h
    simp at e; subst e
    exact ⟨v, by simp, h1⟩
  | x :: xs, _, h, i + 1, y, e => by
    simp only [VRL] at h
    obtain ⟨v, rest, rfl, _, h2⟩ := h
    simp at e
    obtain ⟨u, hu, hr⟩ := VRL.get h2 e
    exact ⟨u, by simpa using hu, hr⟩

theorem VRL.append {g : G} {σ : TS} : ∀ {xs ys : List TV} {vs us : List Value}, VRL g σ xs vs → VRL g σ ys us → VRL g σ (xs ++ ys) (vs ++ us)
  | [], _, _, _, h, k => by simp only [VRL] at h; subst h; simpa using k
  | x :: xs, ys, _, us, h, k => by
    simp only [VRL] at h
    obtain ⟨v, rest, rfl, h1, h2⟩ := h
    simp only [List.cons_append, VRL]
    exact ⟨v, rest ++ us, rfl, h1, VRL.append h2 k⟩

theorem VRL.drop {g : G} {σ : TS} : ∀ {xs : List TV} {vs : List Value} (n : Nat), VRL g σ xs vs → VRL g σ (xs.drop n) (vs.drop n)
  | _, _, 0, h => by simpa using h
  | [], _, n + 1, h => by simp only [VRL] at h; subst h; simp [VRL]
  | x :: xs, _, n + 1, h => by
    simp only [VRL] at h
    obtain ⟨v, rest, rfl, _, h2⟩ := h
    simpa using VRL.drop n h2

theorem VRL.take {g : G} {σ : TS} : ∀ {xs : List TV} {vs : List Value} (n : Nat), VRL g σ xs vs → VRL g σ (xs.take n) (vs.take n)
  | _, _, 0, h => by simp [VRL]
  | [], _, n + 1, h => by simp only [VRL] at h; subst h; simp [VRL]
  | x :: xs, _, n + 1, h => by
    simp only [VRL] at h
    obtain ⟨v, rest, rfl, h1, h2⟩ := h
    simp only [List.take_succ_cons, VRL]
    exact ⟨v, rest.take n, rfl, h1, VRL.take n h2⟩

theorem VRL.one {g : G} {σ : TS} : ∀ {xs : List TV} {vs : List Value}, VRL g σ xs vs → xs.all TV.one = true → ∀ v ∈ vs, v.oneCell' = true
  | [], _, h, _, v, hv => by simp only [VRL] at h; subst h; cases hv
  | x :: xs, _, h, h1, v, hv => by
    simp only [VRL] at h
    obtain ⟨u, rest, rfl, hu, h2⟩ := h
    simp only [List.all_cons, Bool.and_eq_true] at h1
    rcases List.mem_cons.1 hv with rfl | hv
    · exact hu.one h1.1
    · exact VRL.one h2 h1.2 v hv

theorem VR.cells {g : G} {σ : TS} {tv : TV} {v : Value} (h : VR g σ tv v) : VRL g σ tv.cells v.cells.toList := by
  cases tv <;> simp only [VR] at h <;> simp only [TV.cells] <;> first
    | (subst h; exact ⟨_, [], rfl, by simp [VR], by simp [VRL]⟩)
    | (obtain ⟨us, rfl, h2⟩ := h; simpa [Value.cells] using h2)
    | skip
  all_goals
    refine ⟨v, [], ?_, by simpa only [VR] using h, by simp [VRL]⟩
    first
      | (obtain ⟨_, _, rfl⟩ := h; rfl)
      | (obtain ⟨_, rfl, _⟩ := h; rfl)
      | (obtain ⟨_, _, _, rfl, _⟩ := h; rfl)
      | (obtain ⟨_, _, rfl, _⟩ := h; rfl)

/-- Cells put in place of others. -/
def splice (cs : List TV) (off : Nat) (xs : List TV) : List TV := cs.take off ++ xs ++ cs.drop (off + xs.length)

/-- A part of a value's cells as a value of a type. -/
def tpart (T : Tab) (t : TypeId) (cs : List TV) (off : Nat) : Option TV :=
  match T t with
  | some i => if i.k.isAgg then (if off + i.size ≤ cs.length then some (.agg ((cs.drop off).take i.size)) else none) else cs[off]?
  | none => none

theorem isAgg_run {P : Program} {t : TypeId} {i : TI} (h : mkTab P t = some i) (w : World) : (isAgg t).run P w = .ok i.k.isAgg w := by
  obtain ⟨info, d, h1, h2, h3, _⟩ := mkTab_sound h
  unfold isAgg
  rw [Sem.run_bind, run_underlying h2 w, h3]
  cases d <;> rfl

theorem sizeOf_run {P : Program} {t : TypeId} {i : TI} (h : mkTab P t = some i) (w : World) : (sizeOf t).run P w = .ok i.size w := by
  obtain ⟨info, d, h1, h2, h3, h4, _⟩ := mkTab_sound h
  simp [sizeOf, typeInfo, h1, h4]

theorem zero_run {P : Program} {t : TypeId} {i : TI} {z : TV} (h : mkTab P t = some i) (hz : i.zero = some z) (w : World) : ∃ zv, (zeroValue t).run P w = .ok zv w ∧ constV zv = some z ∧ (∃ info, P.info? t = some info ∧ info.zero = some zv) := by
  obtain ⟨info, d, h1, h2, h3, h4, h5, h6, _⟩ := mkTab_sound h
  rw [hz] at h6
  cases hq : info.zero with
  | none => simp [hq] at h6
  | some zv =>
    refine ⟨zv, ?_, by simpa [hq] using h6.symm, info, h1, hq⟩
    simp [zeroValue, typeInfo, h1, hq]

theorem part_run {P : Program} {g : G} {σ : TS} {t : TypeId} {cs : List TV} {us : Array Value} {off : Nat} {tv : TV} (hc : VRL g σ cs us.toList)
    (h : tpart (mkTab P) t cs off = some tv) (w : World) : ∃ v, (part t us off).run P w = .ok v w ∧ VR g σ tv v := by
  unfold tpart at h
  split at h
  · rename_i i hi
    unfold part
    rw [Sem.run_bind, isAgg_run hi, Result.andThen_ok]
    split at h
    · rename_i ha
      split at h
      · cases h
        rw [if_pos ha]
        simp only [Sem.run_bind, sizeOf_run hi, Result.andThen_ok, Sem.run_pure]
        refine ⟨_, rfl, ?_⟩
        simp only [VR]
        refine ⟨_, rfl, ?_⟩
        have := (hc.drop off).take i.size
        simpa [Array.toList_extract, List.extract_eq_take_drop] using this
      · cases h
    · rename_i ha
      rw [if_neg ha]
      obtain ⟨v, hv, hr⟩ := hc.get h
      refine ⟨v, ?_, hr⟩
      have : us[off]? = some v := by rw [← Array.getElem?_toList]; exact hv
      simp [this]
  · cases h

/-- The cells behind a pointer, from its place on. -/
def tcells (σ : TS) : TV → Option (List TV)
  | .cp cs => some cs
  | .ptr l off => match σ[l]? with
    | some (.cells cs) => some (cs.drop off)
    | _ => none
  | _ => none

def tload (T : Tab) (σ : TS) (t : TypeId) (p : TV) : Option TV := (tcells σ p).bind fun cs => tpart T t cs 0

theorem cell_of_heap {w : World} {b : Nat} {c : Array Value} {e : TypeId} {fz : Nat × Nat} (h : w.heap[b]? = some (.cells c e fz)) (o : Nat) : w.cell? ⟨b, o, none⟩ = c[o]? := by
  simp [World.cell?, h]

theorem tcells_sound {g : G} {σ : TS} {w : World} (hw : WR g σ w) {p : TV} {pv : Value} (hp : VR g σ p pv) {cs : List TV} (h : tcells σ p = some cs) :
    ∃ b o vs, pv = .pointer (some ⟨b, o, none⟩) ∧ w.rangeAt b o vs ∧ VRL g σ cs vs := by
  unfold tcells at h
  split at h
  · rename_i cs'
    cases h
    simp only [VR] at hp
    obtain ⟨b, o, vs, hv, hk, hl⟩ := hp
    exact ⟨b, o, vs, hv, fun j v e => (hw.keep _ _ _ (hk j v e)).1, hl⟩
  · rename_i l off
    split at h
    · rename_i cs' hl
      cases h
      simp only [VR] at hp
      obtain ⟨b, hb, hv⟩ := hp
      have ho := hw.obj l b hb
      rw [hl] at ho
      obtain ⟨c, e, fz, vs, rest, h1, h2, h3, h4, h5⟩ := ho
      refine ⟨b, off, vs.drop off, hv, ?_, h5.drop off⟩
      intro j v ej
      rw [cell_of_heap h1, ← Array.getElem?_toList, h2]
      rw [List.getElem?_drop] at ej
      rw [List.getElem?_append_left (List.getElem?_eq_some_iff.1 ej).1]
      exact ej
    · cases h
  · cases h

theorem World.rangeAt_take {w : World} {b o n : Nat} {vs : List Value} (h : w.rangeAt b o vs) : w.rangeAt b o (vs.take n) := fun j v e => by
  rw [List.getElem?_take] at e
  split at e
  · exact h j v e
  · cases e

theorem tload_run {P : Program} {g : G} {σ : TS} {w : World} (hw : WR g σ w) {t : TypeId} {p : TV} {pv : Value} (hp : VR g σ p pv) {tv : TV}
    (h : tload (mkTab P) σ t p = some tv) : ∃ v, (Instr.loadAt t pv).run P w = .ok v w ∧ VR g σ tv v := by
  unfold tload at h
  cases hc : tcells σ p with
  | none => simp [hc] at h
  | some cs =>
    simp only [hc, Option.bind_some] at h
    obtain ⟨b, o, vs, rfl, hr, hl⟩ := tcells_sound hw hp hc
    unfold tpart at h
    split at h
    · rename_i i hi
      obtain ⟨info, d, k1, k2, k3, k4, _⟩ := mkTab_sound hi
      split at h
      · rename_i ha
        split at h
        · rename_i hle
          cases h
          have hlen := hl.length
          have hd : d.isRow = true := by rw [k3] at ha; cases d <;> simp_all [TK.of, TK.isAgg]
          have := run_loadAt_mid (P := P) w b o t (vs.take i.size) d (World.rangeAt_take hr) k2 hd (by simp [k1, k4]; omega)
          refine ⟨_, this, ?_⟩
          simp only [VR]
          exact ⟨_, rfl, by simpa using hl.take i.size⟩
        · cases h
      · rename_i ha
        obtain ⟨v, hv, hx⟩ := hl.get h
        refine ⟨v, ?_, hx⟩
        have hcell := hr 0 v hv
        simp only [Instr.loadAt, Instr.sureAddr, Sem.run_bind, Sem.run_pure, Result.andThen_ok, loadVar, isAgg_run hi]
        rw [if_neg ha]
        simp only [Nat.add_zero] at hcell
        simp [hcell]
    · cases h

end Go.TM
