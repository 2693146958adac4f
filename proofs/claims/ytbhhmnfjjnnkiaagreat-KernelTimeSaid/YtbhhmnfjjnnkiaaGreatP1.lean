/- Rooms of messages as data, and how they stand in the small heap. -/
import Derived.Test.YtbhhmnfjjnnkiaaGreatD2
import Derived.Test.YtbhhmnfjjnnkiaaGreatF2
set_option linter.unusedVariables false
set_option linter.unusedSimpArgs false
set_option maxRecDepth 10000
namespace Go.Proofs.YtbhhmnfjjnnkiaaGreat
open Go.TM

abbrev strC (s : List UInt8) : List TV := [.str (B s)]
attribute [go_sem] strC
abbrev ptrC (l : Nat) : List TV := [.ptr l 0]

/- plain rooms -/
structure Bx where
  p : Port
  l : List (List UInt8)
  at_ : Int
  lost : Bool
deriving Inhabited

abbrev TimeOk (n : Int) : Prop := 0 ≤ n ∧ n ≤ 1125899906842624

def putB (now : Int) (s : List UInt8) (b : Bx) : Bx × Int :=
  if (s.length : Int) > b.p.size then (b, 11)
  else if b.p.kind = 1 then
    if b.l ≠ [] ∧ now < b.at_ then (b, 24) else ({ b with l := [s], at_ := now }, 0)
  else if (b.l.length : Int) ≥ b.p.depth then ({ b with lost := true }, 22)
  else ({ b with l := b.l ++ [s] }, 0)
def sampleB (now : Int) (b : Bx) : List UInt8 × Bool × Int :=
  if b.p.kind ≠ 1 then ([], false, 13)
  else if b.l = [] then ([], false, 23)
  else if now < b.at_ then ([], false, 24)
  else (b.l.headD [], decide (now - b.at_ ≤ b.p.fresh), 0)
def nextB (b : Bx) : Bx × List UInt8 × Bool × Int :=
  if b.p.kind = 1 then (b, [], false, 13)
  else match b.l with
    | [] => ({ b with lost := false }, [], b.lost, 23)
    | s :: r => ({ b with l := r, lost := false }, s, b.lost, 0)
def clearB (b : Bx) : Bx := { b with l := [], at_ := 0, lost := false }

def idx (ps : List Port) (port : Int) : Option Nat := ps.findIdx? fun p => decide (p.id = port)
abbrev pts (bs : List Bx) : List Port := bs.map Bx.p
def putR (now port : Int) (s : List UInt8) (bs : List Bx) : List Bx × Int :=
  if ¬ TimeOk now then (bs, 1) else match idx (pts bs) port with
    | none => (bs, 20)
    | some k => (bs.set k (putB now s (nth bs k)).1, (putB now s (nth bs k)).2)
def sampleR (now port : Int) (bs : List Bx) : List UInt8 × Bool × Int :=
  if ¬ TimeOk now then ([], false, 1) else match idx (pts bs) port with
    | none => ([], false, 20)
    | some k => sampleB now (nth bs k)
def nextR (port : Int) (bs : List Bx) : List Bx × List UInt8 × Bool × Int :=
  match idx (pts bs) port with
  | none => (bs, [], false, 20)
  | some k => (bs.set k (nextB (nth bs k)).1, (nextB (nth bs k)).2)
def lenR (port : Int) (bs : List Bx) : Int :=
  match idx (pts bs) port with
  | none => 0
  | some k => ((nth bs k).l.length : Int)
def clearR (part : Int) (bs : List Bx) : List Bx := bs.map fun b => if b.p.part = part then clearB b else b

structure Bx.ok (b : Bx) : Prop where
  kind : b.p.kind = 1 ∨ b.p.kind = 2
  one : b.p.kind = 1 → b.l.length ≤ 1
  time : TimeOk b.at_
  room : b.l.length ≤ 64
  depth : b.p.depth ≤ 64
  fresh : I64 b.p.fresh
  size : I64 b.p.size

theorem putB_p (now : Int) (s : List UInt8) (b : Bx) : (putB now s b).1.p = b.p := by unfold putB; (repeat' split) <;> rfl
theorem nextB_p (b : Bx) : (nextB b).1.p = b.p := by unfold nextB; (repeat' split) <;> rfl
theorem nextB_nil {b : Bx} (hk : ¬ b.p.kind = 1) (hl : b.l = []) : nextB b = ({ b with lost := false }, [], b.lost, 23) := by
  obtain ⟨p, l, a, lo⟩ := b
  simp only at hk hl
  subst hl
  rw [nextB, if_neg hk]
theorem nextB_cons {b : Bx} {s : List UInt8} {r : List (List UInt8)} (hk : ¬ b.p.kind = 1) (hl : b.l = s :: r) : nextB b = ({ b with l := r, lost := false }, s, b.lost, 0) := by
  obtain ⟨p, l, a, lo⟩ := b
  simp only at hk hl
  subst hl
  rw [nextB, if_neg hk]
theorem clearB_p (b : Bx) : (clearB b).p = b.p := rfl

theorem putB_ok {now : Int} {s : List UInt8} {b : Bx} (h : b.ok) (hn : TimeOk now) : (putB now s b).1.ok := by
  obtain ⟨h1, h2, h3, h4, h5, h6, h7⟩ := h
  unfold putB
  split
  · exact ⟨h1, h2, h3, h4, h5, h6, h7⟩
  · split
    · split
      · exact ⟨h1, h2, h3, h4, h5, h6, h7⟩
      · exact ⟨h1, fun _ => by simp, hn, by simp, h5, h6, h7⟩
    · split
      · exact ⟨h1, h2, h3, h4, h5, h6, h7⟩
      · rename_i k1 k2 k3
        exact ⟨h1, fun k => absurd k k2, h3, by simp; omega, h5, h6, h7⟩
theorem nextB_ok {b : Bx} (h : b.ok) : (nextB b).1.ok := by
  obtain ⟨h1, h2, h3, h4, h5, h6, h7⟩ := h
  unfold nextB
  split
  · exact ⟨h1, h2, h3, h4, h5, h6, h7⟩
  · split
    · exact ⟨h1, h2, h3, h4, h5, h6, h7⟩
    · rename_i s r e
      rw [e] at h2 h4
      simp at h2 h4
      exact ⟨h1, fun k => by have := h2 k; simp [this], h3, by simp; omega, h5, h6, h7⟩
theorem clearB_ok {b : Bx} (h : b.ok) : (clearB b).ok := by
  obtain ⟨h1, h2, h3, h4, h5, h6, h7⟩ := h
  exact ⟨h1, fun _ => by simp [clearB], ⟨by simp [clearB], by simp [clearB]⟩, by simp [clearB], h5, h6, h7⟩

/- the heap by marks -/
/-- A heap that went on: what has no mark of C stays, and marks stay. -/
structure Grow (σ : TS) (lab : Nat → Nat) (σ' : TS) (lab' : Nat → Nat) (C : Nat → Prop) : Prop where
  len : σ.length ≤ σ'.length
  same : ∀ i, i < σ.length → lab' i = lab i
  keep : ∀ i, i < σ.length → ¬ C (lab i) → σ'[i]? = σ[i]?

theorem Grow.refl (σ : TS) (lab : Nat → Nat) (C : Nat → Prop) : Grow σ lab σ lab C := ⟨Nat.le_refl _, fun _ _ => rfl, fun _ _ _ => rfl⟩
theorem Grow.trans {σ1 σ2 σ3 : TS} {l1 l2 l3 : Nat → Nat} {C : Nat → Prop} (h : Grow σ1 l1 σ2 l2 C) (k : Grow σ2 l2 σ3 l3 C) : Grow σ1 l1 σ3 l3 C :=
  ⟨Nat.le_trans h.len k.len, fun i hi => (k.same i (Nat.lt_of_lt_of_le hi h.len)).trans (h.same i hi), fun i hi hc =>
    (k.keep i (Nat.lt_of_lt_of_le hi h.len) (by rw [h.same i hi]; exact hc)).trans (h.keep i hi hc)⟩
theorem Grow.mono {σ σ' : TS} {lab lab' : Nat → Nat} {C C' : Nat → Prop} (h : Grow σ lab σ' lab' C) (hc : ∀ n, C n → C' n) : Grow σ lab σ' lab' C' :=
  ⟨h.len, h.same, fun i hi k => h.keep i hi fun e => k (hc _ e)⟩
theorem Grow.get {σ σ' : TS} {lab lab' : Nat → Nat} {C : Nat → Prop} (h : Grow σ lab σ' lab' C) {i : Nat} {o : TObj} (hg : σ[i]? = some o) (hc : ¬ C (lab i)) : σ'[i]? = some o :=
  (h.keep i (lt_of_get hg) hc).trans hg
theorem Grow.mark {σ σ' : TS} {lab lab' : Nat → Nat} {C : Nat → Prop} (h : Grow σ lab σ' lab' C) {i : Nat} {o : TObj} (hg : σ[i]? = some o) : lab' i = lab i := h.same i (lt_of_get hg)

def labX (lab : Nat → Nat) (n c : Nat) : Nat → Nat := fun i => if i < n then lab i else c
theorem labX_old {lab : Nat → Nat} {n c i : Nat} (h : i < n) : labX lab n c i = lab i := if_pos h
theorem labX_new {lab : Nat → Nat} {n c i : Nat} (h : n ≤ i) : labX lab n c i = c := if_neg (by omega)
/-- What is behind a heap's end, and one thing in it, turned. -/
theorem Grow.set {σ : TS} {lab : Nat → Nat} {l : Nat} {o : TObj} (ρ : TS) {C : Nat → Prop} (hc : C (lab l)) (c : Nat) : Grow σ lab (σ.set l o ++ ρ) (labX lab σ.length c) C :=
  ⟨by simp, fun i hi => labX_old hi, fun i hi k => by
    rw [List.getElem?_append_left (by simpa using hi), List.getElem?_set_ne]
    rintro rfl
    exact k hc⟩
theorem Grow.tail {σ : TS} {lab : Nat → Nat} (ρ : TS) (C : Nat → Prop) (c : Nat) : Grow σ lab (σ ++ ρ) (labX lab σ.length c) C :=
  ⟨by simp, fun i hi => labX_old hi, fun i hi k => List.getElem?_append_left hi⟩
/-- Two heaps that differ behind what was alone in what has the marks. -/
theorem Grow.cut {σ σ' : TS} {lab lab' : Nat → Nat} {C : Nat → Prop} (ρ : TS) (h : Grow (σ ++ ρ) lab σ' lab' C) : Grow σ lab σ' lab' C :=
  ⟨by have := h.len; simp at this; omega, fun i hi => h.same i (by simp; omega), fun i hi k => (h.keep i (by simp; omega) k).trans (List.getElem?_append_left hi)⟩

/-- A row of texts to which may be appended. -/
def QS (σ : TS) (lab : Nat → Nat) (c : Nat) (v : TV) (ls : List (List UInt8)) : Prop :=
  (v = .nils ∧ ls = []) ∨ ∃ t e, lab t = c ∧ v = .sl (some (t, e)) ls.length (ls.flatMap strC) ∧ σ[t]? = some (.right e 1)
theorem QS.grow {σ σ' : TS} {lab lab' : Nat → Nat} {C : Nat → Prop} {c : Nat} {v : TV} {ls : List (List UInt8)} (h : QS σ lab c v ls) (hg : Grow σ lab σ' lab' C) (hc : ¬ C c) : QS σ' lab' c v ls := by
  rcases h with h | ⟨t, e, h1, h2, h3⟩
  · exact .inl h
  · exact .inr ⟨t, e, (hg.mark h3).trans h1, h2, hg.get h3 (by rw [h1]; exact hc)⟩
theorem QS.set {σ : TS} {lab : Nat → Nat} {c : Nat} {v : TV} {ls : List (List UInt8)} (h : QS σ lab c v ls) {loc : Nat} {cs : List TV} (hl : σ[loc]? = some (.cells cs)) (o : TObj) (ρ : TS) (d : Nat) : QS (σ.set loc o ++ ρ) (labX lab σ.length d) c v ls := by
  rcases h with h | ⟨t, e, h1, h2, h3⟩
  · exact .inl h
  · have hlt := lt_of_get h3
    refine .inr ⟨t, e, (labX_old hlt).trans h1, h2, ?_⟩
    rw [List.getElem?_append_left (by simpa using hlt), List.getElem?_set_ne]
    · exact h3
    · rintro rfl; rw [hl] at h3; cases h3
theorem strC_len (ls : List (List UInt8)) : (ls.flatMap strC).length = ls.length := by rw [flat_length (k := 1) (fun _ => rfl)]; omega
theorem strC_one (ls : List (List UInt8)) : (ls.flatMap strC).all TV.one = true := flat_one (fun _ => rfl) ls

/- the program's boxes -/
def BoxP (σ : TS) (lab : Nat → Nat) (c loc : Nat) (b : Bx) : Prop := lab loc = c ∧
  if b.p.kind = 1 then σ[loc]? = some (.cells [.str (B (b.l.headD [])), .int .i64 b.at_, .bool (!b.l.isEmpty)])
  else ∃ v, σ[loc]? = some (.cells [v, .int .i64 b.p.depth, .bool b.lost]) ∧ QS σ lab c v b.l
theorem BoxP.grow {σ σ' : TS} {lab lab' : Nat → Nat} {C : Nat → Prop} {c loc : Nat} {b : Bx} (h : BoxP σ lab c loc b) (hg : Grow σ lab σ' lab' C) (hc : ¬ C c) : BoxP σ' lab' c loc b := by
  obtain ⟨h1, h2⟩ := h
  split at h2
  · rename_i hk
    exact ⟨(hg.mark h2).trans h1, by rw [if_pos hk]; exact hg.get h2 (by rw [h1]; exact hc)⟩
  · rename_i hk
    obtain ⟨v, h3, h4⟩ := h2
    exact ⟨(hg.mark h3).trans h1, by rw [if_neg hk]; exact ⟨v, hg.get h3 (by rw [h1]; exact hc), h4.grow hg hc⟩⟩

abbrev placeTV (x : Port × Nat) : TV := .agg (portC x.1 ++ [.iface (if x.1.kind = 1 then 194 else 197) (.ptr x.2 0)])
def entsP (ps : List Port) (locs : List Nat) : List (Int × (Port × Nat) × Nat) := (List.range ps.length).map fun k => ((nth ps k).id, (nth ps k, nth locs k), k)

structure RoomP (σ : TS) (lab : Nat → Nat) (c r lm : Nat) (locs : List Nat) (bs : List Bx) : Prop where
  lr : lab r = c
  hr : σ[r]? = some (.cells [.map lm])
  llm : lab lm = c
  hm : σ[lm]? = some (.map (mEnt kI placeTV (entsP (pts bs) locs)) bs.length)
  len : locs.length = bs.length
  box : ∀ k, k < bs.length → BoxP σ lab (c + 1 + k) (nth locs k) (nth bs k)
  ok : ∀ b ∈ bs, b.ok

theorem RoomP.grow {σ σ' : TS} {lab lab' : Nat → Nat} {C : Nat → Prop} {c r lm : Nat} {locs : List Nat} {bs : List Bx} (h : RoomP σ lab c r lm locs bs) (hg : Grow σ lab σ' lab' C) (hc : ∀ n, c ≤ n → n ≤ c + bs.length → ¬ C n) : RoomP σ' lab' c r lm locs bs where
  lr := (hg.mark h.hr).trans h.lr
  hr := hg.get h.hr (by rw [h.lr]; exact hc c (Nat.le_refl _) (by omega))
  llm := (hg.mark h.hm).trans h.llm
  hm := hg.get h.hm (by rw [h.llm]; exact hc c (Nat.le_refl _) (by omega))
  len := h.len
  box k hk := (h.box k hk).grow hg (hc _ (by omega) (by omega))
  ok := h.ok

theorem pts_set {bs : List Bx} {k : Nat} {b : Bx} (hk : k < bs.length) (hp : b.p = (nth bs k).p) : pts (bs.set k b) = pts bs := by
  unfold pts
  rw [List.map_set, hp, nth_eq hk]
  apply List.ext_getElem?
  intro j
  rw [List.getElem?_set]
  split
  · rename_i e
    subst e
    rw [if_pos (by simpa using hk), List.getElem?_map, List.getElem?_eq_getElem hk]; rfl
  · rfl
theorem nth_set {α : Type} [Inhabited α] {l : List α} {k j : Nat} {x : α} (hk : k < l.length) : nth (l.set k x) j = if j = k then x else nth l j := by
  unfold nth
  rw [List.getD_eq_getElem?_getD, List.getElem?_set]
  by_cases h : k = j
  · subst h; rw [if_pos rfl, if_pos hk, if_pos rfl]; rfl
  · rw [if_neg h, if_neg (fun e => h e.symm), List.getD_eq_getElem?_getD]

/-- One box of a room is another one. -/
theorem RoomP.turn {σ σ' : TS} {lab lab' : Nat → Nat} {c r lm : Nat} {locs : List Nat} {bs : List Bx} (h : RoomP σ lab c r lm locs bs) {k : Nat} (hk : k < bs.length) {b : Bx} (hp : b.p = (nth bs k).p) (hg : Grow σ lab σ' lab' (· = c + 1 + k)) (hb : BoxP σ' lab' (c + 1 + k) (nth locs k) b) (hok : b.ok) :
    RoomP σ' lab' c r lm locs (bs.set k b) where
  lr := (hg.mark h.hr).trans h.lr
  hr := hg.get h.hr (by rw [h.lr]; omega)
  llm := (hg.mark h.hm).trans h.llm
  hm := by rw [pts_set hk hp, List.length_set]; exact hg.get h.hm (by rw [h.llm]; omega)
  len := by rw [List.length_set]; exact h.len
  box j hj := by
    rw [List.length_set] at hj
    rw [nth_set hk]
    by_cases e : j = k
    · subst e; rw [if_pos rfl]; exact hb
    · rw [if_neg e]; exact (h.box j hj).grow hg (by omega)
  ok x hx := by
    rcases List.mem_or_eq_of_mem_set hx with hx | rfl
    · exact h.ok x hx
    · exact hok

theorem idx_some {ps : List Port} {port : Int} {k : Nat} (h : idx ps port = some k) : k < ps.length ∧ (nth ps k).id = port ∧ ∀ j, j < k → (nth ps j).id ≠ port := by
  unfold idx at h
  rw [List.findIdx?_eq_some_iff_getElem] at h
  obtain ⟨h1, h2, h3⟩ := h
  refine ⟨h1, by rw [nth_eq h1]; simpa using h2, fun j hj => ?_⟩
  have := h3 j hj
  rw [nth_eq (by omega)]
  simpa using this
theorem idx_none {ps : List Port} {port : Int} (h : idx ps port = none) : ∀ j, j < ps.length → (nth ps j).id ≠ port := by
  unfold idx at h
  rw [List.findIdx?_eq_none_iff] at h
  intro j hj
  have := h _ (List.getElem_mem hj)
  rw [nth_eq hj]
  simpa using this

theorem idx_is {ps : List Port} {port : Int} {k : Nat} (hk : k < ps.length) (h1 : (nth ps k).id = port) (h2 : ∀ j, j < k → (nth ps j).id ≠ port) : idx ps port = some k := by
  unfold idx
  rw [List.findIdx?_eq_some_iff_getElem]
  refine ⟨hk, by rw [← nth_eq hk]; simpa using h1, fun j hj => ?_⟩
  have := h2 j hj
  rw [← nth_eq (by omega)]
  simpa using this
theorem idx_no {ps : List Port} {port : Int} (h : ∀ j, j < ps.length → (nth ps j).id ≠ port) : idx ps port = none := by
  cases hi : idx ps port with
  | none => rfl
  | some k =>
    obtain ⟨h1, h2, _⟩ := idx_some hi
    exact absurd h2 (h k h1)
theorem range_find {α : Type} (f : Nat → α) (p : α → Bool) : ∀ (n : Nat), (((List.range n).map f).find? p) = ((List.range n).find? fun k => p (f k)).map f := by
  intro n
  rw [List.find?_map]
  rfl
theorem mGet_ents (ps : List Port) (locs : List Nat) (port : Int) : mGet (entsP ps locs) port = (idx ps port).map fun k => (nth ps k, nth locs k) := by
  unfold mGet entsP
  rw [range_find, Option.map_map]
  cases hi : idx ps port with
  | none =>
    have h := idx_none hi
    rw [List.find?_eq_none.2]
    · rfl
    · intro x hx
      have := h x (List.mem_range.1 hx)
      simpa using this
  | some k =>
    obtain ⟨h1, h2, h3⟩ := idx_some hi
    have : (List.range ps.length).find? (fun k => decide ((nth ps k).id = port)) = some k := by
      rw [List.find?_eq_some_iff_getElem]
      refine ⟨by simpa using h2, k, by simpa using h1, by simp, fun j hj => ?_⟩
      have := h3 j hj
      simpa using this
    simp only [this, Option.map_some]
    rfl

/- the reference's boxes -/
def RL (v : TV) (b : Bx) : Prop := v = if b.l = [] then .nils else .sl none b.l.length (b.l.flatMap strC)
def BoxR (σ : TS) (lab : Nat → Nat) (c loc : Nat) (b : Bx) : Prop := lab loc = c ∧ ∃ v, σ[loc]? = some (.cells (portC b.p ++ [v, .int .i64 b.at_, .bool b.lost])) ∧ if b.p.kind = 1 then RL v b else QS σ lab c v b.l
theorem BoxR.grow {σ σ' : TS} {lab lab' : Nat → Nat} {C : Nat → Prop} {c loc : Nat} {b : Bx} (h : BoxR σ lab c loc b) (hg : Grow σ lab σ' lab' C) (hc : ¬ C c) : BoxR σ' lab' c loc b := by
  obtain ⟨h1, v, h2, h3⟩ := h
  refine ⟨(hg.mark h2).trans h1, v, hg.get h2 (by rw [h1]; exact hc), ?_⟩
  split at h3
  · rename_i hk; rw [if_pos hk]; exact h3
  · rename_i hk; rw [if_neg hk]; exact h3.grow hg hc

def RV (v : TV) (locs : List Nat) : Prop := (v = .nils ∧ locs = []) ∨ ∃ own, v = .sl own locs.length (locs.flatMap ptrC)
structure RoomR (σ : TS) (lab : Nat → Nat) (c r : Nat) (v : TV) (locs : List Nat) (bs : List Bx) : Prop where
  lr : lab r = c
  hr : σ[r]? = some (.cells [v])
  hv : RV v locs
  len : locs.length = bs.length
  box : ∀ k, k < bs.length → BoxR σ lab (c + 1 + k) (nth locs k) (nth bs k)
  ok : ∀ b ∈ bs, b.ok
theorem RoomR.grow {σ σ' : TS} {lab lab' : Nat → Nat} {C : Nat → Prop} {c r : Nat} {v : TV} {locs : List Nat} {bs : List Bx} (h : RoomR σ lab c r v locs bs) (hg : Grow σ lab σ' lab' C) (hc : ∀ n, c ≤ n → n ≤ c + bs.length → ¬ C n) : RoomR σ' lab' c r v locs bs where
  lr := (hg.mark h.hr).trans h.lr
  hr := hg.get h.hr (by rw [h.lr]; exact hc c (Nat.le_refl _) (by omega))
  hv := h.hv
  len := h.len
  box k hk := (h.box k hk).grow hg (hc _ (by omega) (by omega))
  ok := h.ok
theorem RoomR.turn {σ σ' : TS} {lab lab' : Nat → Nat} {c r : Nat} {v : TV} {locs : List Nat} {bs : List Bx} (h : RoomR σ lab c r v locs bs) {k : Nat} (hk : k < bs.length) {b : Bx} (hg : Grow σ lab σ' lab' (· = c + 1 + k)) (hb : BoxR σ' lab' (c + 1 + k) (nth locs k) b) (hok : b.ok) :
    RoomR σ' lab' c r v locs (bs.set k b) where
  lr := (hg.mark h.hr).trans h.lr
  hr := hg.get h.hr (by rw [h.lr]; omega)
  hv := h.hv
  len := by rw [List.length_set]; exact h.len
  box j hj := by
    rw [List.length_set] at hj
    rw [nth_set hk]
    by_cases e : j = k
    · subst e; rw [if_pos rfl]; exact hb
    · rw [if_neg e]; exact (h.box j hj).grow hg (by omega)
  ok x hx := by
    rcases List.mem_or_eq_of_mem_set hx with hx | rfl
    · exact h.ok x hx
    · exact hok
end Go.Proofs.YtbhhmnfjjnnkiaaGreat
