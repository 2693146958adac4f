/- An end system that sends, as data, and how it stands in the small heap. -/
import Derived.Test.YtbhhmnfjjnnkiaaGreatQ2
import Derived.Test.YtbhhmnfjjnnkiaaGreatP1
import Derived.Test.YtbhhmnfjjnnkiaaGreatR0
set_option linter.unusedVariables false
set_option linter.unusedSimpArgs false
set_option maxRecDepth 10000
set_option maxHeartbeats 4000000
namespace Go.Proofs.YtbhhmnfjjnnkiaaGreat
open Go.TM

abbrev Bytes := List UInt8
/-- A link that is sent: its four queues, its gate, its number, and since when it waits. -/
structure LkS where
  v : Link
  q : List (List Bytes)
  turn : Int
  went : Bool
  at_ : Int
  seen : Int
  cnt : Int
  seq : Int
  since : Int
deriving Inhabited
structure SentS where
  id : Int
  text : Bytes
  begin_ : Int
  end_ : Int
deriving Inhabited
structure OutS where
  vl : Int
  begin_ : Int
  end_ : Int
  a : Bytes
  b : Bytes
deriving Inhabited
structure TxS where
  c : Cfg
  host : Int
  ls : List LkS
  line : List SentS
  lnow : Int
  free : Int
  now : Int
  id : Int
  going : List (Int × OutS × Nat)
  gclock : Nat
  number : Int
  gone : List OutS
deriving Inhabited
abbrev sentC (s : SentS) : List TV := [.int .i64 s.id, .str (B s.text), .int .i64 s.begin_, .int .i64 s.end_]
abbrev outC (o : OutS) : List TV := [.int .i64 o.vl, .int .i64 o.begin_, .int .i64 o.end_, .str (B o.a), .str (B o.b)]

/-- A row to which may be appended: of things of sz cells. -/
def RS {α : Type} (f : α → List TV) (sz : Nat) (σ : TS) (lab : Nat → Nat) (c : Nat) (v : TV) (ls : List α) : Prop :=
  (v = .nils ∧ ls = []) ∨ ∃ t e, lab t = c ∧ v = .sl (some (t, e)) ls.length (ls.flatMap f) ∧ σ[t]? = some (.right e sz)
theorem RS.nil {α : Type} {f : α → List TV} {sz : Nat} {σ : TS} {lab : Nat → Nat} {c : Nat} : RS f sz σ lab c .nils [] := .inl ⟨rfl, rfl⟩
theorem RS.grow {α : Type} {f : α → List TV} {sz : Nat} {σ σ' : TS} {lab lab' : Nat → Nat} {C : Nat → Prop} {c : Nat} {v : TV} {ls : List α} (h : RS f sz σ lab c v ls) (hg : Grow σ lab σ' lab' C) (hc : ¬ C c) : RS f sz σ' lab' c v ls := by
  rcases h with h | ⟨t, e, h1, h2, h3⟩
  · exact .inl h
  · exact .inr ⟨t, e, (hg.mark h3).trans h1, h2, hg.get h3 (by rw [h1]; exact hc)⟩

def allQ (q : List (List Bytes)) : Nat := (q.map List.length).sum
/-- A link in the heap: its own cells, its queues', its gate's; all of one mark. -/
structure LkP (σ : TS) (lab : Nat → Nat) (c l : Nat) (s : LkS) : Prop where
  all : ∃ q g v0 v1 v2 v3, lab l = c ∧ lab q = c ∧ lab g = c ∧
    σ[l]? = some (.cells (linkC s.v ++ [.ptr q 0, .ptr g 0, .int .i64 s.seq, .int .i64 s.since])) ∧
    σ[q]? = some (.cells [v0, v1, v2, v3, .int .i64 s.v.subs, .int .i64 1024, .int .i64 s.turn, .int .i64 (allQ s.q)]) ∧
    RS strC 1 σ lab c v0 (nth s.q 0) ∧ RS strC 1 σ lab c v1 (nth s.q 1) ∧ RS strC 1 σ lab c v2 (nth s.q 2) ∧ RS strC 1 σ lab c v3 (nth s.q 3) ∧
    σ[g]? = some (.cells [.int .u64 s.v.bag, .bool s.went, .int .i64 s.at_, .int .i64 s.seen, .int .i64 s.cnt])
theorem LkP.grow {σ σ' : TS} {lab lab' : Nat → Nat} {C : Nat → Prop} {c l : Nat} {s : LkS} (h : LkP σ lab c l s) (hg : Grow σ lab σ' lab' C) (hc : ¬ C c) : LkP σ' lab' c l s := by
  obtain ⟨q, g, v0, v1, v2, v3, h1, h2, h3, h4, h5, h6, h7, h8, h9, h10⟩ := h.all
  exact ⟨q, g, v0, v1, v2, v3, (hg.mark h4).trans h1, (hg.mark h5).trans h2, (hg.mark h10).trans h3, hg.get h4 (by rw [h1]; exact hc), hg.get h5 (by rw [h2]; exact hc),
    h6.grow hg hc, h7.grow hg hc, h8.grow hg hc, h9.grow hg hc, hg.get h10 (by rw [h3]; exact hc)⟩

/-- The map of links: each one's number, and where it stands. -/
def entsL (ids : List Int) (locs : List Nat) : List (Int × Nat × Nat) := (List.range ids.length).map fun k => (nth ids k, nth locs k, k)
abbrev kP (l : Nat) : TV := .ptr l 0
abbrev kOut (o : OutS) : TV := .agg (outC o)

structure TxP (σ : TS) (lab : Nat → Nat) (c x : Nat) (locs : List Nat) (s : TxS) : Prop where
  all : ∃ lm ln lg lv gv, lab x = c ∧ lab lm = c ∧ lab ln = c ∧ lab lg = c ∧
    σ[x]? = some (.cells (cfgC s.c ++ [.int .i64 s.host, .map lm, rowTV intC (rowOf (s.ls.map (·.v.id))), .ptr ln 0, .int .i64 s.now, .int .i64 s.id, .map lg, .int .i64 s.number, gv])) ∧
    σ[lm]? = some (.map (mEnt kI kP (entsL (s.ls.map (·.v.id)) locs)) s.ls.length) ∧
    σ[ln]? = some (.cells [lv, .int .i64 s.lnow, .int .i64 s.free]) ∧
    σ[lg]? = some (.map (mEnt kI kOut s.going) s.gclock) ∧
    RS sentC 4 σ lab c lv s.line ∧ RS outC 5 σ lab c gv s.gone
  len : locs.length = s.ls.length
  lk : ∀ k, k < s.ls.length → LkP σ lab (c + 1 + k) (nth locs k) (nth s.ls k)
theorem TxP.grow {σ σ' : TS} {lab lab' : Nat → Nat} {C : Nat → Prop} {c x : Nat} {locs : List Nat} {s : TxS} (h : TxP σ lab c x locs s) (hg : Grow σ lab σ' lab' C) (hc : ∀ n, c ≤ n → n ≤ c + s.ls.length → ¬ C n) : TxP σ' lab' c x locs s := by
  obtain ⟨lm, ln, lg, lv, gv, h1, h2, h3, h4, h5, h6, h7, h8, h9, h10⟩ := h.all
  have h0 := hc c (Nat.le_refl _) (by omega)
  exact ⟨⟨lm, ln, lg, lv, gv, (hg.mark h5).trans h1, (hg.mark h6).trans h2, (hg.mark h7).trans h3, (hg.mark h8).trans h4, hg.get h5 (by rw [h1]; exact h0), hg.get h6 (by rw [h2]; exact h0),
    hg.get h7 (by rw [h3]; exact h0), hg.get h8 (by rw [h4]; exact h0), h9.grow hg h0, h10.grow hg h0⟩, h.len, fun k hk => (h.lk k hk).grow hg (hc _ (by omega) (by omega))⟩

/-- A link, and an end system, that begin. -/
def lk0 (v : Link) : LkS := ⟨v, [[], [], [], []], 0, false, 0, 0, 0, 0, 0⟩
def linksOf (c : Cfg) (host : Int) : List Link := c.vls.l.filter fun v => v.host == host
def tx0 (c : Cfg) (host : Int) : TxS := ⟨c, host, (linksOf c host).map lk0, [], 0, 0, 0, 0, [], 0, 0, []⟩

end Go.Proofs.YtbhhmnfjjnnkiaaGreat
