/- The networks as data, and what the machine's words do with them. -/
import Derived.Test.YtkmcbaihemaoeaaGreatTab
import Derived.Test.YtkmcbaihemaoeaaGreatT50
set_option linter.unusedVariables false
set_option linter.unusedSimpArgs false
set_option maxRecDepth 10000
namespace Go.Proofs.YtkmcbaihemaoeaaGreat
open Go.TM

structure Win where
  part : Int
  begin_ : Int
  long : Int
deriving Inhabited, DecidableEq

structure Link where
  id : Int
  host : Int
  bag : Int
  smax : Int
  high : Bool
  subs : Int
  skew : Int
  to : Row Int
deriving Inhabited

structure Port where
  id : Int
  host : Int
  part : Int
  kind : Int
  out : Bool
  vl : Int
  sub : Int
  udp : Int
  size : Int
  depth : Int
  fresh : Int
deriving Inhabited, DecidableEq

structure Cfg where
  hosts : Int
  parts : Row Int
  major : Int
  wins : Row Win
  vls : Row Link
  ports : Row Port
deriving Inhabited

abbrev winC (w : Win) : List TV := [.int .i64 w.part, .int .i64 w.begin_, .int .i64 w.long]
abbrev linkC (v : Link) : List TV := [.int .i64 v.id, .int .i64 v.host, .int .i64 v.bag, .int .i64 v.smax, .bool v.high, .int .i64 v.subs, .int .i64 v.skew, rowTV intC v.to]
abbrev portC (p : Port) : List TV := [.int .i64 p.id, .int .i64 p.host, .int .i64 p.part, .int .i64 p.kind, .bool p.out, .int .i64 p.vl, .int .i64 p.sub, .int .i64 p.udp, .int .i64 p.size, .int .i64 p.depth, .int .i64 p.fresh]
abbrev cfgC (c : Cfg) : List TV := [.int .i64 c.hosts, rowTV intC c.parts, .int .i64 c.major, rowTV winC c.wins, rowTV linkC c.vls, rowTV portC c.ports]
abbrev cfgTV (c : Cfg) : TV := .agg (cfgC c)
abbrev linkTV (v : Link) : TV := .agg (linkC v)
abbrev portTV (p : Port) : TV := .agg (portC p)

attribute [go_sem] winC linkC portC cfgC cfgTV linkTV portTV

@[go_sem ↓] theorem row_fits {n : Nat} (r : Row Int) : TV.fits n (rowTV intC r) = true := rowTV_fits fun _ => rfl

/- rows by type -/
section
variable {k : IntKind} {n : Int}
@[go_sem ↓] theorem len22 (r : Row Int) : tlenOp (mkTab Tryz.prog) 22 (rowTV intC r) = some (.int .i64 r.l.length) := tlen_row tab22 rfl
@[go_sem ↓] theorem len23 (r : Row Win) : tlenOp (mkTab Tryz.prog) 23 (rowTV winC r) = some (.int .i64 r.l.length) := tlen_row tab23 rfl
@[go_sem ↓] theorem len24 (r : Row Link) : tlenOp (mkTab Tryz.prog) 24 (rowTV linkC r) = some (.int .i64 r.l.length) := tlen_row tab24 rfl
@[go_sem ↓] theorem len25 (r : Row Port) : tlenOp (mkTab Tryz.prog) 25 (rowTV portC r) = some (.int .i64 r.l.length) := tlen_row tab25 rfl
@[go_sem ↓] theorem ix22 (r : Row Int) (h0 : 0 ≤ n) (h1 : n < r.l.length) : tindexAddr (mkTab Tryz.prog) 22 (rowTV intC r) (.int k n) = some (.cp (.int .i64 (nth r.l n.toNat) :: (r.l.drop (n.toNat + 1)).flatMap intC)) :=
  tix_row tab22 rfl tab3 (fun _ => rfl) (by decide) h0 h1
@[go_sem ↓] theorem ix23 (r : Row Win) (h0 : 0 ≤ n) (h1 : n < r.l.length) : tindexAddr (mkTab Tryz.prog) 23 (rowTV winC r) (.int k n) =
    some (.cp (.int .i64 (nth r.l n.toNat).part :: .int .i64 (nth r.l n.toNat).begin_ :: .int .i64 (nth r.l n.toNat).long :: (r.l.drop (n.toNat + 1)).flatMap winC)) :=
  tix_row tab23 rfl tab395 (fun _ => rfl) (by decide) h0 h1
@[go_sem ↓] theorem ix24 (r : Row Link) (h0 : 0 ≤ n) (h1 : n < r.l.length) : tindexAddr (mkTab Tryz.prog) 24 (rowTV linkC r) (.int k n) =
    some (.cp (.int .i64 (nth r.l n.toNat).id :: .int .i64 (nth r.l n.toNat).host :: .int .i64 (nth r.l n.toNat).bag :: .int .i64 (nth r.l n.toNat).smax :: .bool (nth r.l n.toNat).high :: .int .i64 (nth r.l n.toNat).subs :: .int .i64 (nth r.l n.toNat).skew :: rowTV intC (nth r.l n.toNat).to :: (r.l.drop (n.toNat + 1)).flatMap linkC)) :=
  tix_row tab24 rfl tab44 (fun _ => rfl) (by decide) h0 h1
@[go_sem ↓] theorem ix25 (r : Row Port) (h0 : 0 ≤ n) (h1 : n < r.l.length) : tindexAddr (mkTab Tryz.prog) 25 (rowTV portC r) (.int k n) =
    some (.cp (.int .i64 (nth r.l n.toNat).id :: .int .i64 (nth r.l n.toNat).host :: .int .i64 (nth r.l n.toNat).part :: .int .i64 (nth r.l n.toNat).kind :: .bool (nth r.l n.toNat).out :: .int .i64 (nth r.l n.toNat).vl :: .int .i64 (nth r.l n.toNat).sub :: .int .i64 (nth r.l n.toNat).udp :: .int .i64 (nth r.l n.toNat).size :: .int .i64 (nth r.l n.toNat).depth :: .int .i64 (nth r.l n.toNat).fresh :: (r.l.drop (n.toNat + 1)).flatMap portC)) :=
  tix_row tab25 rfl tab127 (fun _ => rfl) (by decide) h0 h1
section
variable {lo hi : Nat}
@[go_sem ↓] theorem cut22 (r : Row Int) (h0 : lo ≤ hi) (h1 : hi ≤ r.l.length) : tslice (mkTab Tryz.prog) 22 (rowTV intC r) (some lo) (some hi) none = some (rowTV intC (r.cut lo hi)) := tslice_row tab22 rfl tab3 (fun _ => rfl) h0 h1
@[go_sem ↓] theorem cuth22 (r : Row Int) (h1 : hi ≤ r.l.length) : tslice (mkTab Tryz.prog) 22 (rowTV intC r) none (some hi) none = some (rowTV intC (r.cut 0 hi)) := tslice_row_hi tab22 rfl tab3 (fun _ => rfl) h1
@[go_sem ↓] theorem cutl22 (r : Row Int) (h1 : lo ≤ r.l.length) : tslice (mkTab Tryz.prog) 22 (rowTV intC r) (some lo) none none = some (rowTV intC (r.cut lo r.l.length)) := tslice_row_lo tab22 rfl tab3 (fun _ => rfl) h1
@[go_sem ↓] theorem cuth23 (r : Row Win) (h1 : hi ≤ r.l.length) : tslice (mkTab Tryz.prog) 23 (rowTV winC r) none (some hi) none = some (rowTV winC (r.cut 0 hi)) := tslice_row_hi tab23 rfl tab395 (fun _ => rfl) h1
@[go_sem ↓] theorem cuth24 (r : Row Link) (h1 : hi ≤ r.l.length) : tslice (mkTab Tryz.prog) 24 (rowTV linkC r) none (some hi) none = some (rowTV linkC (r.cut 0 hi)) := tslice_row_hi tab24 rfl tab44 (fun _ => rfl) h1
@[go_sem ↓] theorem cuth25 (r : Row Port) (h1 : hi ≤ r.l.length) : tslice (mkTab Tryz.prog) 25 (rowTV portC r) none (some hi) none = some (rowTV portC (r.cut 0 hi)) := tslice_row_hi tab25 rfl tab127 (fun _ => rfl) h1
end
end

/- arguments that are networks -/
def I64 (n : Int) : Prop := -9223372036854775808 ≤ n ∧ n ≤ 9223372036854775807

def Win.ok (w : Win) : Prop := I64 w.part ∧ I64 w.begin_ ∧ I64 w.long
def Link.ok (v : Link) : Prop := I64 v.id ∧ I64 v.host ∧ I64 v.bag ∧ I64 v.smax ∧ I64 v.subs ∧ I64 v.skew ∧ v.to.l.length ≤ 9223372036854775807 ∧ ∀ h ∈ v.to.l, I64 h
def Port.ok (p : Port) : Prop := I64 p.id ∧ I64 p.host ∧ I64 p.part ∧ I64 p.kind ∧ I64 p.vl ∧ I64 p.sub ∧ I64 p.udp ∧ I64 p.size ∧ I64 p.depth ∧ I64 p.fresh
structure Cfg.ok (c : Cfg) : Prop where
  hosts : I64 c.hosts
  major : I64 c.major
  lparts : c.parts.l.length ≤ 9223372036854775807
  lwins : c.wins.l.length ≤ 9223372036854775807
  lvls : c.vls.l.length ≤ 9223372036854775807
  lports : c.ports.l.length ≤ 9223372036854775807
  parts : ∀ h ∈ c.parts.l, I64 h
  wins : ∀ w ∈ c.wins.l, w.ok
  vls : ∀ v ∈ c.vls.l, v.ok
  ports : ∀ p ∈ c.ports.l, p.ok

theorem TyInt {d : Nat} {cs : List TV} (h : Ty (mkTab Tryz.prog) (d + 1) 3 cs) : ∃ n, cs = [.int .i64 n] ∧ I64 n := by
  obtain ⟨n, h1, h2, h3⟩ := ints_of tab3 rfl cs h
  exact ⟨n, h1, h2, h3⟩
theorem TyBool {d : Nat} {cs : List TV} (h : Ty (mkTab Tryz.prog) (d + 1) 4 cs) : ∃ b, cs = [.bool b] := by
  simp only [Ty, tab4] at h
  exact h

theorem Ty_struct {T : Tab} {d : Nat} {t : TypeId} {i : TI} {fs : List (TypeId × Nat)} {nm : Bool} {cs : List TV} (e : T t = some i) (hk : i.k = .struct fs nm) (h : Ty T (d + 1) t cs) :
    cs.length = i.size ∧ ∀ f ∈ fs, match T f.1 with
      | some j => Ty T d f.1 ((cs.drop f.2).take j.size)
      | none => False := by
  simp only [Ty, e, hk] at h
  exact h

theorem TyRowI {d : Nat} {cs : List TV} (h : Ty (mkTab Tryz.prog) (d + 2) 22 cs) : ∃ r : Row Int, cs = [rowTV intC r] ∧ r.l.length ≤ 9223372036854775807 ∧ ∀ x ∈ r.l, I64 x := by
  have h' := h
  simp only [Ty, tab22, tab3] at h'
  have h1 : ∃ x, cs = [x] ∧ x.one = true := by
    rcases h' with rfl | ⟨len, xs, rfl, _⟩
    · exact ⟨_, rfl, rfl⟩
    · exact ⟨_, rfl, rfl⟩
  obtain ⟨x, rfl, hx⟩ := h1
  have hty : TyV (mkTab Tryz.prog) (d + 2) 22 x := by
    have hc : x.cells = [x] := by cases x <;> first | rfl | (simp [TV.one] at hx; done)
    refine ⟨by rw [hc]; exact h, fun i hi => ?_⟩
    rw [tab22] at hi; cases hi
    cases x <;> first | rfl | (simp [TV.one] at hx; done)
  obtain ⟨r, rfl, h2, h3⟩ := TyRow (d := d + 1) (α := Int) (f := intC) (p := I64) tab22 rfl tab3 (fun _ => rfl) (fun cs hc _ => TyInt hc) hty
  exact ⟨r, rfl, h2, h3⟩

theorem list_len3 {α : Type} {cs : List α} (h : cs.length = 3) : ∃ a0 a1 a2, cs = [a0, a1, a2] := by
  match cs, h with
  | [a0, a1, a2], _ => exact ⟨a0, a1, a2, rfl⟩

theorem list_len6 {α : Type} {cs : List α} (h : cs.length = 6) : ∃ a0 a1 a2 a3 a4 a5, cs = [a0, a1, a2, a3, a4, a5] := by
  match cs, h with
  | [a0, a1, a2, a3, a4, a5], _ => exact ⟨a0, a1, a2, a3, a4, a5, rfl⟩

theorem list_len8 {α : Type} {cs : List α} (h : cs.length = 8) : ∃ a0 a1 a2 a3 a4 a5 a6 a7, cs = [a0, a1, a2, a3, a4, a5, a6, a7] := by
  match cs, h with
  | [a0, a1, a2, a3, a4, a5, a6, a7], _ => exact ⟨a0, a1, a2, a3, a4, a5, a6, a7, rfl⟩

theorem list_len11 {α : Type} {cs : List α} (h : cs.length = 11) : ∃ a0 a1 a2 a3 a4 a5 a6 a7 a8 a9 a10, cs = [a0, a1, a2, a3, a4, a5, a6, a7, a8, a9, a10] := by
  match cs, h with
  | [a0, a1, a2, a3, a4, a5, a6, a7, a8, a9, a10], _ => exact ⟨a0, a1, a2, a3, a4, a5, a6, a7, a8, a9, a10, rfl⟩

theorem TyWin {d : Nat} {cs : List TV} (h : Ty (mkTab Tryz.prog) (d + 3) 395 cs) : ∃ x : Win, cs = winC x ∧ x.ok := by
  have h := Ty_struct tab395 rfl h
  simp only [List.mem_cons, List.not_mem_nil, or_false, forall_eq_or_imp, forall_eq, tab3, tab4, tab22] at h
  obtain ⟨h, h0, h1, h2⟩ := h
  obtain ⟨a0, a1, a2, rfl⟩ := list_len3 h
  simp only [List.drop_zero, List.drop_succ_cons, List.take_succ_cons, List.take_zero] at h0 h1 h2
  obtain ⟨x0, e0, q0⟩ := TyInt h0; cases e0
  obtain ⟨x1, e1, q1⟩ := TyInt h1; cases e1
  obtain ⟨x2, e2, q2⟩ := TyInt h2; cases e2
  exact ⟨⟨x0, x1, x2⟩, rfl, q0, q1, q2⟩

theorem TyLink {d : Nat} {cs : List TV} (h : Ty (mkTab Tryz.prog) (d + 3) 44 cs) : ∃ x : Link, cs = linkC x ∧ x.ok := by
  have h := Ty_struct tab44 rfl h
  simp only [List.mem_cons, List.not_mem_nil, or_false, forall_eq_or_imp, forall_eq, tab3, tab4, tab22] at h
  obtain ⟨h, h0, h1, h2, h3, h4, h5, h6, h7⟩ := h
  obtain ⟨a0, a1, a2, a3, a4, a5, a6, a7, rfl⟩ := list_len8 h
  simp only [List.drop_zero, List.drop_succ_cons, List.take_succ_cons, List.take_zero] at h0 h1 h2 h3 h4 h5 h6 h7
  obtain ⟨x0, e0, q0⟩ := TyInt h0; cases e0
  obtain ⟨x1, e1, q1⟩ := TyInt h1; cases e1
  obtain ⟨x2, e2, q2⟩ := TyInt h2; cases e2
  obtain ⟨x3, e3, q3⟩ := TyInt h3; cases e3
  obtain ⟨x4, e4⟩ := TyBool h4; cases e4
  obtain ⟨x5, e5, q5⟩ := TyInt h5; cases e5
  obtain ⟨x6, e6, q6⟩ := TyInt h6; cases e6
  obtain ⟨x7, e7, l7, q7⟩ := TyRowI h7; cases e7
  exact ⟨⟨x0, x1, x2, x3, x4, x5, x6, x7⟩, rfl, q0, q1, q2, q3, q5, q6, l7, q7⟩

theorem TyPort {d : Nat} {cs : List TV} (h : Ty (mkTab Tryz.prog) (d + 3) 127 cs) : ∃ x : Port, cs = portC x ∧ x.ok := by
  have h := Ty_struct tab127 rfl h
  simp only [List.mem_cons, List.not_mem_nil, or_false, forall_eq_or_imp, forall_eq, tab3, tab4, tab22] at h
  obtain ⟨h, h0, h1, h2, h3, h4, h5, h6, h7, h8, h9, h10⟩ := h
  obtain ⟨a0, a1, a2, a3, a4, a5, a6, a7, a8, a9, a10, rfl⟩ := list_len11 h
  simp only [List.drop_zero, List.drop_succ_cons, List.take_succ_cons, List.take_zero] at h0 h1 h2 h3 h4 h5 h6 h7 h8 h9 h10
  obtain ⟨x0, e0, q0⟩ := TyInt h0; cases e0
  obtain ⟨x1, e1, q1⟩ := TyInt h1; cases e1
  obtain ⟨x2, e2, q2⟩ := TyInt h2; cases e2
  obtain ⟨x3, e3, q3⟩ := TyInt h3; cases e3
  obtain ⟨x4, e4⟩ := TyBool h4; cases e4
  obtain ⟨x5, e5, q5⟩ := TyInt h5; cases e5
  obtain ⟨x6, e6, q6⟩ := TyInt h6; cases e6
  obtain ⟨x7, e7, q7⟩ := TyInt h7; cases e7
  obtain ⟨x8, e8, q8⟩ := TyInt h8; cases e8
  obtain ⟨x9, e9, q9⟩ := TyInt h9; cases e9
  obtain ⟨x10, e10, q10⟩ := TyInt h10; cases e10
  exact ⟨⟨x0, x1, x2, x3, x4, x5, x6, x7, x8, x9, x10⟩, rfl, q0, q1, q2, q3, q5, q6, q7, q8, q9, q10⟩

/-- A slice of things of a type, as a cell. -/
theorem TyCellRow {d : Nat} {t el : TypeId} {i j : TI} {cs : List TV} {α : Type} [Inhabited α] {f : α → List TV} {p : α → Prop} (e : mkTab Tryz.prog t = some i) (hk : i.k = .slice el) (e2 : mkTab Tryz.prog el = some j) (hf : ∀ x, (f x).length = j.size)
    (hel : ∀ cs, Ty (mkTab Tryz.prog) d el cs → ∃ x, cs = f x ∧ p x) (h : Ty (mkTab Tryz.prog) (d + 1) t cs) :
    ∃ r : Row α, cs = [rowTV f r] ∧ r.l.length ≤ 9223372036854775807 ∧ ∀ x ∈ r.l, p x := by
  have h' := h
  simp only [Ty, e, hk, e2] at h'
  have h1 : ∃ x, cs = [x] ∧ x.one = true ∧ x.isAggV = false := by
    rcases h' with rfl | ⟨len, xs, rfl, _⟩
    · exact ⟨_, rfl, rfl, rfl⟩
    · exact ⟨_, rfl, rfl, rfl⟩
  obtain ⟨x, rfl, hx, ha⟩ := h1
  have hty : TyV (mkTab Tryz.prog) (d + 1) t x := by
    have hc : x.cells = [x] := by cases x <;> first | rfl | (simp [TV.one] at hx; done)
    refine ⟨by rw [hc]; exact h, fun i' hi => ?_⟩
    rw [e] at hi; cases hi
    rw [hk, ha]; rfl
  obtain ⟨r, rfl, h2, h3⟩ := TyRow (f := f) (p := p) e hk e2 hf (fun cs hc _ => hel cs hc) hty
  exact ⟨r, rfl, h2, h3⟩

theorem TyCfg {d : Nat} {cs : List TV} (h : Ty (mkTab Tryz.prog) (d + 5) 27 cs) : ∃ c : Cfg, cs = cfgC c ∧ c.ok := by
  have h := Ty_struct tab27 rfl h
  simp only [List.mem_cons, List.not_mem_nil, or_false, forall_eq_or_imp, forall_eq, tab3, tab22, tab23, tab24, tab25] at h
  obtain ⟨h, h0, h1, h2, h3, h4, h5⟩ := h
  obtain ⟨a0, a1, a2, a3, a4, a5, rfl⟩ := list_len6 h
  simp only [List.drop_zero, List.drop_succ_cons, List.take_succ_cons, List.take_zero] at h0 h1 h2 h3 h4 h5
  obtain ⟨x0, e0, q0⟩ := TyInt h0; cases e0
  obtain ⟨x1, e1, l1, q1⟩ := TyRowI h1; cases e1
  obtain ⟨x2, e2, q2⟩ := TyInt h2; cases e2
  obtain ⟨x3, e3, l3, q3⟩ := TyCellRow (f := winC) (p := Win.ok) tab23 rfl tab395 (fun _ => rfl) (fun _ => TyWin) h3; cases e3
  obtain ⟨x4, e4, l4, q4⟩ := TyCellRow (f := linkC) (p := Link.ok) tab24 rfl tab44 (fun _ => rfl) (fun _ => TyLink) h4; cases e4
  obtain ⟨x5, e5, l5, q5⟩ := TyCellRow (f := portC) (p := Port.ok) tab25 rfl tab127 (fun _ => rfl) (fun _ => TyPort) h5; cases e5
  exact ⟨⟨x0, x1, x2, x3, x4, x5⟩, rfl, q0, q2, l1, l3, l4, l5, q1, q3, q4, q5⟩

theorem TyCfgV {d : Nat} {a : TV} (h : TyV (mkTab Tryz.prog) (d + 5) 27 a) : ∃ c : Cfg, a = cfgTV c ∧ c.ok := by
  obtain ⟨c, h1, h2⟩ := TyCfg h.1
  have ha := h.2 _ tab27
  refine ⟨c, ?_, h2⟩
  cases a <;> first | (cases ha; done) | (simp only [TV.cells] at h1; rw [h1])

end Go.Proofs.YtkmcbaihemaoeaaGreat
