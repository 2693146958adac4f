/- An end system at which nothing waits: time goes on. -/
import Derived.Test.YtbhhmnfjjnnkiaaGreatQ5
import Derived.Test.YtbhhmnfjjnnkiaaGreatQ10
set_option linter.unusedVariables false
set_option linter.unusedSimpArgs false
set_option maxRecDepth 10000
set_option maxHeartbeats 4000000
namespace Go.Proofs.YtbhhmnfjjnnkiaaGreat
open Go.TM

theorem all_walk {σ : TS} {q : Nat} {v0 v1 v2 v3 : TV} {a b t n : Int} (h : σ[q]? = some (.cells [v0, v1, v2, v3, .int .i64 a, .int .i64 b, .int .i64 t, .int .i64 n])) : TPure Tryz.prog 106 [.ptr q 0] σ (.int .i64 n) := by
  refine pure_of [] [.tmp 2] Tryz.func106 (by kernel_rfl) rfl (by kernel_rfl) fun X hR hN => ?_
  show Tw _ _ _ _ ([some _] ++ List.replicate 8 none) _
  simp only [List.replicate, List.cons_append, List.nil_append]
  have FK := @h; have FD := zdum; have FL := zdum
  refine walk ?_
  (repeat' first | exact Lv.nil | apply Lv.cons) <;> (intros; clear FL FD FK)
theorem muxtimely_walk {σ : TS} {l : Nat} {v : TV} {n f : Int} (h : σ[l]? = some (.cells [v, .int .i64 n, .int .i64 f])) (now : Int) (h1 : 0 ≤ now ∧ n ≤ now ∧ now ≤ 1125899906842624) : TPure Tryz.prog 113 [.ptr l 0, .int .i64 now] σ (.int .i64 0) := by
  refine pure_of [] [.tmp 4] Tryz.func113 (by kernel_rfl) rfl (by kernel_rfl) fun X hR hN => ?_
  show Tw _ _ _ _ ([some _, some _] ++ List.replicate 20 none) _
  simp only [List.replicate, List.cons_append, List.nil_append]
  have FK := @h; have FD := zdum; have FL := zdum
  refine walk ?_
  (repeat' first | exact Lv.nil | apply Lv.cons) <;> (intros; clear FL FD FK)
theorem index_none {σ : TS} {v f : TV} (h : tlenOp (mkTab Tryz.prog) 174 v = some (.int .i64 0)) : TPure Tryz.prog 133 [v, f] σ (.int .i64 (-1)) := by
  refine pure_of [] [.tmp 4] Tryz.func133 (by kernel_rfl) rfl (by kernel_rfl) fun X hR hN => ?_
  show Tw _ _ _ _ ([some _, some _] ++ List.replicate 17 none) _
  simp only [List.replicate, List.cons_append, List.nil_append]
  have FK := zdum; have FD := @h; have FL := zdum
  refine walk ?_
  (repeat' first | exact Lv.nil | apply Lv.cons) <;> (intros; clear FL FD FK)
  refine T_open 1 ?_
  have FK := zdum; have FD := zdum; have FL := zdum
  refine walk ?_
  (repeat' first | exact Lv.nil | apply Lv.cons) <;> (intros; clear FL FD FK)
theorem cutN (t : TypeId) {e : TypeId} {i j : TI} (hT : mkTab Tryz.prog t = some i) (hk : i.k = .slice e) (hE : mkTab Tryz.prog e = some j) : tslice (mkTab Tryz.prog) t .nils none (some 0) (some 0) = some .nils ∧ tslice (mkTab Tryz.prog) t .nils (some 0) none none = some .nils := by
  constructor <;> (unfold tslice; simp only [hT, hk, hE]; simp)
section
variable {σ : TS} {l : Nat} {v : TV} {n f : Int} (h : σ[l]? = some (.cells [v, .int .i64 n, .int .i64 f])) (now : Int) (h1 : 0 ≤ now ∧ n ≤ now ∧ now ≤ 1125899906842624)
include h h1
theorem muxpass_nil (hv : v = .nils) : TDoes Tryz.prog 109 [.ptr l 0, .int .i64 now] σ (.tup [.nils, .int .i64 0]) (σ.set l (.cells [.nils, .int .i64 now, .int .i64 f])) := by
  subst hv
  have hl := lt_of_get h
  have ht : ∀ ρ, TPure Tryz.prog 113 [.ptr l 0, .int .i64 now] (σ ++ ρ) (.int .i64 0) := fun ρ => muxtimely_walk (by rw [get_old hl]; exact h) now h1
  have hx : ∀ ρ f, TPure Tryz.prog 133 [.nils, f] ρ (.int .i64 (-1)) := fun ρ f => index_none (by simp [tlenOp, tab174])
  obtain ⟨hc1, hc2⟩ := cutN 174 tab174 rfl tab238
  refine does_of [] [.tmp 4, .tmp 5] Tryz.func109 (by kernel_rfl) rfl (by kernel_rfl) fun X hR hN => ?_
  show Tw _ _ _ _ ([some _, some _] ++ List.replicate 47 none) _
  simp only [List.replicate, List.cons_append, List.nil_append]
  have FK := And.intro @h (And.intro @get_old (@set_old)); have FD := And.intro @hc1 (@hc2); have FL := zdum; have cA := @ht; have cB := @hx
  refine walk ?_
  (repeat' first | exact Lv.nil | apply Lv.cons) <;> (intros; clear cB cA FL FD FK)
end

/-- What is asked of an end system that idles: nothing waits, no two links have one number. -/
structure Idle (s : TxS) : Prop where
  q : ∀ k, k < s.ls.length → allQ (nth s.ls k).q = 0
  line : s.line = []
  uniq : ∀ j k, j < k → k < s.ls.length → (nth s.ls j).v.id ≠ (nth s.ls k).v.id
  time : 0 ≤ s.lnow ∧ s.lnow ≤ s.now ∧ s.now ≤ 1099511627776
  few : s.ls.length ≤ 260
section
variable {σ : TS} {lab : Nat → Nat} {c x : Nat} {locs : List Nat} {s : TxS} (h : TxP σ lab c x locs s) (hi : Idle s) (now : Int) (hn : s.now ≤ now ∧ now ≤ 1099511627776)
include h hi
theorem first_idle : TPure Tryz.prog 88 [.ptr x 0, .int .i64 now] σ .nilp := by
  obtain ⟨lm, ln, lg, lv, gv, m1, m2, m3, m4, hx, hm, hl, hg, hlv, hgv⟩ := h.all
  have hf := hi.few
  have hrl : (rowOf (s.ls.map (·.v.id))).l.length = s.ls.length := by simp [rowOf]
  refine pure_of [] [.tmp 4] Tryz.func88 (by kernel_rfl) rfl (by kernel_rfl) fun X hR hN => ?_
  show Tw _ _ _ _ ([some _, some _] ++ List.replicate 48 none) _
  simp only [List.replicate, List.cons_append, List.nil_append]
  have FK := @hx; have FD := zdum; have FL := zdum
  refine walk ?_
  (repeat' first | exact Lv.nil | apply Lv.cons) <;> (intros; clear FL FD FK)
  refine T_each (α := Nat) (fun i => [some (some (.ptr x 0)), some (some (.int .i64 now)), none, none, none, some (some (.nilp)), none, none, none, none, none, none, some (some (rowTV intC (rowOf (s.ls.map (·.v.id))))), some (some (.int .i64 (rowOf (s.ls.map (·.v.id))).l.length)), some (some (.int .i64 i)), none, none, none, none, none, none, none, none, none, none, none, none, none, none, none, none, none, none, none, none, none, none, none, none, none, none, none, none, none, none, none, none, none, none, none]) (fun i => i ≤ s.ls.length) (fun i => s.ls.length - i) (fun i => σ) ?_ ?_
  · refine ⟨(0), ⟨rfl, rfl, rfl, rfl, rfl, rfl, trivial⟩, ?_, rfl⟩
    omega
  · rintro i q hil
    show Tw _ _ _ _ ([some (.ptr x 0), some (.int .i64 now), q 2, q 3, q 4, some (.nilp), q 6, q 7, q 8, q 9, q 10, q 11, some (rowTV intC (rowOf (s.ls.map (·.v.id)))), some (.int .i64 (rowOf (s.ls.map (·.v.id))).l.length), some (.int .i64 i), q 15, q 16, q 17, q 18, q 19, q 20, q 21, q 22, q 23, q 24, q 25, q 26, q 27, q 28, q 29, q 30, q 31, q 32, q 33, q 34, q 35, q 36, q 37, q 38, q 39, q 40, q 41, q 42, q 43, q 44, q 45, q 46, q 47, q 48, q 49]) (σ)
    rcases Nat.lt_or_ge i s.ls.length with hlt | hge
    · have hid : nth (rowOf (s.ls.map (·.v.id))).l i = (nth s.ls i).v.id := by
        show nth (s.ls.map (·.v.id)) i = _
        rw [nth_eq (by simpa using hlt), nth_eq hlt, List.getElem_map]
      have hlook : tlookup (mkTab Tryz.prog) σ 110 (.map lm) (.int .i64 (nth s.ls i).v.id) false = some (.ptr (nth locs i) 0) := by
        rw [mapLook (z := .nilp) tab110 rfl tab119 rfl kI_law hm false]
        have := entsL_some (ids := s.ls.map (·.v.id)) (locs := locs) (k := i) (by simpa using hlt) (fun j hj => by
          have := hi.uniq j i hj hlt
          rw [nth_eq (show j < (s.ls.map (·.v.id)).length by simp; omega), nth_eq (show i < (s.ls.map (·.v.id)).length by simpa using hlt), List.getElem_map, List.getElem_map, ← nth_eq, ← nth_eq]
          exact this)
        rw [show nth (s.ls.map (·.v.id)) i = (nth s.ls i).v.id from hid] at this
        rw [this]; rfl
      obtain ⟨q, g, v0, v1, v2, v3, k1, k2, k3, hlc, hqc, _, _, _, _, _⟩ := (h.lk i hlt).all
      have ha := all_walk hqc
      rw [hi.q i hlt] at ha
      have FK := And.intro @hx (And.intro @hid (@hlc)); have FD := @hlook; have FL := zdum; have cA := @ha
      refine walk ?_
      (repeat' first | exact Lv.nil | apply Lv.cons) <;> (intros; clear cA FL FD FK)
      refine ⟨(i + 1), ?_, ⟨rfl, rfl, rfl, rfl, rfl, rfl, trivial⟩, ?_, (by first | rfl | trivial)⟩
      all_goals (try dsimp only)
      all_goals (omega)
    · have FK := zdum; have FD := zdum; have FL := zdum
      refine walk ?_
      (repeat' first | exact Lv.nil | apply Lv.cons) <;> (intros; clear FL FD FK)
end

section
variable {σ : TS} {l : Nat} {v : TV} {n f : Int} (h : σ[l]? = some (.cells [v, .int .i64 n, .int .i64 f])) (now : Int) (h1 : 0 ≤ now ∧ n ≤ now ∧ now ≤ 1125899906842624)
include h h1
theorem muxpass_sl {t e : Nat} (htl : t < σ.length) (hv : v = .sl (some (t, e)) 0 []) : TDoes Tryz.prog 109 [.ptr l 0, .int .i64 now] σ (.tup [.sl none 0 [], .int .i64 0]) (σ.set l (.cells [.sl (some (t, e)) 0 [], .int .i64 now, .int .i64 f])) := by
  subst hv
  have hl := lt_of_get h
  have ht : ∀ ρ, TPure Tryz.prog 113 [.ptr l 0, .int .i64 now] (σ ++ ρ) (.int .i64 0) := fun ρ => muxtimely_walk (by rw [get_old hl]; exact h) now h1
  have hx : ∀ ρ f, TPure Tryz.prog 133 [.sl (some (t, e)) 0 [], f] ρ (.int .i64 (-1)) := fun ρ f => index_none (by simp [tlenOp, tab174])
  have hc1 : tslice (mkTab Tryz.prog) 174 (.sl (some (t, e)) 0 []) none (some 0) (some 0) = some (.sl none 0 []) := by
    unfold tslice; simp [tab174, tab238]
  have hc2 : tslice (mkTab Tryz.prog) 174 (.sl (some (t, e)) 0 []) (some 0) none none = some (.sl (some (t, e)) 0 []) := by
    unfold tslice; simp [tab174, tab238]
  refine does_of [] [.tmp 4, .tmp 5] Tryz.func109 (by kernel_rfl) rfl (by kernel_rfl) fun X hR hN => ?_
  show Tw _ _ _ _ ([some _, some _] ++ List.replicate 47 none) _
  simp only [List.replicate, List.cons_append, List.nil_append]
  have FK := And.intro @h (And.intro @get_old (@set_old)); have FD := And.intro @hc1 (@hc2); have FL := zdum; have cA := @ht; have cB := @hx
  refine walk ?_
  (repeat' first | exact Lv.nil | apply Lv.cons) <;> (intros; clear cB cA FL FD FK)
end
theorem muxpass_idle {σ : TS} {l : Nat} {lab : Nat → Nat} {c : Nat} {v : TV} {n f : Int} (h : σ[l]? = some (.cells [v, .int .i64 n, .int .i64 f])) (hv : RS sentC 4 σ lab c v []) (now : Int) (h1 : 0 ≤ now ∧ n ≤ now ∧ now ≤ 1125899906842624) :
    ∃ gv, (gv = .nils ∨ gv = .sl none 0 []) ∧ TDoes Tryz.prog 109 [.ptr l 0, .int .i64 now] σ (.tup [gv, .int .i64 0]) (σ.set l (.cells [v, .int .i64 now, .int .i64 f])) := by
  rcases hv with ⟨rfl, _⟩ | ⟨t, e, h2, rfl, h3⟩
  · exact ⟨.nils, .inl rfl, muxpass_nil h now h1 rfl⟩
  · exact ⟨_, .inr rfl, muxpass_sl h now h1 (lt_of_get h3) rfl⟩

section
variable {σ : TS} {x ln : Nat} {c : Cfg} {host n id nr f m : Int} {lm lg : Nat} {ov lv gv : TV} {lab : Nat → Nat} {d : Nat}
  (hx : σ[x]? = some (.cells (cfgC c ++ [.int .i64 host, .map lm, ov, .ptr ln 0, .int .i64 n, .int .i64 id, .map lg, .int .i64 nr, gv])))
  (hl : σ[ln]? = some (.cells [lv, .int .i64 m, .int .i64 f])) (hv : RS sentC 4 σ lab d lv []) (now : Int) (h1 : 0 ≤ now ∧ m ≤ now ∧ now ≤ 1125899906842624)
include hx hl hv h1
theorem collect_idle : TDoes Tryz.prog 90 [.ptr x 0, .int .i64 now] σ (.tup []) (σ.set ln (.cells [lv, .int .i64 now, .int .i64 f])) := by
  obtain ⟨g, hg0, hp⟩ := muxpass_idle hl hv now h1
  have hlen : tlenOp (mkTab Tryz.prog) 174 g = some (.int .i64 0) := by
    rcases hg0 with rfl | rfl <;> simp [tlenOp, tab174]
  refine calls_of [] [] Tryz.func90 (by kernel_rfl) rfl (by kernel_rfl) fun X hR hN => ?_
  show Tw _ _ _ _ ([some _, some _] ++ List.replicate 52 none) _
  simp only [List.replicate, List.cons_append, List.nil_append]
  have FK := @hx; have FD := @hlen; have FL := zdum; have dA := @hp
  refine walk ?_
  (repeat' first | exact Lv.nil | apply Lv.cons) <;> (intros; clear dA FL FD FK)
  refine T_open 1 ?_
  have FK := zdum; have FD := zdum; have FL := zdum
  refine walk ?_
  (repeat' first | exact Lv.nil | apply Lv.cons) <;> (intros; clear FL FD FK)
  all_goals first | exact ⟨rfl, rfl⟩ | exact ⟨rfl, trivial⟩ | exact ⟨trivial, rfl⟩ | trivial
end
theorem TxP.shape {σ : TS} {lab : Nat → Nat} {c x : Nat} {locs : List Nat} {s : TxS} (h : TxP σ lab c x locs s) : ∃ lm ln lg lv gv, lab x = c ∧ lab lm = c ∧ lab ln = c ∧ lab lg = c ∧
    σ[x]? = some (.cells (cfgC s.c ++ [.int .i64 s.host, .map lm, rowTV intC (rowOf (s.ls.map (·.v.id))), .ptr ln 0, .int .i64 s.now, .int .i64 s.id, .map lg, .int .i64 s.number, gv])) ∧
    σ[lm]? = some (.map (mEnt kI kP (entsL (s.ls.map (·.v.id)) locs)) s.ls.length) ∧
    σ[ln]? = some (.cells [lv, .int .i64 s.lnow, .int .i64 s.free]) ∧
    σ[lg]? = some (.map (mEnt kI kOut s.going) s.gclock) ∧
    RS sentC 4 σ lab c lv s.line ∧ RS outC 5 σ lab c gv s.gone := h.all
theorem RS.other {α : Type} {f : α → List TV} {sz : Nat} {σ : TS} {lab : Nat → Nat} {c : Nat} {v : TV} {ls : List α} (h : RS f sz σ lab c v ls) {l : Nat} {cs : List TV} (hl : σ[l]? = some (.cells cs)) (o : TObj) : RS f sz (σ.set l o) lab c v ls := by
  rcases h with h | ⟨t, e, h1, h2, h3⟩
  · exact .inl h
  · exact .inr ⟨t, e, h1, h2, by rw [List.getElem?_set_ne (by rintro rfl; rw [hl] at h3; cases h3)]; exact h3⟩
theorem set_cells_get {σ : TS} {l p : Nat} {cs ds : List TV} (hl : σ[l]? = some (.cells cs)) {o : TObj} (hp : σ[p]? = some o) (hne : cs.length ≠ (match o with | .cells xs => xs.length | _ => 0) ∨ ∀ xs, o ≠ .cells xs) : (σ.set l (.cells ds))[p]? = some o := by
  rw [List.getElem?_set_ne]
  · exact hp
  · rintro rfl
    rw [hl] at hp
    obtain rfl := (Option.some.inj hp).symm
    rcases hne with h | h
    · exact h rfl
    · exact h _ rfl
theorem Grow.same0 {σ : TS} {lab : Nat → Nat} {l : Nat} (o : TObj) {C : Nat → Prop} (hc : C (lab l)) : Grow σ lab (σ.set l o) lab C :=
  ⟨by simp, fun i hi => rfl, fun i hi k => List.getElem?_set_ne (by rintro rfl; exact k hc)⟩
/-- Time goes on at the end system, and on its line. -/
theorem TxP.setNow {σ : TS} {lab : Nat → Nat} {c x : Nat} {locs : List Nat} {s : TxS} {now : Int} {lm ln lg : Nat} {gv : TV} (h : TxP σ lab c x locs s)
    (hx : σ[x]? = some (.cells (cfgC s.c ++ [.int .i64 s.host, .map lm, rowTV intC (rowOf (s.ls.map (·.v.id))), .ptr ln 0, .int .i64 s.now, .int .i64 s.id, .map lg, .int .i64 s.number, gv]))) :
    TxP (σ.set x (.cells (cfgC s.c ++ [.int .i64 s.host, .map lm, rowTV intC (rowOf (s.ls.map (·.v.id))), .ptr ln 0, .int .i64 now, .int .i64 s.id, .map lg, .int .i64 s.number, gv]))) lab c x locs { s with now := now } := by
  obtain ⟨lm', ln', lg', lv', gv', m1, m2, m3, m4, h1, h2, h3, h4, h5, h6⟩ := h.all
  rw [hx] at h1
  simp only [Option.some.injEq, TObj.cells.injEq, List.append_cancel_left_eq, List.cons.injEq, TV.map.injEq, TV.ptr.injEq, true_and, and_true] at h1
  obtain ⟨rfl, rfl, rfl, rfl⟩ := h1
  refine ⟨⟨lm, ln, lg, lv', gv, m1, m2, m3, m4, List.getElem?_set_self (lt_of_get hx), set_cells_get hx h2 (.inr fun _ e => by cases e), set_cells_get hx h3 (.inl (by simp)), set_cells_get hx h4 (.inr fun _ e => by cases e), h5.other hx _, h6.other hx _⟩, h.len, fun k hk => ?_⟩
  exact (h.lk k hk).grow (Grow.same0 _ (C := (· = c)) m1) (by omega)
theorem TxP.setLine {σ : TS} {lab : Nat → Nat} {c x : Nat} {locs : List Nat} {s : TxS} {now : Int} {lm ln lg : Nat} {lv gv : TV} (h : TxP σ lab c x locs s)
    (hx : σ[x]? = some (.cells (cfgC s.c ++ [.int .i64 s.host, .map lm, rowTV intC (rowOf (s.ls.map (·.v.id))), .ptr ln 0, .int .i64 s.now, .int .i64 s.id, .map lg, .int .i64 s.number, gv])))
    (hl : σ[ln]? = some (.cells [lv, .int .i64 s.lnow, .int .i64 s.free])) :
    TxP (σ.set ln (.cells [lv, .int .i64 now, .int .i64 s.free])) lab c x locs { s with lnow := now } := by
  obtain ⟨lm', ln', lg', lv', gv', m1, m2, m3, m4, h1, h2, h3, h4, h5, h6⟩ := h.all
  have hx' := hx
  rw [h1] at hx'
  simp only [Option.some.injEq, TObj.cells.injEq, List.append_cancel_left_eq, List.cons.injEq, TV.map.injEq, TV.ptr.injEq, true_and, and_true] at hx'
  obtain ⟨rfl, rfl, rfl, rfl⟩ := hx'
  rw [hl] at h3
  simp only [Option.some.injEq, TObj.cells.injEq, List.cons.injEq, and_true] at h3
  subst h3
  refine ⟨⟨lm', ln', lg', lv, gv', m1, m2, m3, m4, set_cells_get hl h1 (.inl (by simp)), set_cells_get hl h2 (.inr fun _ e => by cases e), List.getElem?_set_self (lt_of_get hl), set_cells_get hl h4 (.inr fun _ e => by cases e), h5.other hl _, h6.other hl _⟩, h.len, fun k hk => ?_⟩
  exact (h.lk k hk).grow (Grow.same0 _ (C := (· = c)) m3) (by omega)

/-- The same end system, later. -/
abbrev later (s : TxS) (now : Int) : TxS := { s with now := now, lnow := now }
section
variable {σ : TS} {lab : Nat → Nat} {c x : Nat} {locs : List Nat} {s : TxS} (h : TxP σ lab c x locs s) (hi : Idle s) (now : Int) (hn : s.now ≤ now ∧ now ≤ 1099511627776)
include h hi hn
theorem due_idle : TCalls Tryz.prog 70 [.ptr x 0, .int .i64 now] σ fun v σ' => v = .tup [] ∧ TxP σ' lab c x locs (later s now) ∧ Grow σ lab σ' lab (· = c) ∧ σ'.length = σ.length := by
  obtain ⟨lm, ln, lg, lv, gv, m1, m2, m3, m4, hx, hm, hl, hg, hlv, hgv⟩ := h.shape
  obtain ⟨i1, i2, i3, i4, i5⟩ := hi
  have hxl := lt_of_get hx
  have h1 := h.setNow (now := now) hx
  have hG1 := Grow.same0 (σ := σ) (lab := lab) (l := x) (.cells (cfgC s.c ++ [.int .i64 s.host, .map lm, rowTV intC (rowOf (s.ls.map (·.v.id))), .ptr ln 0, .int .i64 now, .int .i64 s.id, .map lg, .int .i64 s.number, gv])) (C := (· = c)) m1
  have hx1 : (σ.set x (.cells (cfgC s.c ++ [.int .i64 s.host, .map lm, rowTV intC (rowOf (s.ls.map (·.v.id))), .ptr ln 0, .int .i64 now, .int .i64 s.id, .map lg, .int .i64 s.number, gv])))[x]? = _ := List.getElem?_set_self hxl
  have hl1 := set_cells_get (ds := cfgC s.c ++ [.int .i64 s.host, .map lm, rowTV intC (rowOf (s.ls.map (·.v.id))), .ptr ln 0, .int .i64 now, .int .i64 s.id, .map lg, .int .i64 s.number, gv]) hx hl (.inl (by simp))
  have hlv1 := hlv.other hx (.cells (cfgC s.c ++ [.int .i64 s.host, .map lm, rowTV intC (rowOf (s.ls.map (·.v.id))), .ptr ln 0, .int .i64 now, .int .i64 s.id, .map lg, .int .i64 s.number, gv]))
  rw [i2] at hlv1
  have hf1 := first_idle h1 ⟨i1, i2, i3, ⟨i4.1, by show s.lnow ≤ now; omega, hn.2⟩, i5⟩ now
  have hc1 := collect_idle hx1 hl1 hlv1 now ⟨by omega, by omega, by omega⟩
  have h2 := h1.setLine (now := now) hx1 hl1
  have hG2 := Grow.same0 (σ := σ.set x (.cells (cfgC s.c ++ [.int .i64 s.host, .map lm, rowTV intC (rowOf (s.ls.map (·.v.id))), .ptr ln 0, .int .i64 now, .int .i64 s.id, .map lg, .int .i64 s.number, gv]))) (lab := lab) (l := ln) (.cells [lv, .int .i64 now, .int .i64 s.free]) (C := (· = c)) m3
  refine calls_of [] [] Tryz.func70 (by kernel_rfl) rfl (by kernel_rfl) fun X hR hN => ?_
  show Tw _ _ _ _ ([some _, some _] ++ List.replicate 94 none) _
  simp only [List.replicate, List.cons_append, List.nil_append]
  have FK := @hx; have FD := zdum; have FL := zdum; have cA := @hf1
  refine walk ?_
  (repeat' first | exact Lv.nil | apply Lv.cons) <;> (intros; clear cA FL FD FK)
  refine T_open 1 ?_
  have FK := zdum; have FD := zdum; have FL := zdum; have dA := @hc1
  refine walk ?_
  (repeat' first | exact Lv.nil | apply Lv.cons) <;> (intros; clear dA FL FD FK)
  exact ⟨by first | rfl | trivial, h2, hG1.trans hG2, by simp⟩
end
end Go.Proofs.YtbhhmnfjjnnkiaaGreat

/- KernelTime, walked. -/
set_option linter.unusedVariables false
set_option linter.unusedSimpArgs false
set_option maxRecDepth 10000
set_option maxHeartbeats 4000000
namespace Go.Proofs.YtbhhmnfjjnnkiaaGreat
open Go.TM

theorem txtimely_walk {σ : TS} {lab : Nat → Nat} {c x : Nat} {locs : List Nat} {s : TxS} (h : TxP σ lab c x locs s) (now : Int) : TPure Tryz.prog 69 [.ptr x 0, .int .i64 now] σ
    (.int .i64 (if now < 0 ∨ now > 1099511627776 then 1 else if now < s.now then 24 else 0)) := by
  obtain ⟨lm, ln, lg, lv, gv, m1, m2, m3, m4, hx, hm, hl, hg, hlv, hgv⟩ := h.shape
  by_cases h1 : now < 0 ∨ now > 1099511627776
  · rw [if_pos h1]
    rcases h1 with h1 | h1
    all_goals
      refine pure_of [] [.tmp 4] Tryz.func69 (by kernel_rfl) rfl (by kernel_rfl) fun X hR hN => ?_
      show Tw _ _ _ _ ([some _, some _] ++ List.replicate 20 none) _
      simp only [List.replicate, List.cons_append, List.nil_append]
      have FK := @hx; have FD := zdum; have FL := zdum
      refine walk ?_
      (repeat' first | exact Lv.nil | apply Lv.cons) <;> (intros; clear FL FD FK)
  · rw [if_neg h1]
    by_cases h2 : now < s.now
    · rw [if_pos h2]
      refine pure_of [] [.tmp 4] Tryz.func69 (by kernel_rfl) rfl (by kernel_rfl) fun X hR hN => ?_
      show Tw _ _ _ _ ([some _, some _] ++ List.replicate 20 none) _
      simp only [List.replicate, List.cons_append, List.nil_append]
      have FK := @hx; have FD := zdum; have FL := zdum
      refine walk ?_
      (repeat' first | exact Lv.nil | apply Lv.cons) <;> (intros; clear FL FD FK)
    · rw [if_neg h2]
      refine pure_of [] [.tmp 4] Tryz.func69 (by kernel_rfl) rfl (by kernel_rfl) fun X hR hN => ?_
      show Tw _ _ _ _ ([some _, some _] ++ List.replicate 20 none) _
      simp only [List.replicate, List.cons_append, List.nil_append]
      have FK := @hx; have FD := zdum; have FL := zdum
      refine walk ?_
      (repeat' first | exact Lv.nil | apply Lv.cons) <;> (intros; clear FL FD FK)
theorem txpass_idle {σ : TS} {lab : Nat → Nat} {c x : Nat} {locs : List Nat} {s : TxS} (h : TxP σ lab c x locs s) (hi : Idle s) (now : Int) (hn : s.now ≤ now ∧ now ≤ 1099511627776) :
    TCalls Tryz.prog 44 [.ptr x 0, .int .i64 now] σ fun v σ' => (∃ gv, v = .tup [gv, .int .i64 0]) ∧ Grow σ lab σ' lab (· = c) := by
  have ht := txtimely_walk h now
  have h0 := hi.time
  rw [if_neg (by omega), if_neg (by omega)] at ht
  refine calls_of [] [.tmp 4, .tmp 5] Tryz.func44 (by kernel_rfl) rfl (by kernel_rfl) fun X hR hN => ?_
  show Tw _ _ _ _ ([some _, some _] ++ List.replicate 23 none) _
  simp only [List.replicate, List.cons_append, List.nil_append]
  have FK := zdum; have FD := zdum; have FL := zdum; have cA := @ht
  refine walk ?_
  (repeat' first | exact Lv.nil | apply Lv.cons) <;> (intros; clear cA FL FD FK)
  refine WL_do fun Cw cw => ?_
  (with_reducible first | apply O_callF | apply O_call); (repeat rfl); (try simp only [List.nil_append, List.append_nil, List.cons_append])
  refine (due_idle h hi now hn).mono ?_
  rintro u1 τ1 ⟨rfl, h1, hG1, hlen⟩
  obtain ⟨lm, ln, lg, lv, gv, m1, m2, m3, m4, hx, hm, hl, hg, hlv, hgv⟩ := h1.shape
  (with_reducible apply cw); (focus ((try simp only [tput, List.set_cons_zero, List.set_cons_succ]); exact rfl)); clear cw Cw
  have FK := @hx; have FD := zdum; have FL := zdum
  refine walk ?_
  (repeat' first | exact Lv.nil | apply Lv.cons) <;> (intros; clear FL FD FK)
  exact ⟨⟨_, rfl⟩, hG1.trans (Grow.same0 _ m1)⟩

/- what the kernel does with a tick -/
abbrev ansC (code : Int) : List TV := [.int .i64 code, .str (B []), .bool false, .int .i64 0]
section
variable {σ : TS} {c : Cfg} {host now' : Int} {k tx rx room lm cl : Nat} {ms : List (Int × Int × Nat)} (h : KerP σ c host k tx rx room lm now' ms cl)
include h
theorem goes_early (now : Int) (hn : now < now') : TPure Tryz.prog 40 [.ptr k 0, .int .i64 now] σ (.int .i64 24) := by
  have hk := h.hk
  refine pure_of [] [.tmp 4] Tryz.func40 (by kernel_rfl) rfl (by kernel_rfl) fun X hR hN => ?_
  show Tw _ _ _ _ ([some _, some _] ++ List.replicate 13 none) _
  simp only [List.replicate, List.cons_append, List.nil_append]
  have FK := @hk; have FD := zdum; have FL := zdum
  refine walk ?_
  (repeat' first | exact Lv.nil | apply Lv.cons) <;> (intros; clear FL FD FK)
theorem goes_on (now : Int) (hn : now' ≤ now) : TDoes Tryz.prog 40 [.ptr k 0, .int .i64 now] σ (.int .i64 0) (σ.set k (.cells (kerC c host tx rx room lm now))) := by
  have hk := h.hk
  refine calls_of [] [.tmp 4] Tryz.func40 (by kernel_rfl) rfl (by kernel_rfl) fun X hR hN => ?_
  show Tw _ _ _ _ ([some _, some _] ++ List.replicate 13 none) _
  simp only [List.replicate, List.cons_append, List.nil_append]
  have FK := @hk; have FD := zdum; have FL := zdum
  refine walk ?_
  (repeat' first | exact Lv.nil | apply Lv.cons) <;> (intros; clear FL FD FK)
  all_goals first | exact ⟨rfl, rfl⟩ | exact ⟨rfl, trivial⟩ | exact ⟨trivial, rfl⟩ | trivial
variable (now : Int) (h0 : 0 ≤ now ∧ now < now' ∧ now' ≤ 1099511627776)
include h0
theorem out_early : TPure Tryz.prog 17 [.ptr k 0, .int .i64 now] σ (.tup [.nils, .int .i64 24]) := by
  have hg := goes_early h now h0.2.1
  have ht := timed_walk now σ
  rw [decide_eq_true (by omega)] at ht
  refine pure_of [] [.tmp 4, .tmp 5] Tryz.func17 (by kernel_rfl) rfl (by kernel_rfl) fun X hR hN => ?_
  show Tw _ _ _ _ ([some _, some _] ++ List.replicate 26 none) _
  simp only [List.replicate, List.cons_append, List.nil_append]
  have FK := zdum; have FD := zdum; have FL := zdum; have cA := @hg; have cB := @ht
  refine walk ?_
  (repeat' first | exact Lv.nil | apply Lv.cons) <;> (intros; clear cB cA FL FD FK)
theorem do_early (part kind port mode : Int) (s : List UInt8) (hk : 1 ≤ kind ∧ kind ≤ 5) : TPure Tryz.prog 15 [.ptr k 0, .int .i64 now, .int .i64 part, .agg [.int .i64 kind, .int .i64 port, .str (B s), .int .i64 mode]] σ (.agg (ansC 24)) := by
  have hg := fun ρ => goes_early (h.app ρ) now h0.2.1
  have ht := fun ρ => timed_walk now ρ
  rw [decide_eq_true (by omega)] at ht
  refine pure_of [] [.cell 8 52] Tryz.func15 (by kernel_rfl) rfl (by kernel_rfl) fun X hR hN => ?_
  show Tw _ _ _ _ ([some _, some _, some _, some _] ++ List.replicate 51 none) _
  simp only [List.replicate, List.cons_append, List.nil_append]
  have FK := zdum; have FD := zdum; have FL := zdum; have cA := @hg; have cB := @ht
  refine walk ?_
  (repeat' first | exact Lv.nil | apply Lv.cons) <;> (intros; clear cB cA FL FD FK)
  all_goals trace_state
theorem restart_early (part : Int) : TPure Tryz.prog 16 [.ptr k 0, .int .i64 now, .int .i64 part, .int .i64 1] σ (.int .i64 24) := by
  have hk := h.hk
  have ht := timed_walk now σ
  rw [decide_eq_true (by omega)] at ht
  refine pure_of [] [.tmp 8] Tryz.func16 (by kernel_rfl) rfl (by kernel_rfl) fun X hR hN => ?_
  show Tw _ _ _ _ ([some _, some _, some _, some _] ++ List.replicate 40 none) _
  simp only [List.replicate, List.cons_append, List.nil_append]
  have FK := @hk; have FD := zdum; have FL := zdum; have cA := @ht
  refine walk ?_
  (repeat' first | exact Lv.nil | apply Lv.cons) <;> (intros; clear cA FL FD FK)
theorem in_early (s : List UInt8) : TPure Tryz.prog 18 [.ptr k 0, .int .i64 now, .int .i64 0, .str (B s)] σ (.int .i64 24) := by
  have hg := goes_early h now h0.2.1
  have ht := timed_walk now σ
  rw [decide_eq_true (by omega)] at ht
  refine pure_of [] [.tmp 8] Tryz.func18 (by kernel_rfl) rfl (by kernel_rfl) fun X hR hN => ?_
  show Tw _ _ _ _ ([some _, some _, some _, some _] ++ List.replicate 59 none) _
  simp only [List.replicate, List.cons_append, List.nil_append]
  have FK := zdum; have FD := zdum; have FL := zdum; have cA := @hg; have cB := @ht
  refine walk ?_
  (repeat' first | exact Lv.nil | apply Lv.cons) <;> (intros; clear cB cA FL FD FK)
end
theorem tx0_idle {c : Cfg} {host : Int} (hf : FewC c) (hok : OkC c) : Idle (tx0 c host) := by
  have hl : (tx0 c host).ls.length = (linksOf c host).length := List.length_map _
  have hn : ∀ k, k < (tx0 c host).ls.length → nth (tx0 c host).ls k = lk0 (nth (linksOf c host) k) := fun k hk => by
    show nth ((linksOf c host).map lk0) k = _
    rw [nth_eq (by rw [hl] at hk; simpa using hk), nth_eq (by omega), List.getElem_map]
  refine ⟨fun k hk => by rw [hn k hk]; rfl, rfl, fun j k hjk hk => ?_, by simp [tx0], by rw [hl]; have := List.length_filter_le (fun v : Link => v.host == host) c.vls.l; have := hf.vls; unfold linksOf; omega⟩
  rw [hn j (by omega), hn k hk]
  have h1 := nth_pairwise (filter_rise hok (fun v => v.host == host)) hjk (show k < (linksOf c host).length by omega)
  have h1 : (nth (linksOf c host) j).id < (nth (linksOf c host) k).id := h1
  show (nth (linksOf c host) j).id ≠ (nth (linksOf c host) k).id
  omega
theorem out_first {σ : TS} {lab : Nat → Nat} {c : Cfg} {host : Int} {k tx rx room lm cl : Nat} {ms : List (Int × Int × Nat)} {locs : List Nat} {s : TxS} {rl : Nat} {rlocs : List Nat} {bs : List Bx} (h : KerAll σ lab c host k tx rx room lm 0 ms cl locs s rl rlocs bs) (hi : Idle s) (hs : s.now = 0)
    (now : Int) (hn : 0 ≤ now ∧ now ≤ 1099511627776) : TCalls Tryz.prog 17 [.ptr k 0, .int .i64 now] σ fun v σ' => (∃ gv, v = .tup [gv, .int .i64 0]) ∧ KerP σ' c host k tx rx room lm now ms cl ∧ Grow σ lab σ' lab (fun n => n = 1 ∨ n = 2) := by
  have hk := h.ker.hk
  have hg := goes_on h.ker now (by omega)
  have ht := timed_walk now σ
  rw [decide_eq_true (by omega)] at ht
  have hkl := lt_of_get hk
  have hG := Grow.same0 (σ := σ) (lab := lab) (l := k) (.cells (kerC c host tx rx room lm now)) (C := (· = 1)) h.lk
  have hT := h.tx.grow hG (by intro n h1 h2 e; have e : n = 1 := e; omega)
  have hk1 : (σ.set k (.cells (kerC c host tx rx room lm now)))[k]? = _ := List.getElem?_set_self hkl
  have hm1 : (σ.set k (.cells (kerC c host tx rx room lm now)))[lm]? = _ := set_cells_get hk h.ker.hm (.inr fun _ e => by cases e)
  refine calls_of [] [.tmp 4, .tmp 5] Tryz.func17 (by kernel_rfl) rfl (by kernel_rfl) fun X hR hN => ?_
  show Tw _ _ _ _ ([some _, some _] ++ List.replicate 26 none) _
  simp only [List.replicate, List.cons_append, List.nil_append]
  have FK := zdum; have FD := zdum; have FL := zdum; have cA := @ht; have dA := @hg
  refine walk ?_
  (repeat' first | exact Lv.nil | apply Lv.cons) <;> (intros; clear dA cA FL FD FK)
  have FK := @hk1; have FD := zdum; have FL := zdum
  refine walk ?_
  (repeat' first | exact Lv.nil | apply Lv.cons) <;> (intros; clear FL FD FK)
  refine WL_do fun Cw cw => ?_
  (with_reducible first | apply O_callF | apply O_call); (repeat rfl); (try simp only [List.nil_append, List.append_nil, List.cons_append])
  refine (txpass_idle hT hi now ⟨by omega, hn.2⟩).mono ?_
  rintro u1 τ1 ⟨⟨gv, rfl⟩, hG1⟩
  have hk2 := hG1.get hk1 (by rw [h.lk]; omega)
  have hm2 := hG1.get hm1 (by rw [h.lm]; omega)
  (with_reducible apply cw); (focus ((try simp only [tput, List.set_cons_zero, List.set_cons_succ]); exact rfl)); clear cw Cw
  have FK := zdum; have FD := zdum; have FL := zdum
  refine walk ?_
  (repeat' first | exact Lv.nil | apply Lv.cons) <;> (intros; clear FL FD FK)
  exact ⟨⟨_, rfl⟩, ⟨hk2, hm2, h.ker.own⟩, (hG.mono fun n e => .inl e).trans (hG1.mono fun n e => .inr e)⟩

theorem ans24_eq (cst : Bool) : tbin (mkTab Tryz.prog) cst .eql 52 (.agg (ansC 24)) (.agg (ansC 24)) = some (.bool true) := by
  simp only [tbin, TV.isInt, TV.isStr, Bool.and_self, Bool.or_self, Bool.false_eq_true, if_false, teqIn, tab52, tab3, tab9, tab4, tab31, if_true, tall, tpart, Nat.mul_one, List.length_cons, List.length_nil, List.drop_zero, List.drop_succ_cons, List.take_succ_cons, List.take_zero, teq1, TK.isAgg, List.getElem?_cons_zero, List.getElem?_cons_succ]
  have hb : ((B [] : ByteArray) == B []) = true := rfl
  simp [hb]
theorem time_walk (c : Cfg) (hc : c.ok) (h0 h1 h2 h3 kind port mode : Int) (s : List UInt8) (hs : s.length ≤ 9223372036854775807) (b0 : I64 h0) (b1 : I64 h1) (b2 : I64 h2) (b3 : I64 h3) :
    TCalls Tryz.prog 7 [cfgTV c, .agg [.int .i64 h0, .int .i64 h1, .int .i64 h2, .int .i64 h3], .agg [.int .i64 kind, .int .i64 port, .str (B s), .int .i64 mode]] [] fun v _ => v = .bool true := by
  have haw := awake23
  by_cases h : FewP c
  · have hf := h.few hc
    have hfew : ∀ σ, TPure Tryz.prog 9 [cfgTV c] σ (.bool true) := fun σ => by
      have := few_walk c hc σ
      rwa [decide_eq_true h] at this
    by_cases h100 : (s.length : Int) > 100
    · refine calls_of [] [.tmp 6] Tryz.func7 (by kernel_rfl) rfl (by kernel_rfl) fun X hR hN => ?_
      show Tw _ _ _ _ ([some _, some _, some _] ++ List.replicate 141 none) _
      simp only [List.replicate, List.cons_append, List.nil_append]
      have FK := zdum; have FD := zdum; have FL := zdum; have cA := @hfew; have cB := @haw
      refine walk ?_
      (repeat' first | exact Lv.nil | apply Lv.cons) <;> (intros; clear cB cA FL FD FK)
    by_cases he : (checkS c).2.2 = 0
    · have hok := okC_of he
      by_cases hhost : 0 ≤ h0 ∧ h0 < c.hosts
      · refine calls_of [] [.tmp 6] Tryz.func7 (by kernel_rfl) rfl (by kernel_rfl) fun X hR hN => ?_
        show Tw _ _ _ _ ([some _, some _, some _] ++ List.replicate 141 none) _
        simp only [List.replicate, List.cons_append, List.nil_append]
        have FK := zdum; have FD := zdum; have FL := zdum; have cA := @hfew
        refine walk ?_
        (repeat' first | exact Lv.nil | apply Lv.cons) <;> (intros; clear cA FL FD FK)
        refine WL_do fun Cw cw => ?_
        (with_reducible first | apply O_callF | apply O_call); (repeat rfl); (try simp only [List.nil_append, List.append_nil, List.cons_append])
        refine (kernel_new c hf h0 b0 _ (fun _ => 0) hok hhost).mono ?_
        rintro u1 τ ⟨k, tx, rx, room, lm, ms, cl, lab, locs, rl, rlocs, rfl, hK, hG, hMo⟩
        have ga0 := hG.get (i := 0) rfl (fun e => e)
        have ga1 := hG.get (i := 1) rfl (fun e => e)
        have ga2 := hG.get (i := 2) rfl (fun e => e)
        have l0 : lab 0 = 0 := hG.same 0 (by simp)
        have l1 : lab 1 = 0 := hG.same 1 (by simp)
        have l2 : lab 2 = 0 := hG.same 2 (by simp)
        clear hG hMo
        have gl := lt_of_get ga2
        by_cases hbad : h2 < 0 ∨ h2 > 1099511627776 ∨ h3 < 0 ∨ h3 ≥ h2 ∨ kind < 1 ∨ kind > 5
        · (with_reducible apply cw); (focus ((try simp only [tput, List.set_cons_zero, List.set_cons_succ]); exact rfl)); clear cw Cw
          have FK := And.intro @ga0 (And.intro @ga1 (@ga2)); have FD := zdum; have FL := zdum; have cA := @haw
          refine walk ?_
          (repeat' first | exact Lv.nil | apply Lv.cons) <;> (intros; clear cA FL FD FK)
        · (with_reducible apply cw); (focus ((try simp only [tput, List.set_cons_zero, List.set_cons_succ]); exact rfl)); clear cw Cw
          have FK := And.intro @ga0 (And.intro @ga1 (@ga2)); have FD := zdum; have FL := zdum; have cA := @haw
          refine walk ?_
          (repeat' first | exact Lv.nil | apply Lv.cons) <;> (intros; clear cA FL FD FK)
          refine WL_do fun Cw cw => ?_
          (with_reducible first | apply O_callF | apply O_call); (repeat rfl); (try simp only [List.nil_append, List.append_nil, List.cons_append])
          refine (out_first hK (tx0_idle hf hok) rfl h2 ⟨by omega, by omega⟩).mono ?_
          rintro u2 τ2 ⟨⟨gv, rfl⟩, hker, hG2⟩
          have ea0 := hG2.get ga0 (by rw [l0]; omega)
          have ea1 := hG2.get ga1 (by rw [l1]; omega)
          have ea2 := hG2.get ga2 (by rw [l2]; omega)
          have el := lt_of_get ea2
          clear hK hG2 ga0 ga1 ga2 l0 l1 l2
          have hmo := fun ρ => kmode_walk (hker.app ρ) h1
          have hou := fun ρ => out_early (hker.app ρ) h3 ⟨by omega, by omega, by omega⟩
          have hdo := fun ρ => do_early (hker.app ρ) h3 ⟨by omega, by omega, by omega⟩ h1 kind port mode s ⟨by omega, by omega⟩
          have hre := fun ρ => restart_early (hker.app ρ) h3 ⟨by omega, by omega, by omega⟩ h1
          have hin := fun ρ => in_early (hker.app ρ) h3 ⟨by omega, by omega, by omega⟩ s
          have hmo0 := kmode_walk hker h1
          have hdo0 := do_early hker h3 ⟨by omega, by omega, by omega⟩ h1 kind port mode s ⟨by omega, by omega⟩
          (with_reducible apply cw); (focus ((try simp only [tput, List.set_cons_zero, List.set_cons_succ]); exact rfl)); clear cw Cw
          have FK := And.intro @ea0 (And.intro @ea1 (@ea2)); have FD := @ans24_eq; have FL := zdum; have cA := @haw; have cB := @hmo0; have cC := @hdo0; have cD := @hmo; have cE := @hou; have cF := @hdo; have cG := @hre; have cH := @hin
          refine walk ?_
          (repeat' first | exact Lv.nil | apply Lv.cons) <;> (intros; clear cH cG cF cE cD cC cB cA FL FD FK)
          all_goals trace_state
      · have h1 := fun τ => kernel_out c hf h0 τ hok hhost
        refine calls_of [] [.tmp 6] Tryz.func7 (by kernel_rfl) rfl (by kernel_rfl) fun X hR hN => ?_
        show Tw _ _ _ _ ([some _, some _, some _] ++ List.replicate 141 none) _
        simp only [List.replicate, List.cons_append, List.nil_append]
        have FK := zdum; have FD := zdum; have FL := zdum; have cA := @hfew; have cB := @haw; have cC := @h1
        refine walk ?_
        (repeat' first | exact Lv.nil | apply Lv.cons) <;> (intros; clear cC cB cA FL FD FK)
    · have h1 := fun τ => kernel_bad c hf h0 τ he
      have he2 : ((checkS c).2.2 != 0) = true := by simpa using he
      refine calls_of [] [.tmp 6] Tryz.func7 (by kernel_rfl) rfl (by kernel_rfl) fun X hR hN => ?_
      show Tw _ _ _ _ ([some _, some _, some _] ++ List.replicate 141 none) _
      simp only [List.replicate, List.cons_append, List.nil_append]
      have FK := @he2; have FD := zdum; have FL := zdum; have cA := @hfew; have cB := @haw; have cC := @h1
      refine walk ?_
      (repeat' first | exact Lv.nil | apply Lv.cons) <;> (intros; clear cC cB cA FL FD FK)
  · have hfew : ∀ σ, TPure Tryz.prog 9 [cfgTV c] σ (.bool false) := fun σ => by
      have := few_walk c hc σ
      rwa [decide_eq_false h] at this
    refine calls_of [] [.tmp 6] Tryz.func7 (by kernel_rfl) rfl (by kernel_rfl) fun X hR hN => ?_
    show Tw _ _ _ _ ([some _, some _, some _] ++ List.replicate 141 none) _
    simp only [List.replicate, List.cons_append, List.nil_append]
    have FK := zdum; have FD := zdum; have FL := zdum; have cA := @hfew; have cB := @haw
    refine walk ?_
    (repeat' first | exact Lv.nil | apply Lv.cons) <;> (intros; clear cB cA FL FD FK)
end Go.Proofs.YtbhhmnfjjnnkiaaGreat
