/- config's Check walked. -/
import Derived.Test.YtbhhmnfjjnnkiaaGreatF5
import Derived.Test.YtbhhmnfjjnnkiaaGreatE0
set_option linter.unusedVariables false
set_option linter.unusedSimpArgs false
set_option maxRecDepth 10000
set_option maxHeartbeats 4000000
namespace Go.Proofs.YtbhhmnfjjnnkiaaGreat
open Go.TM

/-- The table of what is looked at. -/
theorem table7 (σ : TS) (a0 b0 a1 b1 a2 b2 a3 b3 a4 b4 a5 b5 a6 b6 : Int) (f0 f1 f2 f3 f4 f5 f6 : Fn) (x0 y0 x1 y1 x2 y2 x3 y3 x4 y4 x5 y5 x6 y6 : List TV) :
    tbuildSlice (mkTab Tryz.prog) false σ 94 7 [(0, .agg [.int .i64 a0, .int .i64 b0, .func f0 x0 y0]), (1, .agg [.int .i64 a1, .int .i64 b1, .func f1 x1 y1]), (2, .agg [.int .i64 a2, .int .i64 b2, .func f2 x2 y2]), (3, .agg [.int .i64 a3, .int .i64 b3, .func f3 x3 y3]), (4, .agg [.int .i64 a4, .int .i64 b4, .func f4 x4 y4]), (5, .agg [.int .i64 a5, .int .i64 b5, .func f5 x5 y5]), (6, .agg [.int .i64 a6, .int .i64 b6, .func f6 x6 y6])] =
      some (.sl none 7 [.int .i64 a0, .int .i64 b0, .func f0 x0 y0, .int .i64 a1, .int .i64 b1, .func f1 x1 y1, .int .i64 a2, .int .i64 b2, .func f2 x2 y2, .int .i64 a3, .int .i64 b3, .func f3 x3 y3, .int .i64 a4, .int .i64 b4, .func f4 x4 y4, .int .i64 a5, .int .i64 b5, .func f5 x5 y5, .int .i64 a6, .int .i64 b6, .func f6 x6 y6], σ) := by
  have hz : rowZero [TV.int .i64 0, TV.int .i64 0, TV.nilf] 21 = [.int .i64 0, .int .i64 0, .nilf, .int .i64 0, .int .i64 0, .nilf, .int .i64 0, .int .i64 0, .nilf, .int .i64 0, .int .i64 0, .nilf, .int .i64 0, .int .i64 0, .nilf, .int .i64 0, .int .i64 0, .nilf, .int .i64 0, .int .i64 0, .nilf] := rfl
  unfold tbuildSlice
  simp only [tab94, tab90, TV.cells, hz, Nat.reduceMul, Nat.reducePow, Nat.reduceLeDiff, ne_eq, reduceCtorEq, not_false_eq_true, and_self, if_true, tfill, splice, List.take_zero, List.take_succ_cons, List.drop_zero, List.drop_succ_cons, List.length_cons, List.length_nil, Nat.reduceAdd, Nat.zero_add, List.nil_append, List.cons_append, List.all_cons, List.all_nil, TV.one, Bool.and_self, tright, Bool.false_eq_true, if_false, Nat.zero_mul, Nat.one_mul]

abbrev ownTV (x : Int × Int × Int) : TV := .tup [.agg [.int .i64 x.1, .int .i64 x.2.1], .int .i64 x.2.2]

/-- The heap of Check: the network, a fault, the maps, what the closures hold. -/
abbrev ckH (c : Cfg) (σ : TS) (L O P : TObj) (ρ : TS) : TS := σ ++ (.cells (cfgC c) :: .cells [.int .i64 0, .int .i64 0] :: L :: .cells (netC c (σ.length + 2)) :: .cells [.ptr (σ.length + 3) 0] :: O :: P :: .cells [.map (σ.length + 5)] :: .cells [.map (σ.length + 6)] :: .cells [.func (.func 27) [] []] :: .cells [.bool (decide (Btw c.hosts 1 64))] :: .cells [.bool (decide (Btw c.major 1 1073741824))] :: ρ)

theorem st_whole (b : Bool) (a : Nat) (σ : TS) (h : σ[a]? = some (.cells [.bool b])) : TDoes Tryz.prog 39 [.int .i64 1, .func (.func 28) [] [.ptr a 0]] σ (if b = true then .tup [.int .i64 (-1), .int .i64 0] else .tup [.int .i64 0, .int .i64 1]) σ := by
  have := first_walk 28 [] [.ptr a 0] 1 (fun _ => if b = true then 0 else 1) (fun _ => σ) (fun _ => σ) (by omega) fun i hi hk => by
    rw [ite_self]
    exact whole1_walk b a i σ h
  cases b with
  | true => exact this
  | false => exact this

theorem st_parts (c : Cfg) (σ : TS) (hp : c.parts.l.length ≤ 1000000) (hh : 1 ≤ c.hosts ∧ c.hosts ≤ 64) (L O P : TObj) (ρ : TS) : TDoes Tryz.prog 39 [.int .i64 c.parts.l.length, .func (.func 30) [] [.ptr (σ.length + 9) 0, .ptr (σ.length + 4) 0, .ptr σ.length 0]] (ckH c σ L O P ρ)
    (firstTV (firstBad c.parts.l.length (partS c))) (ckH c σ L O P ρ) := by
  have := first_walk 30 [] [.ptr (σ.length + 9) 0, .ptr (σ.length + 4) 0, .ptr σ.length 0] c.parts.l.length (partS c) (fun _ => ckH c σ L O P ρ) (fun _ => ckH c σ L O P ρ) hp fun i hi hk => by
    rw [ite_self]
    exact check2_walk c (σ.length + 3) (σ.length + 2) _ _ _ i _ (by rw [get_app]; rfl) (by rw [get_app]; rfl) (by rw [get_app0]; rfl) (by rw [get_app]; rfl) hh hi
  revert this
  cases firstBad c.parts.l.length (partS c) with
  | none => exact id
  | some x => exact id

theorem st_wins (c : Cfg) (σ : TS) (hc : c.ok) (hp : c.wins.l.length ≤ 1000000) (hM : 1 ≤ c.major ∧ c.major ≤ 1073741824) (L P : TObj) (ρ : TS) : TDoes Tryz.prog 39 [.int .i64 c.wins.l.length, .func (.func 32) [] [.ptr (σ.length + 4) 0, .ptr (σ.length + 7) 0]] (ckH c σ L (.map [] 0) P ρ)
    (firstTV (firstBad c.wins.l.length (winS c))) (match firstBad c.wins.l.length (winS c) with | none => ckH c σ L (.map (mEnt kI kI (overs c c.wins.l.length).1) (overs c c.wins.l.length).2) P ρ | some (i, _) => ckH c σ L (.map (mEnt kI kI (overs c i).1) (overs c i).2) P ρ) :=
  first_walk 32 [] [.ptr (σ.length + 4) 0, .ptr (σ.length + 7) 0] c.wins.l.length (winS c) (fun i => ckH c σ L (.map (mEnt kI kI (overs c i).1) (overs c i).2) P ρ) (fun i => ckH c σ L (.map (mEnt kI kI (overs c i).1) (overs c i).2) P ρ) hp fun i hi hk => by
    have := check3_walk c (σ.length + 3) (σ.length + 2) (σ.length + 5) (σ.length + 4) (σ.length + 7) i (ckH c σ L (.map (mEnt kI kI (overs c i).1) (overs c i).2) P ρ) hc (by rw [get_app]; rfl) (by rw [get_app]; rfl) (by rw [get_app]; rfl) (by rw [get_app]; rfl) hi (by omega) hM hk
    rw [set_app] at this
    exact this

theorem st_links (c : Cfg) (σ : TS) (hc : c.ok) (hp : c.vls.l.length ≤ 1000000) (hh : 1 ≤ c.hosts ∧ c.hosts ≤ 64) (hto : ∀ v ∈ c.vls.l, v.to.l.length ≤ 9223372036854775000) (O P : TObj) (ρ : TS) : TDoes Tryz.prog 39 [.int .i64 c.vls.l.length, .func (.func 34) [.ptr (σ.length + 3) 0] []] (ckH c σ (.map [] 0) O P ρ)
    (firstTV (firstBad c.vls.l.length (linkS c))) (match firstBad c.vls.l.length (linkS c) with | none => ckH c σ (.map (mEnt kI linkTV (seenL c c.vls.l.length).1) (seenL c c.vls.l.length).2) O P ρ | some (i, _) => ckH c σ (.map (mEnt kI linkTV (seenL c i).1) (seenL c i).2) O P ρ) :=
  first_walk 34 [.ptr (σ.length + 3) 0] [] c.vls.l.length (linkS c) (fun i => ckH c σ (.map (mEnt kI linkTV (seenL c i).1) (seenL c i).2) O P ρ) (fun i => ckH c σ (.map (mEnt kI linkTV (seenL c i).1) (seenL c i).2) O P ρ) hp fun i hi hk => by
    have := link_walk c (σ.length + 3) (σ.length + 2) i (ckH c σ (.map (mEnt kI linkTV (seenL c i).1) (seenL c i).2) O P ρ) hc (by rw [get_app]; rfl) (by rw [get_app]; rfl) hi (by omega) hh (hto _ (nth_mem hi))
    rw [set_app] at this
    exact this

theorem st_ports (c : Cfg) (σ : TS) (hc : c.ok) (hp : c.ports.l.length ≤ 1000000) (hl : ∀ k, k < c.vls.l.length → linkS c k = 0) (hto : ∀ v ∈ c.vls.l, v.to.l.length ≤ 9223372036854775000) (O : TObj) (ρ : TS) :
    TDoes Tryz.prog 39 [.int .i64 c.ports.l.length, .func (.func 35) [] [.ptr (σ.length + 4) 0, .ptr (σ.length + 8) 0]] (ckH c σ (.map (mEnt kI linkTV (seenL c c.vls.l.length).1) (seenL c c.vls.l.length).2) O (.map [] 0) ρ)
    (firstTV (firstBad c.ports.l.length (portS c))) (match firstBad c.ports.l.length (portS c) with | none => ckH c σ (.map (mEnt kI linkTV (seenL c c.vls.l.length).1) (seenL c c.vls.l.length).2) O (.map (mEnt plTV kI (seenP c c.ports.l.length).1) (seenP c c.ports.l.length).2) ρ | some (i, _) => ckH c σ (.map (mEnt kI linkTV (seenL c c.vls.l.length).1) (seenL c c.vls.l.length).2) O (if portS c i = 21 then .map (mEnt plTV kI (seenP c (i + 1)).1) (seenP c (i + 1)).2 else .map (mEnt plTV kI (seenP c i).1) (seenP c i).2) ρ) :=
  first_walk 35 [] [.ptr (σ.length + 4) 0, .ptr (σ.length + 8) 0] c.ports.l.length (portS c) (fun i => ckH c σ (.map (mEnt kI linkTV (seenL c c.vls.l.length).1) (seenL c c.vls.l.length).2) O (.map (mEnt plTV kI (seenP c i).1) (seenP c i).2) ρ)
    (fun i => ckH c σ (.map (mEnt kI linkTV (seenL c c.vls.l.length).1) (seenL c c.vls.l.length).2) O (if portS c i = 21 then .map (mEnt plTV kI (seenP c (i + 1)).1) (seenP c (i + 1)).2 else .map (mEnt plTV kI (seenP c i).1) (seenP c i).2) ρ) hp fun i hi hk => by
    have := check4_walk c (σ.length + 3) (σ.length + 2) (σ.length + 6) (σ.length + 4) (σ.length + 8) i (ckH c σ (.map (mEnt kI linkTV (seenL c c.vls.l.length).1) (seenL c c.vls.l.length).2) O (.map (mEnt plTV kI (seenP c i).1) (seenP c i).2) ρ) hc (by rw [get_app]; rfl) (by rw [get_app]; rfl) (by rw [get_app]; rfl) (by rw [get_app]; rfl) (by rw [get_app]; rfl) hi (by omega) hl hk hto
    rw [portH, set_app] at this
    by_cases h0 : portS c i = 0
    · rw [if_pos (.inl h0)] at this
      rw [if_pos h0]
      exact this
    · rw [if_neg h0]
      by_cases h1 : portS c i = 21
      · rw [if_pos (.inr h1)] at this
        rw [if_pos h1]
        exact this
      · rw [if_neg (by omega)] at this
        rw [if_neg h1]
        exact this

theorem st_late (c : Cfg) (σ : TS) (hh : 1 ≤ c.hosts ∧ c.hosts ≤ 64) (hl : c.vls.l.length ≤ 1000) (hs : ∀ v ∈ c.vls.l, 0 ≤ v.smax ∧ v.smax ≤ 10000) (L O P : TObj) (ρ : TS) : TDoes Tryz.prog 39 [.int .i64 c.hosts, .func (.func 37) [] [.ptr σ.length 0]] (ckH c σ L O P ρ)
    (firstTV (firstBad c.hosts.toNat (lateS c))) (ckH c σ L O P ρ) := by
  have := first_walk 37 [] [.ptr σ.length 0] c.hosts.toNat (lateS c) (fun _ => ckH c σ L O P ρ) (fun _ => ckH c σ L O P ρ) (by omega) fun i hi hk => by
    rw [ite_self]
    exact check5_walk c _ i _ (by rw [get_app0]; rfl) hl hs
  rw [Int.toNat_of_nonneg (by omega)] at this
  revert this
  cases firstBad c.hosts.toNat (lateS c) with
  | none => exact id
  | some x => exact id

theorem check_big (c : Cfg) (h : BigC c) (σ : TS) : TPure Tryz.prog 14 [cfgTV c] σ (ownTV (checkS c)) := by
  obtain ⟨hok, lp, lw, lv, lo, lt⟩ := h
  obtain ⟨⟨hh1, hh2⟩, ⟨hM1, hM2⟩⟩ := And.intro hok.hosts hok.major
  have hto : ∀ v ∈ c.vls.l, v.to.l.length ≤ 9223372036854775000 := fun v hv => by have := lt v hv; omega
  by_cases hh : c.hosts < 1 ∨ c.hosts > 64
  · have st1 : ∀ L O P ρ, TDoes Tryz.prog 39 [.int .i64 1, .func (.func 28) [] [.ptr (σ.length + 10) 0]] (ckH c σ L O P ρ) (.tup [.int .i64 0, .int .i64 1]) (ckH c σ L O P ρ) := fun L O P ρ => by
      have := st_whole (decide (Btw c.hosts 1 64)) (σ.length + 10) (ckH c σ L O P ρ) (by rw [get_app]; rfl)
      rw [if_neg (by rw [decide_eq_true_eq]; omega)] at this
      exact this
    rcases hh with hh | hh
    · have hmin : ¬ (64 < c.hosts) := by omega
      refine pure_of [] [.cell 2 44, .tmp 3] Tryz.func14 (by kernel_rfl) rfl (by kernel_rfl) fun X hR hN => ?_
      show Tw _ _ _ _ ([some _] ++ List.replicate 78 none) _
      simp only [List.replicate, List.cons_append, List.nil_append]
      have FK := @hmin; have FD := @table7; have FL := zdum; have cA := @between_walk; have dA := @whole_walk; have eA : Eord 4 [(0, 1), (1, 0), (2, 1), (6, 0), (7, 1), (8, 0), (9, 0), (10, 0), (11, 1), (12, 0), (13, 1), (17, 0), (18, 1), (19, 0), (20, 0), (21, 0), (22, 0), (23, 1), (24, 0), (25, 1), (26, 0), (27, 0), (28, 0), (29, 1), (30, 0), (31, 0), (32, 0), (33, 0), (34, 1), (35, 0), (36, 0), (37, 0), (40, 0), (3, 2), (4, 2), (5, 0), (14, 2), (15, 2), (16, 0), (38, 1), (39, 0)] := ⟨trivial⟩
      refine walk ?_
      (repeat' first | exact Lv.nil | apply Lv.cons) <;> (intros; clear eA dA cA FL FD FK)
      refine T_open 7 ?_
      have FK := @ckH.eq_1; have FD := zdum; have FL := zdum; have dA := @st1
      refine walk ?_
      (repeat' first | exact Lv.nil | apply Lv.cons) <;> (intros; clear dA FL FD FK)
      all_goals (unfold checkS; rw [if_pos (.inl hh)])
    · have hmin : 64 < c.hosts := hh
      refine pure_of [] [.cell 2 44, .tmp 3] Tryz.func14 (by kernel_rfl) rfl (by kernel_rfl) fun X hR hN => ?_
      show Tw _ _ _ _ ([some _] ++ List.replicate 78 none) _
      simp only [List.replicate, List.cons_append, List.nil_append]
      have FK := @hmin; have FD := @table7; have FL := zdum; have cA := @between_walk; have dA := @whole_walk; have eA : Eord 4 [(0, 1), (1, 0), (2, 1), (6, 0), (7, 1), (8, 0), (9, 0), (10, 0), (11, 1), (12, 0), (13, 1), (17, 0), (18, 1), (19, 0), (20, 0), (21, 0), (22, 0), (23, 1), (24, 0), (25, 1), (26, 0), (27, 0), (28, 0), (29, 1), (30, 0), (31, 0), (32, 0), (33, 0), (34, 1), (35, 0), (36, 0), (37, 0), (40, 0), (3, 2), (4, 2), (5, 0), (14, 2), (15, 2), (16, 0), (38, 1), (39, 0)] := ⟨trivial⟩
      refine walk ?_
      (repeat' first | exact Lv.nil | apply Lv.cons) <;> (intros; clear eA dA cA FL FD FK)
      refine T_open 7 ?_
      have FK := @ckH.eq_1; have FD := zdum; have FL := zdum; have dA := @st1
      refine walk ?_
      (repeat' first | exact Lv.nil | apply Lv.cons) <;> (intros; clear dA FL FD FK)
      all_goals (unfold checkS; rw [if_pos (.inr hh)])
  · have hmin : ¬ (64 < c.hosts) := by omega
    have hh' : 1 ≤ c.hosts ∧ c.hosts ≤ 64 := by omega
    have st1 : ∀ L O P ρ, TDoes Tryz.prog 39 [.int .i64 1, .func (.func 28) [] [.ptr (σ.length + 10) 0]] (ckH c σ L O P ρ) (.tup [.int .i64 (-1), .int .i64 0]) (ckH c σ L O P ρ) := fun L O P ρ => by
      have := st_whole (decide (Btw c.hosts 1 64)) (σ.length + 10) (ckH c σ L O P ρ) (by rw [get_app]; rfl)
      rw [if_pos (by rw [decide_eq_true_eq]; omega)] at this
      exact this
    have st2 := st_parts c σ (by omega) hh'
    refine pure_of [] [.cell 2 44, .tmp 3] Tryz.func14 (by kernel_rfl) rfl (by kernel_rfl) fun X hR hN => ?_
    show Tw _ _ _ _ ([some _] ++ List.replicate 78 none) _
    simp only [List.replicate, List.cons_append, List.nil_append]
    have FK := @hmin; have FD := @table7; have FL := zdum; have cA := @between_walk; have dA := @whole_walk; have eA : Eord 4 [(0, 1), (1, 0), (2, 1), (6, 0), (7, 1), (8, 0), (9, 0), (10, 0), (11, 1), (12, 0), (13, 1), (17, 0), (18, 1), (19, 0), (20, 0), (21, 0), (22, 0), (23, 1), (24, 0), (25, 1), (26, 0), (27, 0), (28, 0), (29, 1), (30, 0), (31, 0), (32, 0), (33, 0), (34, 1), (35, 0), (36, 0), (37, 0), (40, 0), (3, 2), (4, 2), (5, 0), (14, 2), (15, 2), (16, 0), (38, 1), (39, 0)] := ⟨trivial⟩
    refine walk ?_
    (repeat' first | exact Lv.nil | apply Lv.cons) <;> (intros; clear eA dA cA FL FD FK)
    refine T_open 7 ?_
    have FK := @ckH.eq_1; have FD := zdum; have FL := zdum; have dA := @st1
    refine walk ?_
    (repeat' first | exact Lv.nil | apply Lv.cons) <;> (intros; clear dA FL FD FK)
    refine T_next ?_
    cases hA : firstBad c.parts.l.length (partS c) with
    | some x =>
      obtain ⟨i, e⟩ := x
      have he := (firstBad_some.1 hA).2.2.1
      rw [hA] at st2
      have FK := @ckH.eq_1; have FD := zdum; have FL := zdum; have dA := @st2
      refine walk ?_
      (repeat' first | exact Lv.nil | apply Lv.cons) <;> (intros; clear dA FL FD FK)
      all_goals (unfold checkS; rw [if_neg hh, hA])
    | none =>
      rw [hA] at st2
      have FK := @ckH.eq_1; have FD := zdum; have FL := zdum; have dA := @st2
      refine walk ?_
      (repeat' first | exact Lv.nil | apply Lv.cons) <;> (intros; clear dA FL FD FK)
      refine T_next ?_
      by_cases hm : c.major < 1 ∨ c.major > 1073741824
      · have st3 : ∀ L O P ρ, TDoes Tryz.prog 39 [.int .i64 1, .func (.func 28) [] [.ptr (σ.length + 11) 0]] (ckH c σ L O P ρ) (.tup [.int .i64 0, .int .i64 1]) (ckH c σ L O P ρ) := fun L O P ρ => by
          have := st_whole (decide (Btw c.major 1 1073741824)) (σ.length + 11) (ckH c σ L O P ρ) (by rw [get_app]; rfl)
          rw [if_neg (by rw [decide_eq_true_eq]; omega)] at this
          exact this
        have FK := @ckH.eq_1; have FD := zdum; have FL := zdum; have dA := @st3
        refine walk ?_
        (repeat' first | exact Lv.nil | apply Lv.cons) <;> (intros; clear dA FL FD FK)
        all_goals (unfold checkS; rw [if_neg hh, hA]; simp only; rw [if_pos hm])
      · have hm' : 1 ≤ c.major ∧ c.major ≤ 1073741824 := by omega
        have st3 : ∀ L O P ρ, TDoes Tryz.prog 39 [.int .i64 1, .func (.func 28) [] [.ptr (σ.length + 11) 0]] (ckH c σ L O P ρ) (.tup [.int .i64 (-1), .int .i64 0]) (ckH c σ L O P ρ) := fun L O P ρ => by
          have := st_whole (decide (Btw c.major 1 1073741824)) (σ.length + 11) (ckH c σ L O P ρ) (by rw [get_app]; rfl)
          rw [if_pos (by rw [decide_eq_true_eq]; omega)] at this
          exact this
        have st4 := st_wins c σ hok (by omega) hm'
        have FK := @ckH.eq_1; have FD := zdum; have FL := zdum; have dA := @st3
        refine walk ?_
        (repeat' first | exact Lv.nil | apply Lv.cons) <;> (intros; clear dA FL FD FK)
        refine T_next ?_
        cases hB : firstBad c.wins.l.length (winS c) with
        | some x =>
          obtain ⟨i, e⟩ := x
          have he := (firstBad_some.1 hB).2.2.1
          rw [hB] at st4
          have FK := @ckH.eq_1; have FD := zdum; have FL := zdum; have dA := @st4
          refine walk ?_
          (repeat' first | exact Lv.nil | apply Lv.cons) <;> (intros; clear dA FL FD FK)
          all_goals (unfold checkS; rw [if_neg hh, hA]; simp only; rw [if_neg hm, hB])
        | none =>
          rw [hB] at st4
          have st5 := st_links c σ hok (by omega) hh' hto
          have FK := @ckH.eq_1; have FD := zdum; have FL := zdum; have dA := @st4
          refine walk ?_
          (repeat' first | exact Lv.nil | apply Lv.cons) <;> (intros; clear dA FL FD FK)
          refine T_next ?_
          cases hC : firstBad c.vls.l.length (linkS c) with
          | some x =>
            obtain ⟨i, e⟩ := x
            have he := (firstBad_some.1 hC).2.2.1
            rw [hC] at st5
            have FK := @ckH.eq_1; have FD := zdum; have FL := zdum; have dA := @st5
            refine walk ?_
            (repeat' first | exact Lv.nil | apply Lv.cons) <;> (intros; clear dA FL FD FK)
            all_goals (unfold checkS; rw [if_neg hh, hA]; simp only; rw [if_neg hm, hB]; simp only; rw [hC])
          | none =>
            rw [hC] at st5
            have hl := firstBad_none.1 hC
            have hs : ∀ v ∈ c.vls.l, 0 ≤ v.smax ∧ v.smax ≤ 10000 := fun v hv => by have := smax_of hl v hv; omega
            have st6 := st_ports c σ hok (by omega) hl hto
            have FK := @ckH.eq_1; have FD := zdum; have FL := zdum; have dA := @st5
            refine walk ?_
            (repeat' first | exact Lv.nil | apply Lv.cons) <;> (intros; clear dA FL FD FK)
            refine T_next ?_
            cases hD : firstBad c.ports.l.length (portS c) with
            | some x =>
              obtain ⟨i, e⟩ := x
              have he := (firstBad_some.1 hD).2.2.1
              rw [hD] at st6
              have FK := @ckH.eq_1; have FD := zdum; have FL := zdum; have dA := @st6
              refine walk ?_
              (repeat' first | exact Lv.nil | apply Lv.cons) <;> (intros; clear dA FL FD FK)
              all_goals (unfold checkS; rw [if_neg hh, hA]; simp only; rw [if_neg hm, hB]; simp only; rw [hC]; simp only; rw [hD])
            | none =>
              rw [hD] at st6
              have st7 := st_late c σ hh' (by omega) hs
              have FK := @ckH.eq_1; have FD := zdum; have FL := zdum; have dA := @st6
              refine walk ?_
              (repeat' first | exact Lv.nil | apply Lv.cons) <;> (intros; clear dA FL FD FK)
              refine T_next ?_
              cases hE : firstBad c.hosts.toNat (lateS c) with
              | some x =>
                obtain ⟨i, e⟩ := x
                have he := (firstBad_some.1 hE).2.2.1
                rw [hE] at st7
                have FK := @ckH.eq_1; have FD := zdum; have FL := zdum; have dA := @st7
                refine walk ?_
                (repeat' first | exact Lv.nil | apply Lv.cons) <;> (intros; clear dA FL FD FK)
                all_goals (unfold checkS; rw [if_neg hh, hA]; simp only; rw [if_neg hm, hB]; simp only; rw [hC]; simp only; rw [hD]; simp only; rw [hE])
              | none =>
                rw [hE] at st7
                have FK := @ckH.eq_1; have FD := zdum; have FL := zdum; have dA := @st7
                refine walk ?_
                (repeat' first | exact Lv.nil | apply Lv.cons) <;> (intros; clear dA FL FD FK)
                refine T_next ?_
                have FK := @ckH.eq_1; have FD := zdum; have FL := zdum
                refine walk ?_
                (repeat' first | exact Lv.nil | apply Lv.cons) <;> (intros; clear FL FD FK)
                all_goals (unfold checkS; rw [if_neg hh, hA]; simp only; rw [if_neg hm, hB]; simp only; rw [hC]; simp only; rw [hD]; simp only; rw [hE])

theorem check_walk (c : Cfg) (h : FewC c) (σ : TS) : TPure Tryz.prog 14 [cfgTV c] σ (ownTV (checkS c)) := check_big c h.big σ
end Go.Proofs.YtbhhmnfjjnnkiaaGreat
