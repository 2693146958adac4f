/- The closures of config's Check, and its walk over so many. -/
import Derived.Test.YtbhhmnfjjnnkiaaGreatF4
set_option linter.unusedVariables false
set_option linter.unusedSimpArgs false
set_option maxRecDepth 10000
set_option maxHeartbeats 4000000
namespace Go.Proofs.YtbhhmnfjjnnkiaaGreat
open Go.TM

theorem jitter_walk (c : Cfg) (h : Int) (σ : TS) (hl : c.vls.l.length ≤ 1000) (hs : ∀ v ∈ c.vls.l, 0 ≤ v.smax ∧ v.smax ≤ 10000) : TPure Tryz.prog 38 [cfgTV c, .int .i64 h] σ (.int .i64 (jitS c h)) := by
  refine pure_of [] [.tmp 4] Tryz.func38 (by kernel_rfl) rfl (by kernel_rfl) fun X hR hN => ?_
  show Tw _ _ _ _ ([some _, some _] ++ List.replicate 24 none) _
  simp only [List.replicate, List.cons_append, List.nil_append]
  have FK := zdum; have FD := zdum; have FL := zdum
  refine walk ?_
  (repeat' first | exact Lv.nil | apply Lv.cons) <;> (intros; clear FL FD FK)
  refine T_each (α := Nat × Int × TS) (fun (i, n, τ) => [none, some (some (.int .i64 h)), none, none, none, some (some (.int .i64 n)), none, none, none, some (some (rowTV linkC c.vls)), some (some (.int .i64 c.vls.l.length)), some (some (.int .i64 i)), none, none, none, none, none, none, none, none, none, none, none, none, none, none]) (fun (i, n, τ) => i ≤ c.vls.l.length ∧ n = 500 + jitL h (c.vls.l.take i)) (fun (i, n, τ) => c.vls.l.length - i) (fun (i, n, τ) => σ ++ (.cells (cfgC c) :: τ)) ?_ ?_
  · refine ⟨(0, 500, []), ⟨rfl, rfl, rfl, rfl, rfl, trivial⟩, ?_, rfl⟩
    exact ⟨by omega, rfl⟩
  · rintro ⟨i, n, τ⟩ q ⟨hi, hn⟩
    show Tw _ _ _ _ ([q 0, some (.int .i64 h), q 2, q 3, q 4, some (.int .i64 n), q 6, q 7, q 8, some (rowTV linkC c.vls), some (.int .i64 c.vls.l.length), some (.int .i64 i), q 12, q 13, q 14, q 15, q 16, q 17, q 18, q 19, q 20, q 21, q 22, q 23, q 24, q 25]) (σ ++ (.cells (cfgC c) :: τ))
    have hb := jitL_bound h 10000 (by omega) (c.vls.l.take i) fun v hv => hs v (List.mem_of_mem_take hv)
    have hbl : ((c.vls.l.take i).length : Int) * (10000 + 20) ≤ 1000 * 10020 := by rw [List.length_take]; omega
    have hv : i < c.vls.l.length → 0 ≤ (nth c.vls.l i).smax ∧ (nth c.vls.l i).smax ≤ 10000 := fun hi => hs _ (nth_mem hi)
    have FK := zdum; have FD := zdum; have FL := zdum
    refine walk ?_
    (repeat' first | exact Lv.nil | apply Lv.cons) <;> (intros; clear FL FD FK)
    · refine ⟨(i + 1, n + ((nth c.vls.l i).smax + 20), τ ++ [_]), ?_, ⟨rfl, rfl, rfl, rfl, rfl, trivial⟩, ⟨?_, ?_⟩, rfl⟩
      · dsimp only; omega
      · omega
      · (try dsimp only); rw [jitL_take h _ (by omega), if_pos (by assumption)]; omega
    · refine ⟨(i + 1, n, τ ++ [_]), ?_, ⟨rfl, rfl, rfl, rfl, rfl, trivial⟩, ⟨?_, ?_⟩, rfl⟩
      · dsimp only; omega
      · omega
      · (try dsimp only); rw [jitL_take h _ (by omega), if_neg (by assumption)]; omega
    · rw [hn, List.take_of_length_le (by omega)]; rfl

abbrev firstTV (o : Option (Nat × Int)) : TV := match o with
  | none => .tup [.int .i64 (-1), .int .i64 0]
  | some (i, x) => .tup [.int .i64 i, .int .i64 x]

/-- The first one that is wrong, over a heap that goes on with each look. -/
theorem first_walk (k : FuncId) (fs cs : List TV) (n : Nat) (e : Nat → Int) (H B : Nat → TS) (hn : n ≤ 1000000)
    (hcall : ∀ i, i < n → (∀ k, k < i → e k = 0) → TDoes Tryz.prog k (fs ++ [.int .i64 i] ++ cs) (H i) (.int .i64 (e i)) (if e i = 0 then H (i + 1) else B i)) :
    TDoes Tryz.prog 39 [.int .i64 n, .func (.func k) fs cs] (H 0) (firstTV (firstBad n e)) (match firstBad n e with | none => H n | some (i, _) => B i) := by
  refine calls_of [] [.tmp 4, .tmp 5] Tryz.func39 (by kernel_rfl) rfl (by kernel_rfl) fun X hR hN => ?_
  show Tw _ _ _ _ ([some _, some _] ++ List.replicate 18 none) _
  simp only [List.replicate, List.cons_append, List.nil_append]
  have FK := zdum; have FD := zdum; have FL := zdum
  refine walk ?_
  (repeat' first | exact Lv.nil | apply Lv.cons) <;> (intros; clear FL FD FK)
  refine T_each (α := Nat) (fun i => [none, some (some (.func (.func k) fs cs)), none, none, none, none, none, none, some (some (.int .i64 n)), some (some (.int .i64 i)), none, none, none, none, none, none, none, none, none, none]) (fun i => i ≤ n ∧ ∀ k, k < i → e k = 0) (fun i => n - i) (fun i => H i) ?_ ?_
  · refine ⟨(0), ⟨rfl, rfl, rfl, trivial⟩, ?_, rfl⟩
    exact ⟨by omega, fun k hk => by omega⟩
  · rintro i q ⟨hi, hno⟩
    show Tw _ _ _ _ ([q 0, some (.func (.func k) fs cs), q 2, q 3, q 4, q 5, q 6, q 7, some (.int .i64 n), some (.int .i64 i), q 10, q 11, q 12, q 13, q 14, q 15, q 16, q 17, q 18, q 19]) (H i)
    rcases Nat.lt_or_ge i n with hlt | hge
    · have hc := hcall i hlt hno
      by_cases he : e i = 0
      · rw [if_pos he] at hc
        have FK := zdum; have FD := zdum; have FL := zdum; have dA := @hc
        refine walk ?_
        (repeat' first | exact Lv.nil | apply Lv.cons) <;> (intros; clear dA FL FD FK)
        · refine ⟨(i + 1), ?_, ⟨rfl, rfl, rfl, trivial⟩, ?_, (by first | rfl | trivial)⟩
          all_goals (try dsimp only)
          · omega
          · exact ⟨by omega, upto hno he⟩
      · rw [if_neg he] at hc
        have FK := zdum; have FD := zdum; have FL := zdum; have dA := @hc
        refine walk ?_
        (repeat' first | exact Lv.nil | apply Lv.cons) <;> (intros; clear dA FL FD FK)
        all_goals (rw [firstBad_some.2 ⟨hlt, rfl, he, hno⟩]; exact ⟨rfl, rfl⟩)
    · obtain rfl : i = n := by omega
      have FK := zdum; have FD := zdum; have FL := zdum
      refine walk ?_
      (repeat' first | exact Lv.nil | apply Lv.cons) <;> (intros; clear FL FD FK)
      all_goals (rw [firstBad_none.2 hno]; exact ⟨rfl, rfl⟩)

theorem whole1_walk (b : Bool) (l : Nat) (i : Int) (σ : TS) (h : σ[l]? = some (.cells [.bool b])) : TPure Tryz.prog 28 [.int .i64 i, .ptr l 0] σ (.int .i64 (if b = true then 0 else 1)) := by
  have hl := lt_of_get h
  cases b with
  | true =>
    refine pure_of [] [.tmp 3] Tryz.func28 (by kernel_rfl) rfl (by kernel_rfl) fun X hR hN => ?_
    show Tw _ _ _ _ ([some _, some _] ++ List.replicate 3 none) _
    simp only [List.replicate, List.cons_append, List.nil_append]
    have FK := @h; have FD := zdum; have FL := zdum
    refine walk ?_
    (repeat' first | exact Lv.nil | apply Lv.cons) <;> (intros; clear FL FD FK)
  | false =>
    refine pure_of [] [.tmp 3] Tryz.func28 (by kernel_rfl) rfl (by kernel_rfl) fun X hR hN => ?_
    show Tw _ _ _ _ ([some _, some _] ++ List.replicate 3 none) _
    simp only [List.replicate, List.cons_append, List.nil_append]
    have FK := @h; have FD := zdum; have FL := zdum
    refine walk ?_
    (repeat' first | exact Lv.nil | apply Lv.cons) <;> (intros; clear FL FD FK)

theorem whole_walk (b : Bool) (σ : TS) : TDoes Tryz.prog 27 [.bool b] σ (.func (.func 28) [] [.ptr σ.length 0]) (σ ++ [.cells [.bool b]]) := by
  refine calls_of [] [.tmp 2] Tryz.func27 (by kernel_rfl) rfl (by kernel_rfl) fun X hR hN => ?_
  show Tw _ _ _ _ ([some _] ++ List.replicate 3 none) _
  simp only [List.replicate, List.cons_append, List.nil_append]
  have FK := zdum; have FD := zdum; have FL := zdum
  refine walk ?_
  (repeat' first | exact Lv.nil | apply Lv.cons) <;> (intros; clear FL FD FK)
  first | exact ⟨rfl, rfl⟩ | exact ⟨trivial, rfl⟩ | exact ⟨rfl, trivial⟩ | trivial

theorem check2_walk (c : Cfg) (l lm a b d : Nat) (i : Nat) (σ : TS) (ha : σ[a]? = some (.cells [.func (.func 27) [] []])) (hb : σ[b]? = some (.cells [.ptr l 0])) (hd : σ[d]? = some (.cells (cfgC c))) (hn : σ[l]? = some (.cells (netC c lm)))
    (hh : 1 ≤ c.hosts ∧ c.hosts ≤ 64) (hi : i < c.parts.l.length) : TPure Tryz.prog 30 [.int .i64 i, .ptr a 0, .ptr b 0, .ptr d 0] σ (.int .i64 (partS c i)) := by
  have hal := lt_of_get ha
  have hbl := lt_of_get hb
  have hdl := lt_of_get hd
  have hnl := lt_of_get hn
  have hw : ∀ (b : Bool) (ρ : TS) (i : Int), TPure Tryz.prog 28 [.int .i64 i, .ptr (σ ++ ρ).length 0] ((σ ++ ρ) ++ [.cells [.bool b]]) (.int .i64 (if b = true then 0 else 1)) := fun b ρ i => whole1_walk b _ i _ (by simp)
  have hw0 : ∀ (b : Bool) (i : Int), TPure Tryz.prog 28 [.int .i64 i, .ptr σ.length 0] (σ ++ [.cells [.bool b]]) (.int .i64 (if b = true then 0 else 1)) := fun b i => whole1_walk b _ i _ (by simp)
  refine pure_of [] [.tmp 5] Tryz.func30 (by kernel_rfl) rfl (by kernel_rfl) fun X hR hN => ?_
  show Tw _ _ _ _ ([some _, some _, some _, some _] ++ List.replicate 17 none) _
  simp only [List.replicate, List.cons_append, List.nil_append]
  have FK := And.intro @ha (And.intro @hb (And.intro @hd (@hn))); have FD := zdum; have FL := zdum; have dA := @whole_walk; have cA := @host_walk; have cB := @hw0; have eA : Eord 1 [(0, 1), (1, 0), (2, 0), (3, 0), (4, 1), (5, 0), (6, 1), (7, 0), (8, 0), (9, 1), (13, 0), (10, 2), (11, 0), (12, 2), (14, 2), (15, 0)] := ⟨trivial⟩
  refine walk ?_
  (repeat' first | exact Lv.nil | apply Lv.cons) <;> (intros; clear eA cB cA dA FL FD FK)
  all_goals (unfold partS; congr 1)
  · by_cases hq : IsHost c (nth c.parts.l i)
    · rw [decide_eq_true hq, if_pos rfl, if_neg (by omega)]
    · rw [decide_eq_false hq, if_neg (by decide), if_pos (by omega)]
  · rw [if_pos (by omega)]

theorem check3_walk (c : Cfg) (l lm lo a b : Nat) (i : Nat) (σ : TS) (hc : c.ok) (ha : σ[a]? = some (.cells [.ptr l 0])) (hb : σ[b]? = some (.cells [.map lo])) (hn : σ[l]? = some (.cells (netC c lm))) (ho : σ[lo]? = some (.map (mEnt kI kI (overs c i).1) (overs c i).2)) (hi : i < c.wins.l.length)
    (hi2 : i ≤ 9223372036854775000) (hM : 1 ≤ c.major ∧ c.major ≤ 1073741824) (hp : ∀ k, k < i → winS c k = 0) :
    TDoes Tryz.prog 32 [.int .i64 i, .ptr a 0, .ptr b 0] σ (.int .i64 (winS c i)) (if winS c i = 0 then σ.set lo (.map (mEnt kI kI (overs c (i + 1)).1) (overs c (i + 1)).2) else σ) := by
  have hal := lt_of_get ha
  have hbl := lt_of_get hb
  have hw := window_walk c l lm lo i σ hc hn ho hi hi2 hM hp
  refine calls_of [] [.tmp 4] Tryz.func32 (by kernel_rfl) rfl (by kernel_rfl) fun X hR hN => ?_
  show Tw _ _ _ _ ([some _, some _, some _] ++ List.replicate 6 none) _
  simp only [List.replicate, List.cons_append, List.nil_append]
  have FK := And.intro @ha (@hb); have FD := zdum; have FL := zdum; have dA := @hw
  refine walk ?_
  (repeat' first | exact Lv.nil | apply Lv.cons) <;> (intros; clear dA FL FD FK)
  first | exact ⟨rfl, rfl⟩ | exact ⟨trivial, rfl⟩ | exact ⟨rfl, trivial⟩ | trivial

theorem check4_walk (c : Cfg) (l lm lp a b : Nat) (i : Nat) (σ : TS) (hc : c.ok) (ha : σ[a]? = some (.cells [.ptr l 0])) (hb : σ[b]? = some (.cells [.map lp])) (hn : σ[l]? = some (.cells (netC c lm))) (hm : σ[lm]? = some (.map (mEnt kI linkTV (seenL c c.vls.l.length).1) (seenL c c.vls.l.length).2))
    (hs : σ[lp]? = some (.map (mEnt plTV kI (seenP c i).1) (seenP c i).2)) (hi : i < c.ports.l.length) (hi2 : i ≤ 9223372036854775000) (hl : ∀ k, k < c.vls.l.length → linkS c k = 0) (hp : ∀ k, k < i → portS c k = 0)
    (hto : ∀ v ∈ c.vls.l, v.to.l.length ≤ 9223372036854775000) :
    TDoes Tryz.prog 35 [.int .i64 i, .ptr a 0, .ptr b 0] σ (.int .i64 (portS c i)) (portH c lp i σ (portS c i)) := by
  have hal := lt_of_get ha
  have hbl := lt_of_get hb
  have hw := port_walk c l lm lp i σ hc hn hm hs hi hi2 hl hp hto
  refine calls_of [] [.tmp 4] Tryz.func35 (by kernel_rfl) rfl (by kernel_rfl) fun X hR hN => ?_
  show Tw _ _ _ _ ([some _, some _, some _] ++ List.replicate 6 none) _
  simp only [List.replicate, List.cons_append, List.nil_append]
  have FK := And.intro @ha (@hb); have FD := zdum; have FL := zdum; have dA := @hw
  refine walk ?_
  (repeat' first | exact Lv.nil | apply Lv.cons) <;> (intros; clear dA FL FD FK)
  first | exact ⟨rfl, rfl⟩ | exact ⟨trivial, rfl⟩ | exact ⟨rfl, trivial⟩ | trivial

theorem check5_walk (c : Cfg) (d : Nat) (i : Nat) (σ : TS) (hd : σ[d]? = some (.cells (cfgC c))) (hl : c.vls.l.length ≤ 1000) (hs : ∀ v ∈ c.vls.l, 0 ≤ v.smax ∧ v.smax ≤ 10000) :
    TPure Tryz.prog 37 [.int .i64 i, .ptr d 0] σ (.int .i64 (lateS c i)) := by
  have hdl := lt_of_get hd
  refine pure_of [] [.tmp 3] Tryz.func37 (by kernel_rfl) rfl (by kernel_rfl) fun X hR hN => ?_
  show Tw _ _ _ _ ([some _, some _] ++ List.replicate 6 none) _
  simp only [List.replicate, List.cons_append, List.nil_append]
  have FK := @hd; have FD := zdum; have FL := zdum; have cA := @jitter_walk
  refine walk ?_
  (repeat' first | exact Lv.nil | apply Lv.cons) <;> (intros; clear cA FL FD FK)
  all_goals (unfold lateS)
  · rw [if_pos (by assumption)]
  · rw [if_neg (by omega)]

end Go.Proofs.YtbhhmnfjjnnkiaaGreat
