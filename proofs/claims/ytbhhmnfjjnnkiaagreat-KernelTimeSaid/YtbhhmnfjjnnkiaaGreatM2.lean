/- config's some: the numbers of the links that are as is asked; what an end system sends and takes. -/
import Derived.Test.YtbhhmnfjjnnkiaaGreatM1
import Derived.Test.YtbhhmnfjjnnkiaaGreatF1
import Derived.Test.YtbhhmnfjjnnkiaaGreatD1
import Derived.Test.YtbhhmnfjjnnkiaaGreatR0
set_option linter.unusedVariables false
set_option linter.unusedSimpArgs false
set_option maxRecDepth 10000
set_option maxHeartbeats 4000000
namespace Go.Proofs.YtbhhmnfjjnnkiaaGreat
open Go.TM

/-- A row of numbers that grows: nil, or a row of its own behind n things. -/
def AccR (n : Nat) (acc : List Int) (lv : TV) (ρ : TS) : Prop :=
  (acc = [] ∧ lv = .nils) ∨ (acc ≠ [] ∧ ∃ j, lv = .rs (n + j) 0 acc.length 1 ∧ ρ[j]? = some (.row (acc.map (TV.int .i64))))
theorem AccR.cells {n : Nat} {acc : List Int} {lv : TV} {ρ : TS} (h : AccR n acc lv ρ) : lv.cells = [lv] := by
  rcases h with ⟨_, rfl⟩ | ⟨_, j, rfl, _⟩ <;> rfl
theorem AccR.more {n : Nat} {acc : List Int} {lv : TV} {ρ : TS} (h : AccR n acc lv ρ) (τ : TS) : AccR n acc lv (ρ ++ τ) := by
  rcases h with h | ⟨h1, j, h2, h3⟩
  · exact .inl h
  · exact .inr ⟨h1, j, h2, by rw [List.getElem?_append_left (List.getElem?_eq_some_iff.1 h3).1]; exact h3⟩
theorem accR_step {π ρ : TS} {acc : List Int} {lv : TV} {v : Int} {n : Nat} (ha : AccR n acc lv ρ) (hl : acc.length ≤ 1000000) (hn : π.length = n) :
    ∃ lv' ρ', tappendR (mkTab Tryz.prog) (π ++ ρ) 22 22 lv (.sl none 1 [.int .i64 v]) = some (lv', π ++ ρ') ∧ AccR n (acc ++ [v]) lv' ρ' := by
  subst hn
  rcases ha with ⟨rfl, rfl⟩ | ⟨h2, j, rfl, h3⟩
  · refine ⟨.rs (π.length + ρ.length) 0 1 1, ρ ++ [.row [.int .i64 v]], ?_, .inr ⟨by simp, ρ.length, by simp, by simp⟩⟩
    rw [appR_nil tab22 rfl tab3 rfl rfl (src_sl (σ := π ++ ρ) (own := none) (cs := [.int .i64 v]) (n := 1) (sz := 1) tab22 rfl rfl) rfl rfl (by decide) (by decide) (by decide), List.length_append, List.append_assoc]
  · have hj := (List.getElem?_eq_some_iff.1 h3).1
    refine ⟨.rs (π.length + (ρ.set j .dead).length) 0 (acc.length + 1) 1, ρ.set j .dead ++ [.row (acc.map (TV.int .i64) ++ [.int .i64 v])], ?_, .inr ⟨by simp, (ρ.set j .dead).length, by simp, by simp⟩⟩
    rw [appR_row tab22 rfl tab3 rfl rfl (src_sl (σ := π ++ ρ) (own := none) (cs := [.int .i64 v]) (n := 1) (sz := 1) tab22 rfl rfl) rfl rfl (by decide) (by rw [get_app]; exact h3) (by simp) (by show (acc.length + 1) * 8 ≤ _; omega) (by omega), List.length_append, set_app, List.append_assoc, List.length_set]

theorem ints_flat (l : List Int) : l.map (TV.int .i64) = l.flatMap intC := by
  induction l with
  | nil => rfl
  | cons x l ih => rw [List.map_cons, ih, List.flatMap_cons]; rfl
theorem riseS_ne {ids : List Int} (h : ids ≠ []) : riseS ids ≠ [] := by
  intro e
  cases ids with
  | nil => exact h rfl
  | cons x l =>
    have := (riseS_rises (x :: l)).2 x
    rw [e] at this
    simp at this

/-- The numbers of the links that are as is asked. -/
def someS (c : Cfg) (p : Link → Bool) : List Int := (c.vls.l.filter p).map (·.id)
def idsTo (c : Cfg) (p : Link → Bool) (i : Nat) : List Int := ((c.vls.l.take i).filter p).map (·.id)
theorem idsTo_succ (c : Cfg) (p : Link → Bool) {i : Nat} (hi : i < c.vls.l.length) : idsTo c p (i + 1) = if p (nth c.vls.l i) = true then idsTo c p i ++ [(nth c.vls.l i).id] else idsTo c p i := by
  unfold idsTo
  have h1 : c.vls.l.take (i + 1) = c.vls.l.take i ++ [nth c.vls.l i] := by
    rw [List.take_succ_eq_append_getElem hi, nth_eq hi]
  rw [h1, List.filter_append, List.map_append]
  split
  · rename_i h; simp [h]
  · rename_i h; simp [h]
theorem idsTo_all (c : Cfg) (p : Link → Bool) {i : Nat} (hi : c.vls.l.length ≤ i) : idsTo c p i = someS c p := by
  unfold idsTo someS
  rw [List.take_of_length_le hi]

theorem some_calls (c : Cfg) (p : Link → Bool) (k : FuncId) (cs : List TV) (σ : TS) (hl : c.vls.l.length ≤ 1000) (hp : ∀ v ∈ c.vls.l, ∀ τ, TPure Tryz.prog k (linkTV v :: cs) (σ ++ τ) (.bool (p v))) :
    TCalls Tryz.prog 74 [cfgTV c, .func (.func k) [] cs] σ fun tv s => ∃ τ, s = σ ++ τ ∧ ((someS c p = [] ∧ tv = .nils) ∨ (someS c p ≠ [] ∧ ∃ l cs', σ.length ≤ l ∧ tv = .rs l 0 (riseS (someS c p)).length 1 ∧ s[l]? = some (.row cs') ∧ cs'.take (riseS (someS c p)).length = (riseS (someS c p)).map (TV.int .i64))) := by
  refine calls_of [] [.tmp 4] Tryz.func74 (by kernel_rfl) rfl (by kernel_rfl) fun X hR hN => ?_
  show Tw _ _ _ _ ([some _, some _] ++ List.replicate 26 none) _
  simp only [List.replicate, List.cons_append, List.nil_append]
  have FK := zdum; have FD := zdum; have FL := zdum
  refine walk ?_
  (repeat' first | exact Lv.nil | apply Lv.cons) <;> (intros; clear FL FD FK)
  refine T_each (α := Nat × TV × TS) (fun (i, lv, ρ) => [none, some (some (.func (.func k) [] cs)), none, none, none, some (some (lv)), none, none, none, some (some (rowTV linkC c.vls)), some (some (.int .i64 c.vls.l.length)), some (some (.int .i64 i)), none, none, none, none, none, none, none, none, none, none, none, none, none, none, none, none]) (fun (i, lv, ρ) => i ≤ c.vls.l.length ∧ AccR (σ.length + 1) (idsTo c p i) lv ρ) (fun (i, lv, ρ) => c.vls.l.length - i) (fun (i, lv, ρ) => σ ++ (.cells (cfgC c) :: ρ)) ?_ ?_
  · refine ⟨(0, .nils, []), ⟨rfl, rfl, rfl, rfl, rfl, trivial⟩, ?_, rfl⟩
    exact ⟨by omega, .inl ⟨rfl, rfl⟩⟩
  · rintro ⟨i, lv, ρ⟩ q ⟨hi, hacc⟩
    show Tw _ _ _ _ ([q 0, some (.func (.func k) [] cs), q 2, q 3, q 4, some (lv), q 6, q 7, q 8, some (rowTV linkC c.vls), some (.int .i64 c.vls.l.length), some (.int .i64 i), q 12, q 13, q 14, q 15, q 16, q 17, q 18, q 19, q 20, q 21, q 22, q 23, q 24, q 25, q 26, q 27]) (σ ++ (.cells (cfgC c) :: ρ))
    have hal : (idsTo c p i).length ≤ 1000 := by
      unfold idsTo
      rw [List.length_map]
      exact Nat.le_trans (List.length_filter_le ..) (by rw [List.length_take]; omega)
    have hone := hacc.cells
    rcases Nat.lt_or_ge i c.vls.l.length with hlt | hge
    · have hcall := fun τ => hp _ (nth_mem hlt) τ
      have hids := idsTo_succ c p hlt
      obtain ⟨lv', ρ', happ, hacc'⟩ := accR_step (π := σ ++ [.cells (cfgC c)]) (ρ := ρ ++ [.cells (linkC (nth c.vls.l i))]) (v := (nth c.vls.l i).id) (hacc.more _) (by omega) (by simp)
      simp only [List.append_assoc, List.cons_append, List.nil_append] at happ
      have hone' := hacc'.cells
      cases hpv : p (nth c.vls.l i) with
      | true =>
        rw [hpv] at hcall hids
        rw [if_pos rfl] at hids
        rw [← hids] at hacc'
        have FK := zdum; have FD := And.intro @happ (And.intro @hone (@hone')); have rowsW := True.intro; have FL := zdum; have cA := @hcall
        refine walk ?_
        (repeat' first | exact Lv.nil | apply Lv.cons) <;> (intros; clear cA FL rowsW FD FK)
        refine ⟨(i + 1, lv', ρ'), ?_, ⟨rfl, rfl, rfl, rfl, rfl, trivial⟩, ⟨?_, hacc'⟩, rfl⟩
        · dsimp only; omega
        · dsimp only; omega
      | false =>
        rw [hpv] at hcall hids
        rw [if_neg (by decide)] at hids
        have hm := hacc.more [.cells (linkC (nth c.vls.l i))]
        rw [← hids] at hm
        have FK := zdum; have FD := @hone; have rowsW := True.intro; have FL := zdum; have cA := @hcall
        refine walk ?_
        (repeat' first | exact Lv.nil | apply Lv.cons) <;> (intros; clear cA FL rowsW FD FK)
        refine ⟨(i + 1, lv, ρ ++ [.cells (linkC (nth c.vls.l i))]), ?_, ⟨rfl, rfl, rfl, rfl, rfl, trivial⟩, ⟨?_, hm⟩, rfl⟩
        · dsimp only; omega
        · dsimp only; omega
    · have hall := idsTo_all c p hge
      rw [hall] at hacc hal
      rcases hacc with ⟨h1, rfl⟩ | ⟨h1, j, rfl, hj⟩
      · have FK := zdum; have FD := zdum; have rowsW := True.intro; have FL := zdum; have cA := @sort_nil; have cB := @compact_nil
        refine walk ?_
        (repeat' first | exact Lv.nil | apply Lv.cons) <;> (intros; clear cB cA FL rowsW FD FK)
        exact ⟨_, rfl, .inl ⟨h1, trivial⟩⟩
      · have hjl := (List.getElem?_eq_some_iff.1 hj).1
        have e0 : ∀ τ : TS, (σ ++ .cells (cfgC c) :: τ)[σ.length + 1 + j]? = τ[j]? := fun τ => by rw [Nat.add_assoc, get_app, Nat.add_comm 1 j, List.getElem?_cons_succ]
        have e1 : ∀ (τ : TS) (o : TObj), (σ ++ .cells (cfgC c) :: τ).set (σ.length + 1 + j) o = σ ++ .cells (cfgC c) :: τ.set j o := fun τ o => by rw [Nat.add_assoc, set_app, Nat.add_comm 1 j, List.set_cons_succ]
        have g0 : (σ ++ .cells (cfgC c) :: ρ)[σ.length + 1 + j]? = some (.row ((someS c p).map (TV.int .i64))) := by rw [e0]; exact hj
        have a1 := sort_walk g0 h1 (by omega)
        rw [e1] at a1
        have g1 : (σ ++ .cells (cfgC c) :: ρ.set j (.row (((someS c p).mergeSort fun x y => decide (x ≤ y)).map (TV.int .i64))))[σ.length + 1 + j]? = some (.row (((someS c p).mergeSort fun x y => decide (x ≤ y)).map (TV.int .i64))) := by rw [e0, List.getElem?_set_self hjl]
        have hne2 : ((someS c p).mergeSort fun x y => decide (x ≤ y)) ≠ [] := fun h => h1 (by have := congrArg List.length h; rw [List.length_mergeSort] at this; exact List.eq_nil_of_length_eq_zero this)
        have a2 := compact_walk g1 hne2 (by rw [List.length_mergeSort]; omega)
        rw [e1, List.set_set, List.length_mergeSort] at a2
        have hz : Lib.compact ((someS c p).mergeSort fun x y => decide (x ≤ y)) = riseS (someS c p) := rfl
        rw [hz] at a2
        have FK := zdum; have FD := zdum; have rowsW := True.intro; have FL := zdum; have dA := @a1; have dB := @a2
        refine walk ?_
        (repeat' first | exact Lv.nil | apply Lv.cons) <;> (intros; clear dB dA FL rowsW FD FK)
        refine ⟨_, rfl, .inr ⟨h1, σ.length + 1 + j, _, by omega, by rw [Nat.add_assoc], by rw [e0, List.getElem?_set_self hjl], ?_⟩⟩
        rw [List.map_append, List.take_left' (by simp)]

theorem some_walk (c : Cfg) (p : Link → Bool) (k : FuncId) (cs : List TV) (σ : TS) (hl : c.vls.l.length ≤ 1000) (hp : ∀ v ∈ c.vls.l, ∀ τ, TPure Tryz.prog k (linkTV v :: cs) (σ ++ τ) (.bool (p v))) :
    TPure Tryz.prog 74 [cfgTV c, .func (.func k) [] cs] σ (rowTV intC (rowOf (riseS (someS c p)))) := by
  have h := some_calls c p k cs σ hl hp
  by_cases h0 : someS c p = []
  · rw [h0]
    have hr : riseS [] = [] := List.eq_nil_iff_forall_not_mem.2 fun x h => by simpa using ((riseS_rises []).2 x).1 h
    rw [hr]
    show TPure _ _ _ _ .nils
    exact TCalls.pure h fun tv s q => by
      obtain ⟨τ, rfl, ⟨_, rfl⟩ | ⟨h1, _⟩⟩ := q
      · exact ⟨⟨τ, rfl⟩, rfl, rfl, rfl⟩
      · exact absurd h0 h1
  · rw [rowOf_some intC (riseS_ne h0), ← ints_flat]
    refine TCalls.freeze (h.mono fun tv s q => ?_) ?_ rfl
    · obtain ⟨τ, rfl, ⟨h1, _⟩ | ⟨_, l, cs', h2, rfl, h4, h5⟩⟩ := q
      · exact absurd h1 h0
      · exact ⟨τ, l, cs', rfl, h2, rfl, h4, h5⟩
    · generalize riseS (someS c p) = l
      simp only [TV.free, TV.fits]
      induction l with
      | nil => rfl
      | cons x l ih => simp only [List.map_cons, TV.fitsL, TV.fits, ih, Bool.and_self]

theorem sends1_walk (v : Link) (h : Int) (l : Nat) (σ : TS) (hl : σ[l]? = some (.cells [.int .i64 h])) : TPure Tryz.prog 75 [linkTV v, .ptr l 0] σ (.bool (v.host == h)) := by
  refine pure_of [] [.tmp 3] Tryz.func75 (by kernel_rfl) rfl (by kernel_rfl) fun X hR hN => ?_
  show Tw _ _ _ _ ([some _, some _] ++ List.replicate 6 none) _
  simp only [List.replicate, List.cons_append, List.nil_append]
  have hlt := (List.getElem?_eq_some_iff.1 hl).1
  have FK := @hl; have FD := zdum; have FL := zdum
  refine walk ?_
  (repeat' first | exact Lv.nil | apply Lv.cons) <;> (intros; clear FL FD FK)
  all_goals trace_state
theorem takes1_walk (v : Link) (h : Int) (l : Nat) (σ : TS) (hl : σ[l]? = some (.cells [.int .i64 h])) (hv : v.to.l.length ≤ 9223372036854775806) : TPure Tryz.prog 80 [linkTV v, .ptr l 0] σ (.bool (v.to.l.contains h)) := by
  refine pure_of [] [.tmp 3] Tryz.func80 (by kernel_rfl) rfl (by kernel_rfl) fun X hR hN => ?_
  show Tw _ _ _ _ ([some _, some _] ++ List.replicate 6 none) _
  simp only [List.replicate, List.cons_append, List.nil_append]
  have hlt := (List.getElem?_eq_some_iff.1 hl).1
  have FK := @hl; have FD := zdum; have FL := zdum; have cA := @contains_walk
  refine walk ?_
  (repeat' first | exact Lv.nil | apply Lv.cons) <;> (intros; clear cA FL FD FK)
  all_goals trace_state
theorem sends_walk (c : Cfg) (h : Int) (σ : TS) (hl : c.vls.l.length ≤ 1000) : TPure Tryz.prog 48 [cfgTV c, .int .i64 h] σ (rowTV intC (rowOf (riseS (someS c fun v => v.host == h)))) := by
  refine pure_of [] [.tmp 4] Tryz.func48 (by kernel_rfl) rfl (by kernel_rfl) fun X hR hN => ?_
  show Tw _ _ _ _ ([some _, some _] ++ List.replicate 6 none) _
  simp only [List.replicate, List.cons_append, List.nil_append]
  have hs := some_walk c (fun v => v.host == h) 75 [.ptr (σ.length + 1) 0] (σ ++ [.cells (cfgC c), .cells [.int .i64 h]]) hl fun v hv τ => sends1_walk v h _ _ (by rw [List.append_assoc, get_app]; rfl)
  have FK := zdum; have FD := zdum; have FL := zdum; have cA := @hs
  refine walk ?_
  (repeat' first | exact Lv.nil | apply Lv.cons) <;> (intros; clear cA FL FD FK)
  all_goals trace_state
theorem takes_walk (c : Cfg) (h : Int) (σ : TS) (hl : c.vls.l.length ≤ 1000) (hv : ∀ v ∈ c.vls.l, v.to.l.length ≤ 9223372036854775806) : TPure Tryz.prog 54 [cfgTV c, .int .i64 h] σ (rowTV intC (rowOf (riseS (someS c fun v => v.to.l.contains h)))) := by
  refine pure_of [] [.tmp 4] Tryz.func54 (by kernel_rfl) rfl (by kernel_rfl) fun X hR hN => ?_
  show Tw _ _ _ _ ([some _, some _] ++ List.replicate 6 none) _
  simp only [List.replicate, List.cons_append, List.nil_append]
  have hs := some_walk c (fun v => v.to.l.contains h) 80 [.ptr (σ.length + 1) 0] (σ ++ [.cells (cfgC c), .cells [.int .i64 h]]) hl fun v hv' τ => takes1_walk v h _ _ (by rw [List.append_assoc, get_app]; rfl) (hv v hv')
  have FK := zdum; have FD := zdum; have FL := zdum; have cA := @hs
  refine walk ?_
  (repeat' first | exact Lv.nil | apply Lv.cons) <;> (intros; clear cA FL FD FK)
  all_goals trace_state
end Go.Proofs.YtbhhmnfjjnnkiaaGreat
