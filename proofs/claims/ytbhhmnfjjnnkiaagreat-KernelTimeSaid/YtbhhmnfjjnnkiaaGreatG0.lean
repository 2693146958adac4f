/- A slice of numbers cloned; the own VL. -/
import Derived.Test.YtbhhmnfjjnnkiaaGreatD1
set_option linter.unusedVariables false
set_option linter.unusedSimpArgs false
set_option maxRecDepth 10000
set_option maxHeartbeats 4000000
namespace Go.Proofs.YtbhhmnfjjnnkiaaGreat
open Go.TM

theorem intC_one (l : List Int) : (l.flatMap intC).all TV.one = true := flat_one (fun _ => rfl) l
theorem intC_len (l : List Int) : (l.flatMap intC).length = l.length := by rw [flat_length (k := 1) (fun _ => rfl)]; omega

/-- Numbers are appended where there is a right to. -/
theorem append_ints (w : Bool) {σ : TS} {tk n : Nat} {cs : List TV} (l : List Int) (hr : σ[tk]? = some (.right n 1)) (hc : cs.length = n) (hb : n + l.length ≤ 1000000000) :
    tappend (mkTab Tryz.prog) w σ 22 22 (.sl (some (tk, n)) n cs) (.sl none l.length (l.flatMap intC)) = some (.sl (some (tk, n + l.length)) (n + l.length) (cs ++ l.flatMap intC), σ.set tk (.right (n + l.length) 1)) := by
  exact app_own tab22 rfl tab3 rfl rfl (src_sl tab22 rfl (by rw [intC_len, Nat.mul_one])) (intC_one l) (by rw [intC_len]; exact (Nat.mul_one _).symm) hr (by rw [hc]; exact (Nat.mul_one _).symm) (by show (n + l.length) * 8 ≤ _; omega) (by omega)

@[go_sem] theorem fits_ints {n : Nat} (l : List Int) : TV.fitsL n (l.flatMap intC) = true := by
  induction l with
  | nil => rfl
  | cons x l ih => rw [List.flatMap_cons]; simp only [List.cons_append, List.nil_append, TV.fitsL, TV.fits, ih, Bool.and_self]

theorem clone_walk (r : Row Int) (σ : TS) (hl : r.l.length ≤ 1000000) : TPure Tryz.prog 76 [rowTV intC r] σ (rowTV intC r) := by
  cases hn : r.nil with
  | true =>
    rw [rowTV_nil hn]
    refine pure_of [] [.tmp 2] Tryz.func76 (by kernel_rfl) rfl (by kernel_rfl) fun X hR hN => ?_
    show Tw _ _ _ _ ([some _] ++ List.replicate 7 none) _
    simp only [List.replicate, List.cons_append, List.nil_append]
    have FK := zdum; have FD := zdum; have FL := zdum
    refine walk ?_
    (repeat' first | exact Lv.nil | apply Lv.cons) <;> (intros; clear FL FD FK)
  | false =>
    rw [rowTV_some hn]
    have hone := intC_one r.l
    have hlen := intC_len r.l
    rcases Nat.eq_zero_or_pos r.l.length with h0 | h0
    · have hl0 : r.l = [] := List.eq_nil_of_length_eq_zero h0
      rw [hl0]
      refine pure_of [5] [.tmp 2] Tryz.func76 (by kernel_rfl) rfl (by kernel_rfl) fun X hR hN => ?_
      show Tw _ _ _ _ ([some _] ++ List.replicate 7 none) _
      simp only [List.replicate, List.cons_append, List.nil_append]
      have FK := zdum; have FD := zdum; have FL := zdum
      refine walk ?_
      (repeat' first | exact Lv.nil | apply Lv.cons) <;> (intros; clear FL FD FK)
      all_goals rfl
    · have hne : ¬ (r.l.length = 0) := by omega
      refine pure_of [5] [.tmp 2] Tryz.func76 (by kernel_rfl) rfl (by kernel_rfl) fun X hR hN => ?_
      show Tw _ _ _ _ ([some _] ++ List.replicate 7 none) _
      simp only [List.replicate, List.cons_append, List.nil_append]
      have happ : ∀ w, tappend (mkTab Tryz.prog) w (σ ++ [.right 0 1]) 22 22 (.sl (some (σ.length, 0)) 0 []) (.sl none r.l.length (r.l.flatMap intC)) = some (.sl (some (σ.length, r.l.length)) r.l.length (r.l.flatMap intC), σ ++ [.right r.l.length 1]) := fun w => by
        have := append_ints w (σ := σ ++ [.right 0 1]) (tk := σ.length) (n := 0) (cs := []) r.l (by simp) rfl (by omega)
        rw [set_app0, Nat.zero_add] at this
        exact this
      have FK := zdum; have FD := @happ; have FL := zdum
      refine walk ?_
      (repeat' first | exact Lv.nil | apply Lv.cons) <;> (intros; clear FL FD FK)

theorem ownVL_walk (c : Cfg) (id : Int) (σ : TS) (hl : c.vls.l.length ≤ 9223372036854775806) (hto : ∀ v ∈ c.vls.l, v.to.l.length ≤ 1000000) : TPure Tryz.prog 50 [cfgTV c, .int .i64 id] σ
    (match findL c.vls.l id with | some v => .tup [linkTV v, .bool true] | none => .tup [linkTV ⟨0, 0, 0, 0, false, 0, 0, Row.none⟩, .bool false]) := by
  refine pure_of [] [.cell 4 68, .tmp 5] Tryz.func50 (by kernel_rfl) rfl (by kernel_rfl) fun X hR hN => ?_
  show Tw _ _ _ _ ([some _, some _] ++ List.replicate 24 none) _
  simp only [List.replicate, List.cons_append, List.nil_append]
  have FK := zdum; have FD := zdum; have FL := zdum
  refine walk ?_
  (repeat' first | exact Lv.nil | apply Lv.cons) <;> (intros; clear FL FD FK)
  refine T_each (α := Nat × TS) (fun (i, τ) => [none, some (some (.int .i64 id)), none, none, some (some (.ptr (σ.length + 1) 0)), none, none, none, none, some (some (rowTV linkC c.vls)), some (some (.int .i64 c.vls.l.length)), some (some (.int .i64 i)), none, none, none, none, none, none, none, none, none, none, none, none, none, none]) (fun (i, τ) => i ≤ c.vls.l.length ∧ ∀ k, k < i → (nth c.vls.l k).id ≠ id) (fun (i, τ) => c.vls.l.length - i) (fun (i, τ) => σ ++ (.cells (cfgC c) :: .cells (linkC ⟨0, 0, 0, 0, false, 0, 0, Row.none⟩) :: τ)) ?_ ?_
  · refine ⟨(0, []), ⟨rfl, rfl, rfl, rfl, rfl, trivial⟩, ?_, rfl⟩
    exact ⟨by omega, fun k hk => by omega⟩
  · rintro ⟨i, τ⟩ q ⟨hi, hno⟩
    show Tw _ _ _ _ ([q 0, some (.int .i64 id), q 2, q 3, some (.ptr (σ.length + 1) 0), q 5, q 6, q 7, q 8, some (rowTV linkC c.vls), some (.int .i64 c.vls.l.length), some (.int .i64 i), q 12, q 13, q 14, q 15, q 16, q 17, q 18, q 19, q 20, q 21, q 22, q 23, q 24, q 25]) (σ ++ (.cells (cfgC c) :: .cells (linkC ⟨0, 0, 0, 0, false, 0, 0, Row.none⟩) :: τ))
    have ht : i < c.vls.l.length → (nth c.vls.l i).to.l.length ≤ 1000000 := fun h => hto _ (nth_mem h)
    have FK := zdum; have FD := zdum; have FL := zdum; have cA := @clone_walk
    refine walk ?_
    (repeat' first | exact Lv.nil | apply Lv.cons) <;> (intros; clear cA FL FD FK)
    · rw [findL_some (by assumption) hno (by assumption)]
    · refine ⟨(i + 1, τ ++ [_]), ?_, ⟨rfl, rfl, rfl, rfl, rfl, trivial⟩, ⟨?_, upto hno (by assumption)⟩, rfl⟩ <;> (try dsimp only) <;> omega
    · rw [findL_none fun k hk => hno k (by omega)]; rfl

end Go.Proofs.YtbhhmnfjjnnkiaaGreat
