/- What the reference's functions on networks compute. -/
import Derived.Test.YtgkcackpffimmaaD1
set_option linter.unusedVariables false
set_option linter.unusedSimpArgs false
set_option maxRecDepth 10000
set_option maxHeartbeats 2000000
namespace Go.Proofs.Ytgkcackpffimmaa
open Go.TM

theorem refhost_walk (c : Cfg) (n : Int) (σ : TS) : TPure Try.prog 80 [cfgTV c, .int .i64 n] σ (.bool (decide (IsHost c n))) := by
  refine pure_of [] [.tmp 4] Try.func80 (by kernel_rfl) rfl (by kernel_rfl) fun X hR hN => ?_
  show Tw _ _ _ _ ([some _, some _] ++ List.replicate 11 none) _
  simp only [List.replicate, List.cons_append, List.nil_append]
  have FK := zdum; have FD := zdum; have FL := zdum
  refine walk ?_
  (repeat' first | exact Lv.nil | apply Lv.cons) <;> (intros; clear FL FD FK)
  all_goals ((first | refine congrArg TV.bool (bool_eq ?_) | refine bool_eq ?_); simp only [decide_eq_true_eq, Bool.false_eq_true, false_iff, true_iff, IsHost]; omega)

theorem refpart_walk (c : Cfg) (n : Int) (σ : TS) : TPure Try.prog 145 [cfgTV c, .int .i64 n] σ (.bool (decide (IsPart c n))) := by
  refine pure_of [] [.tmp 4] Try.func145 (by kernel_rfl) rfl (by kernel_rfl) fun X hR hN => ?_
  show Tw _ _ _ _ ([some _, some _] ++ List.replicate 12 none) _
  simp only [List.replicate, List.cons_append, List.nil_append]
  have FK := zdum; have FD := zdum; have FL := zdum
  refine walk ?_
  (repeat' first | exact Lv.nil | apply Lv.cons) <;> (intros; clear FL FD FK)
  all_goals ((first | refine congrArg TV.bool (bool_eq ?_) | refine bool_eq ?_); simp only [decide_eq_true_eq, Bool.false_eq_true, false_iff, true_iff, IsPart]; omega)

theorem reflargest_walk (n : Int) (σ : TS) (h : -9223372036854775000 ≤ n) (h2 : n ≤ 9223372036854775807) : TPure Try.prog 146 [.int .i64 n] σ (.int .i64 (n - 47)) := by
  refine pure_of [] [.tmp 2] Try.func146 (by kernel_rfl) rfl (by kernel_rfl) fun X hR hN => ?_
  show Tw _ _ _ _ ([some _] ++ List.replicate 4 none) _
  simp only [List.replicate, List.cons_append, List.nil_append]
  have FK := zdum; have FD := zdum; have FL := zdum
  refine walk ?_
  (repeat' first | exact Lv.nil | apply Lv.cons) <;> (intros; clear FL FD FK)
  all_goals rfl

theorem refhas_walk (r : Row Int) (h : Int) (σ : TS) (hl : r.l.length ≤ 9223372036854775806) : TPure Try.prog 139 [rowTV intC r, .int .i64 h] σ (.bool (r.l.contains h)) := by
  refine pure_of [] [.tmp 4] Try.func139 (by kernel_rfl) rfl (by kernel_rfl) fun X hR hN => ?_
  show Tw _ _ _ _ ([some _, some _] ++ List.replicate 16 none) _
  simp only [List.replicate, List.cons_append, List.nil_append]
  have FK := zdum; have FD := zdum; have FL := zdum
  refine walk ?_
  (repeat' first | exact Lv.nil | apply Lv.cons) <;> (intros; clear FL FD FK)
  refine T_each (α := Nat) (fun i => [some (some (rowTV intC r)), some (some (.int .i64 h)), none, none, none, some (some (.int .i64 i)), none, none, none, none, none, none, none, none, none, none, none, none]) (fun i => i ≤ r.l.length ∧ ∀ k, k < i → nth r.l k ≠ h) (fun i => r.l.length - i) (fun i => σ) ?_ ?_
  · refine ⟨(0), ⟨rfl, rfl, rfl, trivial⟩, ?_, rfl⟩
    exact ⟨by omega, fun k hk => by omega⟩
  · rintro i q ⟨hi, hno⟩
    show Tw _ _ _ _ ([some (rowTV intC r), some (.int .i64 h), q 2, q 3, q 4, some (.int .i64 i), q 6, q 7, q 8, q 9, q 10, q 11, q 12, q 13, q 14, q 15, q 16, q 17]) (σ)
    have FK := zdum; have FD := zdum; have FL := zdum
    refine walk ?_
    (repeat' first | exact Lv.nil | apply Lv.cons) <;> (intros; clear FL FD FK)
    · rw [contains_first (by assumption) (by assumption)]
    · refine ⟨(i + 1), ?_, ⟨rfl, rfl, rfl, trivial⟩, ?_, (by first | rfl | trivial)⟩
      all_goals (try dsimp only)
      · omega
      · exact ⟨by omega, upto hno (by assumption)⟩
    · rw [contains_none fun k hk => hno k (by omega)]

theorem refVL_walk (c : Cfg) (id : Int) (σ : TS) (hl : c.vls.l.length ≤ 9223372036854775806) : TPure Try.prog 60 [cfgTV c, .int .i64 id] σ
    (match findL c.vls.l id with | some v => .tup [linkTV v, .bool true] | none => .tup [linkTV ⟨0, 0, 0, 0, false, 0, 0, Row.none⟩, .bool false]) := by
  refine pure_of [] [.cell 4 40, .tmp 5] Try.func60 (by kernel_rfl) rfl (by kernel_rfl) fun X hR hN => ?_
  show Tw _ _ _ _ ([some _, some _] ++ List.replicate 26 none) _
  simp only [List.replicate, List.cons_append, List.nil_append]
  have FK := zdum; have FD := zdum; have FL := zdum
  refine walk ?_
  (repeat' first | exact Lv.nil | apply Lv.cons) <;> (intros; clear FL FD FK)
  refine T_each (α := Nat) (fun i => [none, some (some (.int .i64 id)), some (some (.ptr σ.length 0)), none, some (some (.ptr (σ.length + 1) 0)), none, some (some (.int .i64 i)), none, none, none, none, none, none, none, none, none, none, none, none, none, none, none, none, none, none, none, none, none]) (fun i => i ≤ c.vls.l.length ∧ ∀ k, k < i → (nth c.vls.l k).id ≠ id) (fun i => c.vls.l.length - i) (fun i => σ ++ [.cells (cfgC c), .cells (linkC ⟨0, 0, 0, 0, false, 0, 0, Row.none⟩)]) ?_ ?_
  · refine ⟨(0), ⟨rfl, rfl, rfl, rfl, trivial⟩, ?_, rfl⟩
    exact ⟨by omega, fun k hk => by omega⟩
  · rintro i q ⟨hi, hno⟩
    show Tw _ _ _ _ ([q 0, some (.int .i64 id), some (.ptr σ.length 0), q 3, some (.ptr (σ.length + 1) 0), q 5, some (.int .i64 i), q 7, q 8, q 9, q 10, q 11, q 12, q 13, q 14, q 15, q 16, q 17, q 18, q 19, q 20, q 21, q 22, q 23, q 24, q 25, q 26, q 27]) (σ ++ [.cells (cfgC c), .cells (linkC ⟨0, 0, 0, 0, false, 0, 0, Row.none⟩)])
    have FK := zdum; have FD := zdum; have FL := zdum
    refine walk ?_
    (repeat' first | exact Lv.nil | apply Lv.cons) <;> (intros; clear FL FD FK)
    · rw [findL_some (by assumption) hno (by assumption)]
    · refine ⟨(i + 1), ?_, ⟨rfl, rfl, rfl, rfl, trivial⟩, ?_, (by first | rfl | trivial)⟩
      all_goals (try dsimp only)
      · omega
      · exact ⟨by omega, upto hno (by assumption)⟩
    · rw [findL_none fun k hk => hno k (by omega)]; rfl

theorem refjitter_walk (c : Cfg) (h : Int) (σ : TS) (hl : c.vls.l.length ≤ 1000) (hs : ∀ v ∈ c.vls.l, 0 ≤ v.smax ∧ v.smax ≤ 10000) : TPure Try.prog 64 [cfgTV c, .int .i64 h] σ (.int .i64 (jitS c h)) := by
  refine pure_of [] [.tmp 4] Try.func64 (by kernel_rfl) rfl (by kernel_rfl) fun X hR hN => ?_
  show Tw _ _ _ _ ([some _, some _] ++ List.replicate 30 none) _
  simp only [List.replicate, List.cons_append, List.nil_append]
  have FK := zdum; have FD := zdum; have FL := zdum
  refine walk ?_
  (repeat' first | exact Lv.nil | apply Lv.cons) <;> (intros; clear FL FD FK)
  refine T_each (α := Nat × Int) (fun (i, n) => [none, some (some (.int .i64 h)), some (some (.ptr σ.length 0)), none, none, some (some (.int .i64 n)), some (some (.int .i64 i)), none, none, none, none, none, none, none, none, none, none, none, none, none, none, none, none, none, none, none, none, none, none, none, none, none]) (fun (i, n) => i ≤ c.vls.l.length ∧ n = 500 + jitL h (c.vls.l.take i)) (fun (i, n) => c.vls.l.length - i) (fun (i, n) => σ ++ [.cells (cfgC c)]) ?_ ?_
  · refine ⟨(0, 500), ⟨rfl, rfl, rfl, rfl, trivial⟩, ?_, rfl⟩
    exact ⟨by omega, rfl⟩
  · rintro ⟨i, n⟩ q ⟨hi, hn⟩
    show Tw _ _ _ _ ([q 0, some (.int .i64 h), some (.ptr σ.length 0), q 3, q 4, some (.int .i64 n), some (.int .i64 i), q 7, q 8, q 9, q 10, q 11, q 12, q 13, q 14, q 15, q 16, q 17, q 18, q 19, q 20, q 21, q 22, q 23, q 24, q 25, q 26, q 27, q 28, q 29, q 30, q 31]) (σ ++ [.cells (cfgC c)])
    have hb := jitL_bound h 10000 (by omega) (c.vls.l.take i) fun v hv => hs v (List.mem_of_mem_take hv)
    have hbl : ((c.vls.l.take i).length : Int) * (10000 + 20) ≤ 1000 * 10020 := by rw [List.length_take]; omega
    have hv : i < c.vls.l.length → 0 ≤ (nth c.vls.l i).smax ∧ (nth c.vls.l i).smax ≤ 10000 := fun hi => hs _ (nth_mem hi)
    have FK := zdum; have FD := zdum; have FL := zdum
    refine walk ?_
    (repeat' first | exact Lv.nil | apply Lv.cons) <;> (intros; clear FL FD FK)
    · refine ⟨(i + 1, n + (nth c.vls.l i).smax + 20), ?_, ⟨rfl, rfl, rfl, rfl, trivial⟩, ?_, (by first | rfl | trivial)⟩
      all_goals (try dsimp only)
      · omega
      · refine ⟨by omega, ?_⟩
        rw [jitL_take h _ (by omega), if_pos (by assumption)]; omega
    · refine ⟨(i + 1, n), ?_, ⟨rfl, rfl, rfl, rfl, trivial⟩, ?_, (by first | rfl | trivial)⟩
      all_goals (try dsimp only)
      · omega
      · refine ⟨by omega, ?_⟩
        rw [jitL_take h _ (by omega), if_neg (by assumption)]; omega
    · rw [hn, List.take_of_length_le (by omega)]; rfl

theorem refwin_walk (c : Cfg) (i : Nat) (σ : TS) (hc : c.ok) (hi : i < c.wins.l.length) (hi2 : i ≤ 9223372036854775000) (hM : c.major ≤ 1073741824) (hp : ∀ k, k < i → winS c k = 0) : TPure Try.prog 81 [cfgTV c, .int .i64 i] σ (.int .i64 (winS c i)) := by
  have hw := hc.wins _ (nth_mem hi)
  obtain ⟨⟨w1, w2⟩, ⟨w3, w4⟩, ⟨w5, w6⟩⟩ := hw
  refine pure_of [] [.tmp 4] Try.func81 (by kernel_rfl) rfl (by kernel_rfl) fun X hR hN => ?_
  show Tw _ _ _ _ ([some _, some _] ++ List.replicate 86 none) _
  simp only [List.replicate, List.cons_append, List.nil_append]
  have FK := zdum; have FD := zdum; have FL := zdum; have cA := @refpart_walk
  refine walk ?_
  (repeat' first | exact Lv.nil | apply Lv.cons) <;> (intros; clear cA FL FD FK)
  rotate_left
  all_goals try (rw [winS_off (by omega)])
  have hne : ¬ (256 ≤ i ∨ ¬ IsPart c (nth c.wins.l i).part ∨ (nth c.wins.l i).begin_ < 0 ∨ (nth c.wins.l i).long < 1 ∨ (nth c.wins.l i).begin_ > c.major ∨ (nth c.wins.l i).long > c.major - (nth c.wins.l i).begin_) := by omega
  have hpi : IsPart c (nth c.wins.l i).part := by omega
  have hpk : ∀ k, k < i → IsPart c (nth c.wins.l k).part ∧ 0 ≤ (nth c.wins.l k).begin_ ∧ (nth c.wins.l k).long ≤ c.major - (nth c.wins.l k).begin_ ∧ 1 ≤ (nth c.wins.l k).long := fun k hk => by
    have := winS_zero (hp k hk); omega
  refine T_each (α := Nat × Int) (fun (k, e) => [none, some (some (.int .i64 i)), some (some (.ptr σ.length 0)), none, none, some (some (.ptr (σ.length + 1) 0)), some (some (.int .i64 e)), some (some (.int .i64 k)), none, none, none, none, none, none, none, none, none, none, none, none, none, none, none, none, none, none, none, none, none, none, none, none, none, none, none, none, none, none, none, none, none, none, none, none, none, none, none, none, none, none, none, none, none, none, none, none, none, none, none, none, none, none, none, none, none, none, none, none, none, none, none, none, none, none, none, none, none, none, none, none, none, none, none, none, none, none, none, none]) (fun (k, e) => k ≤ i ∧ e = endOf c (nth c.parts.l (nth c.wins.l i).part.toNat) k) (fun (k, e) => i - k) (fun (k, e) => σ ++ [.cells (cfgC c), .cells (winC (nth c.wins.l i))]) ?_ ?_
  · refine ⟨(0, 0), ⟨rfl, rfl, rfl, rfl, rfl, trivial⟩, ?_, rfl⟩
    exact ⟨by omega, rfl⟩
  · rintro ⟨k, e⟩ q ⟨hk, he⟩
    show Tw _ _ _ _ ([q 0, some (.int .i64 i), some (.ptr σ.length 0), q 3, q 4, some (.ptr (σ.length + 1) 0), some (.int .i64 e), some (.int .i64 k), q 8, q 9, q 10, q 11, q 12, q 13, q 14, q 15, q 16, q 17, q 18, q 19, q 20, q 21, q 22, q 23, q 24, q 25, q 26, q 27, q 28, q 29, q 30, q 31, q 32, q 33, q 34, q 35, q 36, q 37, q 38, q 39, q 40, q 41, q 42, q 43, q 44, q 45, q 46, q 47, q 48, q 49, q 50, q 51, q 52, q 53, q 54, q 55, q 56, q 57, q 58, q 59, q 60, q 61, q 62, q 63, q 64, q 65, q 66, q 67, q 68, q 69, q 70, q 71, q 72, q 73, q 74, q 75, q 76, q 77, q 78, q 79, q 80, q 81, q 82, q 83, q 84, q 85, q 86, q 87]) (σ ++ [.cells (cfgC c), .cells (winC (nth c.wins.l i))])
    have hpk' : k < i → IsPart c (nth c.wins.l k).part ∧ 0 ≤ (nth c.wins.l k).begin_ ∧ (nth c.wins.l k).long ≤ c.major - (nth c.wins.l k).begin_ ∧ 1 ≤ (nth c.wins.l k).long := hpk k
    have FK := zdum; have FD := zdum; have FL := zdum
    refine walk ?_
    (repeat' first | exact Lv.nil | apply Lv.cons) <;> (intros; clear FL FD FK)
    · refine ⟨(k + 1, (nth c.wins.l k).begin_ + (nth c.wins.l k).long), ?_, ⟨rfl, rfl, rfl, rfl, rfl, trivial⟩, ?_, (by first | rfl | trivial)⟩
      all_goals (try dsimp only)
      · omega
      · exact ⟨by omega, by rw [endOf, if_pos (by assumption)]⟩
    · refine ⟨(k + 1, e), ?_, ⟨rfl, rfl, rfl, rfl, rfl, trivial⟩, ?_, (by first | rfl | trivial)⟩
      all_goals (try dsimp only)
      · omega
      · exact ⟨by omega, by rw [endOf, if_neg (by assumption), he]⟩
    · have hk' : k = i := by omega
      subst hk'
      rw [winS_on hne, ← he, if_pos (by assumption)]
    · have hk' : k = i := by omega
      subst hk'
      rw [winS_on hne, ← he, if_neg (by omega)]

end Go.Proofs.Ytgkcackpffimmaa
