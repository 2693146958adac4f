/- The image: two networks with the same lists are the same. -/
import Derived.Test.YtgkcackpffimmaaD0
import Derived.Test.YtgkcackpffimmaaF1
set_option linter.unusedVariables false
set_option linter.unusedSimpArgs false
set_option maxRecDepth 10000
set_option maxHeartbeats 4000000
namespace Go.Proofs.Ytgkcackpffimmaa
open Go.TM

theorem win_neq (cst : Bool) (a b c : Int) : tbin (mkTab Try.prog) cst .neq 44 (.agg [.int .i64 a, .int .i64 b, .int .i64 c]) (.agg [.int .i64 a, .int .i64 b, .int .i64 c]) = some (.bool false) := by
  simp only [tbin, TV.isInt, TV.isStr, Bool.and_self, Bool.or_self, Bool.false_eq_true, if_false, teqIn, tab44, tab3, if_true, tall, tpart, Nat.mul_one, List.length_cons, List.length_nil, teq1, TK.isAgg, List.getElem?_cons_zero, List.getElem?_cons_succ, List.drop_zero, List.drop_succ_cons, List.take_succ_cons, List.take_zero]
  simp
theorem port_neq (cst : Bool) (a b c d : Int) (e : Bool) (f g h i j k : Int) : tbin (mkTab Try.prog) cst .neq 38 (.agg [.int .i64 a, .int .i64 b, .int .i64 c, .int .i64 d, .bool e, .int .i64 f, .int .i64 g, .int .i64 h, .int .i64 i, .int .i64 j, .int .i64 k]) (.agg [.int .i64 a, .int .i64 b, .int .i64 c, .int .i64 d, .bool e, .int .i64 f, .int .i64 g, .int .i64 h, .int .i64 i, .int .i64 j, .int .i64 k]) = some (.bool false) := by
  simp only [tbin, TV.isInt, TV.isStr, Bool.and_self, Bool.or_self, Bool.false_eq_true, if_false, teqIn, tab38, tab3, tab4, if_true, tall, tpart, Nat.mul_one, List.length_cons, List.length_nil, teq1, TK.isAgg, List.getElem?_cons_zero, List.getElem?_cons_succ, List.drop_zero, List.drop_succ_cons, List.take_succ_cons, List.take_zero]
  simp
theorem ints_walk (r s : Row Int) (e : s.l = r.l) (hl : r.l.length ≤ 9223372036854775806) (σ : TS) : TPure Try.prog 133 [rowTV intC r, rowTV intC s] σ (.bool true) := by
  have hs : s.l.length = r.l.length := by rw [e]
  have hn : ∀ i, nth s.l i = nth r.l i := fun i => by rw [e]
  refine pure_of [] [.tmp 4] Try.func133 (by kernel_rfl) rfl (by kernel_rfl) fun X hR hN => ?_
  show Tw _ _ _ _ ([some _, some _] ++ List.replicate 24 none) _
  simp only [List.replicate, List.cons_append, List.nil_append]
  have FK := @hs; have FD := zdum; have FL := zdum
  refine walk ?_
  (repeat' first | exact Lv.nil | apply Lv.cons) <;> (intros; clear FL FD FK)
  refine T_each (α := Nat) (fun i => [some (some (rowTV intC r)), some (some (rowTV intC s)), none, none, none, some (some (.int .i64 i)), none, none, none, none, none, none, none, none, none, none, none, none, none, none, none, none, none, none, none, none]) (fun i => i ≤ r.l.length) (fun i => r.l.length - i) (fun i => σ) ?_ ?_
  · refine ⟨(0), ⟨rfl, rfl, rfl, trivial⟩, ?_, rfl⟩
    exact Nat.zero_le _
  · rintro i q hi
    show Tw _ _ _ _ ([some (rowTV intC r), some (rowTV intC s), q 2, q 3, q 4, some (.int .i64 i), q 6, q 7, q 8, q 9, q 10, q 11, q 12, q 13, q 14, q 15, q 16, q 17, q 18, q 19, q 20, q 21, q 22, q 23, q 24, q 25]) (σ)
    rcases Nat.lt_or_ge i r.l.length with hlt | hge
    · have FK := And.intro @hs (@hn); have FD := zdum; have FL := zdum
      refine walk ?_
      (repeat' first | exact Lv.nil | apply Lv.cons) <;> (intros; clear FL FD FK)
      refine ⟨(i + 1), ?_, ⟨rfl, rfl, rfl, trivial⟩, ?_, (by first | rfl | trivial)⟩
      all_goals (try dsimp only)
      all_goals (omega)
    · obtain rfl : i = r.l.length := by omega
      have FK := @hs; have FD := zdum; have FL := zdum
      refine walk ?_
      (repeat' first | exact Lv.nil | apply Lv.cons) <;> (intros; clear FL FD FK)
structure SameC (c d : Cfg) : Prop where
  hosts : d.hosts = c.hosts
  major : d.major = c.major
  parts : d.parts.l = c.parts.l
  wins : d.wins.l = c.wins.l
  ports : d.ports.l = c.ports.l
  vls : d.vls.l.length = c.vls.l.length
  vl : ∀ k, k < c.vls.l.length → ∃ t : Row Int, nth d.vls.l k = { nth c.vls.l k with to := t } ∧ t.l = (nth c.vls.l k).to.l
theorem same_walk (c d : Cfg) (h : SameC c d) (l1 : c.parts.l.length ≤ 1000000) (l2 : c.wins.l.length ≤ 1000000) (l3 : c.vls.l.length ≤ 1000000) (l4 : c.ports.l.length ≤ 1000000) (l5 : ∀ v ∈ c.vls.l, v.to.l.length ≤ 1000000) (σ : TS) : TPure Try.prog 56 [cfgTV c, cfgTV d] σ (.bool true) := by
  obtain ⟨eh, em, ep, ew, eo, ev, evl⟩ := h
  obtain ⟨dh, dp, dm, dw, dv, dn⟩ := d
  dsimp only at *
  subst eh
  subst em
  have hi := ints_walk c.parts dp ep (by omega)
  have w1 : dw.l.length = c.wins.l.length := by rw [ew]
  have o1 : dn.l.length = c.ports.l.length := by rw [eo]
  have w2 : ∀ i, nth dw.l i = nth c.wins.l i := fun i => by rw [ew]
  have o2 : ∀ i, nth dn.l i = nth c.ports.l i := fun i => by rw [eo]
  refine pure_of [] [.tmp 4] Try.func56 (by kernel_rfl) rfl (by kernel_rfl) fun X hR hN => ?_
  show Tw _ _ _ _ ([some _, some _] ++ List.replicate 163 none) _
  simp only [List.replicate, List.cons_append, List.nil_append]
  repeat' (first
    | ((first | (with_reducible refine WL_do fun Cw cw => ?_) | ((with_reducible apply WP_do); intro Cw cw)); (focus (first | ((with_reducible first | apply O_move | apply O_assign | apply O_pickV); (repeat rfl)) | ((with_reducible first | apply O_load | apply O_fieldAddr | apply O_bin | apply O_indexAddr | apply O_len | apply O_un | apply O_store | apply O_alloc | apply O_box); (repeat rfl); simp (disch := omega) only [go_sem, w1, o1, ev]) | ((with_reducible first | apply O_callF | apply O_call); (repeat rfl); (try simp only [za]); (refine TPure.go (by (apply hi) <;> first | assumption | omega | exact Eq.trans (get_old (by assumption)) (by assumption)) ?_))); (first | (with_reducible exact cw) | ((with_reducible apply cw); (focus ((try simp only [zp]); exact rfl)); clear cw Cw))); (try ((with_reducible apply eq_id); (focus ((try simp only [zp]); exact rfl)))))
    | ((first | ((with_reducible first | apply WL_if | apply WP_if); (focus rfl)) | ((with_reducible first | apply WL_un | apply WP_un); (focus rfl))); (focus ((try simp only [zp]); exact rfl)))
    | ((with_reducible first | refine WL_nil (hK _ _ ?_) | refine WP_nil (hK _ _ ?_)); clear hK K)
    | ((with_reducible apply WP_pick); (focus rfl); (focus rfl); (focus rfl); (focus ((try simp only [zp]); exact rfl)); (focus ((try simp only [zp]); exact rfl)))
    | ((with_reducible first | refine T_reg_seq fun K hK => ?_ | refine T_reg_end fun K hK => ?_); simp only [zl])
    | ((with_reducible first | refine T_pure_seq ?_ ?_ (fun K hK => ?_) | refine T_pure_end ?_ ?_ (fun K hK => ?_)); (focus kernel_rfl); (focus kernel_rfl); simp only [zl])
    | ((with_reducible first | apply T_cond_seq | apply T_cond); (focus rfl))
    | (intro hg; (first | (simp only [zb] at hg; done) | ((try simp only [zb, eq_self] at hg); (have hh : True := hg); clear hh hg) | ((try simp only [zb] at hg); (try (have hh := hg; simp only [hh]; clear hh)); (try simp only [zg, zq, ne_eq, gt_iff_lt, ge_iff_le] at hg); (try (exfalso; omega)))))
    | with_reducible first | apply T_seq_assoc | apply T_skip_seq | apply T_ret_seq | apply T_exit_seq | apply T_ret | apply T_skip | apply T_exit | refine T_block_seq fun Kb hKb => ?_ | apply T_block
    | (simp only [TX.inBlock, TX.then, zi, Nat.reduceEqDiff])
    | ((with_reducible first | refine hR _ _ (fun C cc => ?_) | refine hN _ _ (fun C cc => ?_)); simp (disch := omega) only [go_sem, w1, o1, ev]; (with_reducible apply cc); clear cc C; (first | refine Ends.more (by first | rfl | simp only [go_sem, Bool.and_self]) ?_ | refine Ends.same (by first | rfl | simp only [go_sem, Bool.and_self]) ?_); (try simp only [go_sem, Bool.and_self]))
    | (with_reducible apply_assumption -exfalso -symm only [*]))
  refine T_each (α := Nat) (fun i => [none, none, some (some (.ptr σ.length 0)), some (some (.ptr (σ.length + 1) 0)), none, some (some (.int .i64 i)), none, none, none, none, none, none, none, none, none, none, none, none, none, none, none, none, none, none, none, none, none, none, none, none, none, none, none, none, none, none, none, none, none, none, none, none, none, none, none, none, none, none, none, none, none, none, none, none, none, none, none, none, none, none, none, none, none, none, none, none, none, none, none, none, none, none, none, none, none, none, none, none, none, none, none, none, none, none, none, none, none, none, none, none, none, none, none, none, none, none, none, none, none, none, none, none, none, none, none, none, none, none, none, none, none, none, none, none, none, none, none, none, none, none, none, none, none, none, none, none, none, none, none, none, none, none, none, none, none, none, none, none, none, none, none, none, none, none, none, none, none, none, none, none, none, none, none, none, none, none, none, none, none, none, none, none, none, none, none]) (fun i => i ≤ c.wins.l.length) (fun i => c.wins.l.length - i) (fun i => σ ++ [.cells (cfgC c), .cells (cfgC ⟨c.hosts, dp, c.major, dw, dv, dn⟩)]) ?_ ?_
  · refine ⟨(0), ⟨rfl, rfl, rfl, trivial⟩, ?_, rfl⟩
    exact Nat.zero_le _
  · rintro i q hi
    show Tw _ _ _ _ ([q 0, q 1, some (.ptr σ.length 0), some (.ptr (σ.length + 1) 0), q 4, some (.int .i64 i), q 6, q 7, q 8, q 9, q 10, q 11, q 12, q 13, q 14, q 15, q 16, q 17, q 18, q 19, q 20, q 21, q 22, q 23, q 24, q 25, q 26, q 27, q 28, q 29, q 30, q 31, q 32, q 33, q 34, q 35, q 36, q 37, q 38, q 39, q 40, q 41, q 42, q 43, q 44, q 45, q 46, q 47, q 48, q 49, q 50, q 51, q 52, q 53, q 54, q 55, q 56, q 57, q 58, q 59, q 60, q 61, q 62, q 63, q 64, q 65, q 66, q 67, q 68, q 69, q 70, q 71, q 72, q 73, q 74, q 75, q 76, q 77, q 78, q 79, q 80, q 81, q 82, q 83, q 84, q 85, q 86, q 87, q 88, q 89, q 90, q 91, q 92, q 93, q 94, q 95, q 96, q 97, q 98, q 99, q 100, q 101, q 102, q 103, q 104, q 105, q 106, q 107, q 108, q 109, q 110, q 111, q 112, q 113, q 114, q 115, q 116, q 117, q 118, q 119, q 120, q 121, q 122, q 123, q 124, q 125, q 126, q 127, q 128, q 129, q 130, q 131, q 132, q 133, q 134, q 135, q 136, q 137, q 138, q 139, q 140, q 141, q 142, q 143, q 144, q 145, q 146, q 147, q 148, q 149, q 150, q 151, q 152, q 153, q 154, q 155, q 156, q 157, q 158, q 159, q 160, q 161, q 162, q 163, q 164]) (σ ++ [.cells (cfgC c), .cells (cfgC ⟨c.hosts, dp, c.major, dw, dv, dn⟩)])
    rcases Nat.lt_or_ge i c.wins.l.length with hlt | hge
    · have FK := And.intro @w1 (@w2); have FD := @win_neq; have FL := zdum
      refine walk ?_
      (repeat' first | exact Lv.nil | apply Lv.cons) <;> (intros; clear FL FD FK)
      refine ⟨(i + 1), ?_, ⟨rfl, rfl, rfl, trivial⟩, ?_, (by first | rfl | trivial)⟩
      all_goals (try dsimp only)
      all_goals (omega)
    · obtain rfl : i = c.wins.l.length := by omega
      have FK := zdum; have FD := zdum; have FL := zdum
      refine walk ?_
      (repeat' first | exact Lv.nil | apply Lv.cons) <;> (intros; clear FL FD FK)
      refine T_each (α := Nat × TS) (fun (i, τ) => [none, none, some (some (.ptr σ.length 0)), some (some (.ptr (σ.length + 1) 0)), none, none, some (some (.int .i64 i)), none, none, none, none, none, none, none, none, none, none, none, none, none, none, none, none, none, none, none, none, none, none, none, none, none, none, none, none, none, none, none, none, none, none, none, none, none, none, none, none, none, none, none, none, none, none, none, none, none, none, none, none, none, none, none, none, none, none, none, none, none, none, none, none, none, none, none, none, none, none, none, none, none, none, none, none, none, none, none, none, none, none, none, none, none, none, none, none, none, none, none, none, none, none, none, none, none, none, none, none, none, none, none, none, none, none, none, none, none, none, none, none, none, none, none, none, none, none, none, none, none, none, none, none, none, none, none, none, none, none, none, none, none, none, none, none, none, none, none, none, none, none, none, none, none, none, none, none, none, none, none, none, none, none, none, none, none, none]) (fun (i, τ) => i ≤ c.vls.l.length) (fun (i, τ) => c.vls.l.length - i) (fun (i, τ) => σ ++ (.cells (cfgC c) :: .cells (cfgC ⟨c.hosts, dp, c.major, dw, dv, dn⟩) :: τ)) ?_ ?_
      · refine ⟨(0, []), ⟨rfl, rfl, rfl, trivial⟩, Nat.zero_le _, rfl⟩
      · rintro ⟨i, τ⟩ q hi
        show Tw _ _ _ _ ([q 0, q 1, some (.ptr σ.length 0), some (.ptr (σ.length + 1) 0), q 4, q 5, some (.int .i64 i), q 7, q 8, q 9, q 10, q 11, q 12, q 13, q 14, q 15, q 16, q 17, q 18, q 19, q 20, q 21, q 22, q 23, q 24, q 25, q 26, q 27, q 28, q 29, q 30, q 31, q 32, q 33, q 34, q 35, q 36, q 37, q 38, q 39, q 40, q 41, q 42, q 43, q 44, q 45, q 46, q 47, q 48, q 49, q 50, q 51, q 52, q 53, q 54, q 55, q 56, q 57, q 58, q 59, q 60, q 61, q 62, q 63, q 64, q 65, q 66, q 67, q 68, q 69, q 70, q 71, q 72, q 73, q 74, q 75, q 76, q 77, q 78, q 79, q 80, q 81, q 82, q 83, q 84, q 85, q 86, q 87, q 88, q 89, q 90, q 91, q 92, q 93, q 94, q 95, q 96, q 97, q 98, q 99, q 100, q 101, q 102, q 103, q 104, q 105, q 106, q 107, q 108, q 109, q 110, q 111, q 112, q 113, q 114, q 115, q 116, q 117, q 118, q 119, q 120, q 121, q 122, q 123, q 124, q 125, q 126, q 127, q 128, q 129, q 130, q 131, q 132, q 133, q 134, q 135, q 136, q 137, q 138, q 139, q 140, q 141, q 142, q 143, q 144, q 145, q 146, q 147, q 148, q 149, q 150, q 151, q 152, q 153, q 154, q 155, q 156, q 157, q 158, q 159, q 160, q 161, q 162, q 163, q 164]) (σ ++ (.cells (cfgC c) :: .cells (cfgC ⟨c.hosts, dp, c.major, dw, dv, dn⟩) :: τ))
        rcases Nat.lt_or_ge i c.vls.l.length with hlt | hge
        · obtain ⟨t, et, el⟩ := evl i hlt
          have hit := ints_walk (nth c.vls.l i).to t el (by have := l5 _ (nth_mem hlt); omega)
          repeat' (first
            | ((first | (with_reducible refine WL_do fun Cw cw => ?_) | ((with_reducible apply WP_do); intro Cw cw)); (focus (first | ((with_reducible first | apply O_move | apply O_assign | apply O_pickV); (repeat rfl)) | ((with_reducible first | apply O_load | apply O_fieldAddr | apply O_bin | apply O_indexAddr | apply O_len | apply O_un | apply O_store | apply O_alloc | apply O_box); (repeat rfl); simp (disch := omega) only [go_sem, ev, et]) | ((with_reducible first | apply O_callF | apply O_call); (repeat rfl); (try simp only [za]); (refine TPure.go (by (apply hit) <;> first | assumption | omega | exact Eq.trans (get_old (by assumption)) (by assumption)) ?_))); (first | (with_reducible exact cw) | ((with_reducible apply cw); (focus ((try simp only [zp]); exact rfl)); clear cw Cw))); (try ((with_reducible apply eq_id); (focus ((try simp only [zp]); exact rfl)))))
            | ((first | ((with_reducible first | apply WL_if | apply WP_if); (focus rfl)) | ((with_reducible first | apply WL_un | apply WP_un); (focus rfl))); (focus ((try simp only [zp]); exact rfl)))
            | ((with_reducible first | refine WL_nil (hK _ _ ?_) | refine WP_nil (hK _ _ ?_)); clear hK K)
            | ((with_reducible apply WP_pick); (focus rfl); (focus rfl); (focus rfl); (focus ((try simp only [zp]); exact rfl)); (focus ((try simp only [zp]); exact rfl)))
            | ((with_reducible first | refine T_reg_seq fun K hK => ?_ | refine T_reg_end fun K hK => ?_); simp only [zl])
            | ((with_reducible first | refine T_pure_seq ?_ ?_ (fun K hK => ?_) | refine T_pure_end ?_ ?_ (fun K hK => ?_)); (focus kernel_rfl); (focus kernel_rfl); simp only [zl])
            | ((with_reducible first | apply T_cond_seq | apply T_cond); (focus rfl))
            | (intro hg; (first | (simp only [zb] at hg; done) | ((try simp only [zb, eq_self] at hg); (have hh : True := hg); clear hh hg) | ((try simp only [zb] at hg); (try (have hh := hg; simp only [hh]; clear hh)); (try simp only [zg, zq, ne_eq, gt_iff_lt, ge_iff_le] at hg); (try (exfalso; omega)))))
            | with_reducible first | apply T_seq_assoc | apply T_skip_seq | apply T_ret_seq | apply T_exit_seq | apply T_ret | apply T_skip | apply T_exit | refine T_block_seq fun Kb hKb => ?_ | apply T_block
            | (simp only [TX.inBlock, TX.then, zi, Nat.reduceEqDiff])
            | ((with_reducible first | refine hR _ _ (fun C cc => ?_) | refine hN _ _ (fun C cc => ?_)); simp (disch := omega) only [go_sem, ev, et]; (with_reducible apply cc); clear cc C; (first | refine Ends.more (by first | rfl | simp only [go_sem, Bool.and_self]) ?_ | refine Ends.same (by first | rfl | simp only [go_sem, Bool.and_self]) ?_); (try simp only [go_sem, Bool.and_self]))
            | (with_reducible apply_assumption -exfalso -symm only [*]))
          refine ⟨(i + 1, _), ?_, ⟨rfl, rfl, rfl, trivial⟩, ?_, rfl⟩ <;> (try dsimp only) <;> omega
        · obtain rfl : i = c.vls.l.length := by omega
          have FK := zdum; have FD := zdum; have FL := zdum
          refine walk ?_
          (repeat' first | exact Lv.nil | apply Lv.cons) <;> (intros; clear FL FD FK)
          refine T_each (α := Nat × TS) (fun (i, τ) => [none, none, some (some (.ptr σ.length 0)), some (some (.ptr (σ.length + 1) 0)), none, none, none, none, none, some (some (.int .i64 i)), none, none, none, none, none, none, none, none, none, none, none, none, none, none, none, none, none, none, none, none, none, none, none, none, none, none, none, none, none, none, none, none, none, none, none, none, none, none, none, none, none, none, none, none, none, none, none, none, none, none, none, none, none, none, none, none, none, none, none, none, none, none, none, none, none, none, none, none, none, none, none, none, none, none, none, none, none, none, none, none, none, none, none, none, none, none, none, none, none, none, none, none, none, none, none, none, none, none, none, none, none, none, none, none, none, none, none, none, none, none, none, none, none, none, none, none, none, none, none, none, none, none, none, none, none, none, none, none, none, none, none, none, none, none, none, none, none, none, none, none, none, none, none, none, none, none, none, none, none, none, none, none, none, none, none]) (fun (i, τ) => i ≤ c.ports.l.length) (fun (i, τ) => c.ports.l.length - i) (fun (i, τ) => σ ++ (.cells (cfgC c) :: .cells (cfgC ⟨c.hosts, dp, c.major, dw, dv, dn⟩) :: τ)) ?_ ?_
          · refine ⟨(0, _), ⟨rfl, rfl, rfl, trivial⟩, Nat.zero_le _, rfl⟩
          · rintro ⟨i, τ⟩ q hi
            show Tw _ _ _ _ ([q 0, q 1, some (.ptr σ.length 0), some (.ptr (σ.length + 1) 0), q 4, q 5, q 6, q 7, q 8, some (.int .i64 i), q 10, q 11, q 12, q 13, q 14, q 15, q 16, q 17, q 18, q 19, q 20, q 21, q 22, q 23, q 24, q 25, q 26, q 27, q 28, q 29, q 30, q 31, q 32, q 33, q 34, q 35, q 36, q 37, q 38, q 39, q 40, q 41, q 42, q 43, q 44, q 45, q 46, q 47, q 48, q 49, q 50, q 51, q 52, q 53, q 54, q 55, q 56, q 57, q 58, q 59, q 60, q 61, q 62, q 63, q 64, q 65, q 66, q 67, q 68, q 69, q 70, q 71, q 72, q 73, q 74, q 75, q 76, q 77, q 78, q 79, q 80, q 81, q 82, q 83, q 84, q 85, q 86, q 87, q 88, q 89, q 90, q 91, q 92, q 93, q 94, q 95, q 96, q 97, q 98, q 99, q 100, q 101, q 102, q 103, q 104, q 105, q 106, q 107, q 108, q 109, q 110, q 111, q 112, q 113, q 114, q 115, q 116, q 117, q 118, q 119, q 120, q 121, q 122, q 123, q 124, q 125, q 126, q 127, q 128, q 129, q 130, q 131, q 132, q 133, q 134, q 135, q 136, q 137, q 138, q 139, q 140, q 141, q 142, q 143, q 144, q 145, q 146, q 147, q 148, q 149, q 150, q 151, q 152, q 153, q 154, q 155, q 156, q 157, q 158, q 159, q 160, q 161, q 162, q 163, q 164]) (σ ++ (.cells (cfgC c) :: .cells (cfgC ⟨c.hosts, dp, c.major, dw, dv, dn⟩) :: τ))
            rcases Nat.lt_or_ge i c.ports.l.length with hlt | hge
            · have FK := And.intro @o1 (@o2); have FD := @port_neq; have FL := zdum
              refine walk ?_
              (repeat' first | exact Lv.nil | apply Lv.cons) <;> (intros; clear FL FD FK)
              refine ⟨(i + 1, _), ?_, ⟨rfl, rfl, rfl, trivial⟩, ?_, rfl⟩ <;> (try dsimp only) <;> omega
            · obtain rfl : i = c.ports.l.length := by omega
              have FK := zdum; have FD := zdum; have FL := zdum
              refine walk ?_
              (repeat' first | exact Lv.nil | apply Lv.cons) <;> (intros; clear FL FD FK)
end Go.Proofs.Ytgkcackpffimmaa
